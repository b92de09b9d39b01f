import Derived.Test.YtddhgnleekcbiaaGreatDoorPartC
import Derived.Test.YtddhgnleekcbiaaGreatDoorProg
import Derived.WalkKit
import Derived.ProofKit
import Derived.IntWalk
namespace Go.Ev
theorem aa.r {t:Nat} {x:AV} {e2 e:Env} (h:AL.get e t=some x) (k:aa e2 e):aa ((t,x) :: e2) e:=.cons h (.refl _) k
theorem lg.o {x:AV} {a b:List (Option AV)} (k:lg a b):lg (some x :: a) (some x :: b):=.old (.refl _) k
theorem lg.w (x:AV) {a b:List (Option AV)} (k:lg a b):lg (some x :: a) (none :: b):=.new k
theorem lg.n {a b:List (Option AV)} (k:lg a b):lg (none :: a) (none :: b):=.new k
theorem lg.q {x y z u:AV} {a b:List (Option AV)} (k:lg a b):lg (some x :: some y :: some z :: some u :: a) (some x :: some y :: some z :: some u :: b):=.o (.o (.o (.o k)))
theorem RL.v {R:aR} {C:bQ} {nt:Nat} {ops:Array Oper} {srcs:List Src} {e0:Env} {ws:List (Option AV)} {S:St} {i:Nat} {o:Oper} {x:AV} {e:Env} {os:List Nat} (ho:ops[i]? = some o) (hx:ws[i]? = some (some x)) (he:kU ws e0 (srcs.getD i [])=some e) (hw:bg ops e o=some true) (h:oper C (bA e) S o.op=some (.val x S)) (k:RL R C nt ops srcs e0 ws S os):RL R C nt ops srcs e0 ws S (i :: os):=.cons ho hx he (.val hw h (.refl _)) k
theorem Has.sl {B S:St} {l:List bD} (h:Has B S l) (is:List Nat) (hn:decide is.Nodup=true) {l':List bD} (hl:is.map (fun i=>l[i]?)=l'.map some):Has B S l':=h.GY is (of_decide_eq_true hn) hl
namespace Pr
set_option linter.unusedVariables false
set_option linter.unusedSimpArgs false
open Go.Proofs
noncomputable def cfg:bQ:={ P:=Tryz.prog,good:=fun _=>true,rowT:=fun _=>false,prim:=fun _ _ _=>none,objT:=fun t=>bif Nat.beq t 132 then some (1,.str []) else none,hasPrim:=fun _=>false }
noncomputable def vz:bQ:={ cfg with rowT:=fun t=>Nat.beq t 22 }
noncomputable def lT:bQ:={ cfg with rowT:=fun t=>Nat.beq t 25 }
theorem GU:(Tryz.f6.name == "runtime.NumGoroutine")=false:=by kernel_rfl
theorem Bv:(aV cfg.P 29).isSome=true:=by kernel_rfl
theorem uN:aV cfg.P 29=some 37:=by kernel_rfl
theorem Br:(dJ cfg.P 37).isSome=true:=by kernel_rfl
theorem lX:ax cfg.P 37=2:=by kernel_rfl
theorem nV:bW cfg.P 37 0=some (0,3):=by kernel_rfl
theorem Aj:Nat.beq (ax cfg.P 3) 0=false:=by kernel_rfl
theorem uU:dJ cfg.P 3=some false:=by kernel_rfl
theorem F6:(Tryz.f15.name == "runtime.NumGoroutine")=false:=by kernel_rfl
theorem Dc:(aV cfg.P 22).isSome=true:=by kernel_rfl
theorem pF:aV cfg.P 22=some 3:=by kernel_rfl
theorem Aw:(dJ cfg.P 3).isSome=true:=by kernel_rfl
theorem vV:ax cfg.P 3=1:=by kernel_rfl
theorem GG:(Tryz.f16.name == "runtime.NumGoroutine")=false:=by kernel_rfl
theorem Gq:cfg.rowT 46=false:=by kernel_rfl
theorem EE:aV cfg.P 46=some 9:=by kernel_rfl
theorem AA:dJ cfg.P 9=some false:=by kernel_rfl
theorem GM:zeroOf cfg.P 9=some (.str []):=by kernel_rfl
theorem FD:ax cfg.P 9=1:=by kernel_rfl
theorem tZ:zeroOf cfg.P 33=some (.agg [.str [],.int .i64 0,.cB,.int .i64 0,.bool false,.int .i64 0,.int .i64 0,.str []]):=by kernel_rfl
theorem EA:cfg.rowT 25=false:=by kernel_rfl
theorem kH:aV cfg.P 25=some 33:=by kernel_rfl
theorem BS:dJ cfg.P 33=some true:=by kernel_rfl
theorem ib:ax cfg.P 33=8:=by kernel_rfl
theorem Er:cfg.rowT 22=false:=by kernel_rfl
theorem Fv:zeroOf cfg.P 3=some (.int .i64 0):=by kernel_rfl
theorem CP:bW cfg.P 24 0=some (0,22):=by kernel_rfl
theorem qX:Nat.beq (ax cfg.P 22) 0=false:=by kernel_rfl
theorem q9:dJ cfg.P 22=some false:=by kernel_rfl
theorem uB:(aV cfg.P 25).isSome=true:=by kernel_rfl
theorem ny:(dJ cfg.P 33).isSome=true:=by kernel_rfl
theorem zq:bW cfg.P 33 2=some (2,29):=by kernel_rfl
theorem EN:Nat.beq (ax cfg.P 29) 0=false:=by kernel_rfl
theorem EM:dJ cfg.P 29=some false:=by kernel_rfl
theorem GR:(cfg.P.underlying 3).isSome=true:=by kernel_rfl
theorem GN:BN cfg.P 5=some .u8:=by kernel_rfl
theorem Gc:cfg.rowT 42=false:=by kernel_rfl
theorem Ff:aV cfg.P 42=some 5:=by kernel_rfl
theorem GQ:dJ cfg.P 5=some false:=by kernel_rfl
theorem GJ:zeroOf cfg.P 5=some (.int .u8 0):=by kernel_rfl
theorem GK:ax cfg.P 5=1:=by kernel_rfl
theorem Gf:lF cfg 42=true:=by kernel_rfl
theorem F3:oM cfg.P 9=true:=by kernel_rfl
theorem Eo:bW cfg.P 24 1=some (1,22):=by kernel_rfl
theorem qb:zeroOf cfg.P 37=some (.agg [.int .i64 0,.str []]):=by kernel_rfl
theorem Fq:cfg.objT 37=none:=by kernel_rfl
theorem ED:bW cfg.P 24 2=some (2,22):=by kernel_rfl
theorem Gr:(aV cfg.P 46).isSome=true:=by kernel_rfl
theorem FN:(dJ cfg.P 9).isSome=true:=by kernel_rfl
theorem EC:cfg.P.follows .mixedOrders=true:=by kernel_rfl
theorem wB:dJ cfg.P 37=some true:=by kernel_rfl
theorem DF:cfg.rowT 29=false:=by kernel_rfl
theorem CL:bW cfg.P 24 5=some (5,22):=by kernel_rfl
theorem Cy:bW cfg.P 24 6=some (6,22):=by kernel_rfl
theorem Fy:cfg.objT 33=none:=by kernel_rfl
theorem Cs:bW cfg.P 24 3=some (3,22):=by kernel_rfl
theorem CU:bW cfg.P 24 4=some (4,22):=by kernel_rfl
theorem FJ:zeroOf cfg.P 31=some (.agg [.int .i64 0,.int .i64 0,.str []]):=by kernel_rfl
theorem xc:bW cfg.P 33 5=some (5,31):=by kernel_rfl
theorem Dw:Nat.beq (ax cfg.P 31) 0=false:=by kernel_rfl
theorem F4:ax cfg.P 31=3:=by kernel_rfl
theorem Gi:(dJ cfg.P 31).isSome=true:=by kernel_rfl
theorem Cg:bW cfg.P 31 0=some (0,3):=by kernel_rfl
theorem mH:bW cfg.P 33 0=some (0,9):=by kernel_rfl
theorem Ca:Nat.beq (ax cfg.P 9) 0=false:=by kernel_rfl
theorem ER:bW cfg.P 31 2=some (2,9):=by kernel_rfl
theorem FW:eu cfg 25=true:=by kernel_rfl
theorem DR:bytesOf cfg.P 33=96:=by kernel_rfl
theorem GA:dE cfg 33=true:=by kernel_rfl
theorem Gt:eu cfg 22=true:=by kernel_rfl
theorem GI:bytesOf cfg.P 3=8:=by kernel_rfl
theorem G6:dE cfg 3=true:=by kernel_rfl
theorem G8:(Tryz.f5.name == "runtime.NumGoroutine")=false:=by kernel_rfl
theorem Gn:(Tryz.f17.name == "runtime.NumGoroutine")=false:=by kernel_rfl
theorem Cv:vz.rowT 22=true:=by kernel_rfl
theorem EL:eu vz 22=true:=by kernel_rfl
theorem Fe:dE vz 3=true:=by kernel_rfl
theorem rU:bW cfg.P 33 1=some (1,3):=by kernel_rfl
theorem G7:(Tryz.f7.name == "runtime.NumGoroutine")=false:=by kernel_rfl
theorem FR:eu cfg 29=true:=by kernel_rfl
theorem Gz:bytesOf cfg.P 37=24:=by kernel_rfl
theorem GD:dE cfg 37=true:=by kernel_rfl
theorem GZ:(Tryz.f8.name == "runtime.NumGoroutine")=false:=by kernel_rfl
theorem Gu:(Tryz.f28.name == "runtime.NumGoroutine")=false:=by kernel_rfl
theorem Af:bW cfg.P 37 1=some (1,9):=by kernel_rfl
theorem FL:(Tryz.f29.name == "runtime.NumGoroutine")=false:=by kernel_rfl
theorem FM:(Tryz.f41.name == "runtime.NumGoroutine")=false:=by kernel_rfl
theorem Gp:(Tryz.f30.name == "runtime.NumGoroutine")=false:=by kernel_rfl
theorem FZ:(cfg.P.underlying 37).isSome=true:=by kernel_rfl
theorem Gy:(Tryz.f24.name == "runtime.NumGoroutine")=false:=by kernel_rfl
theorem DW:nz cfg 60=some (9,3):=by kernel_rfl
theorem Gg:cfg.P.underlying 9=some .string:=by kernel_rfl
theorem Gx:(Tryz.f12.name == "runtime.NumGoroutine")=false:=by kernel_rfl
theorem F5:(Tryz.f18.name == "runtime.NumGoroutine")=false:=by kernel_rfl
theorem FU:(Tryz.f19.name == "runtime.NumGoroutine")=false:=by kernel_rfl
theorem F9:(Tryz.f10.name == "runtime.NumGoroutine")=false:=by kernel_rfl
theorem E8:cfg.rowT 61=false:=by kernel_rfl
theorem E9:aV cfg.P 61=some 29:=by kernel_rfl
theorem Ga:zeroOf cfg.P 29=some (.cB):=by kernel_rfl
theorem DU:ax cfg.P 29=1:=by kernel_rfl
theorem FT:eu cfg 61=true:=by kernel_rfl
theorem FQ:bytesOf cfg.P 29=24:=by kernel_rfl
theorem Gb:dE cfg 29=true:=by kernel_rfl
theorem F7:(Tryz.f13.name == "runtime.NumGoroutine")=false:=by kernel_rfl
theorem Gm:(Tryz.f14.name == "runtime.NumGoroutine")=false:=by kernel_rfl
theorem FV:dJ cfg.P 24=some true:=by kernel_rfl
theorem GH:ax cfg.P 24=7:=by kernel_rfl
theorem DV:jF lT 25 0=false:=by kernel_rfl
theorem sM:lT.rowT 25=true:=by kernel_rfl
theorem zu:eu lT 25=true:=by kernel_rfl
theorem zJ:dE lT 33=true:=by kernel_rfl
theorem Dm:lT.rowT 29=false:=by kernel_rfl
theorem F8:(dJ cfg.P 29).isSome=true:=by kernel_rfl
theorem Es:lT.rowT 42=false:=by kernel_rfl
theorem Ej:lF lT 42=true:=by kernel_rfl
theorem Eh:lT.rowT 46=false:=by kernel_rfl
theorem Gw:(aV cfg.P 43).isSome=true:=by kernel_rfl
theorem G9:(Tryz.f4.name == "runtime.NumGoroutine")=false:=by kernel_rfl
theorem jK:oper.P_place cfg 33=some (nY [(0,1),(1,1),(2,1),(3,1),(4,1),(5,3)]):=kQ (by kernel_rfl)
theorem jG:oper.P_place cfg 37=some (nY [(0,1),(1,1)]):=kQ (by kernel_rfl)
theorem r9:oper.P_place cfg 31=some (nY [(0,1),(1,1),(2,1)]):=kQ (by kernel_rfl)
theorem iI:oper.P_place lT 37=some (nY [(0,1),(1,1)]):=kQ (by kernel_rfl)
theorem kM:oper.P_place lT 33=some (nY [(0,1),(1,1),(2,1),(3,1),(4,1),(5,3)]):=kQ (by kernel_rfl)
def GV:List Src:=[[(9,none)],[(89,some 0)],[(7,none)],[(10,none)],[(92,some 3)],[(1,none)],[(94,some 5)],[(6,none)],[(95,some 6),(96,some 7)],[(97,some 8)],[(98,some 9)],[(1,none)],[(100,some 11)],[(6,none)],[(101,some 12),(102,some 13)],[(103,some 14)],[(90,some 1),(91,some 2),(93,some 4),(99,some 10),(104,some 15)],[],[(11,some 17),(105,some 16)]]
def G5:List Src:=[[(1,none)],[(112,some 0)],[(6,none)],[(113,some 1),(114,some 2)],[(115,some 3)],[(116,some 4)],[(1,none)],[(118,some 6)],[(6,none)],[(119,some 7),(120,some 8)],[(121,some 9)],[(117,some 5),(122,some 10)],[(11,none)],[(123,some 11),(124,some 12)]]
def GX:List Src:=[[(0,none)],[(2,none)],[(0,none)],[(3,none)],[(0,none)],[(3,none)],[(18,some 4),(19,some 5)],[(20,some 6)],[(0,none)],[(2,none)],[(22,some 8),(23,some 9)],[(24,some 10)],[(14,some 0),(15,some 1)],[(21,some 7),(26,some 12)],[(16,some 2),(17,some 3)],[(25,some 11),(27,some 14)]]
structure Gh (R:aR):Prop where
 obj:fe R cfg
 strings_Trim_ok:∀ (n:Nat) (x0:Str) (x1:Str) (r:Str),oH n x0 x1=some r→dx R cfg.P 40 [(.str x0),(.str x1)] (.d (.str r))
 porticolaw8_RouteRuns_ok:∀ (n:Nat) (r:Bool),fD n=some r→dx R cfg.P 11 [] (.d (.bool r))
section
variable {R:aR} (E:Gh R)
include E
theorem jf:fe R vz:=⟨E.obj.toObjOk,E.obj.new⟩
theorem eX:fe R lT:=⟨E.obj.toObjOk,E.obj.new⟩
set_option maxRecDepth 20000 in
set_option maxHeartbeats 4000000 in
theorem bf (n:Nat) (a1:Int) (a2:Int) (a3:Int) (r:Int) (h:aY n a1 a2 a3=some r):dx R cfg.P 6 [(.int .i64 a1),(.int .i64 a2),(.int .i64 a3)] (.d (.int .i64 r)):=by
 unfold aY at h
 refine dx.of_wp E.obj.toObjOk (C:=cfg) Tryz.func6 rfl GU rfl ?_
 have H0:Has aH aH []:=Has.pure
 refine az.seq ?_
 refine az.region E.obj rfl ?_
 refine ah.val rfl (aj rfl) rfl ?_
 refine ah.nil ?_
 refine az.seq ?_
 refine az.region E.obj rfl ?_
 refine ah.val rfl (ae rfl) rfl ?_
 refine ah.val rfl (ae rfl) rfl ?_
 refine ah.val rfl (ae rfl) rfl ?_
 refine ah.val rfl (av rfl rfl fA) rfl ?_
 refine ah.val rfl (av rfl rfl cZ) rfl ?_
 obtain ⟨z4,hzz4,h⟩:=bind_some h
 refine ah.val rfl (av rfl rfl (vB hzz4)) rfl ?_
 refine ah.val rfl (aj rfl) rfl ?_
 refine ah.nil ?_
 refine az.join (B:=aH) (α:=Int) (fun a=>bX a2 a=some r) (fun a=>[(0,(.d (.int .i64 a))),(1,(.d (.int .i64 a2)))]) (fun a=>[]) ?_ ?_
 ·
  intro x7 S5 H6 h
  replace h:bX a2 x7=some r:=h
  replace H6:Has aH S5 []:=H6
  unfold bX at h
  refine az.seq ?_
  refine az.region E.obj rfl ?_
  refine ah.val rfl (ae rfl) rfl ?_
  refine ah.val rfl (ae rfl) rfl ?_
  refine ah.val rfl (av rfl rfl cZ) rfl ?_
  refine ah.val rfl (aj rfl) rfl ?_
  refine ah.nil ?_
  have hr:=Option.some.inj h
  subst hr
  exact az.ret ⟨_,rfl,rfl,iU (aC.eq .nil)⟩
 refine az.seq ?_
 refine az.region E.obj rfl ?_
 refine ah.val rfl (ae rfl) rfl ?_
 refine ah.val rfl (av rfl rfl dR) rfl ?_
 refine ah.nil ?_
 refine az.cond rfl (fun hb9=>?_) (fun hb9=>?_)
 ·
  replace h:=eH hb9 h
  refine az.region E.obj rfl ?_
  refine ah.val rfl (ae rfl) rfl ?_
  refine ah.val rfl (ae rfl) rfl ?_
  refine ah.val rfl (av rfl rfl cZ) rfl ?_
  refine ah.val rfl (ae rfl) rfl ?_
  refine ah.val rfl (av rfl rfl fA) rfl ?_
  refine ah.val rfl (av rfl rfl cZ) rfl ?_
  refine ah.val rfl (aj rfl) rfl ?_
  refine ah.nil ?_
  exact ⟨(IntKind.wrap .i64 ((IntKind.wrap .i64 ((IntKind.wrap .i64 (z4 + a3)) - a2)) + 1)),_,_,aH,.refl _ _,.refl _,(aa.r rfl (aa.r rfl aa.nil)),H0.sl [] rfl rfl,h⟩
 replace h:=eO hb9 h
 refine az.skip ?_
 exact ⟨z4,_,_,aH,.refl _ _,.refl _,(aa.r rfl (aa.r rfl aa.nil)),H0.sl [] rfl rfl,h⟩
set_option maxRecDepth 20000 in
set_option maxHeartbeats 4000000 in
theorem nu (n:Nat) (a1:(List Seg)) (r:Bool) (h:dO n a1=some r):dx R cfg.P 15 [(.sl ((a1).map aO) false)] (.d (.bool r)):=by
 unfold dO at h
 refine dx.of_wp E.obj.toObjOk (C:=cfg) Tryz.func15 rfl F6 rfl ?_
 have H0:Has aH aH []:=Has.pure
 refine az.seq ?_
 refine az.region E.obj rfl ?_
 refine ah.val rfl (aj rfl) rfl ?_
 refine ah.nil ?_
 refine az.seq ?_
 refine az.region E.obj rfl ?_
 refine ah.val rfl (ae rfl) rfl ?_
 refine ah.val rfl (bY rfl Bv) rfl ?_
 refine ah.val rfl (av rfl rfl kX) rfl ?_
 refine ah.val rfl (ae rfl) rfl ?_
 obtain ⟨z3,hzz3,h⟩:=bind_some h
 refine ah.dI 9 15 (.d (.bool z3)) ?_ ?_
 ·
  rcases Bool.eq_false_or_eq_true ((decide (0 < ((a1).length:Int)))) with hB2 | hB2
  ·
   refine ah.bool hB2 ?_
   replace hzz3:=eH hB2 hzz3
   refine ah.val rfl (ae rfl) rfl ?_
   refine ah.val rfl (ae rfl) rfl ?_
   refine ah.val rfl (bY rfl Bv) rfl ?_
   refine ah.val rfl (av rfl rfl fA) rfl ?_
   obtain ⟨z4,hzz4,hzz3⟩:=bind_some hzz3
   refine ah.val rfl (dA rfl rfl (gK (enc:=aO) hzz4 uN Br ((Seg.len _).trans lX.symm))) rfl ?_
   refine ah.val rfl (dX rfl nV Aj rfl) rfl ?_
   refine ah.val rfl (bV rfl (by rw [Seg.cells]; exact dw uU rfl)) rfl ?_
   refine ah.val rfl (av rfl rfl iP) rfl ?_
   refine ah.val rfl (aL (b:=true) rfl rfl) rfl ?_
   cases hzz3
   exact ah.nil ⟨_,rfl,(aa.put (aa.push rfl (aa.push rfl (aa.push rfl (aa.push rfl (aa.push rfl (aa.push rfl (aa.push rfl (aa.push rfl (aa.put (.refl _) (Less.eq (by rw [hB2]))))))))))) (.refl _))⟩
  refine ah.bool hB2 ?_
  refine ah.no rfl rfl ?_
  refine ah.no rfl rfl ?_
  refine ah.no rfl rfl ?_
  refine ah.no rfl rfl ?_
  refine ah.no rfl rfl ?_
  refine ah.no rfl rfl ?_
  refine ah.no rfl rfl ?_
  refine ah.no rfl rfl ?_
  refine ah.val rfl (aL (b:=false) rfl rfl) rfl ?_
  replace hzz3:=eO hB2 hzz3
  cases hzz3
  exact ah.nil ⟨_,rfl,(aa.put (aa.push rfl (aa.push rfl (aa.push rfl (aa.push rfl (aa.push rfl (aa.push rfl (aa.push rfl (aa.push rfl (aa.put (.refl _) (Less.eq (by rw [hB2]))))))))))) (.refl _))⟩
 refine ah.val rfl (aj rfl) rfl ?_
 refine ah.nil ?_
 have hr:=Option.some.inj h
 subst hr
 exact az.ret ⟨_,rfl,rfl,iU (aC.eq .nil)⟩
set_option maxRecDepth 20000 in
set_option maxHeartbeats 4000000 in
theorem bG (n:Nat) (a1:(List Int)) (a2:Int) (r:Int) (h:bI n a1 a2=some r):dx R cfg.P 16 [(.sl ((a1).map (D.int .i64)) false),(.int .i64 a2)] (.d (.int .i64 r)):=by
 unfold bI at h
 refine dx.of_wp E.obj.toObjOk (C:=cfg) Tryz.func16 rfl GG rfl ?_
 have H0:Has aH aH []:=Has.pure
 refine az.seq ?_
 refine az.region E.obj rfl ?_
 refine ah.val rfl (aj rfl) rfl ?_
 refine ah.nil ?_
 refine az.seq ?_
 refine az.seq ?_
 refine az.region E.obj rfl ?_
 refine ah.val rfl (ae rfl) rfl ?_
 refine ah.val rfl (bY rfl Dc) rfl ?_
 refine ah.val rfl (av rfl rfl eB) rfl ?_
 refine ah.nil ?_
 refine az.cond rfl (fun hb3=>?_) (fun hb3=>?_)
 ·
  replace h:=eH hb3 h
  refine az.seq ?_
  refine az.region E.obj rfl ?_
  refine ah.val rfl (aj rfl) rfl ?_
  refine ah.nil ?_
  have hr:=Option.some.inj h
  subst hr
  exact az.ret ⟨_,rfl,rfl,iU (aC.eq .nil)⟩
 replace h:=eO hb3 h
 refine az.skip ?_
 refine az.seq ?_
 refine az.region E.obj rfl ?_
 refine ah.val rfl (ae rfl) rfl ?_
 refine ah.val rfl (ae rfl) rfl ?_
 refine ah.val rfl (ae rfl) rfl ?_
 refine ah.val rfl (bY rfl Dc) rfl ?_
 obtain ⟨z4,hzz4,h⟩:=bind_some h
 refine ah.val rfl (av rfl rfl (vB hzz4)) rfl ?_
 obtain ⟨z5,hzz5,h⟩:=bind_some h
 refine ah.val rfl (dA rfl rfl (gK (enc:=(D.int .i64)) hzz5 pF Aw (((fun _=>rfl) _).trans vV.symm))) rfl ?_
 refine ah.val rfl (bV rfl (dw uU rfl)) rfl ?_
 refine ah.val rfl (aj rfl) rfl ?_
 refine ah.nil ?_
 have hr:=Option.some.inj h
 subst hr
 exact az.ret ⟨_,rfl,rfl,iU (aC.eq .nil)⟩
set_option maxRecDepth 20000 in
set_option maxHeartbeats 4000000 in
theorem je (n:Nat) (a1:cz) (r:(List ai)) (h:bU n a1=some r):dx R cfg.P 5 [(fG a1)] (.d (.sl ((r).map ak) false)):=by
 unfold bU at h
 refine dx.of_wp E.obj.toObjOk (C:=cfg) Tryz.func5 rfl G8 rfl ?_
 have H0:Has aH aH []:=Has.pure
 refine az.seq ?_
 refine az.region E.obj rfl ?_
 refine ah.box H0 rfl rfl rfl (cz.gP _) rfl (fun b2 S3 H4=>?_)
 refine ah.val rfl (aj rfl) rfl ?_
 refine ah.nil ?_
 refine az.seq ?_
 refine az.region E.obj rfl ?_
 refine ah.val rfl (bB (vs:=[(.d (.str [97])),(.d (.str [98])),(.d (.str [105,116,101,109])),(.d (.str [122])),(.d (.str [49])),(.d (.str [108,105,115,116]))]) (ds:=[(.str [97]),(.str [98]),(.str [105,116,101,109]),(.str [122]),(.str [49]),(.str [108,105,115,116])]) Gq EE AA GM FD rfl (by decide) (.cons rfl rfl (.cons rfl rfl (.cons rfl rfl (.cons rfl rfl (.cons rfl rfl (.cons rfl rfl .nil)))))) rfl (by intro d hd; simp only [List.mem_cons,List.not_mem_nil,or_false] at hd; rcases hd with rfl | rfl | rfl | rfl | rfl | rfl <;> rfl) rfl) rfl ?_
 refine ah.val rfl (aj rfl) rfl ?_
 refine ah.nil ?_
 refine az.seq ?_
 refine az.region E.obj rfl ?_
 refine ah.val rfl (dF (cs:=[(.d (.str [104,111,109,101])),(.d (.int .i64 (-1))),(.d .cB),(.d (.int .i64 0)),(.d (.bool false)),(.d (.int .i64 0)),(.d (.int .i64 0)),(.d (.str []))]) tZ rfl (jK) (eQ rfl rfl rfl rfl (eQ rfl rfl rfl rfl rfl))) rfl ?_
 refine ah.less (Less.agg' (d:=ak (ai.mk [104,111,109,101] (-1) [] 0 false (aN.mk 0 0 []))) (aJ.eq rfl (aJ.eq rfl (aJ.kz rfl (.cB false) rfl rfl (aJ.eq rfl (aJ.eq rfl (aJ.eq rfl (aJ.eq rfl (aJ.eq rfl .nil)))))))) ((ai.eq _).trans rfl)) ?_
 refine ah.val rfl (bB (vs:=[(.d (ak (ai.mk [104,111,109,101] (-1) [] 0 false (aN.mk 0 0 []))))]) (ds:=[(ak (ai.mk [104,111,109,101] (-1) [] 0 false (aN.mk 0 0 [])))]) EA kH BS tZ ib rfl (by decide) (.cons rfl (ai.len _) .nil) rfl (by intro d hd; simp only [List.mem_cons,List.not_mem_nil,or_false] at hd; rcases hd with rfl <;> exact ai.agg _) rfl) rfl ?_
 refine ah.val rfl (aj rfl) rfl ?_
 refine ah.nil ?_
 refine az.seq ?_
 refine az.region E.obj rfl ?_
 refine ah.val rfl (bB (vs:=[(.d (.int .i64 0))]) (ds:=[(.int .i64 0)]) Er pF uU Fv vV rfl (by decide) (.cons rfl rfl .nil) rfl (by intro d hd; simp only [List.mem_cons,List.not_mem_nil,or_false] at hd; rcases hd with rfl <;> rfl) rfl) rfl ?_
 refine ah.val rfl (aj rfl) rfl ?_
 refine ah.nil ?_
 refine az.seq ?_
 refine az.seq ?_
 refine az.region E.obj rfl ?_
 refine ah.val rfl (aj rfl) rfl ?_
 refine ah.nil ?_
 refine az.block ?_
 have H109:=H4.CX (([(ai.mk [104,111,109,101] (-1) [] 0 false (aN.mk 0 0 []))]).map ak)
 have H110:=H109.CX (([0]).map (D.int .i64))
 refine oC.start (B:=aH) (α:=(List ai) × AV × (List Int) × AV × Int) (fun k a=>au n a1 k a.1 a.2.2.1 a.2.2.2.2=some r) (fun a=>[(1,(.ptr b2 0 0)),(3,(.d (.sl (([[97],[98],[105,116,101,109],[122],[49],[108,105,115,116]]).map D.str) true))),(4,a.2.1),(5,a.2.2.2.1),(6,(.d (.int .i64 a.2.2.2.2)))]) (fun a=>[.box b2 [(.d (.sl ((a1.Parents).map (D.int .i64)) false)),(.d (.sl ((a1.Kinds).map (D.int .i64)) false)),(.d (.sl ((a1.Texts).map (D.int .i64)) false)),(.d (.sl ((a1.Rules).map (D.int .i64)) false)),(.d (.sl ((a1.Flags).map (D.int .i64)) false)),(.d (.sl ((a1.dU).map (D.int .i64)) false)),(.d (.sl ((a1.Comps).map (D.int .i64)) false))],.grow a.2.1 ((a.1).map ak),.grow a.2.2.2.1 ((a.2.2.1).map (D.int .i64))]) ?_ ?_ n ⟨⟨[(ai.mk [104,111,109,101] (-1) [] 0 false (aN.mk 0 0 []))],(.d (.sl (([(ai.mk [104,111,109,101] (-1) [] 0 false (aN.mk 0 0 []))]).map ak) true)),[0],(.d (.sl (([0]).map (D.int .i64)) true)),0⟩,_,_,S3,.refl _ _,.refl _,(aa.r rfl (aa.r rfl (aa.r rfl (aa.r rfl (aa.r rfl aa.nil))))),H110.sl [2,1,0] rfl rfl,h⟩
 ·
  intro a h; simp [au] at h
 intro k21 a S14 H15 h
 obtain ⟨x16,v17,x18,v19,x20⟩:=a
 replace h:au n a1 (k21 + 1) x16 x18 x20=some r:=h
 replace H15:Has aH S14 [.box b2 [(.d (.sl ((a1.Parents).map (D.int .i64)) false)),(.d (.sl ((a1.Kinds).map (D.int .i64)) false)),(.d (.sl ((a1.Texts).map (D.int .i64)) false)),(.d (.sl ((a1.Rules).map (D.int .i64)) false)),(.d (.sl ((a1.Flags).map (D.int .i64)) false)),(.d (.sl ((a1.dU).map (D.int .i64)) false)),(.d (.sl ((a1.Comps).map (D.int .i64)) false))],.grow v17 ((x16).map ak),.grow v19 ((x18).map (D.int .i64))]:=H15
 unfold au at h
 refine az.seq ?_
 refine az.seq ?_
 refine az.region E.obj rfl ?_
 refine ah.val rfl (ae rfl) rfl ?_
 refine ah.val rfl (aA rfl CP qX rfl) rfl ?_
 refine ah.val rfl (aZ H15 (i:=0) rfl rfl (bH q9 rfl)) rfl ?_
 refine ah.val rfl (bY rfl Dc) rfl ?_
 refine ah.val rfl (av rfl rfl dR) rfl ?_
 refine ah.val rfl (ae rfl) rfl ?_
 refine ah.dI 3 24 (.d (.bool ((decide (x20 < ((a1.Parents).length:Int))) && (decide (x20 < 7))))) ?_ ?_
 ·
  rcases Bool.eq_false_or_eq_true ((decide (x20 < ((a1.Parents).length:Int)))) with hB22 | hB22
  ·
   refine ah.bool hB22 ?_
   refine ah.val rfl (ae rfl) rfl ?_
   refine ah.val rfl (av rfl rfl dR) rfl ?_
   refine ah.val rfl (aL (b:=true) rfl rfl) rfl ?_
   exact ah.nil ⟨_,rfl,(aa.put (aa.push rfl (aa.push rfl (aa.put (.refl _) (Less.eq (by rw [hB22]))))) (Less.eq (by rw [hB22]; rw [Bool.true_and])))⟩
  refine ah.bool hB22 ?_
  refine ah.no rfl rfl ?_
  refine ah.no rfl rfl ?_
  refine ah.val rfl (aL (b:=false) rfl rfl) rfl ?_
  exact ah.nil ⟨_,rfl,(aa.put (aa.push rfl (aa.push rfl (aa.put (.refl _) (Less.eq (by rw [hB22]))))) (Less.eq (by rw [hB22]; rw [Bool.false_and])))⟩
 refine ah.nil ?_
 refine az.cond rfl (fun hb23=>?_) (fun hb23=>?_)
 ·
  replace h:=eH hb23 h
  refine az.skip ?_
  refine az.seq ?_
  refine az.block ?_
  refine az.seq ?_
  refine az.region E.obj rfl ?_
  refine ah.val rfl (aA rfl CP qX rfl) rfl ?_
  refine ah.val rfl (aZ H15 (i:=0) rfl rfl (bH q9 rfl)) rfl ?_
  refine ah.val rfl (ae rfl) rfl ?_
  obtain ⟨z24,hzz24,h⟩:=bind_some h
  refine ah.val rfl (dA rfl rfl (gK (enc:=(D.int .i64)) hzz24 pF Aw (((fun _=>rfl) _).trans vV.symm))) rfl ?_
  refine ah.val rfl (bV rfl (dw uU rfl)) rfl ?_
  refine ah.val rfl (ae rfl) rfl ?_
  refine ah.val rfl (uY H15 (i:=1) rfl rfl uB) rfl ?_
  refine ah.val rfl (av rfl rfl fA) rfl ?_
  obtain ⟨z25,hzz25,h⟩:=bind_some h
  refine ah.ret rfl (aK rfl rfl) (bf E _ _ _ _ _ hzz25 _ _ (aC.eq (aC.eq (aC.eq .nil)))) rfl ?_
  refine ah.val rfl (aj rfl) rfl ?_
  refine ah.nil ?_
  refine az.join (B:=aH) (α:=Int) (fun a=>aW n a1 x16 x18 x20 (au n a1 k21) a=some r) (fun a=>[(1,(.ptr b2 0 0)),(3,(.d (.sl (([[97],[98],[105,116,101,109],[122],[49],[108,105,115,116]]).map D.str) true))),(4,v17),(5,v19),(6,(.d (.int .i64 x20))),(7,(.d (.int .i64 a)))]) (fun a=>[.box b2 [(.d (.sl ((a1.Parents).map (D.int .i64)) false)),(.d (.sl ((a1.Kinds).map (D.int .i64)) false)),(.d (.sl ((a1.Texts).map (D.int .i64)) false)),(.d (.sl ((a1.Rules).map (D.int .i64)) false)),(.d (.sl ((a1.Flags).map (D.int .i64)) false)),(.d (.sl ((a1.dU).map (D.int .i64)) false)),(.d (.sl ((a1.Comps).map (D.int .i64)) false))],.grow v17 ((x16).map ak),.grow v19 ((x18).map (D.int .i64))]) ?_ ?_
  ·
   intro x28 S26 H27 h
   replace h:aW n a1 x16 x18 x20 (au n a1 k21) x28=some r:=h
   replace H27:Has aH S26 [.box b2 [(.d (.sl ((a1.Parents).map (D.int .i64)) false)),(.d (.sl ((a1.Kinds).map (D.int .i64)) false)),(.d (.sl ((a1.Texts).map (D.int .i64)) false)),(.d (.sl ((a1.Rules).map (D.int .i64)) false)),(.d (.sl ((a1.Flags).map (D.int .i64)) false)),(.d (.sl ((a1.dU).map (D.int .i64)) false)),(.d (.sl ((a1.Comps).map (D.int .i64)) false))],.grow v17 ((x16).map ak),.grow v19 ((x18).map (D.int .i64))]:=H27
   unfold aW at h
   refine az.seq ?_
   refine az.region E.obj rfl ?_
   refine ah.val rfl (aj rfl) rfl ?_
   refine ah.nil ?_
   refine az.join (B:=aH) (α:=Int) (fun a=>bq n a1 x16 x18 x20 (au n a1 k21) x28 a=some r) (fun a=>[(1,(.ptr b2 0 0)),(3,(.d (.sl (([[97],[98],[105,116,101,109],[122],[49],[108,105,115,116]]).map D.str) true))),(4,v17),(5,v19),(6,(.d (.int .i64 x20))),(7,(.d (.int .i64 x28))),(8,(.d (.int .i64 a)))]) (fun a=>[.box b2 [(.d (.sl ((a1.Parents).map (D.int .i64)) false)),(.d (.sl ((a1.Kinds).map (D.int .i64)) false)),(.d (.sl ((a1.Texts).map (D.int .i64)) false)),(.d (.sl ((a1.Rules).map (D.int .i64)) false)),(.d (.sl ((a1.Flags).map (D.int .i64)) false)),(.d (.sl ((a1.dU).map (D.int .i64)) false)),(.d (.sl ((a1.Comps).map (D.int .i64)) false))],.grow v17 ((x16).map ak),.grow v19 ((x18).map (D.int .i64))]) ?_ ?_
   ·
    intro x32 S30 H31 h
    replace h:bq n a1 x16 x18 x20 (au n a1 k21) x28 x32=some r:=h
    replace H31:Has aH S30 [.box b2 [(.d (.sl ((a1.Parents).map (D.int .i64)) false)),(.d (.sl ((a1.Kinds).map (D.int .i64)) false)),(.d (.sl ((a1.Texts).map (D.int .i64)) false)),(.d (.sl ((a1.Rules).map (D.int .i64)) false)),(.d (.sl ((a1.Flags).map (D.int .i64)) false)),(.d (.sl ((a1.dU).map (D.int .i64)) false)),(.d (.sl ((a1.Comps).map (D.int .i64)) false))],.grow v17 ((x16).map ak),.grow v19 ((x18).map (D.int .i64))]:=H31
    unfold bq at h
    refine az.seq ?_
    refine az.region E.obj rfl ?_
    refine ah.val rfl (ae rfl) rfl ?_
    refine ah.val rfl (av rfl rfl cZ) rfl ?_
    refine ah.val rfl (nG rfl GR GN) rfl ?_
    refine ah.val rfl (bB (vs:=[(.d (.int .u8 (IntKind.wrap .u8 (IntKind.wrap .i64 (97 + x20)))))]) (ds:=[(.int .u8 (IntKind.wrap .u8 (IntKind.wrap .i64 (97 + x20))))]) Gc Ff GQ GJ GK rfl (by decide) (.cons rfl rfl .nil) rfl (by intro d hd; simp only [List.mem_cons,List.not_mem_nil,or_false] at hd; rcases hd with rfl <;> rfl) rfl) rfl ?_
    refine ah.val rfl (lV (l:=[(IntKind.wrap .u8 (IntKind.wrap .i64 (97 + x20)))]) rfl F3 Gf) rfl ?_
    refine ah.val rfl (aj rfl) rfl ?_
    refine ah.nil ?_
    refine az.seq ?_
    refine az.region E.obj rfl ?_
    refine ah.val rfl (aA rfl Eo qX rfl) rfl ?_
    refine ah.val rfl (aZ H31 (i:=0) rfl rfl (bH q9 rfl)) rfl ?_
    refine ah.val rfl (ae rfl) rfl ?_
    obtain ⟨z34,hzz34,h⟩:=bind_some h
    refine ah.ret rfl (aK rfl rfl) (bG E _ _ _ _ hzz34 _ _ (aC.eq (aC.eq .nil))) rfl ?_
    obtain ⟨z35,hzz35,h⟩:=bind_some h
    refine ah.ret rfl (aK rfl rfl) (bf E _ _ _ _ _ hzz35 _ _ (aC.eq (aC.eq (aC.eq .nil)))) rfl ?_
    refine ah.val rfl (av rfl rfl fA) rfl ?_
    refine ah.val rfl (ae rfl) rfl ?_
    obtain ⟨z36,hzz36,h⟩:=bind_some h
    refine ah.val rfl (av rfl rfl (mZ hzz36)) rfl ?_
    refine ah.val rfl (dF (cs:=[(.d (.int .i64 (IntKind.wrap .i64 (z35 - 1)))),(.d (.str z36))]) qb rfl (jG) (eQ rfl rfl rfl rfl (eQ rfl rfl rfl rfl rfl))) rfl ?_
    refine ah.less (Less.agg' (d:=aO (Seg.mk (IntKind.wrap .i64 (z35 - 1)) z36)) (aJ.eq rfl (aJ.eq rfl .nil)) ((Seg.eq _).trans rfl)) ?_
    refine ah.alloc H31 rfl Fq qb rfl rfl (fun b37 S38 H39=>?_)
    refine ah.store H39 (i:=0) rfl rfl rfl rfl (Seg.gP _) rfl lX rfl Br rfl rfl rfl (fun S40 H41=>?_)
    refine ah.nil ?_
    refine az.join (B:=aH) (α:=Int × Str) (fun a=>bz n a1 x16 x18 x20 (au n a1 k21) x28 x32 a.1 a.2=some r) (fun a=>[(1,(.ptr b2 0 0)),(3,(.d (.sl (([[97],[98],[105,116,101,109],[122],[49],[108,105,115,116]]).map D.str) true))),(4,v17),(5,v19),(6,(.d (.int .i64 x20))),(7,(.d (.int .i64 x28))),(8,(.d (.int .i64 x32))),(9,(.d (.str (([(IntKind.wrap .u8 (IntKind.wrap .i64 (97 + x20)))]).map fun (n:Int)=>UInt8.ofNat n.toNat)))),(10,(.ptr b37 0 0))]) (fun a=>[.box b37 [(.d (.int .i64 a.1)),(.d (.str a.2))],.box b2 [(.d (.sl ((a1.Parents).map (D.int .i64)) false)),(.d (.sl ((a1.Kinds).map (D.int .i64)) false)),(.d (.sl ((a1.Texts).map (D.int .i64)) false)),(.d (.sl ((a1.Rules).map (D.int .i64)) false)),(.d (.sl ((a1.Flags).map (D.int .i64)) false)),(.d (.sl ((a1.dU).map (D.int .i64)) false)),(.d (.sl ((a1.Comps).map (D.int .i64)) false))],.grow v17 ((x16).map ak),.grow v19 ((x18).map (D.int .i64))]) ?_ ?_
    ·
     intro a S42 H43 h
     obtain ⟨x44,x45⟩:=a
     replace h:bz n a1 x16 x18 x20 (au n a1 k21) x28 x32 x44 x45=some r:=h
     replace H43:Has aH S42 [.box b37 [(.d (.int .i64 x44)),(.d (.str x45))],.box b2 [(.d (.sl ((a1.Parents).map (D.int .i64)) false)),(.d (.sl ((a1.Kinds).map (D.int .i64)) false)),(.d (.sl ((a1.Texts).map (D.int .i64)) false)),(.d (.sl ((a1.Rules).map (D.int .i64)) false)),(.d (.sl ((a1.Flags).map (D.int .i64)) false)),(.d (.sl ((a1.dU).map (D.int .i64)) false)),(.d (.sl ((a1.Comps).map (D.int .i64)) false))],.grow v17 ((x16).map ak),.grow v19 ((x18).map (D.int .i64))]:=H43
     unfold bz at h
     refine az.seq ?_
     obtain ⟨z47,hzz47,h⟩:=bind_some h
     obtain ⟨z48,hzz48,h⟩:=bind_some h
     obtain ⟨z49,hzz49,h⟩:=bind_some h
     obtain ⟨z50,hzz50,h⟩:=bind_some h
     refine az.Dl E.obj EC GV [(1,none),(3,none),(4,none),(5,none),(6,none),(8,none),(11,some 17)] (by kernel_rfl) [17,18] (by decide) [some (.d (.str (([(IntKind.wrap .u8 (IntKind.wrap .i64 (97 + x20)))]).map fun (n:Int)=>UInt8.ofNat n.toNat))),some (.d (.str z47)),some (.d (.int .i64 x28)),some (.d (aO (Seg.mk x44 x45))),some (.d (.sl (([(Seg.mk x44 x45)]).map aO) true)),some (.ptr b2 0 5),some (.d (.sl ((a1.dU).map (D.int .i64)) false)),some (.d (.int .i64 x20)),some (.d (.int .i64 z48)),some (.d (.int .i64 (dH .i64 z48 1))),some (.d (.bool ((dH .i64 z48 1) == 1))),some (.ptr b2 0 6),some (.d (.sl ((a1.Comps).map (D.int .i64)) false)),some (.d (.int .i64 x20)),some (.d (.int .i64 z49)),some (.d (.int .i64 z50)),some (.d (ak (ai.mk z47 x28 [(Seg.mk x44 x45)] z50 ((dH .i64 z48 1) == 1) (aN.mk 0 0 [])))),none,none] ?_
     refine ⟨[0,1,2,3,4,5,6,7,8,9,10,11,12,13,14,15,16],by kernel_rfl,?_,_,_,rfl,rfl,.step ?_⟩
     ·
      refine .v rfl rfl rfl rfl (ae rfl) ?_
      refine .v rfl rfl rfl rfl (av rfl rfl (mZ hzz47)) ?_
      refine .v rfl rfl rfl rfl (ae rfl) ?_
      refine .cons rfl rfl rfl (.step ?_) ?_
      ·
       refine ah.val rfl (aZ H43 (i:=0) rfl rfl (oJ wB lX rfl)) rfl ?_
       refine ah.less (Less.agg' (d:=aO (Seg.mk x44 x45)) (aJ.eq rfl (aJ.eq rfl .nil)) ((Seg.eq _).trans rfl)) ?_
       exact ah.nil ⟨_,_,rfl,fun _ ht=>by cases ht; exact ⟨rfl,.refl _⟩⟩
      refine .v rfl rfl rfl rfl (bB (vs:=[(.d (aO (Seg.mk x44 x45)))]) (ds:=[(aO (Seg.mk x44 x45))]) DF uN wB qb lX rfl (by decide) (.cons rfl (Seg.len _) .nil) rfl (by intro d hd; simp only [List.mem_cons,List.not_mem_nil,or_false] at hd; rcases hd with rfl <;> exact Seg.agg _) rfl) ?_
      refine .v rfl rfl rfl rfl (aA rfl CL qX rfl) ?_
      refine .v rfl rfl rfl rfl (aZ H43 (i:=1) rfl rfl (bH q9 rfl)) ?_
      refine .v rfl rfl rfl rfl (ae rfl) ?_
      refine .cons rfl rfl rfl (.step ?_) ?_
      ·
       refine ah.ret rfl (aK rfl rfl) (bG E _ _ _ _ hzz48 _ _ (aC.eq (aC.eq .nil))) rfl ?_
       exact ah.nil ⟨_,_,rfl,fun _ ht=>by cases ht; exact ⟨rfl,.refl _⟩⟩
      refine .v rfl rfl rfl rfl (av rfl rfl tJ) ?_
      refine .v rfl rfl rfl rfl (av rfl rfl eB) ?_
      refine .v rfl rfl rfl rfl (aA rfl Cy qX rfl) ?_
      refine .v rfl rfl rfl rfl (aZ H43 (i:=1) rfl rfl (bH q9 rfl)) ?_
      refine .v rfl rfl rfl rfl (ae rfl) ?_
      refine .cons rfl rfl rfl (.step ?_) ?_
      ·
       refine ah.ret rfl (aK rfl rfl) (bG E _ _ _ _ hzz49 _ _ (aC.eq (aC.eq .nil))) rfl ?_
       exact ah.nil ⟨_,_,rfl,fun _ ht=>by cases ht; exact ⟨rfl,.refl _⟩⟩
      refine .cons rfl rfl rfl (.step ?_) ?_
      ·
       refine ah.ret rfl (aK rfl rfl) (bf E _ _ _ _ _ hzz50 _ _ (aC.eq (aC.eq (aC.eq .nil)))) rfl ?_
       exact ah.nil ⟨_,_,rfl,fun _ ht=>by cases ht; exact ⟨rfl,.refl _⟩⟩
      refine .cons rfl rfl rfl (.step ?_) ?_
      ·
       refine ah.val rfl (dF (cs:=[(.d (.str z47)),(.d (.int .i64 x28)),(.d (.sl (([(Seg.mk x44 x45)]).map aO) true)),(.d (.int .i64 z50)),(.d (.bool ((dH .i64 z48 1) == 1))),(.d (.int .i64 0)),(.d (.int .i64 0)),(.d (.str []))]) tZ rfl (jK) (eQ rfl rfl rfl rfl (eQ rfl rfl rfl rfl (eQ rfl rfl rfl rfl (eQ rfl rfl rfl rfl (eQ rfl rfl rfl rfl rfl)))))) rfl ?_
       refine ah.less (Less.agg' (d:=ak (ai.mk z47 x28 [(Seg.mk x44 x45)] z50 ((dH .i64 z48 1) == 1) (aN.mk 0 0 []))) (aJ.eq rfl (aJ.eq rfl (aJ.kz rfl (.lH _ _) rfl rfl (aJ.eq rfl (aJ.eq rfl (aJ.eq rfl (aJ.eq rfl (aJ.eq rfl .nil)))))))) ((ai.eq _).trans rfl)) ?_
       exact ah.nil ⟨_,_,rfl,fun _ ht=>by cases ht; exact ⟨rfl,.refl _⟩⟩
      exact .nil
     refine ah.alloc H43 rfl Fy tZ rfl rfl (fun b56 S57 H58=>?_)
     refine ah.nil ⟨_,_,_,rfl,(fun _ ht=>by cases ht; rfl),_,(.q (.q (.q (.q (.o (.w (.ptr b56 0 0) (.n .nil))))))),(fun _ ht=>by cases ht; exact ⟨_,rfl,.refl _⟩),?_⟩
     refine ⟨[0,1,2,3,4,5,6,7,8,9,10,11,12,13,14,15,16],by kernel_rfl,?_,_,_,rfl,rfl,.step ?_⟩
     ·
      refine .v rfl rfl rfl rfl (ae rfl) ?_
      refine .v rfl rfl rfl rfl (av rfl rfl (mZ hzz47)) ?_
      refine .v rfl rfl rfl rfl (ae rfl) ?_
      refine .cons rfl rfl rfl (.step ?_) ?_
      ·
       refine ah.val rfl (aZ H58 (i:=1) rfl rfl (oJ wB lX rfl)) rfl ?_
       refine ah.less (Less.agg' (d:=aO (Seg.mk x44 x45)) (aJ.eq rfl (aJ.eq rfl .nil)) ((Seg.eq _).trans rfl)) ?_
       exact ah.nil ⟨_,_,rfl,fun _ ht=>by cases ht; exact ⟨rfl,.refl _⟩⟩
      refine .v rfl rfl rfl rfl (bB (vs:=[(.d (aO (Seg.mk x44 x45)))]) (ds:=[(aO (Seg.mk x44 x45))]) DF uN wB qb lX rfl (by decide) (.cons rfl (Seg.len _) .nil) rfl (by intro d hd; simp only [List.mem_cons,List.not_mem_nil,or_false] at hd; rcases hd with rfl <;> exact Seg.agg _) rfl) ?_
      refine .v rfl rfl rfl rfl (aA rfl CL qX rfl) ?_
      refine .v rfl rfl rfl rfl (aZ H58 (i:=2) rfl rfl (bH q9 rfl)) ?_
      refine .v rfl rfl rfl rfl (ae rfl) ?_
      refine .cons rfl rfl rfl (.step ?_) ?_
      ·
       refine ah.ret rfl (aK rfl rfl) (bG E _ _ _ _ hzz48 _ _ (aC.eq (aC.eq .nil))) rfl ?_
       exact ah.nil ⟨_,_,rfl,fun _ ht=>by cases ht; exact ⟨rfl,.refl _⟩⟩
      refine .v rfl rfl rfl rfl (av rfl rfl tJ) ?_
      refine .v rfl rfl rfl rfl (av rfl rfl eB) ?_
      refine .v rfl rfl rfl rfl (aA rfl Cy qX rfl) ?_
      refine .v rfl rfl rfl rfl (aZ H58 (i:=2) rfl rfl (bH q9 rfl)) ?_
      refine .v rfl rfl rfl rfl (ae rfl) ?_
      refine .cons rfl rfl rfl (.step ?_) ?_
      ·
       refine ah.ret rfl (aK rfl rfl) (bG E _ _ _ _ hzz49 _ _ (aC.eq (aC.eq .nil))) rfl ?_
       exact ah.nil ⟨_,_,rfl,fun _ ht=>by cases ht; exact ⟨rfl,.refl _⟩⟩
      refine .cons rfl rfl rfl (.step ?_) ?_
      ·
       refine ah.ret rfl (aK rfl rfl) (bf E _ _ _ _ _ hzz50 _ _ (aC.eq (aC.eq (aC.eq .nil)))) rfl ?_
       exact ah.nil ⟨_,_,rfl,fun _ ht=>by cases ht; exact ⟨rfl,.refl _⟩⟩
      refine .cons rfl rfl rfl (.step ?_) ?_
      ·
       refine ah.val rfl (dF (cs:=[(.d (.str z47)),(.d (.int .i64 x28)),(.d (.sl (([(Seg.mk x44 x45)]).map aO) true)),(.d (.int .i64 z50)),(.d (.bool ((dH .i64 z48 1) == 1))),(.d (.int .i64 0)),(.d (.int .i64 0)),(.d (.str []))]) tZ rfl (jK) (eQ rfl rfl rfl rfl (eQ rfl rfl rfl rfl (eQ rfl rfl rfl rfl (eQ rfl rfl rfl rfl (eQ rfl rfl rfl rfl rfl)))))) rfl ?_
       refine ah.less (Less.agg' (d:=ak (ai.mk z47 x28 [(Seg.mk x44 x45)] z50 ((dH .i64 z48 1) == 1) (aN.mk 0 0 []))) (aJ.eq rfl (aJ.eq rfl (aJ.kz rfl (.lH _ _) rfl rfl (aJ.eq rfl (aJ.eq rfl (aJ.eq rfl (aJ.eq rfl (aJ.eq rfl .nil)))))))) ((ai.eq _).trans rfl)) ?_
       exact ah.nil ⟨_,_,rfl,fun _ ht=>by cases ht; exact ⟨rfl,.refl _⟩⟩
      exact .nil
     refine ah.store H58 (i:=0) rfl rfl rfl rfl (ai.gP _) rfl ib rfl ny rfl rfl rfl (fun S59 H60=>?_)
     refine ah.nil ⟨_,.any,_,rfl,(fun _ ht=>by cases ht),_,(.q (.q (.q (.q (.o (.o (.w .any .nil))))))),(fun _ ht=>by cases ht),?_⟩
     refine ⟨[],by kernel_rfl,?_,_,rfl,?_⟩
     ·
      exact .nil
     refine az.join (B:=aH) (α:=Int × Int × Str) (fun a=>aX x16 x18 x20 (au n a1 k21) x28 x32 x44 x45 z47 z48 z50 a.1 a.2.1 a.2.2=some r) (fun a=>[(1,(.ptr b2 0 0)),(3,(.d (.sl (([[97],[98],[105,116,101,109],[122],[49],[108,105,115,116]]).map D.str) true))),(4,v17),(5,v19),(6,(.d (.int .i64 x20))),(8,(.d (.int .i64 x32))),(11,(.ptr b56 0 0))]) (fun a=>[.box b56 [(.d (.str (ai.mk z47 x28 [(Seg.mk x44 x45)] z50 ((dH .i64 z48 1) == 1) (aN.mk 0 0 [])).Name)),(.d (.int .i64 (ai.mk z47 x28 [(Seg.mk x44 x45)] z50 ((dH .i64 z48 1) == 1) (aN.mk 0 0 [])).Parent)),(.d (.sl (((ai.mk z47 x28 [(Seg.mk x44 x45)] z50 ((dH .i64 z48 1) == 1) (aN.mk 0 0 [])).dN).map aO) false)),(.d (.int .i64 (ai.mk z47 x28 [(Seg.mk x44 x45)] z50 ((dH .i64 z48 1) == 1) (aN.mk 0 0 [])).Comp)),(.d (.bool (ai.mk z47 x28 [(Seg.mk x44 x45)] z50 ((dH .i64 z48 1) == 1) (aN.mk 0 0 [])).fQ)),(.d (.int .i64 a.1)),(.d (.int .i64 a.2.1)),(.d (.str a.2.2))],.box b2 [(.d (.sl ((a1.Parents).map (D.int .i64)) false)),(.d (.sl ((a1.Kinds).map (D.int .i64)) false)),(.d (.sl ((a1.Texts).map (D.int .i64)) false)),(.d (.sl ((a1.Rules).map (D.int .i64)) false)),(.d (.sl ((a1.Flags).map (D.int .i64)) false)),(.d (.sl ((a1.dU).map (D.int .i64)) false)),(.d (.sl ((a1.Comps).map (D.int .i64)) false))],.grow v17 ((x16).map ak),.grow v19 ((x18).map (D.int .i64))]) ?_ ?_
     ·
      intro a S61 H62 h
      obtain ⟨x63,x64,x65⟩:=a
      replace h:aX x16 x18 x20 (au n a1 k21) x28 x32 x44 x45 z47 z48 z50 x63 x64 x65=some r:=h
      replace H62:Has aH S61 [.box b56 [(.d (.str (ai.mk z47 x28 [(Seg.mk x44 x45)] z50 ((dH .i64 z48 1) == 1) (aN.mk 0 0 [])).Name)),(.d (.int .i64 (ai.mk z47 x28 [(Seg.mk x44 x45)] z50 ((dH .i64 z48 1) == 1) (aN.mk 0 0 [])).Parent)),(.d (.sl (((ai.mk z47 x28 [(Seg.mk x44 x45)] z50 ((dH .i64 z48 1) == 1) (aN.mk 0 0 [])).dN).map aO) false)),(.d (.int .i64 (ai.mk z47 x28 [(Seg.mk x44 x45)] z50 ((dH .i64 z48 1) == 1) (aN.mk 0 0 [])).Comp)),(.d (.bool (ai.mk z47 x28 [(Seg.mk x44 x45)] z50 ((dH .i64 z48 1) == 1) (aN.mk 0 0 [])).fQ)),(.d (.int .i64 x63)),(.d (.int .i64 x64)),(.d (.str x65))],.box b2 [(.d (.sl ((a1.Parents).map (D.int .i64)) false)),(.d (.sl ((a1.Kinds).map (D.int .i64)) false)),(.d (.sl ((a1.Texts).map (D.int .i64)) false)),(.d (.sl ((a1.Rules).map (D.int .i64)) false)),(.d (.sl ((a1.Flags).map (D.int .i64)) false)),(.d (.sl ((a1.dU).map (D.int .i64)) false)),(.d (.sl ((a1.Comps).map (D.int .i64)) false))],.grow v17 ((x16).map ak),.grow v19 ((x18).map (D.int .i64))]:=H62
      unfold aX at h
      refine az.seq ?_
      refine az.region E.obj rfl ?_
      refine ah.val rfl (ae rfl) rfl ?_
      refine ah.val rfl (aZ H62 (i:=0) rfl rfl (oJ BS ib rfl)) rfl ?_
      refine ah.less (Less.agg' (d:=ak (ai.mk ((ai.mk z47 x28 [(Seg.mk x44 x45)] z50 ((dH .i64 z48 1) == 1) (aN.mk 0 0 [])).Name) ((ai.mk z47 x28 [(Seg.mk x44 x45)] z50 ((dH .i64 z48 1) == 1) (aN.mk 0 0 [])).Parent) ((ai.mk z47 x28 [(Seg.mk x44 x45)] z50 ((dH .i64 z48 1) == 1) (aN.mk 0 0 [])).dN) ((ai.mk z47 x28 [(Seg.mk x44 x45)] z50 ((dH .i64 z48 1) == 1) (aN.mk 0 0 [])).Comp) ((ai.mk z47 x28 [(Seg.mk x44 x45)] z50 ((dH .i64 z48 1) == 1) (aN.mk 0 0 [])).fQ) (aN.mk x63 x64 x65))) (aJ.eq rfl (aJ.eq rfl (aJ.eq rfl (aJ.eq rfl (aJ.eq rfl (aJ.eq rfl (aJ.eq rfl (aJ.eq rfl .nil)))))))) ((ai.eq _).trans rfl)) ?_
      refine ah.val rfl (bB (vs:=[(.d (ak (ai.mk ((ai.mk z47 x28 [(Seg.mk x44 x45)] z50 ((dH .i64 z48 1) == 1) (aN.mk 0 0 [])).Name) ((ai.mk z47 x28 [(Seg.mk x44 x45)] z50 ((dH .i64 z48 1) == 1) (aN.mk 0 0 [])).Parent) ((ai.mk z47 x28 [(Seg.mk x44 x45)] z50 ((dH .i64 z48 1) == 1) (aN.mk 0 0 [])).dN) ((ai.mk z47 x28 [(Seg.mk x44 x45)] z50 ((dH .i64 z48 1) == 1) (aN.mk 0 0 [])).Comp) ((ai.mk z47 x28 [(Seg.mk x44 x45)] z50 ((dH .i64 z48 1) == 1) (aN.mk 0 0 [])).fQ) (aN.mk x63 x64 x65))))]) (ds:=[(ak (ai.mk ((ai.mk z47 x28 [(Seg.mk x44 x45)] z50 ((dH .i64 z48 1) == 1) (aN.mk 0 0 [])).Name) ((ai.mk z47 x28 [(Seg.mk x44 x45)] z50 ((dH .i64 z48 1) == 1) (aN.mk 0 0 [])).Parent) ((ai.mk z47 x28 [(Seg.mk x44 x45)] z50 ((dH .i64 z48 1) == 1) (aN.mk 0 0 [])).dN) ((ai.mk z47 x28 [(Seg.mk x44 x45)] z50 ((dH .i64 z48 1) == 1) (aN.mk 0 0 [])).Comp) ((ai.mk z47 x28 [(Seg.mk x44 x45)] z50 ((dH .i64 z48 1) == 1) (aN.mk 0 0 [])).fQ) (aN.mk x63 x64 x65)))]) EA kH BS tZ ib rfl (by decide) (.cons rfl (ai.len _) .nil) rfl (by intro d hd; simp only [List.mem_cons,List.not_mem_nil,or_false] at hd; rcases hd with rfl <;> exact ai.agg _) rfl) rfl ?_
      obtain ⟨z67,hzz67,h⟩:=bind_some h
      refine ah.append (xs:=(x16).map ak) (ys:=([(ai.mk ((ai.mk z47 x28 [(Seg.mk x44 x45)] z50 ((dH .i64 z48 1) == 1) (aN.mk 0 0 [])).Name) ((ai.mk z47 x28 [(Seg.mk x44 x45)] z50 ((dH .i64 z48 1) == 1) (aN.mk 0 0 [])).Parent) ((ai.mk z47 x28 [(Seg.mk x44 x45)] z50 ((dH .i64 z48 1) == 1) (aN.mk 0 0 [])).dN) ((ai.mk z47 x28 [(Seg.mk x44 x45)] z50 ((dH .i64 z48 1) == 1) (aN.mk 0 0 [])).Comp) ((ai.mk z47 x28 [(Seg.mk x44 x45)] z50 ((dH .i64 z48 1) == 1) (aN.mk 0 0 [])).fQ) (aN.mk x63 x64 x65))]).map ak) (zs:=(z67).map ak) H62 rfl rfl rfl (i:=2) rfl rfl EA FW kH (gU hzz67) DR rfl (dP (enc:=ak) (fun z=>(ai.len z).trans ib.symm) _) (dP (enc:=ak) (fun z=>(ai.len z).trans ib.symm) _) GA rfl (l7 hzz67) (fun v68 S69 H70=>?_)
      refine ah.val rfl (aj rfl) rfl ?_
      refine ah.nil ?_
      refine az.region E.obj rfl ?_
      refine ah.val rfl (ae rfl) rfl ?_
      refine ah.val rfl (ae rfl) rfl ?_
      refine ah.val rfl (bB (vs:=[(.d (.int .i64 x32))]) (ds:=[(.int .i64 x32)]) Er pF uU Fv vV rfl (by decide) (.cons rfl rfl .nil) rfl (by intro d hd; simp only [List.mem_cons,List.not_mem_nil,or_false] at hd; rcases hd with rfl <;> rfl) rfl) rfl ?_
      obtain ⟨z71,hzz71,h⟩:=bind_some h
      refine ah.append (xs:=(x18).map (D.int .i64)) (ys:=([x32]).map (D.int .i64)) (zs:=(z71).map (D.int .i64)) H70 rfl rfl rfl (i:=3) rfl rfl Er Gt pF (gU hzz71) GI rfl (dP (enc:=(D.int .i64)) (fun _=>vV.symm) _) (dP (enc:=(D.int .i64)) (fun _=>vV.symm) _) G6 rfl (l7 hzz71) (fun v72 S73 H74=>?_)
      refine ah.val rfl (aj rfl) rfl ?_
      refine ah.nil ?_
      refine az.region E.obj rfl ?_
      refine ah.val rfl (ae rfl) rfl ?_
      refine ah.val rfl (av rfl rfl cZ) rfl ?_
      refine ah.val rfl (aj rfl) rfl ?_
      refine ah.nil ?_
      exact ⟨⟨z67,v68,z71,v72,(IntKind.wrap .i64 (x20 + 1))⟩,_,_,S73,.refl _ _,.refl _,(aa.r rfl (aa.r rfl (aa.r rfl (aa.r rfl (aa.r rfl aa.nil))))),H74.sl [1,2,3] rfl rfl,h⟩
     refine az.seq ?_
     refine az.region E.obj rfl ?_
     refine ah.val rfl (aA rfl Cs qX rfl) rfl ?_
     refine ah.val rfl (aZ H60 (i:=2) rfl rfl (bH q9 rfl)) rfl ?_
     refine ah.val rfl (ae rfl) rfl ?_
     obtain ⟨z75,hzz75,h⟩:=bind_some h
     refine ah.ret rfl (aK rfl rfl) (bG E _ _ _ _ hzz75 _ _ (aC.eq (aC.eq .nil))) rfl ?_
     refine ah.val rfl (av rfl rfl tJ) rfl ?_
     refine ah.val rfl (av rfl rfl eB) rfl ?_
     refine ah.nil ?_
     refine az.cond rfl (fun hb76=>?_) (fun hb76=>?_)
     ·
      replace h:=eH hb76 h
      refine az.seq ?_
      obtain ⟨z77,hzz77,h⟩:=bind_some h
      obtain ⟨z78,hzz78,h⟩:=bind_some h
      obtain ⟨z79,hzz79,h⟩:=bind_some h
      obtain ⟨z80,hzz80,h⟩:=bind_some h
      obtain ⟨z81,hzz81,h⟩:=bind_some h
      refine az.Dl E.obj EC G5 [(1,none),(3,none),(4,none),(5,none),(6,none),(8,none),(11,none)] (by kernel_rfl) [13] (by decide) [some (.ptr b2 0 3),some (.d (.sl ((a1.Rules).map (D.int .i64)) false)),some (.d (.int .i64 x20)),some (.d (.int .i64 z77)),some (.d (.int .i64 z78)),some (.d (.int .i64 z79)),some (.ptr b2 0 4),some (.d (.sl ((a1.Flags).map (D.int .i64)) false)),some (.d (.int .i64 x20)),some (.d (.int .i64 z80)),some (.d (.int .i64 z81)),some (.d (rE (aN.mk z79 z81 []))),some (.ptr b56 0 5),none] ?_
      refine ⟨[0,1,2,3,4,5,6,7,8,9,10,11,12],by kernel_rfl,?_,_,_,rfl,rfl,.step ?_⟩
      ·
       refine .v rfl rfl rfl rfl (aA rfl Cs qX rfl) ?_
       refine .v rfl rfl rfl rfl (aZ H60 (i:=2) rfl rfl (bH q9 rfl)) ?_
       refine .v rfl rfl rfl rfl (ae rfl) ?_
       refine .cons rfl rfl rfl (.step ?_) ?_
       ·
        refine ah.ret rfl (aK rfl rfl) (bG E _ _ _ _ hzz77 _ _ (aC.eq (aC.eq .nil))) rfl ?_
        exact ah.nil ⟨_,_,rfl,fun _ ht=>by cases ht; exact ⟨rfl,.refl _⟩⟩
       refine .v rfl rfl rfl rfl (av rfl rfl (Bd hzz78)) ?_
       refine .cons rfl rfl rfl (.step ?_) ?_
       ·
        refine ah.ret rfl (aK rfl rfl) (bf E _ _ _ _ _ hzz79 _ _ (aC.eq (aC.eq (aC.eq .nil)))) rfl ?_
        exact ah.nil ⟨_,_,rfl,fun _ ht=>by cases ht; exact ⟨rfl,.refl _⟩⟩
       refine .v rfl rfl rfl rfl (aA rfl CU qX rfl) ?_
       refine .v rfl rfl rfl rfl (aZ H60 (i:=2) rfl rfl (bH q9 rfl)) ?_
       refine .v rfl rfl rfl rfl (ae rfl) ?_
       refine .cons rfl rfl rfl (.step ?_) ?_
       ·
        refine ah.ret rfl (aK rfl rfl) (bG E _ _ _ _ hzz80 _ _ (aC.eq (aC.eq .nil))) rfl ?_
        exact ah.nil ⟨_,_,rfl,fun _ ht=>by cases ht; exact ⟨rfl,.refl _⟩⟩
       refine .cons rfl rfl rfl (.step ?_) ?_
       ·
        refine ah.ret rfl (aK rfl rfl) (bf E _ _ _ _ _ hzz81 _ _ (aC.eq (aC.eq (aC.eq .nil)))) rfl ?_
        exact ah.nil ⟨_,_,rfl,fun _ ht=>by cases ht; exact ⟨rfl,.refl _⟩⟩
       refine .cons rfl rfl rfl (.step ?_) ?_
       ·
        refine ah.val rfl (dF (cs:=[(.d (.int .i64 z79)),(.d (.int .i64 z81)),(.d (.str []))]) FJ rfl (r9) (eQ rfl rfl rfl rfl (eQ rfl rfl rfl rfl rfl))) rfl ?_
        refine ah.less (Less.agg' (d:=rE (aN.mk z79 z81 [])) (aJ.eq rfl (aJ.eq rfl (aJ.eq rfl .nil))) ((aN.eq _).trans rfl)) ?_
        exact ah.nil ⟨_,_,rfl,fun _ ht=>by cases ht; exact ⟨rfl,.refl _⟩⟩
       refine .v rfl rfl rfl rfl (aA rfl xc Dw rfl) ?_
       exact .nil
      refine ah.store H60 (i:=0) rfl rfl rfl rfl (aN.gP _) rfl F4 rfl Gi rfl rfl rfl (fun S84 H85=>?_)
      refine ah.nil ⟨_,.any,_,rfl,(fun _ ht=>by cases ht),_,(.q (.q (.q (.o (.w .any .nil))))),(fun _ ht=>by cases ht),?_⟩
      refine ⟨[],by kernel_rfl,?_,_,rfl,?_⟩
      ·
       exact .nil
      refine az.seq ?_
      refine az.region E.obj rfl ?_
      refine ah.val rfl (aA rfl xc Dw rfl) rfl ?_
      refine ah.val rfl (aA rfl Cg Aj rfl) rfl ?_
      refine ah.val rfl (aZ H85 (i:=0) rfl rfl (bH uU rfl)) rfl ?_
      refine ah.val rfl (av rfl rfl eB) rfl ?_
      refine ah.val rfl (ae rfl) rfl ?_
      refine ah.dI 5 134 (.d (.bool ((((aN.mk z79 z81 []).Kind) == 3) || (((aN.mk z79 z81 []).Kind) == 4)))) ?_ ?_
      ·
       rcases Bool.eq_false_or_eq_true ((((aN.mk z79 z81 []).Kind) == 3)) with hB86 | hB86
       ·
        refine ah.bool hB86 ?_
        refine ah.no rfl rfl ?_
        refine ah.no rfl rfl ?_
        refine ah.no rfl rfl ?_
        refine ah.no rfl rfl ?_
        refine ah.val rfl (aL (b:=true) rfl rfl) rfl ?_
        exact ah.nil ⟨_,rfl,(aa.put (aa.push rfl (aa.push rfl (aa.push rfl (aa.push rfl (aa.put (.refl _) (Less.eq (by rw [hB86]))))))) (Less.eq (by rw [hB86]; rw [Bool.true_or])))⟩
       refine ah.bool hB86 ?_
       refine ah.val rfl (aA rfl xc Dw rfl) rfl ?_
       refine ah.val rfl (aA rfl Cg Aj rfl) rfl ?_
       refine ah.val rfl (aZ H85 (i:=0) rfl rfl (bH uU rfl)) rfl ?_
       refine ah.val rfl (av rfl rfl eB) rfl ?_
       refine ah.val rfl (aL (b:=false) rfl rfl) rfl ?_
       exact ah.nil ⟨_,rfl,(aa.put (aa.push rfl (aa.push rfl (aa.push rfl (aa.push rfl (aa.put (.refl _) (Less.eq (by rw [hB86]))))))) (Less.eq (by rw [hB86]; rw [Bool.false_or])))⟩
      refine ah.nil ?_
      refine az.cond rfl (fun hb87=>?_) (fun hb87=>?_)
      ·
       replace h:=eH hb87 h
       refine az.region E.obj rfl ?_
       refine ah.val rfl (ae rfl) rfl ?_
       refine ah.val rfl (aA rfl CU qX rfl) rfl ?_
       refine ah.val rfl (aZ H85 (i:=2) rfl rfl (bH q9 rfl)) rfl ?_
       refine ah.val rfl (ae rfl) rfl ?_
       refine ah.val rfl (av rfl rfl cZ) rfl ?_
       obtain ⟨z88,hzz88,h⟩:=bind_some h
       refine ah.ret rfl (aK rfl rfl) (bG E _ _ _ _ hzz88 _ _ (aC.eq (aC.eq .nil))) rfl ?_
       refine ah.val rfl (ae rfl) rfl ?_
       refine ah.val rfl (uY H85 (i:=3) rfl rfl uB) rfl ?_
       refine ah.val rfl (av rfl rfl fA) rfl ?_
       obtain ⟨z89,hzz89,h⟩:=bind_some h
       refine ah.ret rfl (aK rfl rfl) (bf E _ _ _ _ _ hzz89 _ _ (aC.eq (aC.eq (aC.eq .nil)))) rfl ?_
       obtain ⟨z90,hzz90,h⟩:=bind_some h
       refine ah.val rfl (dA rfl rfl (jr (enc:=ak) H85 (i:=3) rfl hzz90 kH ny ((ai.len _).trans ib.symm))) rfl ?_
       refine ah.val rfl (dX rfl mH Ca rfl) rfl ?_
       refine ah.val rfl (bV rfl (by rw [ai.cells]; exact dw AA rfl)) rfl ?_
       refine ah.val rfl (aA rfl xc Dw rfl) rfl ?_
       refine ah.val rfl (aA rfl ER Ca rfl) rfl ?_
       refine ah.store H85 (i:=0) rfl rfl rfl rfl rfl rfl FD rfl FN rfl rfl rfl (fun S91 H92=>?_)
       refine ah.nil ?_
       exact ⟨⟨(aN.mk z79 z81 []).Kind,(aN.mk z79 z81 []).Flag,z90.Name⟩,_,_,S91,.refl _ _,.refl _,(aa.r rfl (aa.r rfl (aa.r rfl (aa.r rfl (aa.r rfl (aa.r rfl (aa.r rfl aa.nil))))))),H92.sl [0,2,3,4] rfl rfl,h⟩
      replace h:=eO hb87 h
      refine az.skip ?_
      exact ⟨⟨(aN.mk z79 z81 []).Kind,(aN.mk z79 z81 []).Flag,(aN.mk z79 z81 []).To⟩,_,_,S84,.refl _ _,.refl _,(aa.r rfl (aa.r rfl (aa.r rfl (aa.r rfl (aa.r rfl (aa.r rfl (aa.r rfl aa.nil))))))),H85.sl [0,2,3,4] rfl rfl,h⟩
     replace h:=eO hb76 h
     refine az.skip ?_
     exact ⟨⟨(ai.mk z47 x28 [(Seg.mk x44 x45)] z50 ((dH .i64 z48 1) == 1) (aN.mk 0 0 [])).aN.Kind,(ai.mk z47 x28 [(Seg.mk x44 x45)] z50 ((dH .i64 z48 1) == 1) (aN.mk 0 0 [])).aN.Flag,(ai.mk z47 x28 [(Seg.mk x44 x45)] z50 ((dH .i64 z48 1) == 1) (aN.mk 0 0 [])).aN.To⟩,_,_,S59,.refl _ _,.refl _,(aa.r rfl (aa.r rfl (aa.r rfl (aa.r rfl (aa.r rfl (aa.r rfl (aa.r rfl aa.nil))))))),H60.sl [0,2,3,4] rfl rfl,h⟩
    refine az.seq ?_
    refine az.region E.obj rfl ?_
    refine ah.val rfl (aA rfl nV Aj rfl) rfl ?_
    refine ah.val rfl (aZ H41 (i:=0) rfl rfl (bH uU rfl)) rfl ?_
    refine ah.val rfl (av rfl rfl uF) rfl ?_
    refine ah.nil ?_
    refine az.cond rfl (fun hb93=>?_) (fun hb93=>?_)
    ·
     replace h:=eH hb93 h
     refine az.region E.obj rfl ?_
     refine ah.val rfl (ae rfl) rfl ?_
     refine ah.val rfl (aA rfl ED qX rfl) rfl ?_
     refine ah.val rfl (aZ H41 (i:=1) rfl rfl (bH q9 rfl)) rfl ?_
     refine ah.val rfl (ae rfl) rfl ?_
     obtain ⟨z94,hzz94,h⟩:=bind_some h
     refine ah.ret rfl (aK rfl rfl) (bG E _ _ _ _ hzz94 _ _ (aC.eq (aC.eq .nil))) rfl ?_
     refine ah.val rfl (ae rfl) rfl ?_
     refine ah.val rfl (bY rfl Gr) rfl ?_
     refine ah.val rfl (av rfl rfl fA) rfl ?_
     obtain ⟨z95,hzz95,h⟩:=bind_some h
     refine ah.ret rfl (aK rfl rfl) (bf E _ _ _ _ _ hzz95 _ _ (aC.eq (aC.eq (aC.eq .nil)))) rfl ?_
     obtain ⟨z96,hzz96,h⟩:=bind_some h
     refine ah.val rfl (dA rfl rfl (gK (enc:=D.str) hzz96 EE FN (((fun _=>rfl) _).trans FD.symm))) rfl ?_
     refine ah.val rfl (bV rfl (dw AA rfl)) rfl ?_
     refine ah.val rfl (dF (cs:=[(.d (.int .i64 0)),(.d (.str z96))]) qb rfl (jG) (eQ rfl rfl rfl rfl rfl)) rfl ?_
     refine ah.less (Less.agg' (d:=aO (Seg.mk 0 z96)) (aJ.eq rfl (aJ.eq rfl .nil)) ((Seg.eq _).trans rfl)) ?_
     refine ah.store H41 (i:=0) rfl rfl rfl rfl (Seg.gP _) rfl lX rfl Br rfl rfl rfl (fun S97 H98=>?_)
     refine ah.nil ?_
     exact ⟨⟨(Seg.mk 0 z96).Kind,(Seg.mk 0 z96).Text⟩,_,_,S97,.refl _ _,.refl _,(aa.r rfl (aa.r rfl (aa.r rfl (aa.r rfl (aa.r rfl (aa.r rfl (aa.r rfl (aa.r rfl (aa.r rfl aa.nil))))))))),H98.sl [0,1,2,3] rfl rfl,h⟩
    replace h:=eO hb93 h
    refine az.skip ?_
    exact ⟨⟨(Seg.mk (IntKind.wrap .i64 (z35 - 1)) z36).Kind,(Seg.mk (IntKind.wrap .i64 (z35 - 1)) z36).Text⟩,_,_,S40,.refl _ _,.refl _,(aa.r rfl (aa.r rfl (aa.r rfl (aa.r rfl (aa.r rfl (aa.r rfl (aa.r rfl (aa.r rfl (aa.r rfl aa.nil))))))))),H41.sl [0,1,2,3] rfl rfl,h⟩
   refine az.seq ?_
   refine az.region E.obj rfl ?_
   refine ah.val rfl (ae rfl) rfl ?_
   refine ah.val rfl (av rfl rfl iP) rfl ?_
   refine ah.nil ?_
   refine az.cond rfl (fun hb99=>?_) (fun hb99=>?_)
   ·
    replace h:=eH hb99 h
    refine az.region E.obj rfl ?_
    refine ah.val rfl (ae rfl) rfl ?_
    refine ah.val rfl (ae rfl) rfl ?_
    obtain ⟨z100,hzz100,h⟩:=bind_some h
    refine ah.val rfl (dA rfl rfl (jr (enc:=(D.int .i64)) H27 (i:=2) rfl hzz100 pF Aw (((fun _=>rfl) _).trans vV.symm))) rfl ?_
    refine ah.val rfl (bV rfl (dw uU rfl)) rfl ?_
    refine ah.val rfl (av rfl rfl cZ) rfl ?_
    refine ah.val rfl (aj rfl) rfl ?_
    refine ah.nil ?_
    exact ⟨(IntKind.wrap .i64 (z100 + 1)),_,_,S26,.refl _ _,.refl _,(aa.r rfl (aa.r rfl (aa.r rfl (aa.r rfl (aa.r rfl (aa.r rfl (aa.r rfl aa.nil))))))),H27.sl [0,1,2] rfl rfl,h⟩
   replace h:=eO hb99 h
   refine az.skip ?_
   exact ⟨1,_,_,S26,.refl _ _,.refl _,(aa.r rfl (aa.r rfl (aa.r rfl (aa.r rfl (aa.r rfl (aa.r rfl (aa.r rfl aa.nil))))))),H27.sl [0,1,2] rfl rfl,h⟩
  refine az.seq ?_
  refine az.region E.obj rfl ?_
  refine ah.val rfl (ae rfl) rfl ?_
  refine ah.val rfl (av rfl rfl iP) rfl ?_
  refine ah.val rfl (ae rfl) rfl ?_
  obtain ⟨z102,hzz102,h⟩:=bind_some h
  refine ah.dI 14 52 (.d (.bool z102)) ?_ ?_
  ·
   rcases Bool.eq_false_or_eq_true ((decide (0 ≤ z25))) with hB101 | hB101
   ·
    refine ah.bool hB101 ?_
    replace hzz102:=eH hB101 hzz102
    refine ah.val rfl (ae rfl) rfl ?_
    refine ah.val rfl (ae rfl) rfl ?_
    obtain ⟨z103,hzz103,hzz102⟩:=bind_some hzz102
    refine ah.val rfl (dA rfl rfl (jr (enc:=(D.int .i64)) H15 (i:=2) rfl hzz103 pF Aw (((fun _=>rfl) _).trans vV.symm))) rfl ?_
    refine ah.val rfl (bV rfl (dw uU rfl)) rfl ?_
    refine ah.val rfl (av rfl rfl kX) rfl ?_
    refine ah.val rfl (ae rfl) rfl ?_
    obtain ⟨z105,hzz105,hzz102⟩:=bind_some hzz102
    refine ah.dI 7 51 (.d (.bool z105)) ?_ ?_
    ·
     rcases Bool.eq_false_or_eq_true ((decide (3 < z103))) with hB104 | hB104
     ·
      refine ah.bool hB104 ?_
      refine ah.no rfl rfl ?_
      refine ah.no rfl rfl ?_
      refine ah.no rfl rfl ?_
      refine ah.no rfl rfl ?_
      refine ah.no rfl rfl ?_
      refine ah.no rfl rfl ?_
      refine ah.val rfl (aL (b:=true) rfl rfl) rfl ?_
      replace hzz105:=eH hB104 hzz105
      cases hzz105
      exact ah.nil ⟨_,rfl,(aa.put (aa.push rfl (aa.push rfl (aa.push rfl (aa.push rfl (aa.push rfl (aa.push rfl (aa.put (.refl _) (Less.eq (by rw [hB104]))))))))) (.refl _))⟩
     refine ah.bool hB104 ?_
     replace hzz105:=eO hB104 hzz105
     refine ah.val rfl (ae rfl) rfl ?_
     refine ah.val rfl (ae rfl) rfl ?_
     obtain ⟨z106,hzz106,hzz105⟩:=bind_some hzz105
     refine ah.val rfl (dA rfl rfl (jr (enc:=ak) H15 (i:=1) rfl hzz106 kH ny ((ai.len _).trans ib.symm))) rfl ?_
     refine ah.val rfl (dX rfl zq EN rfl) rfl ?_
     refine ah.val rfl (bV rfl (by rw [ai.cells]; exact dw EM rfl)) rfl ?_
     obtain ⟨z107,hzz107,hzz105⟩:=bind_some hzz105
     refine ah.ret rfl (aK rfl rfl) (nu E _ _ _ hzz107 _ _ (aC.eq .nil)) rfl ?_
     refine ah.val rfl (aL (b:=false) rfl rfl) rfl ?_
     cases hzz105
     exact ah.nil ⟨_,rfl,(aa.put (aa.push rfl (aa.push rfl (aa.push rfl (aa.push rfl (aa.push rfl (aa.push rfl (aa.put (.refl _) (Less.eq (by rw [hB104]))))))))) (.refl _))⟩
    refine ah.val rfl (aL (b:=true) rfl rfl) rfl ?_
    cases hzz102
    exact ah.nil ⟨_,rfl,(aa.put (aa.push rfl (aa.push rfl (aa.push rfl (aa.push rfl (aa.push rfl (aa.push rfl (aa.push rfl (aa.put (.refl _) (Less.eq (by rw [hB101])))))))))) (.refl _))⟩
   refine ah.bool hB101 ?_
   refine ah.no rfl rfl ?_
   refine ah.no rfl rfl ?_
   refine ah.no rfl rfl ?_
   refine ah.no rfl rfl ?_
   refine ah.no rfl rfl ?_
   refine ah.no rfl rfl ?_
   refine ah.no rfl rfl ?_
   refine ah.no rfl rfl ?_
   refine ah.no rfl rfl ?_
   refine ah.no rfl rfl ?_
   refine ah.no rfl rfl ?_
   refine ah.no rfl rfl ?_
   refine ah.no rfl rfl ?_
   refine ah.val rfl (aL (b:=false) rfl rfl) rfl ?_
   replace hzz102:=eO hB101 hzz102
   cases hzz102
   exact ah.nil ⟨_,rfl,(aa.put (aa.push rfl (aa.push rfl (aa.push rfl (aa.push rfl (aa.push rfl (aa.push rfl (aa.push rfl (aa.push rfl (aa.push rfl (aa.push rfl (aa.push rfl (aa.push rfl (aa.push rfl (aa.put (.refl _) (Less.eq (by rw [hB101])))))))))))))))) (.refl _))⟩
  refine ah.nil ?_
  refine az.cond rfl (fun hb108=>?_) (fun hb108=>?_)
  ·
   replace h:=eH hb108 h
   refine az.region E.obj rfl ?_
   refine ah.val rfl (aj rfl) rfl ?_
   refine ah.nil ?_
   exact ⟨(-1),_,_,S14,.refl _ _,.refl _,(aa.r rfl (aa.r rfl (aa.r rfl (aa.r rfl (aa.r rfl (aa.r rfl aa.nil)))))),H15.sl [0,1,2] rfl rfl,h⟩
  replace h:=eO hb108 h
  refine az.skip ?_
  exact ⟨z25,_,_,S14,.refl _ _,.refl _,(aa.r rfl (aa.r rfl (aa.r rfl (aa.r rfl (aa.r rfl (aa.r rfl aa.nil)))))),H15.sl [0,1,2] rfl rfl,h⟩
 replace h:=eO hb23 h
 refine az.exit ?_
 refine az.seq ?_
 refine az.region E.obj rfl ?_
 refine ah.val rfl (ae rfl) rfl ?_
 refine ah.val rfl (aj rfl) rfl ?_
 refine ah.nil ?_
 have hr:=Option.some.inj h
 subst hr
 exact az.ret ⟨_,rfl,rfl,iU (aC.grow H15 (i:=1) rfl .nil)⟩
set_option maxRecDepth 20000 in
set_option maxHeartbeats 4000000 in
theorem jq (n:Nat) (a1:(List Int)) (r:(List Int)) (h:bZ n a1=some r) (w2:AV):xZ R cfg.P 17 [w2] [.row 1 w2 ((a1).map (D.int .i64))] (fun v l=>l=[.row 1 w2 ((r).map (D.int .i64))]):=by
 unfold bZ at h
 refine xZ.of_wp (C:=vz) Tryz.func17 rfl Gn rfl (fun B0 S0 H0=>?_)
 replace H0:Has B0 S0 [.row 1 w2 ((a1).map (D.int .i64))]:=H0
 refine az.seq ?_
 refine az.region (jf E) rfl ?_
 refine ah.val rfl (ae rfl) rfl ?_
 refine ah.val rfl (mP H0 (i:=0) rfl rfl Dc) rfl ?_
 refine ah.val rfl (av rfl rfl fA) rfl ?_
 refine ah.val rfl (aj rfl) rfl ?_
 refine ah.val rfl (aj rfl) rfl ?_
 refine ah.nil ?_
 refine az.block ?_
 refine oC.start (B:=B0) (α:=(List Int) × Int × Int) (fun k a=>aP  k a.1 a.2.1 a.2.2=some r) (fun a=>[(0,w2),(2,(.d (.int .i64 a.2.1))),(3,(.d (.int .i64 a.2.2)))]) (fun a=>[.row 1 w2 ((a.1).map (D.int .i64))]) ?_ ?_ n ⟨⟨a1,0,(IntKind.wrap .i64 (((a1).length:Int) - 1))⟩,_,_,S0,.refl _ _,.refl _,(aa.r rfl (aa.r rfl (aa.r rfl aa.nil))),H0.sl [0] rfl rfl,h⟩
 ·
  intro a h; simp [aP] at h
 intro k15 a S10 H11 h
 obtain ⟨x12,x13,x14⟩:=a
 replace h:aP  (k15 + 1) x12 x13 x14=some r:=h
 replace H11:Has B0 S10 [.row 1 w2 ((x12).map (D.int .i64))]:=H11
 unfold aP at h
 refine az.seq ?_
 refine az.seq ?_
 refine az.region (jf E) rfl ?_
 refine ah.val rfl (ae rfl) rfl ?_
 refine ah.val rfl (ae rfl) rfl ?_
 refine ah.val rfl (av rfl rfl dR) rfl ?_
 refine ah.nil ?_
 refine az.cond rfl (fun hb16=>?_) (fun hb16=>?_)
 ·
  replace h:=eH hb16 h
  refine az.skip ?_
  refine az.seq ?_
  refine az.block ?_
  obtain ⟨z17,hzz17,h⟩:=bind_some h
  obtain ⟨z18,hzz18,h⟩:=bind_some h
  obtain ⟨z21,hzz21,h⟩:=bind_some h
  refine az.Dl (jf E) EC GX [(0,none),(2,none),(3,none)] (by kernel_rfl) [13,15] (by decide) [some w2,some (.d (.int .i64 x13)),some w2,some (.d (.int .i64 x14)),some w2,some (.d (.int .i64 x14)),some (iF w2 (Int.toNat x14) 0),some (.d (.int .i64 z17)),some w2,some (.d (.int .i64 x13)),some (iF w2 (Int.toNat x13) 0),some (.d (.int .i64 z18)),some (iF w2 (Int.toNat x13) 0),none,none,none] ?_
  refine ⟨[0,1,2,3,4,5,6,7,8,9,10,11,12],by kernel_rfl,?_,_,_,rfl,rfl,.step ?_⟩
  ·
   refine .v rfl rfl rfl rfl (ae rfl) ?_
   refine .v rfl rfl rfl rfl (ae rfl) ?_
   refine .v rfl rfl rfl rfl (ae rfl) ?_
   refine .v rfl rfl rfl rfl (ae rfl) ?_
   refine .v rfl rfl rfl rfl (ae rfl) ?_
   refine .v rfl rfl rfl rfl (ae rfl) ?_
   refine .cons rfl rfl rfl (.step ?_) ?_
   ·
    refine ah.jl (enc:=(D.int .i64)) H11 rfl (i:=0) rfl rfl rfl hzz17 pF Aw (((fun _=>rfl) _).trans vV.symm) rfl ?_
    exact ah.nil ⟨_,_,rfl,fun _ ht=>by cases ht; exact ⟨rfl,.refl _⟩⟩
   refine .cons rfl rfl rfl (.step ?_) ?_
   ·
    refine ah.rX H11 rfl (i:=0) rfl hzz17 rfl (dw uU rfl) rfl ?_
    exact ah.nil ⟨_,_,rfl,fun _ ht=>by cases ht; exact ⟨rfl,.refl _⟩⟩
   refine .v rfl rfl rfl rfl (ae rfl) ?_
   refine .v rfl rfl rfl rfl (ae rfl) ?_
   refine .cons rfl rfl rfl (.step ?_) ?_
   ·
    refine ah.jl (enc:=(D.int .i64)) H11 rfl (i:=0) rfl rfl rfl hzz18 pF Aw (((fun _=>rfl) _).trans vV.symm) rfl ?_
    exact ah.nil ⟨_,_,rfl,fun _ ht=>by cases ht; exact ⟨rfl,.refl _⟩⟩
   refine .cons rfl rfl rfl (.step ?_) ?_
   ·
    refine ah.rX H11 rfl (i:=0) rfl hzz18 rfl (dw uU rfl) rfl ?_
    exact ah.nil ⟨_,_,rfl,fun _ ht=>by cases ht; exact ⟨rfl,.refl _⟩⟩
   refine .cons rfl rfl rfl (.step ?_) ?_
   ·
    refine ah.jl (enc:=(D.int .i64)) H11 rfl (i:=0) rfl rfl rfl hzz18 pF Aw (((fun _=>rfl) _).trans vV.symm) rfl ?_
    exact ah.nil ⟨_,_,rfl,fun _ ht=>by cases ht; exact ⟨rfl,.refl _⟩⟩
   exact .nil
  refine ah.jA (enc:=(D.int .i64)) (z':=z17) (cv:=[(.int .i64 z17)]) H11 rfl (i:=0) rfl hzz18 rfl rfl rfl (.cons (.refl _) .nil) vV rfl Aw rfl rfl rfl (fun S24 H25=>?_)
  refine ah.nil ⟨_,.any,_,rfl,(fun _ ht=>by cases ht),_,(.q (.q (.q (.o (.w .any (.w (iF w2 (Int.toNat x14) 0) (.n .nil))))))),(fun _ ht=>by cases ht),?_⟩
  refine ⟨[2,3,14],by kernel_rfl,?_,_,_,rfl,rfl,.step ?_⟩
  ·
   refine .v rfl rfl rfl rfl (ae rfl) ?_
   refine .v rfl rfl rfl rfl (ae rfl) ?_
   refine .cons rfl rfl rfl (.step ?_) ?_
   ·
    refine ah.jl (enc:=(D.int .i64)) H25 rfl (i:=0) rfl rfl rfl hzz21 pF Aw (((fun _=>rfl) _).trans vV.symm) rfl ?_
    exact ah.nil ⟨_,_,rfl,fun _ ht=>by cases ht; exact ⟨rfl,.refl _⟩⟩
   exact .nil
  refine ah.jA (enc:=(D.int .i64)) (z':=z18) (cv:=[(.int .i64 z18)]) H25 rfl (i:=0) rfl hzz21 rfl rfl rfl (.cons (.refl _) .nil) vV rfl Aw rfl rfl rfl (fun S26 H27=>?_)
  refine ah.nil ⟨_,.any,_,rfl,(fun _ ht=>by cases ht),_,(.q (.q (.q (.o (.o (.o (.w .any .nil))))))),(fun _ ht=>by cases ht),?_⟩
  refine ⟨[],by kernel_rfl,?_,_,rfl,?_⟩
  ·
   exact .nil
  refine az.region (jf E) rfl ?_
  refine ah.val rfl (ae rfl) rfl ?_
  refine ah.val rfl (av rfl rfl cZ) rfl ?_
  refine ah.val rfl (ae rfl) rfl ?_
  refine ah.val rfl (av rfl rfl fA) rfl ?_
  refine ah.val rfl (aj rfl) rfl ?_
  refine ah.val rfl (aj rfl) rfl ?_
  refine ah.nil ?_
  exact ⟨⟨(gV (gV x12 x13 z17) x14 z18),(IntKind.wrap .i64 (x13 + 1)),(IntKind.wrap .i64 (x14 - 1))⟩,_,_,S26,.refl _ _,.refl _,(aa.r rfl (aa.r rfl (aa.r rfl aa.nil))),H27.sl [0] rfl rfl,h⟩
 replace h:=eO hb16 h
 refine az.exit ?_
 have hr:=Option.some.inj h
 subst hr
 exact ⟨_,rfl,rfl,_,_,_,.refl _,(.refl _),rfl,H11.sl [0] rfl rfl⟩
set_option maxRecDepth 20000 in
set_option maxHeartbeats 4000000 in
theorem rP (n:Nat) (a1:(List ai)) (a2:Int) (r:(List Int)) (h:iT n a1 a2=some r):dx R cfg.P 7 [(.sl ((a1).map ak) false),(.int .i64 a2)] (.d (.sl ((r).map (D.int .i64)) false)):=by
 unfold iT at h
 refine dx.of_wp (jf E).toObjOk (C:=vz) Tryz.func7 rfl G7 rfl ?_
 have H0:Has aH aH []:=Has.pure
 refine az.seq ?_
 refine az.region (jf E) rfl ?_
 refine ah.val rfl (aj rfl) rfl ?_
 refine ah.nil ?_
 refine az.seq ?_
 refine az.region (jf E) rfl ?_
 refine ah.val rfl (aj rfl) rfl ?_
 refine ah.nil ?_
 refine az.join (B:=aH) (α:=(List Int) × AV) (fun a=>dS n a.1=some r) (fun a=>[(5,a.2)]) (fun a=>[.row 1 a.2 ((a.1).map (D.int .i64))]) ?_ ?_
 ·
  intro a S3 H4 h
  obtain ⟨x5,v6⟩:=a
  replace h:dS n x5=some r:=h
  replace H4:Has aH S3 [.row 1 v6 ((x5).map (D.int .i64))]:=H4
  unfold dS at h
  refine az.seq ?_
  refine az.region (jf E) rfl ?_
  refine ah.val rfl (ae rfl) rfl ?_
  obtain ⟨z8,hzz8,h⟩:=bind_some h
  refine ah.Gv (ins:=[.row 1 v6 ((x5).map (D.int .i64))]) (more:=[]) (H4.sl [0] rfl rfl) rfl (aK rfl rfl) (jq E n _ _ hzz8 _) (.cons (.refl _) .nil) rfl ?_
  rintro _ S9 _ rfl H10
  replace H10:Has aH S9 [.row 1 v6 ((z8).map (D.int .i64))]:=H10
  refine ah.nil ?_
  refine az.seq ?_
  refine az.region (jf E) rfl ?_
  refine ah.val rfl (ae rfl) rfl ?_
  refine ah.val rfl (aj rfl) rfl ?_
  refine ah.nil ?_
  obtain ⟨SF4,HF4,hgF4⟩:=H10.freeze (jf E).toObjOk (i:=0) (l':=[]) rfl .nil
  refine az.ghost (hgF4 _ _ [(4,(.d (.sl ((z8).map (D.int .i64)) false))),(5,(.d (.sl ((z8).map (D.int .i64)) false))),(28,(.d (.sl ((z8).map (D.int .i64)) false))),(30,(.d (.sl ((z8).map (D.int .i64)) false)))] (.it rfl (.it rfl (.it rfl (.it rfl .nil))))) ?_
  have hr:=Option.some.inj h
  subst hr
  exact az.ret ⟨_,rfl,rfl,iU (aC.eq .nil)⟩
 refine az.block ?_
 have H35:=H0.Gj 1
 refine oC.start (B:=aH) (α:=Int × (List Int) × AV) (fun k a=>bR n a1 k a.1 a.2.1=some r) (fun a=>[(0,(.d (.sl ((a1).map ak) false))),(1,(.d (.int .i64 a.1))),(5,a.2.2)]) (fun a=>[.row 1 a.2.2 ((a.2.1).map (D.int .i64))]) ?_ ?_ n ⟨⟨a2,[],(.d .cB)⟩,_,_,aH,.refl _ _,.refl _,(aa.r rfl (aa.r rfl (aa.r rfl aa.nil))),H35.sl [0] rfl rfl,h⟩
 ·
  intro a h; simp [bR] at h
 intro k23 a S18 H19 h
 obtain ⟨x20,x21,v22⟩:=a
 replace h:bR n a1 (k23 + 1) x20 x21=some r:=h
 replace H19:Has aH S18 [.row 1 v22 ((x21).map (D.int .i64))]:=H19
 unfold bR at h
 refine az.seq ?_
 refine az.seq ?_
 refine az.region (jf E) rfl ?_
 refine ah.val rfl (ae rfl) rfl ?_
 refine ah.val rfl (av rfl rfl iP) rfl ?_
 refine ah.val rfl (ae rfl) rfl ?_
 refine ah.dI 5 14 (.d (.bool ((decide (0 ≤ x20)) && (decide (x20 < ((a1).length:Int)))))) ?_ ?_
 ·
  rcases Bool.eq_false_or_eq_true ((decide (0 ≤ x20))) with hB24 | hB24
  ·
   refine ah.bool hB24 ?_
   refine ah.val rfl (ae rfl) rfl ?_
   refine ah.val rfl (ae rfl) rfl ?_
   refine ah.val rfl (bY rfl uB) rfl ?_
   refine ah.val rfl (av rfl rfl dR) rfl ?_
   refine ah.val rfl (aL (b:=true) rfl rfl) rfl ?_
   exact ah.nil ⟨_,rfl,(aa.put (aa.push rfl (aa.push rfl (aa.push rfl (aa.push rfl (aa.put (.refl _) (Less.eq (by rw [hB24]))))))) (Less.eq (by rw [hB24]; rw [Bool.true_and])))⟩
  refine ah.bool hB24 ?_
  refine ah.no rfl rfl ?_
  refine ah.no rfl rfl ?_
  refine ah.no rfl rfl ?_
  refine ah.no rfl rfl ?_
  refine ah.val rfl (aL (b:=false) rfl rfl) rfl ?_
  exact ah.nil ⟨_,rfl,(aa.put (aa.push rfl (aa.push rfl (aa.push rfl (aa.push rfl (aa.put (.refl _) (Less.eq (by rw [hB24]))))))) (Less.eq (by rw [hB24]; rw [Bool.false_and])))⟩
 refine ah.nil ?_
 refine az.cond rfl (fun hb25=>?_) (fun hb25=>?_)
 ·
  replace h:=eH hb25 h
  refine az.skip ?_
  refine az.block ?_
  refine az.seq ?_
  refine az.region (jf E) rfl ?_
  refine ah.val rfl (ae rfl) rfl ?_
  refine ah.val rfl (ae rfl) rfl ?_
  refine ah.tT (enc:=(D.int .i64)) (xs:=[x20]) (vs:=[(.d (.int .i64 x20))]) (cs:=[[(.d (.int .i64 x20))]]) H19 rfl Cv pF Aw Fv vV rfl (by decide) (.cons rfl rfl .nil) rfl (.cons (.refl _) .nil) (fun _=>rfl) (fun _=>rfl) rfl rfl (fun v26 S27 H28=>?_)
  obtain ⟨SF7,HF7,hgF7⟩:=H28.freeze (jf E).toObjOk (i:=0) (l':=[.row 1 v22 ((x21).map (D.int .i64))]) rfl (.same .nil)
  refine ah.ghost (hgF7 _ _ [(0,(.d (.sl ((a1).map ak) false))),(1,(.d (.int .i64 x20))),(5,v22),(7,(.d (.int .i64 x20))),(8,(.d (.bool (decide (0 ≤ x20))))),(9,(.d (.bool (decide (0 ≤ x20))))),(14,(.d (.bool ((decide (0 ≤ x20)) && (decide (x20 < ((a1).length:Int))))))),(15,v22),(16,(.d (.int .i64 x20))),(17,(.d (.sl (([x20]).map (D.int .i64)) false)))] (.cons rfl (.refl _) (.cons rfl (.refl _) (.cons rfl (.refl _) (.cons rfl (.refl _) (.cons rfl (.refl _) (.cons rfl (.refl _) (.cons rfl (.refl _) (.cons rfl (.refl _) (.cons rfl (.refl _) (.it rfl .nil))))))))))) ?_
  obtain ⟨z29,hzz29,h⟩:=bind_some h
  refine ah.mV (xs:=(x21).map (D.int .i64)) (ys:=([x20]).map (D.int .i64)) (zs:=(z29).map (D.int .i64)) HF7 rfl rfl rfl (i:=0) rfl vV rfl Cv EL pF (gU hzz29) GI rfl (dP (enc:=(D.int .i64)) (fun _=>vV.symm) _) (oU (fun _=>rfl) _) rfl Fe rfl (l7 hzz29) (fun v30 S31 H32=>?_)
  refine ah.val rfl (aj rfl) rfl ?_
  refine ah.nil ?_
  refine az.seq ?_
  refine az.region (jf E) rfl ?_
  refine ah.val rfl (ae rfl) rfl ?_
  refine ah.val rfl (ae rfl) rfl ?_
  obtain ⟨z33,hzz33,h⟩:=bind_some h
  refine ah.val rfl (dA rfl rfl (gK (enc:=ak) hzz33 kH ny ((ai.len _).trans ib.symm))) rfl ?_
  refine ah.val rfl (dX rfl rU Aj rfl) rfl ?_
  refine ah.val rfl (bV rfl (by rw [ai.cells]; exact dw uU rfl)) rfl ?_
  refine ah.val rfl (aj rfl) rfl ?_
  refine ah.nil ?_
  refine az.seq ?_
  refine az.seq ?_
  refine az.region (jf E) rfl ?_
  refine ah.val rfl (ae rfl) rfl ?_
  refine ah.val rfl (ae rfl) rfl ?_
  refine ah.val rfl (av rfl rfl iP) rfl ?_
  refine ah.nil ?_
  refine az.cond rfl (fun hb34=>?_) (fun hb34=>?_)
  ·
   replace h:=eH hb34 h
   refine az.exit ?_
   exact ⟨⟨z29,v30⟩,_,_,S31,.refl _ _,.refl _,(aa.r rfl aa.nil),H32.sl [0] rfl rfl,h⟩
  replace h:=eO hb34 h
  refine az.skip ?_
  refine az.region (jf E) rfl ?_
  refine ah.val rfl (ae rfl) rfl ?_
  refine ah.val rfl (aj rfl) rfl ?_
  refine ah.nil ?_
  exact ⟨⟨z33.Parent,z29,v30⟩,_,_,S31,.refl _ _,.refl _,(aa.r rfl (aa.r rfl (aa.r rfl aa.nil))),H32.sl [0] rfl rfl,h⟩
 replace h:=eO hb25 h
 refine az.exit ?_
 exact ⟨⟨x21,v22⟩,_,_,S18,.refl _ _,.refl _,(aa.r rfl aa.nil),H19.sl [0] rfl rfl,h⟩
set_option maxRecDepth 20000 in
set_option maxHeartbeats 4000000 in
theorem nC (n:Nat) (a1:(List ai)) (a2:Int) (r:(List Seg)) (h:eZ n a1 a2=some r):dx R cfg.P 8 [(.sl ((a1).map ak) false),(.int .i64 a2)] (.d (.sl ((r).map aO) false)):=by
 unfold eZ at h
 refine dx.of_wp E.obj.toObjOk (C:=cfg) Tryz.func8 rfl GZ rfl ?_
 have H0:Has aH aH []:=Has.pure
 refine az.seq ?_
 refine az.region E.obj rfl ?_
 refine ah.val rfl (aj rfl) rfl ?_
 refine ah.nil ?_
 refine az.seq ?_
 refine az.region E.obj rfl ?_
 refine ah.val rfl (aj rfl) rfl ?_
 refine ah.nil ?_
 refine az.seq ?_
 refine az.seq ?_
 refine az.region E.obj rfl ?_
 refine ah.val rfl (ae rfl) rfl ?_
 refine ah.val rfl (ae rfl) rfl ?_
 obtain ⟨z3,hzz3,h⟩:=bind_some h
 refine ah.ret rfl (aK rfl rfl) (rP E _ _ _ _ hzz3 _ _ (aC.eq (aC.eq .nil))) rfl ?_
 refine ah.val rfl (bY rfl Dc) rfl ?_
 refine ah.val rfl (ae rfl) rfl ?_
 refine ah.nil ?_
 refine az.block ?_
 have H24:=H0.FC
 refine oC.start (B:=aH) (α:=(List Seg) × AV × Int) (fun k a=>cO a1 z3 k a.1 a.2.2=some r) (fun a=>[(0,(.d (.sl ((a1).map ak) false))),(5,a.2.1),(10,(.d (.sl ((z3).map (D.int .i64)) false))),(11,(.d (.int .i64 ((z3).length:Int)))),(12,(.d (.int .i64 a.2.2)))]) (fun a=>[.grow a.2.1 ((a.1).map aO)]) ?_ ?_ n ⟨⟨[],(.d .cB),0⟩,_,_,aH,.refl _ _,.refl _,(aa.r rfl (aa.r rfl (aa.r rfl (aa.r rfl (aa.r rfl aa.nil))))),H24.sl [0] rfl rfl,h⟩
 ·
  intro a h; simp [cO] at h
 intro k16 a S11 H12 h
 obtain ⟨x13,v14,x15⟩:=a
 replace h:cO a1 z3 (k16 + 1) x13 x15=some r:=h
 replace H12:Has aH S11 [.grow v14 ((x13).map aO)]:=H12
 unfold cO at h
 refine az.seq ?_
 refine az.region E.obj rfl ?_
 refine ah.val rfl (av rfl rfl dR) rfl ?_
 refine ah.nil ?_
 refine az.seq ?_
 refine az.cond rfl (fun hb17=>?_) (fun hb17=>?_)
 ·
  replace h:=eH hb17 h
  refine az.skip ?_
  refine az.seq ?_
  refine az.block ?_
  refine az.seq ?_
  refine az.region E.obj rfl ?_
  obtain ⟨z18,hzz18,h⟩:=bind_some h
  refine ah.val rfl (dA rfl rfl (gK (enc:=(D.int .i64)) hzz18 pF Aw (((fun _=>rfl) _).trans vV.symm))) rfl ?_
  refine ah.val rfl (bV rfl (dw uU rfl)) rfl ?_
  refine ah.val rfl (aj rfl) rfl ?_
  refine ah.nil ?_
  refine az.region E.obj rfl ?_
  refine ah.val rfl (ae rfl) rfl ?_
  refine ah.val rfl (ae rfl) rfl ?_
  refine ah.val rfl (ae rfl) rfl ?_
  obtain ⟨z19,hzz19,h⟩:=bind_some h
  refine ah.val rfl (dA rfl rfl (gK (enc:=ak) hzz19 kH ny ((ai.len _).trans ib.symm))) rfl ?_
  refine ah.val rfl (dX rfl zq EN rfl) rfl ?_
  refine ah.val rfl (bV rfl (by rw [ai.cells]; exact dw EM rfl)) rfl ?_
  obtain ⟨z20,hzz20,h⟩:=bind_some h
  refine ah.append (xs:=(x13).map aO) (ys:=(z19.dN).map aO) (zs:=(z20).map aO) H12 rfl rfl rfl (i:=0) rfl rfl DF FR uN (gU hzz20) Gz rfl (dP (enc:=aO) (fun z=>(Seg.len z).trans lX.symm) _) (dP (enc:=aO) (fun z=>(Seg.len z).trans lX.symm) _) GD rfl (l7 hzz20) (fun v21 S22 H23=>?_)
  refine ah.val rfl (aj rfl) rfl ?_
  refine ah.nil ?_
  refine az.region E.obj rfl ?_
  refine ah.val rfl (av rfl rfl cZ) rfl ?_
  refine ah.val rfl (ae rfl) rfl ?_
  refine ah.nil ?_
  exact ⟨⟨z20,v21,(IntKind.wrap .i64 (x15 + 1))⟩,_,_,S22,.refl _ _,.refl _,(aa.r rfl (aa.r rfl (aa.r rfl (aa.r rfl (aa.r rfl aa.nil))))),H23.sl [0] rfl rfl,h⟩
 replace h:=eO hb17 h
 refine az.exit ?_
 refine az.seq ?_
 refine az.region E.obj rfl ?_
 refine ah.val rfl (ae rfl) rfl ?_
 refine ah.val rfl (aj rfl) rfl ?_
 refine ah.nil ?_
 have hr:=Option.some.inj h
 subst hr
 exact az.ret ⟨_,rfl,rfl,iU (aC.grow H12 (i:=0) rfl .nil)⟩
set_option maxRecDepth 20000 in
set_option maxHeartbeats 4000000 in
theorem qo (n:Nat) (a1:Str) (r:Bool) (h:bK n a1=some r):dx R cfg.P 28 [(.str a1)] (.d (.bool r)):=by
 unfold bK at h
 refine dx.of_wp E.obj.toObjOk (C:=cfg) Tryz.func28 rfl Gu rfl ?_
 have H0:Has aH aH []:=Has.pure
 refine az.seq ?_
 refine az.region E.obj rfl ?_
 refine ah.val rfl (aj rfl) rfl ?_
 refine ah.nil ?_
 refine az.seq ?_
 refine az.region E.obj rfl ?_
 refine ah.val rfl (ae rfl) rfl ?_
 refine ah.val rfl (av rfl rfl BG) rfl ?_
 refine ah.val rfl (ae rfl) rfl ?_
 refine ah.dI 4 9 (.d (.bool ((!(a1 == [])) && (decide (((a1).length:Int) ≤ 16))))) ?_ ?_
 ·
  rcases Bool.eq_false_or_eq_true ((!(a1 == []))) with hB2 | hB2
  ·
   refine ah.bool hB2 ?_
   refine ah.val rfl (ae rfl) rfl ?_
   refine ah.val rfl (oQ rfl (BD F3) rfl) rfl ?_
   refine ah.val rfl (av rfl rfl uF) rfl ?_
   refine ah.val rfl (aL (b:=true) rfl rfl) rfl ?_
   exact ah.nil ⟨_,rfl,(aa.put (aa.push rfl (aa.push rfl (aa.push rfl (aa.put (.refl _) (Less.eq (by rw [hB2])))))) (Less.eq (by rw [hB2]; rw [Bool.true_and])))⟩
  refine ah.bool hB2 ?_
  refine ah.no rfl rfl ?_
  refine ah.no rfl rfl ?_
  refine ah.no rfl rfl ?_
  refine ah.val rfl (aL (b:=false) rfl rfl) rfl ?_
  exact ah.nil ⟨_,rfl,(aa.put (aa.push rfl (aa.push rfl (aa.push rfl (aa.put (.refl _) (Less.eq (by rw [hB2])))))) (Less.eq (by rw [hB2]; rw [Bool.false_and])))⟩
 refine ah.val rfl (ae rfl) rfl ?_
 obtain ⟨z4,hzz4,h⟩:=bind_some h
 refine ah.dI 4 14 (.d (.bool z4)) ?_ ?_
 ·
  rcases Bool.eq_false_or_eq_true (((!(a1 == [])) && (decide (((a1).length:Int) ≤ 16)))) with hB3 | hB3
  ·
   refine ah.bool hB3 ?_
   replace hzz4:=eH hB3 hzz4
   refine ah.val rfl (ae rfl) rfl ?_
   obtain ⟨z5,hzz5,hzz4⟩:=bind_some hzz4
   refine ah.ret rfl (aK rfl rfl) (E.strings_Trim_ok _ _ _ _ hzz5 _ _ (aC.eq (aC.eq .nil))) rfl ?_
   refine ah.val rfl (av rfl rfl pM) rfl ?_
   refine ah.val rfl (aL (b:=true) rfl rfl) rfl ?_
   cases hzz4
   exact ah.nil ⟨_,rfl,(aa.put (aa.push rfl (aa.push rfl (aa.push rfl (aa.put (.refl _) (Less.eq (by rw [hB3])))))) (.refl _))⟩
  refine ah.bool hB3 ?_
  refine ah.no rfl rfl ?_
  refine ah.no rfl rfl ?_
  refine ah.no rfl rfl ?_
  refine ah.val rfl (aL (b:=false) rfl rfl) rfl ?_
  replace hzz4:=eO hB3 hzz4
  cases hzz4
  exact ah.nil ⟨_,rfl,(aa.put (aa.push rfl (aa.push rfl (aa.push rfl (aa.put (.refl _) (Less.eq (by rw [hB3])))))) (.refl _))⟩
 refine ah.val rfl (aj rfl) rfl ?_
 refine ah.nil ?_
 have hr:=Option.some.inj h
 subst hr
 exact az.ret ⟨_,rfl,rfl,iU (aC.eq .nil)⟩
set_option maxRecDepth 20000 in
set_option maxHeartbeats 4000000 in
theorem nZ (n:Nat) (a1:Seg) (a2:Seg) (S0:St) (b3:Nat) (hb4:S0.H.get b3=some (.cells 0 [(.d (.int .i64 a2.Kind)),(.d (.str a2.Text))])) (r:Bool) (h:dY n a1 a2=some r):bT R cfg.P 29 [.d (aO a1),.ptr b3 0 0] S0 (fun o=>o=(none,.d (.bool r),S0)):=by
 unfold dY at h
 refine SpecS.of_wp (C:=cfg) Tryz.func29 rfl FL rfl (fun wf0=>?_)
 have H0:Has S0 S0 []:=Has.start wf0
 refine az.seq ?_
 refine az.region E.obj rfl ?_
 refine ah.box H0 rfl rfl rfl (Seg.gP _) rfl (fun b5 S6 H7=>?_)
 refine ah.val rfl (aj rfl) rfl ?_
 refine ah.nil ?_
 refine az.seq ?_
 refine az.region E.obj rfl ?_
 refine ah.val rfl (aA rfl nV Aj rfl) rfl ?_
 refine ah.val rfl (aZ H7 (i:=0) rfl rfl (bH uU rfl)) rfl ?_
 refine ah.val rfl (av rfl rfl yn) rfl ?_
 refine ah.val rfl (ae rfl) rfl ?_
 refine ah.dI 6 13 (.d (.bool ((a1.Kind != 0) && (a1.Text == a2.Text)))) ?_ ?_
 ·
  rcases Bool.eq_false_or_eq_true ((a1.Kind != 0)) with hB8 | hB8
  ·
   refine ah.bool hB8 ?_
   refine ah.val rfl (aA rfl Af Ca rfl) rfl ?_
   refine ah.val rfl (aZ H7 (i:=0) rfl rfl (bH AA rfl)) rfl ?_
   refine ah.val rfl (aA rfl Af Ca rfl) rfl ?_
   refine ah.val rfl (rT H7 hb4 rfl (bH AA rfl)) rfl ?_
   refine ah.val rfl (av rfl rfl pM) rfl ?_
   refine ah.val rfl (aL (b:=true) rfl rfl) rfl ?_
   exact ah.nil ⟨_,rfl,(aa.put (aa.push rfl (aa.push rfl (aa.push rfl (aa.push rfl (aa.push rfl (aa.put (.refl _) (Less.eq (by rw [hB8])))))))) (Less.eq (by rw [hB8]; rw [Bool.true_and])))⟩
  refine ah.bool hB8 ?_
  refine ah.no rfl rfl ?_
  refine ah.no rfl rfl ?_
  refine ah.no rfl rfl ?_
  refine ah.no rfl rfl ?_
  refine ah.no rfl rfl ?_
  refine ah.val rfl (aL (b:=false) rfl rfl) rfl ?_
  exact ah.nil ⟨_,rfl,(aa.put (aa.push rfl (aa.push rfl (aa.push rfl (aa.push rfl (aa.push rfl (aa.put (.refl _) (Less.eq (by rw [hB8])))))))) (Less.eq (by rw [hB8]; rw [Bool.false_and])))⟩
 refine ah.val rfl (aj rfl) rfl ?_
 refine ah.nil ?_
 have hr:=Option.some.inj h
 subst hr
 exact az.ret ⟨_,rfl,rfl,H7.keeps,iU (aC.eq .nil)⟩
set_option maxRecDepth 20000 in
set_option maxHeartbeats 4000000 in
theorem gp (n:Nat) (S0:St) (a1:(List Seg)) (fg3:Nat) (fc4:List AV) (p2:Seg→Option Bool) (hpp2:∀ S',dU S0 S'→S'.Wf→∀ (y0:Seg) (r:Bool),p2 y0=some r→bT R cfg.P fg3 ([.d (aO y0)] ++ fc4) S' (fun o=>o=(none,.d (.bool r),S'))) (r:Int) (h:bM n a1 p2=some r):bT R cfg.P 41 [.d (.sl ((a1).map aO) false),.fn fg3 fc4] S0 (fun o=>o=(none,.d (.int .i64 r),S0)):=by
 unfold bM at h
 refine SpecS.of_wp (C:=cfg) Tryz.func41 rfl FM rfl (fun wf0=>?_)
 have H0:Has S0 S0 []:=Has.start wf0
 refine az.seq ?_
 refine az.region E.obj rfl ?_
 refine ah.val rfl (aj rfl) rfl ?_
 refine ah.nil ?_
 refine az.seq ?_
 refine az.seq ?_
 refine az.region E.obj rfl ?_
 refine ah.val rfl (ae rfl) rfl ?_
 refine ah.val rfl (bY rfl Bv) rfl ?_
 refine ah.val rfl (ae rfl) rfl ?_
 refine ah.nil ?_
 refine az.block ?_
 refine oC.start (B:=S0) (α:=Int) (fun k a=>aI a1 p2 k a=some r) (fun a=>[(0,(.d (.sl ((a1).map aO) false))),(1,(.fn fg3 fc4)),(7,(.d (.int .i64 ((a1).length:Int)))),(8,(.d (.int .i64 a)))]) (fun a=>[]) ?_ ?_ n ⟨0,_,_,S0,.refl _ _,.refl _,(aa.r rfl (aa.r rfl (aa.r rfl (aa.r rfl aa.nil)))),H0.sl [] rfl rfl,h⟩
 ·
  intro a h; simp [aI] at h
 intro k13 x12 S10 H11 h
 replace h:aI a1 p2 (k13 + 1) x12=some r:=h
 replace H11:Has S0 S10 []:=H11
 unfold aI at h
 refine az.seq ?_
 refine az.region E.obj rfl ?_
 refine ah.val rfl (av rfl rfl dR) rfl ?_
 refine ah.nil ?_
 refine az.seq ?_
 refine az.cond rfl (fun hb14=>?_) (fun hb14=>?_)
 ·
  replace h:=eH hb14 h
  refine az.skip ?_
  refine az.seq ?_
  refine az.block ?_
  refine az.seq ?_
  refine az.region E.obj rfl ?_
  refine ah.val rfl (ae rfl) rfl ?_
  refine ah.val rfl (aj rfl) rfl ?_
  refine ah.nil ?_
  refine az.seq ?_
  refine az.region E.obj rfl ?_
  refine ah.val rfl (ae rfl) rfl ?_
  refine ah.val rfl (ae rfl) rfl ?_
  refine ah.val rfl (ae rfl) rfl ?_
  obtain ⟨z15,hzz15,h⟩:=bind_some h
  refine ah.val rfl (dA rfl rfl (gK (enc:=aO) hzz15 uN Br ((Seg.len _).trans lX.symm))) rfl ?_
  refine ah.val rfl (bV rfl (Seg.yc wB lX)) rfl ?_
  obtain ⟨z16,hzz16,h⟩:=bind_some h
  refine ah.ret rfl (sG rfl rfl) (hpp2 _ H11.keeps H11.wf _ _ hzz16) rfl ?_
  refine ah.nil ?_
  refine az.cond rfl (fun hb17=>?_) (fun hb17=>?_)
  ·
   replace h:=eH hb17 h
   refine az.seq ?_
   refine az.region E.obj rfl ?_
   refine ah.val rfl (ae rfl) rfl ?_
   refine ah.val rfl (aj rfl) rfl ?_
   refine ah.nil ?_
   have hr:=Option.some.inj h
   subst hr
   exact az.ret ⟨_,rfl,rfl,H11.keeps,iU (aC.eq .nil)⟩
  replace h:=eO hb17 h
  refine az.skip ?_
  refine az.region E.obj rfl ?_
  refine ah.val rfl (av rfl rfl cZ) rfl ?_
  refine ah.val rfl (ae rfl) rfl ?_
  refine ah.nil ?_
  exact ⟨(IntKind.wrap .i64 (x12 + 1)),_,_,S10,.refl _ _,.refl _,(aa.r rfl (aa.r rfl (aa.r rfl (aa.r rfl aa.nil)))),H11.sl [] rfl rfl,h⟩
 replace h:=eO hb14 h
 refine az.exit ?_
 refine az.seq ?_
 refine az.region E.obj rfl ?_
 refine ah.val rfl (aj rfl) rfl ?_
 refine ah.nil ?_
 have hr:=Option.some.inj h
 subst hr
 exact az.ret ⟨_,rfl,rfl,H11.keeps,iU (aC.eq .nil)⟩
set_option maxRecDepth 20000 in
set_option maxHeartbeats 4000000 in
theorem fE (n:Nat) (S0:St) (a1:(List Seg)) (fg3:Nat) (fc4:List AV) (p2:Seg→Option Bool) (hpp2:∀ S',dU S0 S'→S'.Wf→∀ (y0:Seg) (r:Bool),p2 y0=some r→bT R cfg.P fg3 ([.d (aO y0)] ++ fc4) S' (fun o=>o=(none,.d (.bool r),S'))) (r:Bool) (h:aU n a1 p2=some r):bT R cfg.P 30 [.d (.sl ((a1).map aO) false),.fn fg3 fc4] S0 (fun o=>o=(none,.d (.bool r),S0)):=by
 unfold aU at h
 refine SpecS.of_wp (C:=cfg) Tryz.func30 rfl Gp rfl (fun wf0=>?_)
 have H0:Has S0 S0 []:=Has.start wf0
 refine az.seq ?_
 refine az.region E.obj rfl ?_
 refine ah.val rfl (aj rfl) rfl ?_
 refine ah.nil ?_
 refine az.seq ?_
 refine az.region E.obj rfl ?_
 refine ah.val rfl (ae rfl) rfl ?_
 refine ah.val rfl (ae rfl) rfl ?_
 obtain ⟨z6,hzz6,h⟩:=bind_some h
 refine ah.ret rfl (aK rfl rfl) (bT.yS (gp E n S0 _ _ _ p2 (fun S' hk hw y5 r hr=>hpp2 S' (H0.keeps.trans hk) hw y5 r hr) _ hzz6) (.cons (.refl _) (.cons (.refl _) .nil))) rfl ?_
 refine ah.val rfl (av rfl rfl iP) rfl ?_
 refine ah.val rfl (aj rfl) rfl ?_
 refine ah.nil ?_
 have hr:=Option.some.inj h
 subst hr
 exact az.ret ⟨_,rfl,rfl,H0.keeps,iU (aC.eq .nil)⟩
set_option maxRecDepth 20000 in
set_option maxHeartbeats 4000000 in
theorem kP (n:Nat) (a1:(List Seg)) (r:Bool) (h:bF n a1=some r):dx R cfg.P 24 [(.sl ((a1).map aO) false)] (.d (.bool r)):=by
 unfold bF at h
 refine dx.of_wp E.obj.toObjOk (C:=cfg) Tryz.func24 rfl Gy rfl ?_
 have H0:Has aH aH []:=Has.pure
 refine az.seq ?_
 refine az.region E.obj rfl ?_
 refine ah.val rfl (aj rfl) rfl ?_
 refine ah.nil ?_
 refine az.seq ?_
 refine az.seq ?_
 refine az.region E.obj rfl ?_
 refine ah.val rfl (ae rfl) rfl ?_
 refine ah.val rfl (bY rfl Bv) rfl ?_
 refine ah.val rfl (av rfl rfl kX) rfl ?_
 refine ah.nil ?_
 refine az.cond rfl (fun hb2=>?_) (fun hb2=>?_)
 ·
  replace h:=eH hb2 h
  refine az.seq ?_
  refine az.region E.obj rfl ?_
  refine ah.val rfl (aj rfl) rfl ?_
  refine ah.nil ?_
  have hr:=Option.some.inj h
  subst hr
  exact az.ret ⟨_,rfl,rfl,iU (aC.eq .nil)⟩
 replace h:=eO hb2 h
 refine az.skip ?_
 refine az.seq ?_
 refine az.seq ?_
 refine az.region E.obj rfl ?_
 refine ah.val rfl (ae rfl) rfl ?_
 refine ah.val rfl (bY rfl Bv) rfl ?_
 refine ah.val rfl (ae rfl) rfl ?_
 refine ah.nil ?_
 refine az.block ?_
 refine oC.start (B:=aH) (α:=Int) (fun k a=>bC n a1 k a=some r) (fun a=>[(0,(.d (.sl ((a1).map aO) false))),(10,(.d (.sl ((a1).map aO) false))),(11,(.d (.int .i64 ((a1).length:Int)))),(12,(.d (.int .i64 a)))]) (fun a=>[]) ?_ ?_ n ⟨0,_,_,aH,.refl _ _,.refl _,(aa.r rfl (aa.r rfl (aa.r rfl (aa.r rfl aa.nil)))),H0.sl [] rfl rfl,h⟩
 ·
  intro a h; simp [bC] at h
 intro k11 x10 S8 H9 h
 replace h:bC n a1 (k11 + 1) x10=some r:=h
 replace H9:Has aH S8 []:=H9
 unfold bC at h
 refine az.seq ?_
 refine az.region E.obj rfl ?_
 refine ah.val rfl (av rfl rfl dR) rfl ?_
 refine ah.nil ?_
 refine az.seq ?_
 refine az.cond rfl (fun hb12=>?_) (fun hb12=>?_)
 ·
  replace h:=eH hb12 h
  refine az.skip ?_
  refine az.seq ?_
  refine az.block ?_
  refine az.seq ?_
  refine az.region E.obj rfl ?_
  refine ah.val rfl (ae rfl) rfl ?_
  obtain ⟨z13,hzz13,h⟩:=bind_some h
  refine ah.val rfl (dA rfl rfl (gK (enc:=aO) hzz13 uN Br ((Seg.len _).trans lX.symm))) rfl ?_
  refine ah.val rfl (bV rfl (Seg.yc wB lX)) rfl ?_
  refine ah.alloc H9 rfl Fq qb rfl rfl (fun b14 S15 H16=>?_)
  refine ah.val rfl (aj rfl) rfl ?_
  refine ah.store H16 (i:=0) rfl rfl rfl rfl (Seg.gP _) rfl lX rfl Br rfl rfl rfl (fun S17 H18=>?_)
  refine ah.nil ?_
  refine az.seq ?_
  refine az.region E.obj rfl ?_
  refine ah.val rfl (ae rfl) rfl ?_
  refine ah.val rfl (ae rfl) rfl ?_
  refine ah.val rfl (bY rfl Bv) rfl ?_
  refine ah.val rfl (av rfl rfl fA) rfl ?_
  refine ah.val rfl (av rfl rfl eB) rfl ?_
  refine ah.val rfl (aj rfl) rfl ?_
  refine ah.nil ?_
  refine az.seq ?_
  refine az.block ?_
  refine az.seq ?_
  refine az.region E.obj rfl ?_
  refine ah.val rfl (aA rfl Af Ca rfl) rfl ?_
  refine ah.val rfl (aZ H18 (i:=0) rfl rfl (bH AA rfl)) rfl ?_
  obtain ⟨z19,hzz19,h⟩:=bind_some h
  refine ah.ret rfl (aK rfl rfl) (qo E _ _ _ hzz19 _ _ (aC.eq .nil)) rfl ?_
  refine ah.val rfl (gJ rfl) rfl ?_
  refine ah.val rfl (ae rfl) rfl ?_
  refine ah.dI 4 31 (.d (.bool ((!z19) || (decide (z13.Kind < 0))))) ?_ ?_
  ·
   rcases Bool.eq_false_or_eq_true ((!z19)) with hB20 | hB20
   ·
    refine ah.bool hB20 ?_
    refine ah.no rfl rfl ?_
    refine ah.no rfl rfl ?_
    refine ah.no rfl rfl ?_
    refine ah.val rfl (aL (b:=true) rfl rfl) rfl ?_
    exact ah.nil ⟨_,rfl,(aa.put (aa.push rfl (aa.push rfl (aa.push rfl (aa.put (.refl _) (Less.eq (by rw [hB20])))))) (Less.eq (by rw [hB20]; rw [Bool.true_or])))⟩
   refine ah.bool hB20 ?_
   refine ah.val rfl (aA rfl nV Aj rfl) rfl ?_
   refine ah.val rfl (aZ H18 (i:=0) rfl rfl (bH uU rfl)) rfl ?_
   refine ah.val rfl (av rfl rfl dR) rfl ?_
   refine ah.val rfl (aL (b:=false) rfl rfl) rfl ?_
   exact ah.nil ⟨_,rfl,(aa.put (aa.push rfl (aa.push rfl (aa.push rfl (aa.put (.refl _) (Less.eq (by rw [hB20])))))) (Less.eq (by rw [hB20]; rw [Bool.false_or])))⟩
  refine ah.val rfl (ae rfl) rfl ?_
  refine ah.dI 4 36 (.d (.bool (((!z19) || (decide (z13.Kind < 0))) || (decide (3 < z13.Kind))))) ?_ ?_
  ·
   rcases Bool.eq_false_or_eq_true (((!z19) || (decide (z13.Kind < 0)))) with hB21 | hB21
   ·
    refine ah.bool hB21 ?_
    refine ah.no rfl rfl ?_
    refine ah.no rfl rfl ?_
    refine ah.no rfl rfl ?_
    refine ah.val rfl (aL (b:=true) rfl rfl) rfl ?_
    exact ah.nil ⟨_,rfl,(aa.put (aa.push rfl (aa.push rfl (aa.push rfl (aa.put (.refl _) (Less.eq (by rw [hB21])))))) (Less.eq (by rw [hB21]; rw [Bool.true_or])))⟩
   refine ah.bool hB21 ?_
   refine ah.val rfl (aA rfl nV Aj rfl) rfl ?_
   refine ah.val rfl (aZ H18 (i:=0) rfl rfl (bH uU rfl)) rfl ?_
   refine ah.val rfl (av rfl rfl kX) rfl ?_
   refine ah.val rfl (aL (b:=false) rfl rfl) rfl ?_
   exact ah.nil ⟨_,rfl,(aa.put (aa.push rfl (aa.push rfl (aa.push rfl (aa.put (.refl _) (Less.eq (by rw [hB21])))))) (Less.eq (by rw [hB21]; rw [Bool.false_or])))⟩
  refine ah.val rfl (aj rfl) rfl ?_
  refine ah.nil ?_
  refine az.cond rfl (fun hb22=>?_) (fun hb22=>?_)
  ·
   replace h:=eH hb22 h
   refine az.seq ?_
   refine az.region E.obj rfl ?_
   refine ah.val rfl (aj rfl) rfl ?_
   refine ah.nil ?_
   have hr:=Option.some.inj h
   subst hr
   exact az.ret ⟨_,rfl,rfl,iU (aC.eq .nil)⟩
  replace h:=eO hb22 h
  refine az.seq ?_
  refine az.region E.obj rfl ?_
  refine ah.val rfl (aA rfl nV Aj rfl) rfl ?_
  refine ah.val rfl (aZ H18 (i:=0) rfl rfl (bH uU rfl)) rfl ?_
  refine ah.val rfl (av rfl rfl iP) rfl ?_
  refine ah.val rfl (ae rfl) rfl ?_
  refine ah.dI 3 44 (.d (.bool ((decide (2 ≤ z13.Kind)) && (!(x10 == (IntKind.wrap .i64 (((a1).length:Int) - 1))))))) ?_ ?_
  ·
   rcases Bool.eq_false_or_eq_true ((decide (2 ≤ z13.Kind))) with hB23 | hB23
   ·
    refine ah.bool hB23 ?_
    refine ah.val rfl (ae rfl) rfl ?_
    refine ah.val rfl (gJ rfl) rfl ?_
    refine ah.val rfl (aL (b:=true) rfl rfl) rfl ?_
    exact ah.nil ⟨_,rfl,(aa.put (aa.push rfl (aa.push rfl (aa.put (.refl _) (Less.eq (by rw [hB23]))))) (Less.eq (by rw [hB23]; rw [Bool.true_and])))⟩
   refine ah.bool hB23 ?_
   refine ah.no rfl rfl ?_
   refine ah.no rfl rfl ?_
   refine ah.val rfl (aL (b:=false) rfl rfl) rfl ?_
   exact ah.nil ⟨_,rfl,(aa.put (aa.push rfl (aa.push rfl (aa.put (.refl _) (Less.eq (by rw [hB23]))))) (Less.eq (by rw [hB23]; rw [Bool.false_and])))⟩
  refine ah.val rfl (aj rfl) rfl ?_
  refine ah.nil ?_
  refine az.cond rfl (fun hb24=>?_) (fun hb24=>?_)
  ·
   replace h:=eH hb24 h
   refine az.seq ?_
   refine az.region E.obj rfl ?_
   refine ah.val rfl (aj rfl) rfl ?_
   refine ah.nil ?_
   have hr:=Option.some.inj h
   subst hr
   exact az.ret ⟨_,rfl,rfl,iU (aC.eq .nil)⟩
  replace h:=eO hb24 h
  refine az.skip ?_
  refine az.seq ?_
  refine az.region E.obj rfl ?_
  refine ah.val rfl (nI rfl) rfl ?_
  refine ah.val rfl (aj rfl) rfl ?_
  refine ah.nil ?_
  refine az.seq ?_
  refine az.region E.obj rfl ?_
  refine ah.val rfl (aA rfl nV Aj rfl) rfl ?_
  refine ah.val rfl (aZ H18 (i:=0) rfl rfl (bH uU rfl)) rfl ?_
  refine ah.val rfl (av rfl rfl yn) rfl ?_
  refine ah.val rfl (ae rfl) rfl ?_
  obtain ⟨z26,hzz26,h⟩:=bind_some h
  refine ah.dI 6 55 (.d (.bool z26)) ?_ ?_
  ·
   rcases Bool.eq_false_or_eq_true ((z13.Kind != 0)) with hB25 | hB25
   ·
    refine ah.bool hB25 ?_
    replace hzz26:=eH hB25 hzz26
    refine ah.val rfl (ae rfl) rfl ?_
    refine ah.val rfl (ae rfl) rfl ?_
    obtain ⟨z27,hzz27,hzz26⟩:=bind_some hzz26
    refine ah.val rfl (zH rfl rfl uN FZ (fun z=>(Seg.len z).trans lX.symm) hzz27) rfl ?_
    refine ah.val rfl (ae rfl) rfl ?_
    obtain ⟨z29,hzz29,hzz26⟩:=bind_some hzz26
    refine ah.ret rfl (aK rfl rfl) (bT.yS (fE E n S17 _ _ _ (fun y28=>dY n y28 z13) (fun S' hk hw y28 r hr=>nZ E n y28 z13 S' _ (hk.H _ _ (H18.at (i:=0) rfl)) r hr) _ hzz29) (.cons (.refl _) (.cons (.refl _) .nil))) rfl ?_
    refine ah.val rfl (aL (b:=true) rfl rfl) rfl ?_
    cases hzz26
    exact ah.nil ⟨_,rfl,(aa.put (aa.push rfl (aa.push rfl (aa.push rfl (aa.push rfl (aa.push rfl (aa.put (.refl _) (Less.eq (by rw [hB25])))))))) (.refl _))⟩
   refine ah.bool hB25 ?_
   refine ah.no rfl rfl ?_
   refine ah.no rfl rfl ?_
   refine ah.no rfl rfl ?_
   refine ah.no rfl rfl ?_
   refine ah.no rfl rfl ?_
   refine ah.val rfl (aL (b:=false) rfl rfl) rfl ?_
   replace hzz26:=eO hB25 hzz26
   cases hzz26
   exact ah.nil ⟨_,rfl,(aa.put (aa.push rfl (aa.push rfl (aa.push rfl (aa.push rfl (aa.push rfl (aa.put (.refl _) (Less.eq (by rw [hB25])))))))) (.refl _))⟩
  refine ah.nil ?_
  refine az.cond rfl (fun hb30=>?_) (fun hb30=>?_)
  ·
   replace h:=eH hb30 h
   refine az.seq ?_
   refine az.region E.obj rfl ?_
   refine ah.val rfl (aj rfl) rfl ?_
   refine ah.nil ?_
   have hr:=Option.some.inj h
   subst hr
   exact az.ret ⟨_,rfl,rfl,iU (aC.eq .nil)⟩
  replace h:=eO hb30 h
  refine az.skip ?_
  refine az.region E.obj rfl ?_
  refine ah.val rfl (av rfl rfl cZ) rfl ?_
  refine ah.val rfl (ae rfl) rfl ?_
  refine ah.nil ?_
  exact ⟨(IntKind.wrap .i64 (x10 + 1)),_,_,S17,.refl _ _,.refl _,(aa.r rfl (aa.r rfl (aa.r rfl (aa.r rfl aa.nil)))),H18.sl [] rfl rfl,h⟩
 replace h:=eO hb12 h
 refine az.exit ?_
 refine az.seq ?_
 refine az.region E.obj rfl ?_
 refine ah.val rfl (aj rfl) rfl ?_
 refine ah.nil ?_
 have hr:=Option.some.inj h
 subst hr
 exact az.ret ⟨_,rfl,rfl,iU (aC.eq .nil)⟩
set_option maxRecDepth 20000 in
set_option maxHeartbeats 4000000 in
theorem iq (n:Nat) (a1:(List ai)) (r:Bool) (h:dh n a1=some r):dx R cfg.P 12 [(.sl ((a1).map ak) false)] (.d (.bool r)):=by
 unfold dh at h
 refine dx.of_wp E.obj.toObjOk (C:=cfg) Tryz.func12 rfl Gx rfl ?_
 have H0:Has aH aH []:=Has.pure
 refine az.seq ?_
 refine az.region E.obj rfl ?_
 refine ah.val rfl (aj rfl) rfl ?_
 refine ah.nil ?_
 refine az.seq ?_
 refine az.seq ?_
 refine az.region E.obj rfl ?_
 refine ah.val rfl (ae rfl) rfl ?_
 refine ah.val rfl (bY rfl uB) rfl ?_
 refine ah.val rfl (av rfl rfl dR) rfl ?_
 refine ah.val rfl (ae rfl) rfl ?_
 refine ah.dI 4 14 (.d (.bool ((decide (((a1).length:Int) < 1)) || (decide (16 < ((a1).length:Int)))))) ?_ ?_
 ·
  rcases Bool.eq_false_or_eq_true ((decide (((a1).length:Int) < 1))) with hB2 | hB2
  ·
   refine ah.bool hB2 ?_
   refine ah.no rfl rfl ?_
   refine ah.no rfl rfl ?_
   refine ah.no rfl rfl ?_
   refine ah.val rfl (aL (b:=true) rfl rfl) rfl ?_
   exact ah.nil ⟨_,rfl,(aa.put (aa.push rfl (aa.push rfl (aa.push rfl (aa.put (.refl _) (Less.eq (by rw [hB2])))))) (Less.eq (by rw [hB2]; rw [Bool.true_or])))⟩
  refine ah.bool hB2 ?_
  refine ah.val rfl (ae rfl) rfl ?_
  refine ah.val rfl (bY rfl uB) rfl ?_
  refine ah.val rfl (av rfl rfl kX) rfl ?_
  refine ah.val rfl (aL (b:=false) rfl rfl) rfl ?_
  exact ah.nil ⟨_,rfl,(aa.put (aa.push rfl (aa.push rfl (aa.push rfl (aa.put (.refl _) (Less.eq (by rw [hB2])))))) (Less.eq (by rw [hB2]; rw [Bool.false_or])))⟩
 refine ah.nil ?_
 refine az.cond rfl (fun hb3=>?_) (fun hb3=>?_)
 ·
  replace h:=eH hb3 h
  refine az.seq ?_
  refine az.region E.obj rfl ?_
  refine ah.val rfl (aj rfl) rfl ?_
  refine ah.nil ?_
  have hr:=Option.some.inj h
  subst hr
  exact az.ret ⟨_,rfl,rfl,iU (aC.eq .nil)⟩
 replace h:=eO hb3 h
 refine az.skip ?_
 refine az.seq ?_
 refine az.region E.obj rfl ?_
 refine ah.makeMap D.str (D.int .i64) H0 rfl DW rfl (fun b4 S5 H6=>?_)
 refine ah.val rfl (aj rfl) rfl ?_
 refine ah.nil ?_
 refine az.seq ?_
 refine az.seq ?_
 refine az.region E.obj rfl ?_
 refine ah.val rfl (ae rfl) rfl ?_
 refine ah.val rfl (bY rfl uB) rfl ?_
 refine ah.val rfl (ae rfl) rfl ?_
 refine ah.nil ?_
 refine az.block ?_
 refine oC.start (B:=aH) (α:=(List (Str × Int)) × Int) (fun k a=>bN n a1 k a.1 a.2=some r) (fun a=>[(0,(.d (.sl ((a1).map ak) false))),(3,(.map b4)),(16,(.d (.sl ((a1).map ak) false))),(17,(.d (.int .i64 ((a1).length:Int)))),(18,(.d (.int .i64 a.2)))]) (fun a=>[.map b4 (mD D.str (D.int .i64) a.1)]) ?_ ?_ n ⟨⟨[],0⟩,_,_,S5,.refl _ _,.refl _,(aa.r rfl (aa.r rfl (aa.r rfl (aa.r rfl (aa.r rfl aa.nil))))),H6.sl [0] rfl rfl,h⟩
 ·
  intro a h; simp [bN] at h
 intro k17 a S13 H14 h
 obtain ⟨x15,x16⟩:=a
 replace h:bN n a1 (k17 + 1) x15 x16=some r:=h
 replace H14:Has aH S13 [.map b4 (mD D.str (D.int .i64) x15)]:=H14
 unfold bN at h
 refine az.seq ?_
 refine az.region E.obj rfl ?_
 refine ah.val rfl (av rfl rfl dR) rfl ?_
 refine ah.nil ?_
 refine az.seq ?_
 refine az.cond rfl (fun hb18=>?_) (fun hb18=>?_)
 ·
  replace h:=eH hb18 h
  refine az.skip ?_
  refine az.seq ?_
  refine az.block ?_
  refine az.seq ?_
  refine az.region E.obj rfl ?_
  refine ah.val rfl (ae rfl) rfl ?_
  obtain ⟨z19,hzz19,h⟩:=bind_some h
  refine ah.val rfl (dA rfl rfl (gK (enc:=ak) hzz19 kH ny ((ai.len _).trans ib.symm))) rfl ?_
  refine ah.val rfl (bV rfl (ai.yc BS ib)) rfl ?_
  refine ah.alloc H14 rfl Fy tZ rfl rfl (fun b20 S21 H22=>?_)
  refine ah.val rfl (aj rfl) rfl ?_
  refine ah.store H22 (i:=0) rfl rfl rfl rfl (ai.gP _) rfl ib rfl ny rfl rfl rfl (fun S23 H24=>?_)
  refine ah.nil ?_
  refine az.seq ?_
  refine az.region E.obj rfl ?_
  refine ah.val rfl (aA rfl mH Ca rfl) rfl ?_
  refine ah.val rfl (aZ H24 (i:=0) rfl rfl (bH AA rfl)) rfl ?_
  refine ah.val rfl (dF (cs:=[(.d (.int .i64 0)),(.d (.str z19.Name))]) qb rfl (jG) (eQ rfl rfl rfl rfl rfl)) rfl ?_
  refine ah.less (Less.agg' (d:=aO (Seg.mk 0 z19.Name)) (aJ.eq rfl (aJ.eq rfl .nil)) ((Seg.eq _).trans rfl)) ?_
  refine ah.val rfl (bB (vs:=[(.d (aO (Seg.mk 0 z19.Name)))]) (ds:=[(aO (Seg.mk 0 z19.Name))]) DF uN wB qb lX rfl (by decide) (.cons rfl (Seg.len _) .nil) rfl (by intro d hd; simp only [List.mem_cons,List.not_mem_nil,or_false] at hd; rcases hd with rfl <;> exact Seg.agg _) rfl) rfl ?_
  obtain ⟨z25,hzz25,h⟩:=bind_some h
  refine ah.ret rfl (aK rfl rfl) (kP E _ _ _ hzz25 _ _ (aC.kz rfl (.lH _ _) .nil)) rfl ?_
  refine ah.val rfl (aj rfl) rfl ?_
  refine ah.nil ?_
  refine az.seq ?_
  refine az.seq ?_
  refine az.region E.obj rfl ?_
  refine ah.val rfl (ae rfl) rfl ?_
  refine ah.val rfl (gJ rfl) rfl ?_
  refine ah.val rfl (ae rfl) rfl ?_
  refine ah.dI 6 36 (.d (.bool ((!z25) || (decide (0 < (gq x15 z19.Name 0)))))) ?_ ?_
  ·
   rcases Bool.eq_false_or_eq_true ((!z25)) with hB26 | hB26
   ·
    refine ah.bool hB26 ?_
    refine ah.no rfl rfl ?_
    refine ah.no rfl rfl ?_
    refine ah.no rfl rfl ?_
    refine ah.no rfl rfl ?_
    refine ah.no rfl rfl ?_
    refine ah.val rfl (aL (b:=true) rfl rfl) rfl ?_
    exact ah.nil ⟨_,rfl,(aa.put (aa.push rfl (aa.push rfl (aa.push rfl (aa.push rfl (aa.push rfl (aa.put (.refl _) (Less.eq (by rw [hB26])))))))) (Less.eq (by rw [hB26]; rw [Bool.true_or])))⟩
   refine ah.bool hB26 ?_
   refine ah.val rfl (ae rfl) rfl ?_
   refine ah.val rfl (aA rfl mH Ca rfl) rfl ?_
   refine ah.val rfl (aZ H24 (i:=0) rfl rfl (bH AA rfl)) rfl ?_
   refine ah.val rfl (oW (ek:=D.str) (ev:=(D.int .i64)) (k:=z19.Name) (z:=0) H24 (i:=1) rfl rfl rfl DW (zM Gg) Fv) rfl ?_
   refine ah.val rfl (av rfl rfl kX) rfl ?_
   refine ah.val rfl (aL (b:=false) rfl rfl) rfl ?_
   exact ah.nil ⟨_,rfl,(aa.put (aa.push rfl (aa.push rfl (aa.push rfl (aa.push rfl (aa.push rfl (aa.put (.refl _) (Less.eq (by rw [hB26])))))))) (Less.eq (by rw [hB26]; rw [Bool.false_or])))⟩
  refine ah.val rfl (ae rfl) rfl ?_
  refine ah.dI 4 41 (.d (.bool (((!z25) || (decide (0 < (gq x15 z19.Name 0)))) || (decide (z19.Parent < (-1)))))) ?_ ?_
  ·
   rcases Bool.eq_false_or_eq_true (((!z25) || (decide (0 < (gq x15 z19.Name 0))))) with hB27 | hB27
   ·
    refine ah.bool hB27 ?_
    refine ah.no rfl rfl ?_
    refine ah.no rfl rfl ?_
    refine ah.no rfl rfl ?_
    refine ah.val rfl (aL (b:=true) rfl rfl) rfl ?_
    exact ah.nil ⟨_,rfl,(aa.put (aa.push rfl (aa.push rfl (aa.push rfl (aa.put (.refl _) (Less.eq (by rw [hB27])))))) (Less.eq (by rw [hB27]; rw [Bool.true_or])))⟩
   refine ah.bool hB27 ?_
   refine ah.val rfl (aA rfl rU Aj rfl) rfl ?_
   refine ah.val rfl (aZ H24 (i:=0) rfl rfl (bH uU rfl)) rfl ?_
   refine ah.val rfl (av rfl rfl dR) rfl ?_
   refine ah.val rfl (aL (b:=false) rfl rfl) rfl ?_
   exact ah.nil ⟨_,rfl,(aa.put (aa.push rfl (aa.push rfl (aa.push rfl (aa.put (.refl _) (Less.eq (by rw [hB27])))))) (Less.eq (by rw [hB27]; rw [Bool.false_or])))⟩
  refine ah.val rfl (ae rfl) rfl ?_
  refine ah.dI 5 47 (.d (.bool ((((!z25) || (decide (0 < (gq x15 z19.Name 0)))) || (decide (z19.Parent < (-1)))) || (decide (x16 ≤ z19.Parent))))) ?_ ?_
  ·
   rcases Bool.eq_false_or_eq_true ((((!z25) || (decide (0 < (gq x15 z19.Name 0)))) || (decide (z19.Parent < (-1))))) with hB28 | hB28
   ·
    refine ah.bool hB28 ?_
    refine ah.no rfl rfl ?_
    refine ah.no rfl rfl ?_
    refine ah.no rfl rfl ?_
    refine ah.no rfl rfl ?_
    refine ah.val rfl (aL (b:=true) rfl rfl) rfl ?_
    exact ah.nil ⟨_,rfl,(aa.put (aa.push rfl (aa.push rfl (aa.push rfl (aa.push rfl (aa.put (.refl _) (Less.eq (by rw [hB28]))))))) (Less.eq (by rw [hB28]; rw [Bool.true_or])))⟩
   refine ah.bool hB28 ?_
   refine ah.val rfl (aA rfl rU Aj rfl) rfl ?_
   refine ah.val rfl (aZ H24 (i:=0) rfl rfl (bH uU rfl)) rfl ?_
   refine ah.val rfl (ae rfl) rfl ?_
   refine ah.val rfl (av rfl rfl iP) rfl ?_
   refine ah.val rfl (aL (b:=false) rfl rfl) rfl ?_
   exact ah.nil ⟨_,rfl,(aa.put (aa.push rfl (aa.push rfl (aa.push rfl (aa.push rfl (aa.put (.refl _) (Less.eq (by rw [hB28]))))))) (Less.eq (by rw [hB28]; rw [Bool.false_or])))⟩
  refine ah.val rfl (ae rfl) rfl ?_
  obtain ⟨z30,hzz30,h⟩:=bind_some h
  refine ah.dI 6 54 (.d (.bool z30)) ?_ ?_
  ·
   rcases Bool.eq_false_or_eq_true (((((!z25) || (decide (0 < (gq x15 z19.Name 0)))) || (decide (z19.Parent < (-1)))) || (decide (x16 ≤ z19.Parent)))) with hB29 | hB29
   ·
    refine ah.bool hB29 ?_
    refine ah.no rfl rfl ?_
    refine ah.no rfl rfl ?_
    refine ah.no rfl rfl ?_
    refine ah.no rfl rfl ?_
    refine ah.no rfl rfl ?_
    refine ah.val rfl (aL (b:=true) rfl rfl) rfl ?_
    replace hzz30:=eH hB29 hzz30
    cases hzz30
    exact ah.nil ⟨_,rfl,(aa.put (aa.push rfl (aa.push rfl (aa.push rfl (aa.push rfl (aa.push rfl (aa.put (.refl _) (Less.eq (by rw [hB29])))))))) (.refl _))⟩
   refine ah.bool hB29 ?_
   replace hzz30:=eO hB29 hzz30
   refine ah.val rfl (ae rfl) rfl ?_
   refine ah.val rfl (ae rfl) rfl ?_
   obtain ⟨z31,hzz31,hzz30⟩:=bind_some hzz30
   refine ah.ret rfl (aK rfl rfl) (nC E _ _ _ _ hzz31 _ _ (aC.eq (aC.eq .nil))) rfl ?_
   obtain ⟨z32,hzz32,hzz30⟩:=bind_some hzz30
   refine ah.ret rfl (aK rfl rfl) (kP E _ _ _ hzz32 _ _ (aC.eq .nil)) rfl ?_
   refine ah.val rfl (gJ rfl) rfl ?_
   refine ah.val rfl (aL (b:=false) rfl rfl) rfl ?_
   cases hzz30
   exact ah.nil ⟨_,rfl,(aa.put (aa.push rfl (aa.push rfl (aa.push rfl (aa.push rfl (aa.push rfl (aa.put (.refl _) (Less.eq (by rw [hB29])))))))) (.refl _))⟩
  refine ah.nil ?_
  refine az.cond rfl (fun hb33=>?_) (fun hb33=>?_)
  ·
   replace h:=eH hb33 h
   refine az.seq ?_
   refine az.region E.obj rfl ?_
   refine ah.val rfl (aj rfl) rfl ?_
   refine ah.nil ?_
   have hr:=Option.some.inj h
   subst hr
   exact az.ret ⟨_,rfl,rfl,iU (aC.eq .nil)⟩
  replace h:=eO hb33 h
  refine az.skip ?_
  refine az.region E.obj rfl ?_
  refine ah.val rfl (ae rfl) rfl ?_
  refine ah.val rfl (aA rfl mH Ca rfl) rfl ?_
  refine ah.val rfl (aZ H24 (i:=0) rfl rfl (bH AA rfl)) rfl ?_
  refine ah.val rfl (oW (ek:=D.str) (ev:=(D.int .i64)) (k:=z19.Name) (z:=0) H24 (i:=1) rfl rfl rfl DW (zM Gg) Fv) rfl ?_
  refine ah.val rfl (av rfl rfl cZ) rfl ?_
  refine ah.mapUpdate (ek:=D.str) (ev:=(D.int .i64)) (k:=z19.Name) (v:=(IntKind.wrap .i64 ((gq x15 z19.Name 0) + 1))) H24 rfl (i:=1) rfl rfl rfl rfl DW (zM Gg) (fun S34 H35=>?_)
  refine ah.nil ?_
  refine az.region E.obj rfl ?_
  refine ah.val rfl (av rfl rfl cZ) rfl ?_
  refine ah.val rfl (ae rfl) rfl ?_
  refine ah.nil ?_
  exact ⟨⟨(pO x15 z19.Name (IntKind.wrap .i64 ((gq x15 z19.Name 0) + 1))),(IntKind.wrap .i64 (x16 + 1))⟩,_,_,S34,.refl _ _,.refl _,(aa.r rfl (aa.r rfl (aa.r rfl (aa.r rfl (aa.r rfl aa.nil))))),H35.sl [1] rfl rfl,h⟩
 replace h:=eO hb18 h
 refine az.exit ?_
 refine az.seq ?_
 refine az.region E.obj rfl ?_
 refine ah.val rfl (aj rfl) rfl ?_
 refine ah.nil ?_
 have hr:=Option.some.inj h
 subst hr
 exact az.ret ⟨_,rfl,rfl,iU (aC.eq .nil)⟩
set_option maxRecDepth 20000 in
set_option maxHeartbeats 4000000 in
theorem eY (n:Nat) (S0:St) (a1:(List ai)) (fg3:Nat) (fc4:List AV) (p2:ai→Option Bool) (hpp2:∀ S',dU S0 S'→S'.Wf→∀ (y0:ai) (r:Bool),p2 y0=some r→bT R cfg.P fg3 ([.d (ak y0)] ++ fc4) S' (fun o=>o=(none,.d (.bool r),S'))) (r:Int) (h:bE n a1 p2=some r):bT R cfg.P 18 [.d (.sl ((a1).map ak) false),.fn fg3 fc4] S0 (fun o=>o=(none,.d (.int .i64 r),S0)):=by
 unfold bE at h
 refine SpecS.of_wp (C:=cfg) Tryz.func18 rfl F5 rfl (fun wf0=>?_)
 have H0:Has S0 S0 []:=Has.start wf0
 refine az.seq ?_
 refine az.region E.obj rfl ?_
 refine ah.val rfl (aj rfl) rfl ?_
 refine ah.nil ?_
 refine az.seq ?_
 refine az.seq ?_
 refine az.region E.obj rfl ?_
 refine ah.val rfl (ae rfl) rfl ?_
 refine ah.val rfl (bY rfl uB) rfl ?_
 refine ah.val rfl (ae rfl) rfl ?_
 refine ah.nil ?_
 refine az.block ?_
 refine oC.start (B:=S0) (α:=Int) (fun k a=>aB a1 p2 k a=some r) (fun a=>[(0,(.d (.sl ((a1).map ak) false))),(1,(.fn fg3 fc4)),(7,(.d (.int .i64 ((a1).length:Int)))),(8,(.d (.int .i64 a)))]) (fun a=>[]) ?_ ?_ n ⟨0,_,_,S0,.refl _ _,.refl _,(aa.r rfl (aa.r rfl (aa.r rfl (aa.r rfl aa.nil)))),H0.sl [] rfl rfl,h⟩
 ·
  intro a h; simp [aB] at h
 intro k13 x12 S10 H11 h
 replace h:aB a1 p2 (k13 + 1) x12=some r:=h
 replace H11:Has S0 S10 []:=H11
 unfold aB at h
 refine az.seq ?_
 refine az.region E.obj rfl ?_
 refine ah.val rfl (av rfl rfl dR) rfl ?_
 refine ah.nil ?_
 refine az.seq ?_
 refine az.cond rfl (fun hb14=>?_) (fun hb14=>?_)
 ·
  replace h:=eH hb14 h
  refine az.skip ?_
  refine az.seq ?_
  refine az.block ?_
  refine az.seq ?_
  refine az.region E.obj rfl ?_
  refine ah.val rfl (ae rfl) rfl ?_
  refine ah.val rfl (aj rfl) rfl ?_
  refine ah.nil ?_
  refine az.seq ?_
  refine az.region E.obj rfl ?_
  refine ah.val rfl (ae rfl) rfl ?_
  refine ah.val rfl (ae rfl) rfl ?_
  refine ah.val rfl (ae rfl) rfl ?_
  obtain ⟨z15,hzz15,h⟩:=bind_some h
  refine ah.val rfl (dA rfl rfl (gK (enc:=ak) hzz15 kH ny ((ai.len _).trans ib.symm))) rfl ?_
  refine ah.val rfl (bV rfl (ai.yc BS ib)) rfl ?_
  obtain ⟨z16,hzz16,h⟩:=bind_some h
  refine ah.ret rfl (sG rfl rfl) (hpp2 _ H11.keeps H11.wf _ _ hzz16) rfl ?_
  refine ah.nil ?_
  refine az.cond rfl (fun hb17=>?_) (fun hb17=>?_)
  ·
   replace h:=eH hb17 h
   refine az.seq ?_
   refine az.region E.obj rfl ?_
   refine ah.val rfl (ae rfl) rfl ?_
   refine ah.val rfl (aj rfl) rfl ?_
   refine ah.nil ?_
   have hr:=Option.some.inj h
   subst hr
   exact az.ret ⟨_,rfl,rfl,H11.keeps,iU (aC.eq .nil)⟩
  replace h:=eO hb17 h
  refine az.skip ?_
  refine az.region E.obj rfl ?_
  refine ah.val rfl (av rfl rfl cZ) rfl ?_
  refine ah.val rfl (ae rfl) rfl ?_
  refine ah.nil ?_
  exact ⟨(IntKind.wrap .i64 (x12 + 1)),_,_,S10,.refl _ _,.refl _,(aa.r rfl (aa.r rfl (aa.r rfl (aa.r rfl aa.nil)))),H11.sl [] rfl rfl,h⟩
 replace h:=eO hb14 h
 refine az.exit ?_
 refine az.seq ?_
 refine az.region E.obj rfl ?_
 refine ah.val rfl (aj rfl) rfl ?_
 refine ah.nil ?_
 have hr:=Option.some.inj h
 subst hr
 exact az.ret ⟨_,rfl,rfl,H11.keeps,iU (aC.eq .nil)⟩
set_option maxRecDepth 20000 in
set_option maxHeartbeats 4000000 in
theorem qf (n:Nat) (a1:ai) (a2:Str) (S0:St) (b3:Nat) (hb4:S0.H.get b3=some (.cells 0 [(.d (.str a2))])) (r:Bool) (h:fC n a1 a2=some r):bT R cfg.P 19 [.d (ak a1),.ptr b3 0 0] S0 (fun o=>o=(none,.d (.bool r),S0)):=by
 unfold fC at h
 refine SpecS.of_wp (C:=cfg) Tryz.func19 rfl FU rfl (fun wf0=>?_)
 have H0:Has S0 S0 []:=Has.start wf0
 refine az.seq ?_
 refine az.region E.obj rfl ?_
 refine ah.box H0 rfl rfl rfl (ai.gP _) rfl (fun b5 S6 H7=>?_)
 refine ah.val rfl (aj rfl) rfl ?_
 refine ah.nil ?_
 refine az.seq ?_
 refine az.region E.obj rfl ?_
 refine ah.val rfl (aA rfl mH Ca rfl) rfl ?_
 refine ah.val rfl (aZ H7 (i:=0) rfl rfl (bH AA rfl)) rfl ?_
 refine ah.val rfl (rT H7 hb4 rfl (bH AA rfl)) rfl ?_
 refine ah.val rfl (av rfl rfl pM) rfl ?_
 refine ah.val rfl (aj rfl) rfl ?_
 refine ah.nil ?_
 have hr:=Option.some.inj h
 subst hr
 exact az.ret ⟨_,rfl,rfl,H7.keeps,iU (aC.eq .nil)⟩
set_option maxRecDepth 20000 in
set_option maxHeartbeats 4000000 in
theorem uj (n:Nat) (a1:(List ai)) (a2:Str) (r:Int) (h:iZ n a1 a2=some r):dx R cfg.P 10 [(.sl ((a1).map ak) false),(.str a2)] (.d (.int .i64 r)):=by
 unfold iZ at h
 refine dx.of_wp E.obj.toObjOk (C:=cfg) Tryz.func10 rfl F9 rfl ?_
 have H0:Has aH aH []:=Has.pure
 refine az.seq ?_
 refine az.region E.obj rfl ?_
 refine ah.box H0 rfl rfl rfl rfl rfl (fun b3 S4 H5=>?_)
 refine ah.val rfl (aj rfl) rfl ?_
 refine ah.nil ?_
 refine az.seq ?_
 refine az.region E.obj rfl ?_
 refine ah.val rfl (ae rfl) rfl ?_
 refine ah.val rfl (nI rfl) rfl ?_
 obtain ⟨z7,hzz7,h⟩:=bind_some h
 refine ah.ret rfl (aK rfl rfl) (bT.yS (eY E n S4 _ _ _ (fun y6=>fC n y6 a2) (fun S' hk hw y6 r hr=>qf E n y6 a2 S' _ (hk.H _ _ (H5.at (i:=0) rfl)) r hr) _ hzz7) (.cons (.refl _) (.cons (.refl _) .nil))) rfl ?_
 refine ah.val rfl (aj rfl) rfl ?_
 refine ah.nil ?_
 have hr:=Option.some.inj h
 subst hr
 exact az.ret ⟨_,rfl,rfl,iU (aC.eq .nil)⟩
set_option maxRecDepth 20000 in
set_option maxHeartbeats 4000000 in
theorem qx (n:Nat) (a1:(List ai)) (a2:(List Str)) (r:(Int × (List BL) × Bool)) (h:gH n a1 a2=some r):dx R cfg.P 13 [(.sl ((a1).map ak) false),(.sl ((a2).map D.str) false)] (.tup [.d (.int .i64 r.1),.d (.sl ((r.2.1).map wY) false),.d (.bool r.2.2)]):=by
 unfold gH at h
 refine dx.of_wp E.obj.toObjOk (C:=cfg) Tryz.func13 rfl F7 rfl ?_
 have H0:Has aH aH []:=Has.pure
 refine az.seq ?_
 refine az.region E.obj rfl ?_
 refine ah.val rfl (aj rfl) rfl ?_
 refine ah.val rfl (aj rfl) rfl ?_
 refine ah.val rfl (aj rfl) rfl ?_
 refine ah.nil ?_
 refine az.seq ?_
 refine az.seq ?_
 refine az.region E.obj rfl ?_
 refine ah.val rfl (ae rfl) rfl ?_
 obtain ⟨z3,hzz3,h⟩:=bind_some h
 refine ah.ret rfl (aK rfl rfl) (iq E _ _ _ hzz3 _ _ (aC.eq .nil)) rfl ?_
 refine ah.val rfl (gJ rfl) rfl ?_
 refine ah.nil ?_
 refine az.cond rfl (fun hb4=>?_) (fun hb4=>?_)
 ·
  replace h:=eH hb4 h
  refine az.seq ?_
  refine az.region E.obj rfl ?_
  refine ah.val rfl (aj rfl) rfl ?_
  refine ah.val rfl (aj rfl) rfl ?_
  refine ah.val rfl (aj rfl) rfl ?_
  refine ah.nil ?_
  have hr:=Option.some.inj h
  subst hr
  exact az.ret ⟨_,rfl,rfl,FB (vs:=[(.d (.int .i64 (-1))),(.d .cB),(.d (.bool false))]) (ds:=[(.int .i64 (-1)),(.sl (([]).map wY) false),(.bool false)]) (aC.eq (aC.kz rfl (.cB false) (aC.eq .nil)))⟩
 replace h:=eO hb4 h
 refine az.skip ?_
 refine az.seq ?_
 refine az.region E.obj rfl ?_
 refine ah.val rfl (aj rfl) rfl ?_
 refine ah.nil ?_
 refine az.seq ?_
 refine az.seq ?_
 refine az.region E.obj rfl ?_
 refine ah.val rfl (ae rfl) rfl ?_
 refine ah.val rfl (bY rfl uB) rfl ?_
 refine ah.val rfl (ae rfl) rfl ?_
 refine ah.nil ?_
 refine az.block ?_
 have H24:=H0.FC
 refine oC.start (B:=aH) (α:=(List (List Seg)) × AV × Int) (fun k a=>dC n a1 k a.1 a.2.2=some r) (fun a=>[(0,(.d (.sl ((a1).map ak) false))),(1,(.d (.sl ((a2).map D.str) false))),(7,a.2.1),(13,(.d (.int .i64 ((a1).length:Int)))),(14,(.d (.int .i64 a.2.2)))]) (fun a=>[.grow a.2.1 ((a.1).map (yF aO))]) ?_ ?_ n ⟨⟨[],(.d .cB),0⟩,_,_,aH,.refl _ _,.refl _,(aa.r rfl (aa.r rfl (aa.r rfl (aa.r rfl (aa.r rfl aa.nil))))),H24.sl [0] rfl rfl,h⟩
 ·
  intro a h; simp [dC] at h
 intro k17 a S12 H13 h
 obtain ⟨x14,v15,x16⟩:=a
 replace h:dC n a1 (k17 + 1) x14 x16=some r:=h
 replace H13:Has aH S12 [.grow v15 ((x14).map (yF aO))]:=H13
 unfold dC at h
 refine az.seq ?_
 refine az.region E.obj rfl ?_
 refine ah.val rfl (av rfl rfl dR) rfl ?_
 refine ah.nil ?_
 refine az.seq ?_
 refine az.cond rfl (fun hb18=>?_) (fun hb18=>?_)
 ·
  replace h:=eH hb18 h
  refine az.skip ?_
  refine az.seq ?_
  refine az.block ?_
  refine az.seq ?_
  refine az.region E.obj rfl ?_
  refine ah.val rfl (ae rfl) rfl ?_
  refine ah.val rfl (aj rfl) rfl ?_
  refine ah.nil ?_
  refine az.region E.obj rfl ?_
  refine ah.val rfl (ae rfl) rfl ?_
  refine ah.val rfl (ae rfl) rfl ?_
  refine ah.val rfl (ae rfl) rfl ?_
  obtain ⟨z19,hzz19,h⟩:=bind_some h
  refine ah.ret rfl (aK rfl rfl) (nC E _ _ _ _ hzz19 _ _ (aC.eq (aC.eq .nil))) rfl ?_
  refine ah.val rfl (bB (vs:=[(.d (.sl ((z19).map aO) false))]) (ds:=[(.sl ((z19).map aO) false)]) E8 E9 EM Ga DU rfl (by decide) (.cons rfl rfl .nil) rfl (by intro d hd; simp only [List.mem_cons,List.not_mem_nil,or_false] at hd; rcases hd with rfl <;> rfl) rfl) rfl ?_
  obtain ⟨z20,hzz20,h⟩:=bind_some h
  refine ah.append (xs:=(x14).map (yF aO)) (ys:=([z19]).map (yF aO)) (zs:=(z20).map (yF aO)) H13 rfl rfl rfl (i:=0) rfl rfl E8 FT E9 (gU hzz20) FQ rfl (dP (enc:=(yF aO)) (fun _=>DU.symm) _) (dP (enc:=(yF aO)) (fun _=>DU.symm) _) Gb rfl (l7 hzz20) (fun v21 S22 H23=>?_)
  refine ah.val rfl (aj rfl) rfl ?_
  refine ah.nil ?_
  refine az.region E.obj rfl ?_
  refine ah.val rfl (av rfl rfl cZ) rfl ?_
  refine ah.val rfl (ae rfl) rfl ?_
  refine ah.nil ?_
  exact ⟨⟨z20,v21,(IntKind.wrap .i64 (x16 + 1))⟩,_,_,S22,.refl _ _,.refl _,(aa.r rfl (aa.r rfl (aa.r rfl (aa.r rfl (aa.r rfl aa.nil))))),H23.sl [0] rfl rfl,h⟩
 replace h:=eO hb18 h
 refine az.exit ?_
 refine az.seq ?_
 cases h
set_option maxRecDepth 20000 in
set_option maxHeartbeats 4000000 in
theorem ql (n:Nat) (a1:(List ai)) (a2:Str) (a3:(List BL)) (r:((List Str) × Bool)) (h:gB n a1 a2 a3=some r):dx R cfg.P 14 [(.sl ((a1).map ak) false),(.str a2),(.sl ((a3).map wY) false)] (.tup [.d (.sl ((r.1).map D.str) false),.d (.bool r.2)]):=by
 unfold gB at h
 refine dx.of_wp E.obj.toObjOk (C:=cfg) Tryz.func14 rfl Gm rfl ?_
 have H0:Has aH aH []:=Has.pure
 refine az.seq ?_
 refine az.region E.obj rfl ?_
 refine ah.val rfl (aj rfl) rfl ?_
 refine ah.val rfl (aj rfl) rfl ?_
 refine ah.nil ?_
 refine az.seq ?_
 refine az.region E.obj rfl ?_
 refine ah.val rfl (ae rfl) rfl ?_
 refine ah.val rfl (ae rfl) rfl ?_
 obtain ⟨z4,hzz4,h⟩:=bind_some h
 refine ah.ret rfl (aK rfl rfl) (uj E _ _ _ _ hzz4 _ _ (aC.eq (aC.eq .nil))) rfl ?_
 refine ah.val rfl (aj rfl) rfl ?_
 refine ah.nil ?_
 refine az.seq ?_
 refine az.seq ?_
 refine az.region E.obj rfl ?_
 refine ah.val rfl (ae rfl) rfl ?_
 refine ah.val rfl (av rfl rfl dR) rfl ?_
 refine ah.val rfl (ae rfl) rfl ?_
 obtain ⟨z6,hzz6,h⟩:=bind_some h
 refine ah.dI 4 18 (.d (.bool z6)) ?_ ?_
 ·
  rcases Bool.eq_false_or_eq_true ((decide (z4 < 0))) with hB5 | hB5
  ·
   refine ah.bool hB5 ?_
   refine ah.no rfl rfl ?_
   refine ah.no rfl rfl ?_
   refine ah.no rfl rfl ?_
   refine ah.val rfl (aL (b:=true) rfl rfl) rfl ?_
   replace hzz6:=eH hB5 hzz6
   cases hzz6
   exact ah.nil ⟨_,rfl,(aa.put (aa.push rfl (aa.push rfl (aa.push rfl (aa.put (.refl _) (Less.eq (by rw [hB5])))))) (.refl _))⟩
  refine ah.bool hB5 ?_
  replace hzz6:=eO hB5 hzz6
  refine ah.val rfl (ae rfl) rfl ?_
  obtain ⟨z7,hzz7,hzz6⟩:=bind_some hzz6
  refine ah.ret rfl (aK rfl rfl) (iq E _ _ _ hzz7 _ _ (aC.eq .nil)) rfl ?_
  refine ah.val rfl (gJ rfl) rfl ?_
  refine ah.val rfl (aL (b:=false) rfl rfl) rfl ?_
  cases hzz6
  exact ah.nil ⟨_,rfl,(aa.put (aa.push rfl (aa.push rfl (aa.push rfl (aa.put (.refl _) (Less.eq (by rw [hB5])))))) (.refl _))⟩
 refine ah.nil ?_
 refine az.cond rfl (fun hb8=>?_) (fun hb8=>?_)
 ·
  replace h:=eH hb8 h
  refine az.seq ?_
  refine az.region E.obj rfl ?_
  refine ah.val rfl (aj rfl) rfl ?_
  refine ah.val rfl (aj rfl) rfl ?_
  refine ah.nil ?_
  have hr:=Option.some.inj h
  subst hr
  exact az.ret ⟨_,rfl,rfl,FB (vs:=[(.d .cB),(.d (.bool false))]) (ds:=[(.sl (([]).map D.str) false),(.bool false)]) (aC.kz rfl (.cB false) (aC.eq .nil))⟩
 replace h:=eO hb8 h
 refine az.skip ?_
 refine az.seq ?_
 cases h
set_option maxRecDepth 20000 in
set_option maxHeartbeats 4000000 in
theorem uu (n:Nat) (a1:cz) (a2:Int) (a3:Int) (a4:Int) (r:Bool) (h:dD n a1 a2 a3 a4=some r):dx R cfg.P 4 [(fG a1),(.int .i64 a2),(.int .i64 a3),(.int .i64 a4)] (.d (.bool r)):=by
 unfold dD at h
 refine dx.of_wp (eX E).toObjOk (C:=lT) Tryz.func4 rfl G9 rfl ?_
 have H0:Has aH aH []:=Has.pure
 refine az.seq ?_
 refine az.region (eX E) rfl ?_
 refine ah.box H0 rfl rfl rfl (cz.gP _) rfl (fun b5 S6 H7=>?_)
 refine ah.val rfl (aj rfl) rfl ?_
 refine ah.nil ?_
 refine az.seq ?_
 refine az.region (eX E) rfl ?_
 refine ah.val rfl (aZ H7 (i:=0) rfl rfl (oJ FV GH rfl)) rfl ?_
 refine ah.less (Less.agg' (d:=fG a1) (aJ.eq rfl (aJ.eq rfl (aJ.eq rfl (aJ.eq rfl (aJ.eq rfl (aJ.eq rfl (aJ.eq rfl .nil))))))) ((cz.eq _).trans rfl)) ?_
 obtain ⟨z8,hzz8,h⟩:=bind_some h
 refine ah.ret rfl (aK rfl rfl) (je E _ _ _ hzz8 _ _ (aC.eq .nil)) rfl ?_
 refine ah.val rfl (aj rfl) rfl ?_
 refine ah.nil ?_
 refine az.seq ?_
 refine az.seq ?_
 refine az.region (eX E) rfl ?_
 refine ah.val rfl (ae rfl) rfl ?_
 obtain ⟨z9,hzz9,h⟩:=bind_some h
 refine ah.ret rfl (aK rfl rfl) (iq E _ _ _ hzz9 _ _ (aC.eq .nil)) rfl ?_
 refine ah.val rfl (gJ rfl) rfl ?_
 refine ah.nil ?_
 refine az.cond rfl (fun hb10=>?_) (fun hb10=>?_)
 ·
  replace h:=eH hb10 h
  refine az.seq ?_
  refine az.region (eX E) rfl ?_
  refine ah.val rfl (aj rfl) rfl ?_
  refine ah.nil ?_
  have hr:=Option.some.inj h
  subst hr
  exact az.ret ⟨_,rfl,rfl,iU (aC.eq .nil)⟩
 replace h:=eO hb10 h
 refine az.skip ?_
 refine az.seq ?_
 refine az.region (eX E) rfl ?_
 refine ah.val rfl (pq DV kH BS) rfl ?_
 refine ah.val rfl (ae rfl) rfl ?_
 have H11:=H7.EK 8
 obtain ⟨z12,hzz12,h⟩:=bind_some h
 refine ah.mV (xs:=([]).map ak) (ys:=(z8).map ak) (zs:=(z12).map ak) H11 rfl rfl rfl (i:=0) rfl ib rfl sM zu kH (gU hzz12) DR rfl (dP (enc:=ak) (fun z=>(ai.len z).trans ib.symm) _) (oU (fun x=>ai.flat x) _) rfl zJ rfl (l7 hzz12) (fun v13 S14 H15=>?_)
 refine ah.val rfl (aj rfl) rfl ?_
 refine ah.nil ?_
 refine az.seq ?_
 refine az.region (eX E) rfl ?_
 refine ah.val rfl (ae rfl) rfl ?_
 refine ah.val rfl (ae rfl) rfl ?_
 refine ah.val rfl (mP H15 (i:=0) rfl rfl uB) rfl ?_
 refine ah.val rfl (av rfl rfl fA) rfl ?_
 obtain ⟨z16,hzz16,h⟩:=bind_some h
 refine ah.ret rfl (aK rfl rfl) (bf E _ _ _ _ _ hzz16 _ _ (aC.eq (aC.eq (aC.eq .nil)))) rfl ?_
 refine ah.val rfl (aj rfl) rfl ?_
 refine ah.nil ?_
 refine az.seq ?_
 refine az.region (eX E) rfl ?_
 refine ah.val rfl (ae rfl) rfl ?_
 obtain ⟨z17,hzz17,h⟩:=bind_some h
 refine ah.ret rfl (aK rfl rfl) (bf E _ _ _ _ _ hzz17 _ _ (aC.eq (aC.eq (aC.eq .nil)))) rfl ?_
 refine ah.val rfl (av rfl rfl cZ) rfl ?_
 refine ah.val rfl (aj rfl) rfl ?_
 refine ah.nil ?_
 refine az.join (B:=aH) (α:=(List ai) × AV) (fun a=>aM n z8 a.1=some r) (fun a=>[(9,(.d (.sl ((z8).map ak) false))),(10,a.2)]) (fun a=>[.row 8 a.2 ((a.1).map ak)]) ?_ ?_
 ·
  intro a S18 H19 h
  obtain ⟨x20,v21⟩:=a
  replace h:aM n z8 x20=some r:=h
  replace H19:Has aH S18 [.row 8 v21 ((x20).map ak)]:=H19
  unfold aM at h
  refine az.seq ?_
  obtain ⟨SF5,HF5,hgF5⟩:=H19.freeze (eX E).toObjOk (i:=0) (l':=[]) rfl .nil
  refine az.ghost (hgF5 _ _ [(9,(.d (.sl ((z8).map ak) false))),(10,(.d (.sl ((x20).map ak) false)))] (.cons rfl (.refl _) (.it rfl .nil))) ?_
  refine az.region (eX E) rfl ?_
  refine ah.val rfl (ae rfl) rfl ?_
  refine ah.val rfl (bB (vs:=[(.d (.str [97]))]) (ds:=[(.str [97])]) Eh EE AA GM FD rfl (by decide) (.cons rfl rfl .nil) rfl (by intro d hd; simp only [List.mem_cons,List.not_mem_nil,or_false] at hd; rcases hd with rfl <;> rfl) rfl) rfl ?_
  obtain ⟨z23,hzz23,h⟩:=bind_some h
  refine ah.ret rfl (aK rfl rfl) (qx E _ _ _ _ hzz23 _ _ (aC.eq (aC.kz rfl (.lH _ _) .nil))) rfl ?_
  refine ah.val rfl (ae rfl) rfl ?_
  refine ah.val rfl (gX rfl rfl) rfl ?_
  refine ah.val rfl (gX rfl rfl) rfl ?_
  refine ah.val rfl (gX rfl rfl) rfl ?_
  refine ah.val rfl (aj rfl) rfl ?_
  refine ah.val rfl (aj rfl) rfl ?_
  refine ah.val rfl (aj rfl) rfl ?_
  refine ah.nil ?_
  refine az.seq ?_
  refine az.region (eX E) rfl ?_
  refine ah.val rfl (ae rfl) rfl ?_
  refine ah.val rfl (ae rfl) rfl ?_
  obtain ⟨z24,hzz24,h⟩:=bind_some h
  refine ah.val rfl (dA rfl rfl (gK (enc:=ak) hzz24 kH ny ((ai.len _).trans ib.symm))) rfl ?_
  refine ah.val rfl (dX rfl mH Ca rfl) rfl ?_
  refine ah.val rfl (bV rfl (by rw [ai.cells]; exact dw AA rfl)) rfl ?_
  obtain ⟨z25,hzz25,h⟩:=bind_some h
  refine ah.ret rfl (aK rfl rfl) (ql E _ _ _ _ _ hzz25 _ _ (aC.eq (aC.eq (aC.kz rfl (.cB false) .nil)))) rfl ?_
  refine ah.val rfl (ae rfl) rfl ?_
  refine ah.val rfl (gX rfl rfl) rfl ?_
  refine ah.val rfl (gX rfl rfl) rfl ?_
  refine ah.val rfl (aj rfl) rfl ?_
  refine ah.val rfl (aj rfl) rfl ?_
  refine ah.nil ?_
  refine az.seq ?_
  refine az.region (eX E) rfl ?_
  refine ah.val rfl (ae rfl) rfl ?_
  obtain ⟨z26,hzz26,h⟩:=bind_some h
  refine ah.ret rfl (aK rfl rfl) (iq E _ _ _ hzz26 _ _ (aC.eq .nil)) rfl ?_
  refine ah.val rfl (gJ rfl) rfl ?_
  refine ah.val rfl (ae rfl) rfl ?_
  refine ah.dI 3 117 (.d (.bool ((!z26) && (z23.1 == (-1))))) ?_ ?_
  ·
   rcases Bool.eq_false_or_eq_true ((!z26)) with hB27 | hB27
   ·
    refine ah.bool hB27 ?_
    refine ah.val rfl (ae rfl) rfl ?_
    refine ah.val rfl (av rfl rfl eB) rfl ?_
    refine ah.val rfl (aL (b:=true) rfl rfl) rfl ?_
    exact ah.nil ⟨_,rfl,(aa.put (aa.push rfl (aa.push rfl (aa.put (.refl _) (Less.eq (by rw [hB27]))))) (Less.eq (by rw [hB27]; rw [Bool.true_and])))⟩
   refine ah.bool hB27 ?_
   refine ah.no rfl rfl ?_
   refine ah.no rfl rfl ?_
   refine ah.val rfl (aL (b:=false) rfl rfl) rfl ?_
   exact ah.nil ⟨_,rfl,(aa.put (aa.push rfl (aa.push rfl (aa.put (.refl _) (Less.eq (by rw [hB27]))))) (Less.eq (by rw [hB27]; rw [Bool.false_and])))⟩
  refine ah.val rfl (ae rfl) rfl ?_
  refine ah.dI 4 122 (.d (.bool (((!z26) && (z23.1 == (-1))) && (((z23.2.1).length:Int) == 0)))) ?_ ?_
  ·
   rcases Bool.eq_false_or_eq_true (((!z26) && (z23.1 == (-1)))) with hB28 | hB28
   ·
    refine ah.bool hB28 ?_
    refine ah.val rfl (ae rfl) rfl ?_
    refine ah.val rfl (bY rfl Gw) rfl ?_
    refine ah.val rfl (av rfl rfl eB) rfl ?_
    refine ah.val rfl (aL (b:=true) rfl rfl) rfl ?_
    exact ah.nil ⟨_,rfl,(aa.put (aa.push rfl (aa.push rfl (aa.push rfl (aa.put (.refl _) (Less.eq (by rw [hB28])))))) (Less.eq (by rw [hB28]; rw [Bool.true_and])))⟩
   refine ah.bool hB28 ?_
   refine ah.no rfl rfl ?_
   refine ah.no rfl rfl ?_
   refine ah.no rfl rfl ?_
   refine ah.val rfl (aL (b:=false) rfl rfl) rfl ?_
   exact ah.nil ⟨_,rfl,(aa.put (aa.push rfl (aa.push rfl (aa.push rfl (aa.put (.refl _) (Less.eq (by rw [hB28])))))) (Less.eq (by rw [hB28]; rw [Bool.false_and])))⟩
  refine ah.val rfl (ae rfl) rfl ?_
  refine ah.dI 3 126 (.d (.bool ((((!z26) && (z23.1 == (-1))) && (((z23.2.1).length:Int) == 0)) && (!z23.2.2)))) ?_ ?_
  ·
   rcases Bool.eq_false_or_eq_true ((((!z26) && (z23.1 == (-1))) && (((z23.2.1).length:Int) == 0))) with hB29 | hB29
   ·
    refine ah.bool hB29 ?_
    refine ah.val rfl (ae rfl) rfl ?_
    refine ah.val rfl (gJ rfl) rfl ?_
    refine ah.val rfl (aL (b:=true) rfl rfl) rfl ?_
    exact ah.nil ⟨_,rfl,(aa.put (aa.push rfl (aa.push rfl (aa.put (.refl _) (Less.eq (by rw [hB29]))))) (Less.eq (by rw [hB29]; rw [Bool.true_and])))⟩
   refine ah.bool hB29 ?_
   refine ah.no rfl rfl ?_
   refine ah.no rfl rfl ?_
   refine ah.val rfl (aL (b:=false) rfl rfl) rfl ?_
   exact ah.nil ⟨_,rfl,(aa.put (aa.push rfl (aa.push rfl (aa.put (.refl _) (Less.eq (by rw [hB29]))))) (Less.eq (by rw [hB29]; rw [Bool.false_and])))⟩
  refine ah.val rfl (ae rfl) rfl ?_
  refine ah.dI 3 130 (.d (.bool (((((!z26) && (z23.1 == (-1))) && (((z23.2.1).length:Int) == 0)) && (!z23.2.2)) && (!z25.2)))) ?_ ?_
  ·
   rcases Bool.eq_false_or_eq_true (((((!z26) && (z23.1 == (-1))) && (((z23.2.1).length:Int) == 0)) && (!z23.2.2))) with hB30 | hB30
   ·
    refine ah.bool hB30 ?_
    refine ah.val rfl (ae rfl) rfl ?_
    refine ah.val rfl (gJ rfl) rfl ?_
    refine ah.val rfl (aL (b:=true) rfl rfl) rfl ?_
    exact ah.nil ⟨_,rfl,(aa.put (aa.push rfl (aa.push rfl (aa.put (.refl _) (Less.eq (by rw [hB30]))))) (Less.eq (by rw [hB30]; rw [Bool.true_and])))⟩
   refine ah.bool hB30 ?_
   refine ah.no rfl rfl ?_
   refine ah.no rfl rfl ?_
   refine ah.val rfl (aL (b:=false) rfl rfl) rfl ?_
   exact ah.nil ⟨_,rfl,(aa.put (aa.push rfl (aa.push rfl (aa.put (.refl _) (Less.eq (by rw [hB30]))))) (Less.eq (by rw [hB30]; rw [Bool.false_and])))⟩
  refine ah.val rfl (ae rfl) rfl ?_
  obtain ⟨z32,hzz32,h⟩:=bind_some h
  refine ah.dI 2 133 (.d (.bool z32)) ?_ ?_
  ·
   rcases Bool.eq_false_or_eq_true ((((((!z26) && (z23.1 == (-1))) && (((z23.2.1).length:Int) == 0)) && (!z23.2.2)) && (!z25.2))) with hB31 | hB31
   ·
    refine ah.bool hB31 ?_
    replace hzz32:=eH hB31 hzz32
    obtain ⟨z33,hzz33,hzz32⟩:=bind_some hzz32
    refine ah.ret rfl (aK rfl rfl) (E.porticolaw8_RouteRuns_ok _  _ hzz33 _ _ .nil) rfl ?_
    refine ah.val rfl (aL (b:=true) rfl rfl) rfl ?_
    cases hzz32
    exact ah.nil ⟨_,rfl,(aa.put (aa.push rfl (aa.put (.refl _) (Less.eq (by rw [hB31])))) (.refl _))⟩
   refine ah.bool hB31 ?_
   refine ah.no rfl rfl ?_
   refine ah.val rfl (aL (b:=false) rfl rfl) rfl ?_
   replace hzz32:=eO hB31 hzz32
   cases hzz32
   exact ah.nil ⟨_,rfl,(aa.put (aa.push rfl (aa.put (.refl _) (Less.eq (by rw [hB31])))) (.refl _))⟩
  refine ah.val rfl (aj rfl) rfl ?_
  refine ah.nil ?_
  have hr:=Option.some.inj h
  subst hr
  exact az.ret ⟨_,rfl,rfl,iU (aC.eq .nil)⟩
 refine az.seq ?_
 refine az.region (eX E) rfl ?_
 refine ah.val rfl (ae rfl) rfl ?_
 obtain ⟨z34,hzz34,h⟩:=bind_some h
 refine ah.ret rfl (aK rfl rfl) (bf E _ _ _ _ _ hzz34 _ _ (aC.eq (aC.eq (aC.eq .nil)))) rfl ?_
 refine ah.nil ?_
 refine az.block ?_
 refine az.seq ?_
 refine az.region (eX E) rfl ?_
 refine ah.val rfl (av rfl rfl eB) rfl ?_
 refine ah.val rfl (aj rfl) rfl ?_
 refine ah.nil ?_
 refine az.cond rfl (fun hb35=>?_) (fun hb35=>?_)
 ·
  replace h:=eH hb35 h
  refine az.region (eX E) rfl ?_
  refine ah.val rfl (ae rfl) rfl ?_
  refine ah.val rfl (ae rfl) rfl ?_
  obtain ⟨z36,hzz36,h⟩:=bind_some h
  refine ah.jl (enc:=ak) H15 rfl (i:=0) rfl rfl rfl hzz36 kH ny ((ai.len _).trans ib.symm) rfl ?_
  refine ah.kY H15 (i:=0) rfl hzz36 rfl rfl mH Ca rfl rfl ?_
  refine ah.jA (enc:=ak) (z':=(ai.mk [] z36.Parent z36.dN z36.Comp z36.fQ z36.aN)) (cv:=[(.str [])]) H15 rfl (i:=0) rfl hzz36 rfl rfl rfl (.cons (.refl _) .nil) FD rfl FN (by rw [ai.len]; rfl) (by rw [ai.cells,ai.cells]; rfl) (ai.flat _) (fun S37 H38=>?_)
  refine ah.nil ?_
  exact ⟨⟨(gV z12 z16 (ai.mk [] z36.Parent z36.dN z36.Comp z36.fQ z36.aN)),v13⟩,_,_,S37,.refl _ _,.refl _,(aa.r rfl (aa.r rfl aa.nil)),H38.sl [0] rfl rfl,h⟩
 replace h:=eO hb35 h
 refine az.seq ?_
 refine az.region (eX E) rfl ?_
 refine ah.val rfl (av rfl rfl eB) rfl ?_
 refine ah.val rfl (aj rfl) rfl ?_
 refine ah.nil ?_
 refine az.cond rfl (fun hb39=>?_) (fun hb39=>?_)
 ·
  replace h:=eH hb39 h
  refine az.region (eX E) rfl ?_
  refine ah.val rfl (ae rfl) rfl ?_
  refine ah.val rfl (ae rfl) rfl ?_
  refine ah.val rfl (ae rfl) rfl ?_
  refine ah.val rfl (ae rfl) rfl ?_
  refine ah.val rfl (av rfl rfl cZ) rfl ?_
  obtain ⟨z40,hzz40,h⟩:=bind_some h
  refine ah.jl (enc:=ak) H15 rfl (i:=0) rfl rfl rfl hzz40 kH ny ((ai.len _).trans ib.symm) rfl ?_
  refine ah.kY H15 (i:=0) rfl hzz40 rfl rfl rU Aj rfl rfl ?_
  refine ah.jA (enc:=ak) (z':=(ai.mk z40.Name (IntKind.wrap .i64 (z16 + (IntKind.wrap .i64 (1 + z17)))) z40.dN z40.Comp z40.fQ z40.aN)) (cv:=[(.int .i64 (IntKind.wrap .i64 (z16 + (IntKind.wrap .i64 (1 + z17)))))]) H15 rfl (i:=0) rfl hzz40 rfl rfl rfl (.cons (.refl _) .nil) vV rfl Aw (by rw [ai.len]; rfl) (by rw [ai.cells,ai.cells]; rfl) (ai.flat _) (fun S41 H42=>?_)
  refine ah.nil ?_
  exact ⟨⟨(gV z12 z16 (ai.mk z40.Name (IntKind.wrap .i64 (z16 + (IntKind.wrap .i64 (1 + z17)))) z40.dN z40.Comp z40.fQ z40.aN)),v13⟩,_,_,S41,.refl _ _,.refl _,(aa.r rfl (aa.r rfl aa.nil)),H42.sl [0] rfl rfl,h⟩
 replace h:=eO hb39 h
 refine az.seq ?_
 refine az.region (eX E) rfl ?_
 refine ah.val rfl (av rfl rfl eB) rfl ?_
 refine ah.val rfl (aj rfl) rfl ?_
 refine ah.nil ?_
 refine az.cond rfl (fun hb43=>?_) (fun hb43=>?_)
 ·
  replace h:=eH hb43 h
  refine az.region (eX E) rfl ?_
  refine ah.val rfl (ae rfl) rfl ?_
  refine ah.val rfl (ae rfl) rfl ?_
  refine ah.val rfl (ae rfl) rfl ?_
  refine ah.val rfl (av rfl rfl fA) rfl ?_
  obtain ⟨z44,hzz44,h⟩:=bind_some h
  refine ah.jl (enc:=ak) H15 rfl (i:=0) rfl rfl rfl hzz44 kH ny ((ai.len _).trans ib.symm) rfl ?_
  refine ah.kY H15 (i:=0) rfl hzz44 rfl rfl rU Aj rfl rfl ?_
  refine ah.jA (enc:=ak) (z':=(ai.mk z44.Name (IntKind.wrap .i64 ((-1) - (IntKind.wrap .i64 (1 + z17)))) z44.dN z44.Comp z44.fQ z44.aN)) (cv:=[(.int .i64 (IntKind.wrap .i64 ((-1) - (IntKind.wrap .i64 (1 + z17)))))]) H15 rfl (i:=0) rfl hzz44 rfl rfl rfl (.cons (.refl _) .nil) vV rfl Aw (by rw [ai.len]; rfl) (by rw [ai.cells,ai.cells]; rfl) (ai.flat _) (fun S45 H46=>?_)
  refine ah.nil ?_
  exact ⟨⟨(gV z12 z16 (ai.mk z44.Name (IntKind.wrap .i64 ((-1) - (IntKind.wrap .i64 (1 + z17)))) z44.dN z44.Comp z44.fQ z44.aN)),v13⟩,_,_,S45,.refl _ _,.refl _,(aa.r rfl (aa.r rfl aa.nil)),H46.sl [0] rfl rfl,h⟩
 replace h:=eO hb43 h
 refine az.seq ?_
 refine az.region (eX E) rfl ?_
 refine ah.val rfl (av rfl rfl eB) rfl ?_
 refine ah.val rfl (aj rfl) rfl ?_
 refine ah.nil ?_
 refine az.cond rfl (fun hb47=>?_) (fun hb47=>?_)
 ·
  replace h:=eH hb47 h
  refine az.region (eX E) rfl ?_
  refine ah.val rfl (ae rfl) rfl ?_
  refine ah.val rfl (ae rfl) rfl ?_
  refine ah.val rfl (dF (cs:=[(.d (.int .i64 3)),(.d (.str [114]))]) qb rfl (iI) (eQ rfl rfl rfl rfl (eQ rfl rfl rfl rfl rfl))) rfl ?_
  refine ah.less (Less.agg' (d:=aO (Seg.mk 3 [114])) (aJ.eq rfl (aJ.eq rfl .nil)) ((Seg.eq _).trans rfl)) ?_
  refine ah.val rfl (dF (cs:=[(.d (.int .i64 0)),(.d (.str [97]))]) qb rfl (iI) (eQ rfl rfl rfl rfl rfl)) rfl ?_
  refine ah.less (Less.agg' (d:=aO (Seg.mk 0 [97])) (aJ.eq rfl (aJ.eq rfl .nil)) ((Seg.eq _).trans rfl)) ?_
  refine ah.val rfl (bB (vs:=[(.d (aO (Seg.mk 3 [114]))),(.d (aO (Seg.mk 0 [97])))]) (ds:=[(aO (Seg.mk 3 [114])),(aO (Seg.mk 0 [97]))]) Dm uN wB qb lX rfl (by decide) (.cons rfl (Seg.len _) (.cons rfl (Seg.len _) .nil)) rfl (by intro d hd; simp only [List.mem_cons,List.not_mem_nil,or_false] at hd; rcases hd with rfl | rfl <;> exact Seg.agg _) rfl) rfl ?_
  obtain ⟨z48,hzz48,h⟩:=bind_some h
  refine ah.jl (enc:=ak) H15 rfl (i:=0) rfl rfl rfl hzz48 kH ny ((ai.len _).trans ib.symm) rfl ?_
  refine ah.kY H15 (i:=0) rfl hzz48 rfl rfl zq EN rfl rfl ?_
  refine ah.jA (enc:=ak) (z':=(ai.mk z48.Name z48.Parent [(Seg.mk 3 [114]),(Seg.mk 0 [97])] z48.Comp z48.fQ z48.aN)) (cv:=[(.sl (([(Seg.mk 3 [114]),(Seg.mk 0 [97])]).map aO) false)]) H15 rfl (i:=0) rfl hzz48 rfl rfl rfl (.cons Fs .nil) DU rfl F8 (by rw [ai.len]; rfl) (by rw [ai.cells,ai.cells]; rfl) (ai.flat _) (fun S49 H50=>?_)
  refine ah.nil ?_
  exact ⟨⟨(gV z12 z16 (ai.mk z48.Name z48.Parent [(Seg.mk 3 [114]),(Seg.mk 0 [97])] z48.Comp z48.fQ z48.aN)),v13⟩,_,_,S49,.refl _ _,.refl _,(aa.r rfl (aa.r rfl aa.nil)),H50.sl [0] rfl rfl,h⟩
 replace h:=eO hb47 h
 refine az.seq ?_
 refine az.region (eX E) rfl ?_
 refine ah.val rfl (av rfl rfl eB) rfl ?_
 refine ah.val rfl (aj rfl) rfl ?_
 refine ah.nil ?_
 refine az.cond rfl (fun hb51=>?_) (fun hb51=>?_)
 ·
  replace h:=eH hb51 h
  refine az.region (eX E) rfl ?_
  refine ah.val rfl (ae rfl) rfl ?_
  refine ah.val rfl (ae rfl) rfl ?_
  refine ah.val rfl (ae rfl) rfl ?_
  obtain ⟨z52,hzz52,h⟩:=bind_some h
  refine ah.jl (enc:=ak) H15 rfl (i:=0) rfl rfl rfl hzz52 kH ny ((ai.len _).trans ib.symm) rfl ?_
  refine ah.kY H15 (i:=0) rfl hzz52 rfl rfl mH Ca rfl rfl ?_
  refine ah.rX H15 rfl (i:=0) rfl hzz52 rfl (by rw [ai.cells]; exact dw AA rfl) rfl ?_
  refine ah.val rfl (dF (cs:=[(.d (.str z52.Name)),(.d (.int .i64 (-1))),(.d .cB),(.d (.int .i64 0)),(.d (.bool false)),(.d (.int .i64 0)),(.d (.int .i64 0)),(.d (.str []))]) tZ rfl (kM) (eQ rfl rfl rfl rfl (eQ rfl rfl rfl rfl rfl))) rfl ?_
  refine ah.less (Less.agg' (d:=ak (ai.mk z52.Name (-1) [] 0 false (aN.mk 0 0 []))) (aJ.eq rfl (aJ.eq rfl (aJ.kz rfl (.cB false) rfl rfl (aJ.eq rfl (aJ.eq rfl (aJ.eq rfl (aJ.eq rfl (aJ.eq rfl .nil)))))))) ((ai.eq _).trans rfl)) ?_
  refine ah.tT (enc:=ak) (xs:=[(ai.mk z52.Name (-1) [] 0 false (aN.mk 0 0 []))]) (vs:=[(.d (ak (ai.mk z52.Name (-1) [] 0 false (aN.mk 0 0 []))))]) (cs:=[[(.d (.str (ai.mk z52.Name (-1) [] 0 false (aN.mk 0 0 [])).Name)),(.d (.int .i64 (ai.mk z52.Name (-1) [] 0 false (aN.mk 0 0 [])).Parent)),(.d (.sl (((ai.mk z52.Name (-1) [] 0 false (aN.mk 0 0 [])).dN).map aO) false)),(.d (.int .i64 (ai.mk z52.Name (-1) [] 0 false (aN.mk 0 0 [])).Comp)),(.d (.bool (ai.mk z52.Name (-1) [] 0 false (aN.mk 0 0 [])).fQ)),(.d (.int .i64 (ai.mk z52.Name (-1) [] 0 false (aN.mk 0 0 [])).aN.Kind)),(.d (.int .i64 (ai.mk z52.Name (-1) [] 0 false (aN.mk 0 0 [])).aN.Flag)),(.d (.str (ai.mk z52.Name (-1) [] 0 false (aN.mk 0 0 [])).aN.To))]]) H15 rfl sM kH ny tZ ib rfl (by decide) (.cons (xH (ai.gP _)) rfl .nil) rfl (.cons (by rw [ai.cells]; exact .refl _) .nil) (fun z=>ai.len z) (fun x=>ai.flat x) rfl rfl (fun v53 S54 H55=>?_)
  obtain ⟨SF6,HF6,hgF6⟩:=H55.freeze (eX E).toObjOk (i:=0) (l':=[.row 8 v13 ((z12).map ak),.box b5 [(.d (.sl ((a1.Parents).map (D.int .i64)) false)),(.d (.sl ((a1.Kinds).map (D.int .i64)) false)),(.d (.sl ((a1.Texts).map (D.int .i64)) false)),(.d (.sl ((a1.Rules).map (D.int .i64)) false)),(.d (.sl ((a1.Flags).map (D.int .i64)) false)),(.d (.sl ((a1.dU).map (D.int .i64)) false)),(.d (.sl ((a1.Comps).map (D.int .i64)) false))]]) rfl (.same (.same .nil))
  refine ah.ghost (hgF6 _ _ [(0,(.d (fG a1))),(1,(.d (.int .i64 a2))),(2,(.d (.int .i64 a3))),(3,(.d (.int .i64 a4))),(4,(.ptr b5 0 0)),(8,(.d (.bool false))),(9,(.d (.sl ((z8).map ak) false))),(10,v13),(11,(.d (.int .i64 z16))),(12,(.d (.int .i64 (IntKind.wrap .i64 (1 + z17))))),(18,(.d (fG a1))),(19,(.d (.sl ((z8).map ak) false))),(20,(.d (.sl ((z8).map ak) false))),(21,(.d (.bool z9))),(22,(.d (.bool (!z9)))),(23,(.d (.sl (([]).map ak) true))),(24,(.d (.sl ((z8).map ak) false))),(25,v13),(26,(.d (.int .i64 a2))),(27,v13),(28,(.d (.int .i64 ((z12).length:Int)))),(29,(.d (.int .i64 (IntKind.wrap .i64 (((z12).length:Int) - 1))))),(30,(.d (.int .i64 z16))),(31,(.d (.int .i64 a4))),(32,(.d (.int .i64 z17))),(33,(.d (.int .i64 (IntKind.wrap .i64 (1 + z17))))),(34,(.d (.int .i64 a3))),(35,(.d (.int .i64 z34))),(52,(.d (.bool (z34 == 0)))),(53,(.d (.bool (z34 == 0)))),(58,(.d (.bool (z34 == 1)))),(59,(.d (.bool (z34 == 1)))),(67,(.d (.bool (z34 == 2)))),(68,(.d (.bool (z34 == 2)))),(75,(.d (.bool (z34 == 3)))),(76,(.d (.bool (z34 == 3)))),(84,(.d (.bool (z34 == 4)))),(85,(.d (.bool (z34 == 4)))),(86,v13),(87,v13),(88,(.d (.int .i64 z16))),(89,(iF v13 (Int.toNat z16) 0)),(90,(iF v13 (Int.toNat z16) 0)),(91,(.d (.str z52.Name))),(92,(.d (ak (ai.mk z52.Name (-1) [] 0 false (aN.mk 0 0 []))))),(93,(.d (.sl (([(ai.mk z52.Name (-1) [] 0 false (aN.mk 0 0 []))]).map ak) false)))] (.cons rfl (.refl _) (.cons rfl (.refl _) (.cons rfl (.refl _) (.cons rfl (.refl _) (.cons rfl (.refl _) (.cons rfl (.refl _) (.cons rfl (.refl _) (.cons rfl (.refl _) (.cons rfl (.refl _) (.cons rfl (.refl _) (.cons rfl (.refl _) (.cons rfl (.refl _) (.cons rfl (.refl _) (.cons rfl (.refl _) (.cons rfl (.refl _) (.cons rfl (.refl _) (.cons rfl (.refl _) (.cons rfl (.refl _) (.cons rfl (.refl _) (.cons rfl (.refl _) (.cons rfl (.refl _) (.cons rfl (.refl _) (.cons rfl (.refl _) (.cons rfl (.refl _) (.cons rfl (.refl _) (.cons rfl (.refl _) (.cons rfl (.refl _) (.cons rfl (.refl _) (.cons rfl (.refl _) (.cons rfl (.refl _) (.cons rfl (.refl _) (.cons rfl (.refl _) (.cons rfl (.refl _) (.cons rfl (.refl _) (.cons rfl (.refl _) (.cons rfl (.refl _) (.cons rfl (.refl _) (.cons rfl (.refl _) (.cons rfl (.refl _) (.cons rfl (.refl _) (.cons rfl (.refl _) (.cons rfl (.refl _) (.cons rfl (.refl _) (.cons rfl (.refl _) (.cons rfl (.refl _) (.it rfl .nil))))))))))))))))))))))))))))))))))))))))))))))) ?_
  obtain ⟨z56,hzz56,h⟩:=bind_some h
  refine ah.mV (xs:=(z12).map ak) (ys:=([(ai.mk z52.Name (-1) [] 0 false (aN.mk 0 0 []))]).map ak) (zs:=(z56).map ak) HF6 rfl rfl rfl (i:=0) rfl ib rfl sM zu kH (gU hzz56) DR rfl (dP (enc:=ak) (fun z=>(ai.len z).trans ib.symm) _) (oU (fun x=>ai.flat x) _) rfl zJ rfl (l7 hzz56) (fun v57 S58 H59=>?_)
  refine ah.val rfl (aj rfl) rfl ?_
  refine ah.nil ?_
  exact ⟨⟨z56,v57⟩,_,_,S58,.refl _ _,.refl _,(aa.r rfl (aa.r rfl aa.nil)),H59.sl [0] rfl rfl,h⟩
 replace h:=eO hb51 h
 refine az.block ?_
 refine oC.start (B:=aH) (α:=(List ai) × AV) (fun k a=>aT n z8 k a.1=some r) (fun a=>[(9,(.d (.sl ((z8).map ak) false))),(10,a.2)]) (fun a=>[.row 8 a.2 ((a.1).map ak)]) ?_ ?_ n ⟨⟨z12,v13⟩,_,_,S14,.refl _ _,.refl _,(aa.r rfl (aa.r rfl aa.nil)),H15.sl [0] rfl rfl,h⟩
 ·
  intro a h; simp [aT] at h
 intro k70 a S66 H67 h
 obtain ⟨x68,v69⟩:=a
 replace h:aT n z8 (k70 + 1) x68=some r:=h
 replace H67:Has aH S66 [.row 8 v69 ((x68).map ak)]:=H67
 unfold aT at h
 refine az.seq ?_
 refine az.seq ?_
 refine az.region (eX E) rfl ?_
 refine ah.val rfl (ae rfl) rfl ?_
 refine ah.val rfl (mP H67 (i:=0) rfl rfl uB) rfl ?_
 refine ah.val rfl (av rfl rfl uF) rfl ?_
 refine ah.nil ?_
 refine az.cond rfl (fun hb71=>?_) (fun hb71=>?_)
 ·
  replace h:=eH hb71 h
  refine az.skip ?_
  refine az.block ?_
  refine az.region (eX E) rfl ?_
  refine ah.val rfl (ae rfl) rfl ?_
  refine ah.val rfl (ae rfl) rfl ?_
  refine ah.val rfl (mP H67 (i:=0) rfl rfl uB) rfl ?_
  refine ah.val rfl (av rfl rfl cZ) rfl ?_
  refine ah.val rfl (nG rfl GR GN) rfl ?_
  refine ah.val rfl (bB (vs:=[(.d (.int .u8 (IntKind.wrap .u8 (IntKind.wrap .i64 (97 + ((x68).length:Int))))))]) (ds:=[(.int .u8 (IntKind.wrap .u8 (IntKind.wrap .i64 (97 + ((x68).length:Int)))))]) Es Ff GQ GJ GK rfl (by decide) (.cons rfl rfl .nil) rfl (by intro d hd; simp only [List.mem_cons,List.not_mem_nil,or_false] at hd; rcases hd with rfl <;> rfl) rfl) rfl ?_
  refine ah.val rfl (lV (l:=[(IntKind.wrap .u8 (IntKind.wrap .i64 (97 + ((x68).length:Int))))]) rfl F3 Ej) rfl ?_
  obtain ⟨z72,hzz72,h⟩:=bind_some h
  refine ah.val rfl (av rfl rfl (mZ hzz72)) rfl ?_
  refine ah.val rfl (dF (cs:=[(.d (.int .i64 0)),(.d (.str [113]))]) qb rfl (iI) (eQ rfl rfl rfl rfl rfl)) rfl ?_
  refine ah.less (Less.agg' (d:=aO (Seg.mk 0 [113])) (aJ.eq rfl (aJ.eq rfl .nil)) ((Seg.eq _).trans rfl)) ?_
  refine ah.val rfl (bB (vs:=[(.d (aO (Seg.mk 0 [113])))]) (ds:=[(aO (Seg.mk 0 [113]))]) Dm uN wB qb lX rfl (by decide) (.cons rfl (Seg.len _) .nil) rfl (by intro d hd; simp only [List.mem_cons,List.not_mem_nil,or_false] at hd; rcases hd with rfl <;> exact Seg.agg _) rfl) rfl ?_
  refine ah.val rfl (dF (cs:=[(.d (.str z72)),(.d (.int .i64 (-1))),(.d (.sl (([(Seg.mk 0 [113])]).map aO) true)),(.d (.int .i64 0)),(.d (.bool false)),(.d (.int .i64 0)),(.d (.int .i64 0)),(.d (.str []))]) tZ rfl (kM) (eQ rfl rfl rfl rfl (eQ rfl rfl rfl rfl (eQ rfl rfl rfl rfl rfl)))) rfl ?_
  refine ah.less (Less.agg' (d:=ak (ai.mk z72 (-1) [(Seg.mk 0 [113])] 0 false (aN.mk 0 0 []))) (aJ.eq rfl (aJ.eq rfl (aJ.kz rfl (.lH _ _) rfl rfl (aJ.eq rfl (aJ.eq rfl (aJ.eq rfl (aJ.eq rfl (aJ.eq rfl .nil)))))))) ((ai.eq _).trans rfl)) ?_
  refine ah.tT (enc:=ak) (xs:=[(ai.mk z72 (-1) [(Seg.mk 0 [113])] 0 false (aN.mk 0 0 []))]) (vs:=[(.d (ak (ai.mk z72 (-1) [(Seg.mk 0 [113])] 0 false (aN.mk 0 0 []))))]) (cs:=[[(.d (.str (ai.mk z72 (-1) [(Seg.mk 0 [113])] 0 false (aN.mk 0 0 [])).Name)),(.d (.int .i64 (ai.mk z72 (-1) [(Seg.mk 0 [113])] 0 false (aN.mk 0 0 [])).Parent)),(.d (.sl (((ai.mk z72 (-1) [(Seg.mk 0 [113])] 0 false (aN.mk 0 0 [])).dN).map aO) false)),(.d (.int .i64 (ai.mk z72 (-1) [(Seg.mk 0 [113])] 0 false (aN.mk 0 0 [])).Comp)),(.d (.bool (ai.mk z72 (-1) [(Seg.mk 0 [113])] 0 false (aN.mk 0 0 [])).fQ)),(.d (.int .i64 (ai.mk z72 (-1) [(Seg.mk 0 [113])] 0 false (aN.mk 0 0 [])).aN.Kind)),(.d (.int .i64 (ai.mk z72 (-1) [(Seg.mk 0 [113])] 0 false (aN.mk 0 0 [])).aN.Flag)),(.d (.str (ai.mk z72 (-1) [(Seg.mk 0 [113])] 0 false (aN.mk 0 0 [])).aN.To))]]) H67 rfl sM kH ny tZ ib rfl (by decide) (.cons (xH (ai.gP _)) rfl .nil) rfl (.cons (by rw [ai.cells]; exact .refl _) .nil) (fun z=>ai.len z) (fun x=>ai.flat x) rfl rfl (fun v73 S74 H75=>?_)
  obtain ⟨SF9,HF9,hgF9⟩:=H75.freeze (eX E).toObjOk (i:=0) (l':=[.row 8 v69 ((x68).map ak)]) rfl (.same .nil)
  refine ah.ghost (hgF9 _ _ [(9,(.d (.sl ((z8).map ak) false))),(10,v69),(36,v69),(37,(.d (.int .i64 ((x68).length:Int)))),(38,(.d (.bool (decide (((x68).length:Int) ≤ 16))))),(39,v69),(40,v69),(41,(.d (.int .i64 ((x68).length:Int)))),(42,(.d (.int .i64 (IntKind.wrap .i64 (97 + ((x68).length:Int)))))),(43,(.d (.int .u8 (IntKind.wrap .u8 (IntKind.wrap .i64 (97 + ((x68).length:Int))))))),(44,(.d (.sl (([(IntKind.wrap .u8 (IntKind.wrap .i64 (97 + ((x68).length:Int))))]).map (D.int .u8)) true))),(45,(.d (.str (([(IntKind.wrap .u8 (IntKind.wrap .i64 (97 + ((x68).length:Int))))]).map fun (n:Int)=>UInt8.ofNat n.toNat)))),(46,(.d (.str z72))),(47,(.d (aO (Seg.mk 0 [113])))),(48,(.d (.sl (([(Seg.mk 0 [113])]).map aO) true))),(49,(.d (ak (ai.mk z72 (-1) [(Seg.mk 0 [113])] 0 false (aN.mk 0 0 []))))),(50,(.d (.sl (([(ai.mk z72 (-1) [(Seg.mk 0 [113])] 0 false (aN.mk 0 0 []))]).map ak) false)))] (.cons rfl (.refl _) (.cons rfl (.refl _) (.cons rfl (.refl _) (.cons rfl (.refl _) (.cons rfl (.refl _) (.cons rfl (.refl _) (.cons rfl (.refl _) (.cons rfl (.refl _) (.cons rfl (.refl _) (.cons rfl (.refl _) (.cons rfl (.refl _) (.cons rfl (.refl _) (.cons rfl (.refl _) (.cons rfl (.refl _) (.cons rfl (.refl _) (.cons rfl (.refl _) (.it rfl .nil)))))))))))))))))) ?_
  obtain ⟨z76,hzz76,h⟩:=bind_some h
  refine ah.mV (xs:=(x68).map ak) (ys:=([(ai.mk z72 (-1) [(Seg.mk 0 [113])] 0 false (aN.mk 0 0 []))]).map ak) (zs:=(z76).map ak) HF9 rfl rfl rfl (i:=0) rfl ib rfl sM zu kH (gU hzz76) DR rfl (dP (enc:=ak) (fun z=>(ai.len z).trans ib.symm) _) (oU (fun x=>ai.flat x) _) rfl zJ rfl (l7 hzz76) (fun v77 S78 H79=>?_)
  refine ah.val rfl (aj rfl) rfl ?_
  refine ah.nil ?_
  exact ⟨⟨z76,v77⟩,_,_,S78,.refl _ _,.refl _,(aa.r rfl (aa.r rfl aa.nil)),H79.sl [0] rfl rfl,h⟩
 replace h:=eO hb71 h
 refine az.exit ?_
 exact ⟨⟨x68,v69⟩,_,_,S66,.refl _ _,.refl _,(aa.r rfl (aa.r rfl aa.nil)),H67.sl [0] rfl rfl,h⟩
end
end Pr
end Go.Ev

namespace Go.Ev
namespace Pr
set_option linter.unusedVariables false
set_option linter.unusedSimpArgs false
theorem nK {n:Int} (h0:-9223372036854775808 ≤ n) (h1:n ≤ 9223372036854775807):IntKind.wrap .i64 n=n:=Go.IntWalk.i64_in n ⟨h0,h1⟩
theorem lI {α:Type} (l:List α) (i:Nat):idx l (i:Int)=l[i]?:=by
 unfold idx
 rw [if_pos (by omega)]
 simp
theorem nk {α:Type} {l done rest:List α} {z:α} (h:l=done ++ z :: rest):idx l (done.length:Int)=some z:=by
 rw [lI,h]; simp
theorem jP {α:Type} (l:List α) {i:Int} (h0:0 ≤ i) (h1:i < l.length):∃ x,idx l i=some x∧x ∈ l∧l[i.toNat]? = some x:=by
 obtain ⟨j,rfl⟩:=Int.eq_ofNat_of_zero_le h0
 have hj:j < l.length:=by omega
 exact ⟨l[j],by rw [lI]; exact List.getElem?_eq_getElem hj,List.getElem_mem hj,by simp [hj]⟩
theorem mG {α:Type} {nb:Nat} {l ys:List α} (h:(l.length + ys.length) * nb ≤ bound):app nb l ys=some (l ++ ys):=by
 unfold app; rw [if_pos h]
theorem AB {k:IntKind} {a b:Int} (h:b ≠ 0):BU k a b=some (a.tmod b):=by
 unfold BU; rw [if_neg h]
theorem bnd:bound=70368744177664:=rfl
end Pr
end Go.Ev

namespace Go.Ev
namespace Pr
set_option linter.unusedVariables false
set_option linter.unusedSimpArgs false
set_option linter.unusedSectionVars false
theorem fB (n:Nat) (a lo hi:Int) (h1:lo ≤ hi) (h2:-1000000000000 ≤ lo) (h3:hi ≤ 1000000000000000):∃ r,aY n a lo hi=some r∧lo ≤ r∧r ≤ hi:=by
 unfold aY
 rw [nK (n:=hi - lo) (by omega) (by omega),nK (by omega) (by omega),AB (by omega),Option.bind_some]
 have k1:=Int.tmod_lt_of_pos a (show 0 < hi - lo + 1 by omega)
 have k2:=Int.lt_tmod_of_pos a (show 0 < hi - lo + 1 by omega)
 unfold bX
 by_cases hz:a.tmod (hi - lo + 1) < 0
 ·
  rw [if_pos (by simpa using hz)]
  rw [nK (n:=a.tmod (hi - lo + 1) + hi) (by omega) (by omega),nK (n:=a.tmod (hi - lo + 1) + hi - lo) (by omega) (by omega),nK (n:=a.tmod (hi - lo + 1) + hi - lo + 1) (by omega) (by omega),nK (by omega) (by omega)]
  exact ⟨_,rfl,by omega,by omega⟩
 ·
  rw [if_neg (by simpa using hz),nK (by omega) (by omega)]
  exact ⟨_,rfl,by omega,by omega⟩
theorem lJ (n:Nat) (l:List Int) (i:Int) (h:0 ≤ i):∃ r,bI n l i=some r:=by
 unfold bI
 by_cases h0:l.length=0
 ·
  rw [if_pos (by simp; exact List.eq_nil_of_length_eq_zero h0)]; exact ⟨_,rfl⟩
 ·
  rw [if_neg (by simp; intro q; exact h0 (by rw [q]; rfl)),AB (by omega),Option.bind_some]
  have hp:(0:Int) < (l.length:Int):=by omega
  obtain ⟨x,hx,_⟩:=jP l (i:=i.tmod l.length) (Int.tmod_nonneg _ h) (Int.tmod_lt_of_pos _ hp)
  exact ⟨x,by rw [hx]; rfl⟩
def nm (i:Int):Str:=([(IntKind.wrap .u8 (IntKind.wrap .i64 (97 + i)))]).map fun (n:Int)=>UInt8.ofNat n.toNat
def jM:Nat→Str
 | 0=>[104,111,109,101]
 | j + 1=>[114] ++ nm j
theorem wm {a b:Nat} (ha:a < 8) (hb:b < 8) (h:jM a=jM b):a=b:=by
 have key:∀ i ∈ List.range 8,∀ j ∈ List.range 8,jM i=jM j→i=j:=by decide +kernel
 exact key a (List.mem_range.2 ha) b (List.mem_range.2 hb) h
def texts:List Str:=[[97],[98],[105,116,101,109],[122],[49],[108,105,115,116]]
def vk (j:Nat) (s:Seg):Prop:=(s.Kind=0∧s.Text ∈ texts)∨(1 ≤ s.Kind∧s.Kind ≤ 3∧∃ i:Nat,j=i + 1∧s.Text=[112] ++ nm i)
structure Rs (l:List ai):Prop where
 pos:0 < l.length
 le:l.length ≤ 8
 par:∀ (j:Nat) (r:ai),l[j]? = some r→-1 ≤ r.Parent∧r.Parent < j
 name:∀ (j:Nat) (r:ai),l[j]? = some r→r.Name=jM j
 segs:∀ (j:Nat) (r:ai),l[j]? = some r→r.dN.length ≤ 1
 sg:∀ (j:Nat) (r:ai),l[j]? = some r→r.dN=[]∨∃ s,r.dN=[s]∧vk j s
 kid:∀ (j:Nat) (r:ai),l[j]? = some r→0 ≤ r.Parent→∃ p,idx l r.Parent=some p∧∀ s ∈ p.dN,s.Kind < 2
theorem Rs.snoc {l:List ai} (h:Rs l) (hl:l.length ≤ 7) {r:ai} (hn:r.Name=jM l.length) (hp:-1 ≤ r.Parent∧r.Parent < l.length) (hs:∃ s,r.dN=[s]∧vk l.length s) (hk:0 ≤ r.Parent→∃ p,idx l r.Parent=some p∧∀ s ∈ p.dN,s.Kind < 2):Rs (l ++ [r]):=by
 have get:∀ (j:Nat) (x:ai),(l ++ [r])[j]? = some x→l[j]? = some x∨(j=l.length∧x=r):=fun j x hx=>by
  by_cases q:j < l.length
  ·
   rw [List.getElem?_append_left q] at hx; exact .inl hx
  ·
   rw [List.getElem?_append_right (by omega)] at hx
   have:j - l.length=0:=by
    have:=(List.getElem?_eq_some_iff.1 hx).1
    simp at this; omega
   rw [this] at hx
   simp at hx
   exact .inr ⟨by omega,hx.symm⟩
 have idxl:∀ (k:Int) (p:ai),idx l k=some p→idx (l ++ [r]) k=some p:=fun k p hk=>by
  obtain ⟨h1,h2⟩:=gW hk
  have h3:=(List.getElem?_eq_some_iff.1 h2).1
  unfold idx
  rw [if_pos h1,List.getElem?_append_left h3,h2]
 refine ⟨by simp,by simp; omega,fun j x hx=>?_,fun j x hx=>?_,fun j x hx=>?_,fun j x hx=>?_,fun j x hx h0=>?_⟩
 ·
  rcases get j x hx with q | ⟨rfl,rfl⟩
  ·
   exact h.par j x q
  ·
   exact hp
 ·
  rcases get j x hx with q | ⟨rfl,rfl⟩
  ·
   exact h.name j x q
  ·
   exact hn
 ·
  rcases get j x hx with q | ⟨rfl,rfl⟩
  ·
   exact h.segs j x q
  ·
   obtain ⟨s,hs,_⟩:=hs; rw [hs]; simp
 ·
  rcases get j x hx with q | ⟨rfl,rfl⟩
  ·
   exact h.sg j x q
  ·
   exact .inr hs
 ·
  rcases get j x hx with q | ⟨rfl,rfl⟩
  ·
   obtain ⟨p,p1,p2⟩:=h.kid j x q h0
   exact ⟨p,idxl _ _ p1,p2⟩
  ·
   obtain ⟨p,p1,p2⟩:=hk h0
   exact ⟨p,idxl _ _ p1,p2⟩
def Fj (i:Int) (s:Seg):Prop:=(s.Kind=0∧s.Text ∈ texts)∨(1 ≤ s.Kind∧s.Kind ≤ 3∧s.Text=[112] ++ nm i)
section
variable {n:Nat} {a1:cz} {l:List ai} {dp:List Int} {again:List ai→List Int→Int→Option (List ai)}
theorem zT (hl:l.length ≤ 8) (hd:dp.length ≤ 8) (i x28 x32 x44:Int) (x45 z47:Str) (z48 z50 x63 x64:Int) (x65:Str):∃ rec:ai,rec.Name=z47∧rec.Parent=x28∧rec.dN=[Seg.mk x44 x45]∧aX l dp i again x28 x32 x44 x45 z47 z48 z50 x63 x64 x65=again (l ++ [rec]) (dp ++ [x32]) (IntKind.wrap .i64 (i + 1)):=by
 unfold aX
 rw [mG (by rw [bnd]; simp; omega),Option.bind_some,mG (by rw [bnd]; simp; omega),Option.bind_some]
 exact ⟨_,rfl,rfl,rfl,rfl⟩
theorem zk {a b:Str} (h:a.length + b.length ≤ 1000):cat a b=some (a ++ b):=by unfold cat; rw [if_pos (by omega)]
theorem CR (hp:0 < l.length) (hl:l.length ≤ 8) (hd:dp.length ≤ 8) {i:Int} (h0:0 ≤ i) (h7:i ≤ 7) (x28 x32 x44:Int) (x45:Str):∃ rec:ai,rec.Name=[114] ++ nm i∧rec.Parent=x28∧rec.dN=[Seg.mk x44 x45]∧bz n a1 l dp i again x28 x32 x44 x45=again (l ++ [rec]) (dp ++ [x32]) (IntKind.wrap .i64 (i + 1)):=by
 unfold bz
 have hc:cat [114] (([(IntKind.wrap .u8 (IntKind.wrap .i64 (97 + i)))]).map fun (n:Int)=>UInt8.ofNat n.toNat)=some ([114] ++ nm i):=zk (by simp)
 obtain ⟨k1,e1⟩:=lJ n a1.dU i h0
 obtain ⟨k2,e2⟩:=lJ n a1.Comps i h0
 obtain ⟨w1,f1,_⟩:=fB n k2 0 3 (by omega) (by omega) (by omega)
 obtain ⟨k3,e3⟩:=lJ n a1.Rules i h0
 rw [hc,Option.bind_some,e1,Option.bind_some,e2,Option.bind_some,f1,Option.bind_some,e3,Option.bind_some]
 split
 ·
  rw [Option.bind_some]
  have hq:CV .i64 k3 4=some (IntKind.wrap .i64 (k3.tdiv 4)):=by unfold CV; rw [if_neg (by omega)]
  obtain ⟨w2,f2,_⟩:=fB n (IntKind.wrap .i64 (k3.tdiv 4)) 0 4 (by omega) (by omega) (by omega)
  obtain ⟨k4,e4⟩:=lJ n a1.Flags i h0
  obtain ⟨w3,f3,_⟩:=fB n k4 0 3 (by omega) (by omega) (by omega)
  rw [hq,Option.bind_some,f2,Option.bind_some,e4,Option.bind_some,f3,Option.bind_some]
  split
  ·
   have hw:IntKind.wrap .i64 (i + 1)=i + 1:=nK (by omega) (by omega)
   obtain ⟨k5,e5⟩:=lJ n a1.Flags (IntKind.wrap .i64 (i + 1)) (by rw [hw]; omega)
   have hw2:IntKind.wrap .i64 ((l.length:Int) - 1)=(l.length:Int) - 1:=nK (by omega) (by omega)
   obtain ⟨w4,f4,g1,g2⟩:=fB n k5 0 (IntKind.wrap .i64 ((l.length:Int) - 1)) (by rw [hw2]; omega) (by omega) (by rw [hw2]; omega)
   rw [hw2] at g2
   obtain ⟨x,hx,_⟩:=jP l (i:=w4) g1 (by omega)
   rw [e5,Option.bind_some,f4,Option.bind_some,hx,Option.bind_some]
   exact zT hl hd _ _ _ _ _ _ _ _ _ _ _
  ·
   exact zT hl hd _ _ _ _ _ _ _ _ _ _ _
 ·
  exact zT hl hd _ _ _ _ _ _ _ _ _ _ _
theorem De (hp:0 < l.length) (hl:l.length ≤ 8) (hd:dp.length ≤ 8) {i:Int} (h0:0 ≤ i) (h7:i ≤ 7) (x28 x32:Int):∃ rec:ai,rec.Name=[114] ++ nm i∧rec.Parent=x28∧(∃ s,rec.dN=[s]∧Fj i s)∧bq n a1 l dp i again x28 x32=again (l ++ [rec]) (dp ++ [x32]) (IntKind.wrap .i64 (i + 1)):=by
 unfold bq
 obtain ⟨k1,e1⟩:=lJ n a1.Kinds i h0
 obtain ⟨w1,f1,f10,f14⟩:=fB n k1 0 4 (by omega) (by omega) (by omega)
 have hc:cat [112] (([(IntKind.wrap .u8 (IntKind.wrap .i64 (97 + i)))]).map fun (n:Int)=>UInt8.ofNat n.toNat)=some ([112] ++ nm i):=zk (by simp)
 rw [e1,Option.bind_some,f1,Option.bind_some,hc,Option.bind_some]
 split
 ·
  obtain ⟨k2,e2⟩:=lJ n a1.Texts i h0
  have h6:IntKind.wrap .i64 ((([[97],[98],[105,116,101,109],[122],[49],[108,105,115,116]]:List (List Nat)).length:Int) - 1)=5:=by rw [nK (by simp) (by simp)]; rfl
  obtain ⟨w2,f2,g1,g2⟩:=fB n k2 0 5 (by omega) (by omega) (by omega)
  obtain ⟨x,hx,hxm,_⟩:=jP ([[97],[98],[105,116,101,109],[122],[49],[108,105,115,116]]:List Str) (i:=w2) g1 (by simp; omega)
  rw [e2,Option.bind_some,h6,f2,Option.bind_some,hx,Option.bind_some]
  obtain ⟨rec,q1,q2,q3,q4⟩:=CR (n:=n) (a1:=a1) (again:=again) hp hl hd h0 h7 x28 x32 (Seg.mk 0 x).Kind (Seg.mk 0 x).Text
  exact ⟨rec,q1,q2,⟨_,q3,.inl ⟨rfl,hxm⟩⟩,q4⟩
 ·
  rename_i hk
  simp only [decide_eq_true_eq] at hk
  rw [nK (by omega) (by omega)] at hk
  obtain ⟨rec,q1,q2,q3,q4⟩:=CR (n:=n) (a1:=a1) (again:=again) hp hl hd h0 h7 x28 x32 (Seg.mk (IntKind.wrap .i64 (w1 - 1)) ([112] ++ nm i)).Kind (Seg.mk (IntKind.wrap .i64 (w1 - 1)) ([112] ++ nm i)).Text
  refine ⟨rec,q1,q2,⟨_,q3,.inr ⟨?_,?_,rfl⟩⟩,q4⟩
  ·
   simp only; rw [nK (by omega) (by omega)]; omega
  ·
   simp only; rw [nK (by omega) (by omega)]; omega
theorem Ef (hp:0 < l.length) (hl:l.length ≤ 8) (hd:dp.length=l.length) {i x28:Int} (h0:0 ≤ i) (h7:i ≤ 7) (hx:x28 < l.length):∃ (rec:ai) (x32:Int),rec.Name=[114] ++ nm i∧rec.Parent=x28∧(∃ s,rec.dN=[s]∧Fj i s)∧aW n a1 l dp i again x28=again (l ++ [rec]) (dp ++ [x32]) (IntKind.wrap .i64 (i + 1)):=by
 unfold aW
 by_cases h:0 ≤ x28
 ·
  obtain ⟨x,hx,_⟩:=jP dp (i:=x28) h (by omega)
  rw [if_pos (by simpa using h),hx,Option.bind_some]
  obtain ⟨rec,q⟩:=De (n:=n) (a1:=a1) (again:=again) (l:=l) (dp:=dp) hp hl (by omega) h0 h7 x28 (IntKind.wrap .i64 (x + 1))
  exact ⟨rec,_,q⟩
 ·
  rw [if_neg (by simpa using h)]
  obtain ⟨rec,q⟩:=De (n:=n) (a1:=a1) (again:=again) (l:=l) (dp:=dp) hp hl (by omega) h0 h7 x28 1
  exact ⟨rec,_,q⟩
end
theorem DZ (n:Nat) (s:List Seg) (h:s.length ≤ 1):∃ b,dO n s=some b∧(b=false→∀ x ∈ s,x.Kind < 2):=by
 unfold dO
 match s,h with
 | [],_=>exact ⟨false,rfl,fun _ x hx=>by cases hx⟩
 | [x],_ =>
  refine ⟨decide (2 ≤ x.Kind),?_,fun hb y hy=>?_⟩
  ·
   rw [if_pos (by simp),show IntKind.wrap .i64 ((([x]:List Seg).length:Int) - 1)=0 from by rw [nK (by simp) (by simp)]; rfl]
   rfl
  ·
   simp at hy hb; subst hy; exact hb
theorem AZ {n:Nat} {a1:cz}:∀ (r i f:Nat) (l:List ai) (dp:List Int),i + r=min a1.Parents.length 7→r < f→Rs l→l.length=i + 1→dp.length=i + 1→∃ l',au n a1 f l dp (i:Int)=some l'∧Rs l'
 | 0,i,f + 1,l,dp,hi,hf,hR,hl,hd=>by
  refine ⟨l,?_,hR⟩
  rw [au,if_neg (by simp only [Bool.and_eq_true,decide_eq_true_eq]; omega)]
 | r + 1,i,f + 1,l,dp,hi,hf,hR,hl,hd=>by
  have hii:i < a1.Parents.length:=by omega
  have hw2:IntKind.wrap .i64 ((l.length:Int) - 1)=(l.length:Int) - 1:=nK (by omega) (by omega)
  obtain ⟨z,fz,z1,z2⟩:=fB n a1.Parents[i] (-1) (IntKind.wrap .i64 ((l.length:Int) - 1)) (by rw [hw2]; omega) (by omega) (by rw [hw2]; omega)
  rw [hw2] at z2
  have hin:∃ b,(if (decide (0 ≤ z))=true then ((idx dp z).bind fun z101=>((if (decide (3 < z101))=true then some true else ((idx l z).bind fun z102=>((dO n z102.dN).bind fun z103=>(some z103)))).bind fun z103=>(some z103))) else some false)=some b∧(b=false→0 ≤ z→∃ p,idx l z=some p∧∀ s ∈ p.dN,s.Kind < 2):=by
   by_cases h0:0 ≤ z
   ·
    obtain ⟨x,hx,_⟩:=jP dp (i:=z) h0 (by omega)
    obtain ⟨y,hy,_,hy2⟩:=jP l (i:=z) h0 (by omega)
    obtain ⟨b,hb,hb2⟩:=DZ n y.dN (hR.segs _ _ hy2)
    rw [if_pos (by simpa using h0),hx,Option.bind_some,hy,Option.bind_some,hb]
    split
    ·
     exact ⟨true,rfl,fun h=>by cases h⟩
    ·
     exact ⟨b,rfl,fun h _=>⟨y,rfl,hb2 h⟩⟩
   ·
    rw [if_neg (by simpa using h0)]; exact ⟨false,rfl,fun _ h=>absurd h h0⟩
  obtain ⟨b,hb,hbk⟩:=hin
  rw [au,if_pos (by simp only [Bool.and_eq_true,decide_eq_true_eq]; omega),lI,List.getElem?_eq_getElem hii,Option.bind_some,fz,Option.bind_some,hb,Option.bind_some]
  have fin:∀ x28:Int,-1 ≤ x28→x28 < l.length→(0 ≤ x28→∃ p,idx l x28=some p∧∀ s ∈ p.dN,s.Kind < 2)→∃ l',aW n a1 l dp (i:Int) (au n a1 f) x28=some l'∧Rs l':=fun x28 g1 g2 g3=>by
   obtain ⟨rec,x32,q1,q2,⟨sg,q3,q5⟩,q4⟩:=Ef (n:=n) (a1:=a1) (again:=au n a1 f) hR.pos hR.le (by omega:dp.length=l.length) (i:=(i:Int)) (x28:=x28) (by omega) (by omega) g2
   rw [q4,show IntKind.wrap .i64 ((i:Int) + 1)=((i + 1:Nat):Int) by rw [nK (by omega) (by omega)]; push_cast; rfl]
   exact AZ r (i + 1) f (l ++ [rec]) (dp ++ [x32]) (by omega) (by omega) (hR.snoc (by omega) (by rw [q1,hl]; rfl) (by rw [q2]; exact ⟨g1,g2⟩) ⟨sg,q3,q5.imp id (fun q=>⟨q.1,q.2.1,i,by omega,q.2.2⟩)⟩ (by rw [q2]; exact g3)) (by simp [hl]) (by simp [hd])
  cases b with
  | true=>exact fin (-1) (by omega) (by omega) (fun h=>by omega)
  | false=>exact fin z z1 (by omega) (hbk rfl)
theorem zL {n:Nat} (hn:10 ≤ n) (a1:cz):∃ l,bU n a1=some l∧Rs l:=by
 unfold bU
 refine AZ (min a1.Parents.length 7) 0 n _ _ (by omega) (by omega) ⟨by simp,by simp,fun j r h=>?_,fun j r h=>?_,fun j r h=>?_,fun j r h=>?_,fun j r h h0=>?_⟩ rfl rfl <;>
 ·
  have hj:j=0:=by have:=(List.getElem?_eq_some_iff.1 h).1; simp at this; omega
  subst hj
  simp at h
  subst h
  simp_all [jM]
end Pr
end Go.Ev

namespace Go.Ev
namespace Pr
set_option linter.unusedVariables false
set_option linter.unusedSimpArgs false
theorem yg {α:Type} {d r:List α} {z z':α}:gV (d ++ z :: r) (d.length:Int) z'=d ++ z' :: r:=by
 unfold gV; simp
theorem Av:∀ (k:Nat) (m p s:List Int) (f:Nat),m.length ≤ k→m.length < f→(p ++ m ++ s).length < 1000000→aP f (p ++ m ++ s) (p.length:Int) ((p.length:Int) + m.length - 1)=some (p ++ m.reverse ++ s)
 | k,[],p,s,f + 1,hk,hf,hl=>by
  rw [aP,if_neg (by simp; omega)]; simp
 | k,[a],p,s,f + 1,hk,hf,hl=>by
  rw [aP,if_neg (by simp)]; simp
 | k + 1,a :: b :: t,p,s,f + 1,hk,hf,hl=>by
  obtain ⟨m',c,hm⟩:∃ m' c,b :: t=m' ++ [c]:=⟨(b :: t).dropLast,(b :: t).getLast (by simp),(List.dropLast_concat_getLast (by simp)).symm⟩
  have hml:(b :: t).length=m'.length + 1:=by rw [hm]; simp
  simp only [List.length_cons] at hml
  have e:p ++ (a :: b :: t) ++ s=p ++ a :: (m' ++ c :: s):=by rw [hm]; simp
  have e2:p ++ (a :: b :: t) ++ s=(p ++ a :: m') ++ c :: s:=by rw [e]; simp
  have hlen:(p ++ (a :: b :: t) ++ s).length=p.length + (t.length + 2) + s.length:=by simp; omega
  have hj:(p.length:Int) + (a :: b :: t).length - 1=(((p ++ a :: m').length:Nat):Int):=by simp; omega
  have i1:idx (p ++ (a :: b :: t) ++ s) ((p.length:Int) + (a :: b :: t).length - 1)=some c:=by rw [hj]; exact nk e2
  have i2:idx (p ++ (a :: b :: t) ++ s) (p.length:Int)=some a:=nk e
  have s1:gV (p ++ (a :: b :: t) ++ s) (p.length:Int) c=(p ++ c :: m') ++ c :: s:=by rw [e,yg]; simp
  have hj2:(p.length:Int) + (a :: b :: t).length - 1=(((p ++ c :: m').length:Nat):Int):=by simp; omega
  have i3:idx ((p ++ c :: m') ++ c :: s) ((p.length:Int) + (a :: b :: t).length - 1)=some c:=by rw [hj2]; exact nk rfl
  have s2:gV ((p ++ c :: m') ++ c :: s) ((p.length:Int) + (a :: b :: t).length - 1) a=(p ++ [c]) ++ m' ++ (a :: s):=by rw [hj2,yg]; simp
  rw [aP,if_pos (by simp only [List.length_cons,decide_eq_true_eq]; omega),i1,Option.bind_some,i2,Option.bind_some,s1,i3,Option.bind_some,s2]
  have ih:=Av k m' (p ++ [c]) (a :: s) f (by simp at hk; omega) (by simp at hf; omega) (by rw [hlen] at hl; simp; omega)
  have w1:IntKind.wrap .i64 ((p.length:Int) + 1)=(((p ++ [c]).length:Nat):Int):=by rw [nK (by omega) (by rw [hlen] at hl; omega)]; simp
  have w2:IntKind.wrap .i64 ((p.length:Int) + (a :: b :: t).length - 1 - 1)=(((p ++ [c]).length:Nat):Int) + m'.length - 1:=by
   rw [nK (by simp only [List.length_cons]; omega) (by simp only [List.length_cons]; rw [hlen] at hl; omega)]
   simp; omega
  rw [w1,w2,ih,hm]
  simp
theorem zK {n:Nat} {a:List Int} (hn:a.length < n) (hl:a.length < 1000000):bZ n a=some a.reverse:=by
 unfold bZ
 have:=Av a.length a [] [] n (Nat.le_refl _) hn (by simpa using hl)
 simp only [List.nil_append,List.append_nil,List.length_nil] at this
 rw [nK (by omega) (by omega)]
 rw [show ((0:Nat):Int) + (a.length:Int) - 1=(a.length:Int) - 1 by omega] at this
 exact this
theorem dn {α:Type} {l:List α} {i:Int} {x:α} (h:idx l i=some x):0 ≤ i∧i < l.length∧l[i.toNat]? = some x:=by
 obtain ⟨h1,h2⟩:=gW h
 have:=(List.getElem?_eq_some_iff.1 h2).1
 exact ⟨h1,by omega,h2⟩
inductive Up (l:List ai):Int→List Int→Prop
 | top {i:Int} {r:ai} (h:idx l i=some r) (hp:r.Parent < 0):Up l i [i]
 | up {i:Int} {r:ai} {us:List Int} (h:idx l i=some r) (hp:0 ≤ r.Parent) (k:Up l r.Parent us):Up l i (i :: us)
structure Pk (l:List ai) (K:Int):Prop where
 par:∀ k r,idx l k=some r→k ≤ K→-1 ≤ r.Parent∧r.Parent < k
 segs:∀ k r,idx l k=some r→k ≤ K→r.dN.length ≤ 2
theorem Rs.pk {l:List ai} (h:Rs l) (K:Int):Pk l K:=⟨fun k r hr _=>by
  obtain ⟨h1,_,h2⟩:=dn hr
  have:=h.par _ r h2
  omega,fun k r hr _=>by
  obtain ⟨h1,_,h2⟩:=dn hr
  have:=h.segs _ r h2
  omega⟩
theorem Up.exists {l:List ai} (hR:Rs l):∀ (m:Nat) (i:Int),0 ≤ i→i < l.length→i < m→∃ us,Up l i us∧us.length ≤ i.toNat + 1
 | 0,i,h0,_,hm=>by omega
 | m + 1,i,h0,hl,hm=>by
  obtain ⟨r,hr,_,hr2⟩:=jP l h0 hl
  have hp:=hR.par _ r hr2
  by_cases h:r.Parent < 0
  ·
   exact ⟨[i],.top hr h,by simp⟩
  ·
   obtain ⟨us,hu,hl'⟩:=Up.exists hR m r.Parent (by omega) (by omega) (by omega)
   exact ⟨i :: us,.up hr (by omega) hu,by simp; omega⟩
theorem Up.to {l m:List ai} {K:Int} (hP:Pk l K) (hm:∀ k r,k ≤ K→idx l k=some r→∃ r',idx m k=some r'∧r'.Parent=r.Parent) {i:Int} {us:List Int} (h:Up l i us):i ≤ K→Up m i us:=by
 induction h with
 | top h hp =>
  intro hi
  obtain ⟨r',h1,h2⟩:=hm _ _ hi h
  exact .top h1 (by omega)
 | up h hp k ih =>
  intro hi
  obtain ⟨r',h1,h2⟩:=hm _ _ hi h
  have:=hP.par _ _ h hi
  exact .up h1 (by omega) (by rw [h2]; exact ih (by omega))
theorem Up.le {l:List ai} {K:Int} (hP:Pk l K) {i:Int} {us:List Int} (h:Up l i us):i ≤ K→∀ k ∈ us,k ≤ i:=by
 induction h with
 | top h hp=>intro _ k hk; simp at hk; omega
 | up h hp k ih =>
  intro hi x hx
  have:=hP.par _ _ h hi
  rcases List.mem_cons.1 hx with rfl | hx
  ·
   omega
  ·
   have:=ih (by omega) x hx; omega
theorem BV {n:Nat} {l:List ai} {K:Int} (hP:Pk l K) {i:Int} {us:List Int} (h:Up l i us):i ≤ K→∀ (f:Nat) (acc:List Int),us.length < f→acc.length + us.length ≤ 1000→bR n l f i acc=dS n (acc ++ us):=by
 induction h with
 | top h hp =>
  intro hi f acc hf hl
  obtain ⟨f,rfl⟩:∃ g,f=g + 2:=⟨f - 2,by simp at hf; omega⟩
  obtain ⟨h1,h2,h3⟩:=dn h
  simp at hl
  rw [bR,if_pos (by simp only [Bool.and_eq_true,decide_eq_true_eq]; exact ⟨h1,h2⟩),mG (by rw [bnd]; simp; omega),Option.bind_some,h,Option.bind_some,if_neg (by rw [decide_eq_true_eq]; omega),bR,if_neg (by simp only [Bool.and_eq_true,decide_eq_true_eq]; omega)]
 | up h hp k ih =>
  intro hi f acc hf hl
  rename_i i r us
  obtain ⟨f,rfl⟩:∃ g,f=g + 1:=⟨f - 1,by simp at hf; omega⟩
  obtain ⟨h1,h2,h3⟩:=dn h
  have hpar:=hP.par _ _ h hi
  simp at hl hf
  rw [bR,if_pos (by simp only [Bool.and_eq_true,decide_eq_true_eq]; exact ⟨h1,h2⟩),mG (by rw [bnd]; simp; omega),Option.bind_some,h,Option.bind_some,if_neg (by rw [decide_eq_true_eq]; omega),ih (by omega) f (acc ++ [i]) (by omega) (by simp; omega)]
  simp
theorem Cb {n:Nat} (hn:100 ≤ n) {l:List ai} {K:Int} (hP:Pk l K) {i:Int} {us:List Int} (h:Up l i us) (hi:i ≤ K) (hu:us.length ≤ 50):iT n l i=some us.reverse:=by
 unfold iT
 rw [BV hP h hi n [] (by omega) (by simp; omega),List.nil_append,dS,zK (by omega) (by omega)]
 rfl
inductive Down (l:List ai):List Int→Int→Prop
 | top {i:Int} {r:ai} (h:idx l i=some r) (hp:r.Parent = -1):Down l [i] i
 | snoc {c:List Int} {p i:Int} {r:ai} (k:Down l c p) (h:idx l i=some r) (hp:r.Parent=p) (h0:0 ≤ p):Down l (c ++ [i]) i
theorem Up.down {l:List ai} {K:Int} (hP:Pk l K) {i:Int} {us:List Int} (h:Up l i us):i ≤ K→Down l us.reverse i:=by
 induction h with
 | top h hp =>
  intro hi
  have:=hP.par _ _ h hi
  exact .top h (by omega)
 | up h hp k ih =>
  intro hi
  have:=hP.par _ _ h hi
  rw [List.reverse_cons]; exact .snoc (ih (by omega)) h rfl hp
theorem Down.last {l:List ai} {c:List Int} {i:Int} (h:Down l c i):∃ d,c=d ++ [i]:=by
 cases h with
 | top h hp=>exact ⟨[],rfl⟩
 | snoc k h hp h0=>exact ⟨_,rfl⟩
theorem Down.at {l:List ai} {c:List Int} {i:Int} (h:Down l c i):∀ (m:Nat) (k:Int),c[m]? = some k→∃ r,idx l k=some r∧((m=0∧r.Parent = -1)∨(0 < m∧c[m - 1]? = some r.Parent)):=by
 induction h with
 | top h hp =>
  intro m k hk
  have hm:m=0:=by have:=(List.getElem?_eq_some_iff.1 hk).1; simp at this; omega
  subst hm
  simp at hk; subst hk
  exact ⟨_,h,.inl ⟨rfl,hp⟩⟩
 | snoc k h hp h0 ih =>
  rename_i c p i r
  intro m x hx
  obtain ⟨d,hd⟩:=k.last
  by_cases q:m < c.length
  ·
   rw [List.getElem?_append_left q] at hx
   obtain ⟨r',h1,h2⟩:=ih m x hx
   refine ⟨r',h1,?_⟩
   rcases h2 with h2 | ⟨h2,h3⟩
   ·
    exact .inl h2
   ·
    exact .inr ⟨h2,by rw [List.getElem?_append_left (by omega)]; exact h3⟩
  ·
   have hm:m=c.length:=by have:=(List.getElem?_eq_some_iff.1 hx).1; simp at this; omega
   subst hm
   rw [List.getElem?_append_right (Nat.le_refl _)] at hx
   simp at hx; subst hx
   have hcl:c.length=d.length + 1:=by rw [hd]; simp
   refine ⟨r,h,.inr ⟨by omega,?_⟩⟩
   rw [List.getElem?_append_left (by omega),hp]
   rw [hcl,Nat.add_sub_cancel,hd]
   simp
def dG (l:List ai) (k:Int):List Seg:=match idx l k with | some r=>r.dN | none=>[]
theorem xR {l:List ai} {K:Int} (hP:Pk l K) (c:List Int) (hc:∀ k ∈ c,0 ≤ k∧k < l.length∧k ≤ K) (hcl:c.length ≤ 50):∀ (rest done:List Int) (out:List Seg) (f:Nat),c=done ++ rest→rest.length < f→out.length ≤ 2 * done.length→cO l c f out (done.length:Int)=some (out ++ rest.flatMap (dG l))
 | [],done,out,f + 1,h,hf,ho=>by
  rw [cO,if_neg (by rw [h]; simp)]; simp
 | k :: rest,done,out,f + 1,h,hf,ho=>by
  have hlen:c.length=done.length + rest.length + 1:=by rw [h]; simp; omega
  obtain ⟨h0,h1,hK⟩:=hc k (by rw [h]; simp)
  obtain ⟨r,hr,_,hr2⟩:=jP l h0 h1
  have hs:=hP.segs _ r hr hK
  have hseg:dG l k=r.dN:=by unfold dG; rw [hr]
  rw [cO,if_pos (by rw [decide_eq_true_eq]; omega),nk h,Option.bind_some,hr,Option.bind_some,mG (by rw [bnd]; omega),Option.bind_some]
  have ih:=xR hP c hc hcl rest (done ++ [k]) (out ++ r.dN) f (by rw [h]; simp) (by simp at hf; omega) (by simp; omega)
  have hw:IntKind.wrap .i64 ((done.length:Int) + 1)=(((done ++ [k]).length:Nat):Int):=by rw [nK (by omega) (by omega)]; simp
  rw [hw,ih]
  simp [hseg]
theorem AR {n:Nat} (hn:100 ≤ n) {l:List ai} {K:Int} (hP:Pk l K) {i:Int} {us:List Int} (h:Up l i us) (hi:i ≤ K) (hu:us.length ≤ 50):eZ n l i=some (us.reverse.flatMap (dG l)):=by
 have hc:∀ k ∈ us.reverse,0 ≤ k∧k < l.length∧k ≤ K:=fun k hk=>by
  obtain ⟨m,hm⟩:=List.getElem?_of_mem hk
  obtain ⟨r,hr,_⟩:=(h.down hP hi).at m k hm
  have:=dn hr
  have:=h.le hP hi k (by simpa using hk)
  exact ⟨by omega,by omega,by omega⟩
 unfold eZ
 rw [Cb hn hP h hi hu,Option.bind_some]
 have:=xR hP us.reverse hc (by simpa using hu) us.reverse [] [] n rfl (by simp; omega) (by simp)
 simpa using this
theorem Ab {n:Nat} (m:List ai) (s:Str) (hn:m.length < n) (hl:m.length < 1000000):∃ z,iZ n m s=some z:=by
 have loop:∀ (k j f:Nat),j + k=m.length→k < f→∃ z,aB m (fun y6=>fC n y6 s) f (j:Int)=some z:=by
  intro k
  induction k with
  | zero =>
   intro j f hj hf
   obtain ⟨f,rfl⟩:∃ g,f=g + 1:=⟨f - 1,by omega⟩
   rw [aB,if_neg (by rw [decide_eq_true_eq]; omega)]
   exact ⟨_,rfl⟩
  | succ k ih =>
   intro j f hj hf
   obtain ⟨f,rfl⟩:∃ g,f=g + 1:=⟨f - 1,by omega⟩
   rw [aB,if_pos (by rw [decide_eq_true_eq]; omega),lI,List.getElem?_eq_getElem (by omega),Option.bind_some,fC,Option.bind_some]
   split
   ·
    exact ⟨_,rfl⟩
   ·
    rw [show IntKind.wrap .i64 ((j:Int) + 1)=((j + 1:Nat):Int) by rw [nK (by omega) (by omega)]; push_cast; rfl]
    exact ih (j + 1) f (by omega) (by omega)
 obtain ⟨z,hz⟩:=loop m.length 0 n (by omega) (by omega)
 refine ⟨z,?_⟩
 unfold iZ bE
 rw [show ((0:Nat):Int)=0 from rfl] at hz
 rw [hz]; rfl
end Pr
end Go.Ev

namespace Go.Ev
namespace Pr
set_option linter.unusedVariables false
set_option linter.unusedSimpArgs false
theorem kZ (n:Nat) (s:Str):bK n s=bK 0 s:=rfl
set_option maxRecDepth 100000 in
theorem yo:∀ t ∈ texts,bK 0 t=some true:=by decide +kernel
set_option maxRecDepth 100000 in
theorem Bb:∀ i ∈ List.range 8,bK 0 ([112] ++ nm (i:Int))=some true:=by decide +kernel
set_option maxRecDepth 100000 in
theorem vW:∀ j ∈ List.range 8,bK 0 (jM j)=some true:=by decide +kernel
set_option maxRecDepth 100000 in
theorem A9:bK 0 [114]=some true∧bK 0 []=some false:=by decide +kernel
theorem EO {a b:Nat} (ha:a < 8) (hb:b < 8) (h:nm (a:Int)=nm (b:Int)):a=b:=by
 have key:∀ i ∈ List.range 8,∀ j ∈ List.range 8,nm (i:Int)=nm (j:Int)→i=j:=by decide +kernel
 exact key a (List.mem_range.2 ha) b (List.mem_range.2 hb) h
theorem vk.named {j:Nat} {s:Seg} (h:vk j s) (hj:j ≤ 8) (n:Nat):bK n s.Text=some true∧0 ≤ s.Kind∧s.Kind ≤ 3:=by
 rcases h with ⟨h1,h2⟩ | ⟨h1,h2,i,rfl,h3⟩
 ·
  exact ⟨by rw [kZ]; exact yo _ h2,by omega,by omega⟩
 ·
  exact ⟨by rw [kZ,h3]; exact Bb i (List.mem_range.2 (by omega)),by omega,by omega⟩
theorem vC {n:Nat} (a:List Seg) (p:Seg→Option Bool) (hp:∀ t ∈ a,p t=some false) (hl:a.length < 1000000):∀ (rest done:List Seg) (f:Nat),a=done ++ rest→rest.length < f→aI a p f (done.length:Int)=some (-1)
 | [],done,f + 1,h,hf=>by rw [aI,if_neg (by rw [decide_eq_true_eq,h]; simp)]
 | t :: rest,done,f + 1,h,hf=>by
  have hlen:a.length=done.length + rest.length + 1:=by rw [h]; simp; omega
  have hw:IntKind.wrap .i64 ((done.length:Int) + 1)=(((done ++ [t]).length:Nat):Int):=by rw [nK (by omega) (by omega)]; simp
  rw [aI,if_pos (by rw [decide_eq_true_eq]; omega),nk h,Option.bind_some,hp t (by rw [h]; simp),Option.bind_some,if_neg (by simp),hw]
  exact vC (n:=n) a p hp hl rest (done ++ [t]) f (by rw [h]; simp) (by simp at hf; omega)
theorem xU {n:Nat} {a:List Seg} {p:Seg→Option Bool} (hp:∀ t ∈ a,p t=some false) (hl:a.length < n) (hl2:a.length < 1000000):aU n a p=some false:=by
 unfold aU bM
 have:=vC (n:=n) a p hp hl2 a [] n rfl hl
 rw [List.length_nil,show ((0:Nat):Int)=0 from rfl] at this
 rw [this]; rfl
structure wG (a:List Seg) (N:Nat):Prop where
 nam:∀ (q:Nat) (s:Seg),a[q]? = some s→q < N→∀ n,bK n s.Text=some true∧0 ≤ s.Kind∧s.Kind ≤ 3
 last:∀ (q:Nat) (s:Seg),a[q]? = some s→q < N→2 ≤ s.Kind→q + 1=a.length
 twice:∀ (q q':Nat) (s t:Seg),a[q]? = some s→q < N→a[q']? = some t→q' < q→s.Kind ≠ 0→¬(t.Kind ≠ 0∧t.Text=s.Text)
theorem wL {n:Nat} (hn:100 ≤ n) {a:List Seg} {N:Nat} (hN:N ≤ a.length) (ha:a.length ≤ 50) (G:wG a N):∀ (r q f:Nat),q + r=N→r ≤ f→bC n a f (q:Int)=bC n a (f - r) (N:Int)
 | 0,q,f,hq,hf=>by rw [show q=N by omega]; rfl
 | r + 1,q,f + 1,hq,hf=>by
  have hqa:q < a.length:=by omega
  have hg:a[q]? = some a[q]:=List.getElem?_eq_getElem hqa
  obtain ⟨h1,h2,h3⟩:=G.nam q _ hg (by omega) n
  have hw:IntKind.wrap .i64 ((q:Int) + 1)=((q + 1:Nat):Int):=by rw [nK (by omega) (by omega)]; push_cast; rfl
  have hw1:IntKind.wrap .i64 ((a.length:Int) - 1)=(a.length:Int) - 1:=nK (by omega) (by omega)
  have c1:decide (a[q].Kind < 0)=false:=by rw [decide_eq_false_iff_not]; omega
  have c2:decide (3 < a[q].Kind)=false:=by rw [decide_eq_false_iff_not]; omega
  have c3:¬(decide (2 ≤ a[q].Kind) && (!((q:Int) == IntKind.wrap .i64 ((a.length:Int) - 1))))=true:=by
   rw [hw1]
   simp only [Bool.and_eq_true,decide_eq_true_eq,Bool.not_eq_true',beq_eq_false_iff_ne]
   rintro ⟨k1,k2⟩
   have:=G.last q _ hg (by omega) k1
   apply k2; omega
  have c4:(if (a[q].Kind != 0)=true then ((cut a 0 (q:Int)).bind fun z25=>((aU n z25 (fun y26=>dY n y26 a[q])).bind fun z27=>(some z27))) else some false)=some false:=by
   by_cases hk:a[q].Kind=0
   ·
    rw [if_neg (by simp [hk])]
   ·
    have hcut:cut a 0 (q:Int)=some (a.take q):=by unfold cut; rw [if_pos ⟨by omega,by omega,by omega⟩]; simp
    rw [if_pos (by simp [hk]),hcut,Option.bind_some,xU (fun t ht=>?_) (by simp; omega) (by simp; omega)]
    ·
     rfl
    ·
     obtain ⟨q',hq'⟩:=List.getElem?_of_mem ht
     have hlt:q' < q:=by have:=(List.getElem?_eq_some_iff.1 hq').1; simp at this; omega
     rw [List.getElem?_take_of_lt hlt] at hq'
     have:=G.twice q q' _ t hg (by omega) hq' hlt hk
     unfold dY
     congr 1
     simp only [Bool.and_eq_false_iff,bne_eq_false_iff_eq,beq_eq_false_iff_ne]
     by_cases ht0:t.Kind=0
     ·
      exact .inl ht0
     ·
      exact .inr (fun e=>this ⟨ht0,e⟩)
  rw [bC,if_pos (by rw [decide_eq_true_eq]; omega),lI,hg,Option.bind_some,h1,Option.bind_some,c1,c2,if_neg (by simp),if_neg c3,c4,Option.bind_some,if_neg (by simp),hw]
  rw [wL hn hN ha G r (q + 1) f (by omega) (by omega)]
  congr 1
  omega
theorem Ao {n:Nat} (hn:100 ≤ n) {a:List Seg} (ha:a.length ≤ 8) (G:wG a a.length):bF n a=some true:=by
 unfold bF
 rw [if_neg (by rw [decide_eq_true_eq]; omega)]
 have:=wL hn (Nat.le_refl _) (by omega) G a.length 0 n (by omega) (by omega)
 rw [show ((0:Nat):Int)=0 from rfl] at this
 obtain ⟨g,hg⟩:∃ g,n - a.length=g + 1:=⟨n - a.length - 1,by omega⟩
 rw [this,hg,bC,if_neg (by simp)]
theorem zt {n:Nat} (hn:100 ≤ n) {s:Str} {b:Bool} (hs:bK 0 s=some b):bF n [Seg.mk 0 s]=some b:=by
 cases b with
 | true =>
  refine Ao hn (by simp) ⟨fun q x hx hq m=>?_,fun q x hx hq hk=>?_,fun q q' x t hx hq ht hlt hk=>?_⟩
  ·
   simp at hq; subst hq; simp at hx; subst hx; exact ⟨by rw [kZ]; exact hs,by simp,by simp⟩
  ·
   simp at hq; subst hq; simp
  ·
   simp at hq; omega
 | false =>
  unfold bF
  obtain ⟨g,rfl⟩:∃ g,n=g + 1:=⟨n - 1,by omega⟩
  rw [if_neg (by simp),bC,if_pos (by simp),show idx [Seg.mk 0 s] 0=some (Seg.mk 0 s) from rfl,Option.bind_some,kZ]
  simp only []
  rw [hs,Option.bind_some,if_pos (by simp)]
theorem Ey {n:Nat} (hn:100 ≤ n) {x:List Seg} (hx:x.length ≤ 40) (G:∀ (q:Nat) (s:Seg),x[q]? = some s→(∀ n,bK n s.Text=some true∧0 ≤ s.Kind∧s.Kind ≤ 3)∧s.Kind < 2)
  (T:∀ (q q':Nat) (s t:Seg),x[q]? = some s→x[q']? = some t→q' < q→s.Kind ≠ 0→¬(t.Kind ≠ 0∧t.Text=s.Text)):bF n (x ++ [Seg.mk 3 [114],Seg.mk 0 [97]])=some false:=by
 unfold bF
 split
 ·
  rfl
 ·
  have get:∀ (q:Nat) (s:Seg),(x ++ [Seg.mk 3 [114],Seg.mk 0 [97]])[q]? = some s→q < x.length→x[q]? = some s:=fun q s h hq=>by rw [List.getElem?_append_left hq] at h; exact h
  have GT:wG (x ++ [Seg.mk 3 [114],Seg.mk 0 [97]]) x.length:=⟨fun q s h hq n=>(G q s (get q s h hq)).1 n,fun q s h hq hk=>by have:=(G q s (get q s h hq)).2; omega,fun q q' s t h hq h' hlt hk=>T q q' s t (get q s h hq) (get q' t h' (by omega)) hlt hk⟩
  have:=wL hn (a:=x ++ [Seg.mk 3 [114],Seg.mk 0 [97]]) (N:=x.length) (by simp) (by simp; omega) GT x.length 0 n (by omega) (by omega)
  rw [show ((0:Nat):Int)=0 from rfl] at this
  obtain ⟨g,hg⟩:∃ g,n - x.length=g + 1:=⟨n - x.length - 1,by omega⟩
  have hw:IntKind.wrap .i64 (((x ++ [Seg.mk 3 [114],Seg.mk 0 [97]]).length:Int) - 1)=(x.length:Int) + 1:=by rw [nK (by simp; omega) (by simp; omega)]; simp; omega
  rw [this,hg,bC,if_pos (by rw [decide_eq_true_eq]; simp; omega),nk (done:=x) (z:=Seg.mk 3 [114]) (rest:=[Seg.mk 0 [97]]) rfl,Option.bind_some,kZ]
  simp only []
  rw [A9.1,Option.bind_some,if_neg (by simp),if_pos (by rw [hw]; simp; omega)]
structure dN (l:List ai) (c:List Int) (i:Int):Prop where
 ok:∀ s ∈ c.flatMap (dG l),∃ j:Nat,j < 8∧(j:Int) ≤ i∧vk j s
 pw:(c.flatMap (dG l)).Pairwise (fun s t=>¬(t.Kind ≠ 0∧s.Kind ≠ 0∧s.Text=t.Text))
 sp:∃ y,c.flatMap (dG l)=y ++ dG l i∧∀ s ∈ y,s.Kind < 2
 len:(c.flatMap (dG l)).length ≤ c.length
theorem rW {l:List ai} {i:Int} {r:ai} (h:idx l i=some r):dG l i=r.dN:=by unfold dG; rw [h]
theorem uk {l:List ai} (hR:Rs l) {i:Int} {r:ai} (h:idx l i=some r):(dG l i).length ≤ 1∧∀ s ∈ dG l i,∃ j:Nat,(j:Int)=i∧j < 8∧vk j s:=by
 obtain ⟨h0,h1,h2⟩:=dn h
 have hle:=hR.le
 rw [rW h]
 refine ⟨hR.segs _ r h2,fun s hs=>?_⟩
 rcases hR.sg _ r h2 with q | ⟨s',q,q'⟩
 ·
  rw [q] at hs; cases hs
 ·
  rw [q] at hs
  simp at hs; subst hs
  exact ⟨i.toNat,by omega,by omega,q'⟩
theorem Au {l:List ai} (hR:Rs l) {c:List Int} {i:Int} (h:Down l c i):dN l c i:=by
 induction h with
 | top h hp =>
  rename_i i r
  obtain ⟨h1,h2⟩:=uk hR h
  have e:([i]:List Int).flatMap (dG l)=dG l i:=by simp
  refine ⟨fun s hs=>?_,?_,⟨[],by rw [e]; rfl,by simp⟩,by rw [e]; simpa using h1⟩
  ·
   rw [e] at hs; obtain ⟨j,a,b,d⟩:=h2 s hs; exact ⟨j,b,by omega,d⟩
  ·
   rw [e]
   match dG l i,h1 with
   | [],_=>exact .nil
   | [x],_=>simp
 | snoc k h hp h0 ih =>
  rename_i c p i r
  obtain ⟨h1,h2⟩:=uk hR h
  obtain ⟨g0,g1,g2⟩:=dn h
  have hpi:=hR.par _ r g2
  obtain ⟨pr,hpr,hkid⟩:=hR.kid _ r g2 (by omega)
  rw [hp] at hpr
  obtain ⟨y,hy,hy2⟩:=ih.sp
  have e:(c ++ [i]).flatMap (dG l)=c.flatMap (dG l) ++ dG l i:=by simp
  have low:∀ s ∈ c.flatMap (dG l),s.Kind < 2:=fun s hs=>by
   rw [hy] at hs
   rcases List.mem_append.1 hs with q | q
   ·
    exact hy2 s q
   ·
    rw [rW hpr] at q; exact hkid s q
  refine ⟨fun s hs=>?_,?_,⟨_,e,low⟩,by rw [e,List.length_append,List.length_append]; have:=ih.len; simp only [List.length_cons,List.length_nil]; omega⟩
  ·
   rw [e] at hs
   rcases List.mem_append.1 hs with q | q
   ·
    obtain ⟨j,a,b,d⟩:=ih.ok s q; exact ⟨j,a,by omega,d⟩
   ·
    obtain ⟨j,a,b,d⟩:=h2 s q; exact ⟨j,b,by omega,d⟩
  ·
   rw [e]
   refine List.pairwise_append.2 ⟨ih.pw,?_,fun s hs t ht=>?_⟩
   ·
    match dG l i,h1 with
    | [],_=>exact .nil
    | [x],_=>simp
   ·
    rintro ⟨k1,k2,k3⟩
    obtain ⟨j,a1,a2,a3⟩:=ih.ok s hs
    obtain ⟨j',b1,b2,b3⟩:=h2 t ht
    rcases a3 with ⟨a3,_⟩ | ⟨_,_,m,rfl,a3⟩
    ·
     exact k2 a3
    ·
     rcases b3 with ⟨b3,_⟩ | ⟨_,_,m',rfl,b3⟩
     ·
      exact k1 b3
     ·
      rw [a3,b3] at k3
      have:=EO (by omega) (by omega) (List.append_cancel_left k3)
      subst this
      omega
theorem dN.good {l:List ai} {c:List Int} {i:Int} (S:dN l c i) (h1:(dG l i).length ≤ 1):wG (c.flatMap (dG l)) (c.flatMap (dG l)).length:=by
 refine ⟨fun q s hs hq n=>?_,fun q s hs hq hk=>?_,fun q q' s t hs hq ht hlt hk=>?_⟩
 ·
  obtain ⟨j,a,b,d⟩:=S.ok s (List.mem_of_getElem? hs)
  exact d.named (by omega) n
 ·
  obtain ⟨y,hy,hy2⟩:=S.sp
  rw [hy] at hs ⊢
  by_cases hqy:q < y.length
  ·
   rw [List.getElem?_append_left hqy] at hs
   have:=hy2 s (List.mem_of_getElem? hs); omega
  ·
   have:=(List.getElem?_eq_some_iff.1 hs).1
   simp at this ⊢; omega
 ·
  obtain ⟨e1,e2⟩:=List.getElem?_eq_some_iff.1 hs
  obtain ⟨e3,e4⟩:=List.getElem?_eq_some_iff.1 ht
  have:=List.pairwise_iff_getElem.1 S.pw q' q e3 e1 hlt
  rw [e2,e4] at this
  rintro ⟨k1,k2⟩
  exact this ⟨hk,k1,k2⟩
end Pr
end Go.Ev

namespace Go.Ev
namespace Pr
set_option linter.unusedVariables false
set_option linter.unusedSimpArgs false
set_option linter.unusedSectionVars false
section
variable {κ ν:Type} [BEq κ] [LawfulBEq κ]
theorem mg (k:κ):∀ (m:List (κ × ν)) (i:Nat),(ji k m i).map (·.2)=(ji k m 0).map (·.2)
 | [],i=>rfl
 | (a,b) :: l,i=>by
  simp only [ji]
  split
  ·
   rfl
  ·
   rw [mg k l (i + 1),mg k l 1]
theorem kN (a:κ) (b:ν) (l:List (κ × ν)) (k:κ):zh ((a,b) :: l) k=if (k == a)=true then some b else zh l k:=by
 unfold zh
 simp only [ji]
 split
 ·
  rfl
 ·
  exact mg k l 1
theorem vR (k:κ):∀ (m:List (κ × ν)) (i:Nat),ji k m (i + 1)=(ji k m i).map fun r=>(r.1 + 1,r.2)
 | [],i=>rfl
 | (c,e) :: m,i=>by
  simp only [ji]
  cases (k == c) with
  | true=>rfl
  | false=>exact vR k m (i + 1)
theorem Bh (a:κ) (b:ν) (l:List (κ × ν)) (k:κ) (v:ν):pO ((a,b) :: l) k v=if (k == a)=true then (k,v) :: l else (a,b) :: pO l k v:=by
 unfold pO
 simp only [ji,vR]
 cases h:(k == a) with
 | true=>have:=eq_of_beq h; subst this; simp
 | false=>cases ji k l 0 <;> simp
theorem vX:∀ (m:List (κ × ν)) (k k':κ) (v:ν),zh (pO m k v) k'=if (k' == k)=true then some v else zh m k'
 | [],k,k',v=>by
  have:pO ([]:List (κ × ν)) k v=[(k,v)]:=rfl
  rw [this,kN]
 | (a,b) :: l,k,k',v=>by
  rw [Bh]
  by_cases h:(k == a)=true
  ·
   rw [if_pos h,kN,kN]
   have:=eq_of_beq h
   subst this
   by_cases h2:(k' == k)=true
   ·
    rw [if_pos h2,if_pos h2]
   ·
    rw [if_neg h2,if_neg h2,if_neg h2]
  ·
   rw [if_neg h,kN,vX l k k' v,kN]
   by_cases h2:(k' == a)=true
   ·
    rw [if_pos h2,if_pos h2]
    have:=eq_of_beq h2
    subst this
    have h3:(k' == k)=false:=by
     cases hq:k' == k with
     | false=>rfl
     | true=>have:=eq_of_beq hq; subst this; simp at h
    rw [h3]; rfl
   ·
    rw [if_neg h2,if_neg h2]
theorem nM (m:List (κ × ν)) (k k':κ) (v z:ν):gq (pO m k v) k' z=if (k' == k)=true then v else gq m k' z:=by
 unfold gq
 rw [vX]
 split <;> rfl
end
end Pr
end Go.Ev

namespace Go.Ev
namespace Pr
set_option linter.unusedVariables false
set_option linter.unusedSimpArgs false
structure Agree (l m:List ai) (b:Nat):Prop where
 rs:Rs l
 le:b ≤ l.length
 lm:b ≤ m.length
 eq:∀ k:Nat,k < b→m[k]? = l[k]?
section
variable {l m:List ai} {b:Nat}
theorem Agree.pk (A:Agree l m b):Pk m ((b:Int) - 1):=by
 have get:∀ k r,idx m k=some r→k ≤ (b:Int) - 1→idx l k=some r:=fun k r h hk=>by
  obtain ⟨h0,_,h2⟩:=dn h
  rw [A.eq _ (by omega)] at h2
  unfold idx
  rw [if_pos h0,h2]
 have P:=A.rs.pk ((b:Int) - 1)
 exact ⟨fun k r h hk=>P.par k r (get k r h hk) hk,fun k r h hk=>P.segs k r (get k r h hk) hk⟩
theorem Agree.to (A:Agree l m b):∀ k r,k ≤ (b:Int) - 1→idx l k=some r→∃ r',idx m k=some r'∧r'.Parent=r.Parent:=fun k r hk h=>by
 obtain ⟨h0,_,h2⟩:=dn h
 refine ⟨r,?_,rfl⟩
 unfold idx
 rw [if_pos h0,A.eq _ (by omega),h2]
theorem Agree.Fw (A:Agree l m b) {k:Int} (hk:k ≤ (b:Int) - 1):dG m k=dG l k:=by
 unfold dG idx
 by_cases h0:0 ≤ k
 ·
  rw [if_pos h0,if_pos h0,A.eq _ (by omega)]
 ·
  rw [if_neg h0,if_neg h0]
theorem og {f g:Int→List Seg}:∀ (c:List Int),(∀ k ∈ c,f k=g k)→c.flatMap f=c.flatMap g
 | [],_=>rfl
 | a :: c,h=>by simp only [List.flatMap_cons]; rw [h a List.mem_cons_self,og c (fun k hk=>h k (List.mem_cons_of_mem _ hk))]
theorem Agree.full (A:Agree l m b) {n:Nat} (hn:100 ≤ n) {j:Nat} (hj:j < b):∃ a,eZ n m (j:Int)=some a∧bF n a=some true:=by
 have hle:=A.rs.le
 have hlb:=A.le
 obtain ⟨us,hU,hul⟩:=Up.exists A.rs (j + 1) (j:Int) (by omega) (by omega) (by omega)
 have hUm:=hU.to (A.rs.pk ((b:Int) - 1)) A.to (by omega)
 have hf:=AR hn A.pk hUm (by omega) (by omega)
 have hle2:=hU.le (A.rs.pk ((b:Int) - 1)) (by omega)
 have e:us.reverse.flatMap (dG m)=us.reverse.flatMap (dG l):=og _ (fun k hk=>A.Fw (by have:=hle2 k (by simpa using hk); omega))
 have hD:=hU.down (A.rs.pk (j:Int)) (Int.le_refl _)
 have S:=Au A.rs hD
 obtain ⟨r,hr,_⟩:=jP l (i:=(j:Int)) (by omega) (by omega)
 refine ⟨_,hf,?_⟩
 rw [e]
 have hl:=S.len
 simp only [List.length_reverse] at hl
 exact Ao hn (by omega) (S.good (uk A.rs hr).1)
structure Names (map:List (Str × Int)) (j:Nat):Prop where
 old:∀ k,k < j→gq map (jM k) 0=1
 new:∀ k,j ≤ k→k < 8→gq map (jM k) 0=0
 other:gq map [] 0=0
theorem CY (k:Nat):jM k ≠ []:=by cases k <;> simp [jM]
end
theorem Names.put {map:List (Str × Int)} {j:Nat} (h:Names map j) (hj:j < 8) (v:Int) (hv:v=1):Names (pO map (jM j) v) (j + 1):=by
 refine ⟨fun k hk=>?_,fun k h1 h2=>?_,?_⟩
 ·
  rw [nM]
  by_cases q:k=j
  ·
   subst q; rw [if_pos (by simp)]; exact hv
  ·
   rw [if_neg (by simp only [beq_iff_eq]; intro e; exact q (wm (by omega) hj e))]
   exact h.old k (by omega)
 ·
  rw [nM,if_neg (by simp only [beq_iff_eq]; intro e; have:=wm h2 hj e; omega)]
  exact h.new k (by omega) h2
 ·
  rw [nM,if_neg (by simp only [beq_iff_eq]; intro e; exact CY j e.symm)]
  exact h.other
theorem vN:Names [] 0:=⟨fun k h=>by omega,fun k _ _=>rfl,rfl⟩
theorem wP {l m:List ai} {b n:Nat} (hn:100 ≤ n) (A:Agree l m b):∀ (r j f:Nat) (map:List (Str × Int)),j + r=b→r ≤ f→Names map j→∃ map',bN n m f map (j:Int)=bN n m (f - r) map' (b:Int)∧Names map' b
 | 0,j,f,map,hj,hf,hN=>⟨map,by rw [show j=b by omega]; rfl,by rw [show b=j by omega]; exact hN⟩
 | r + 1,j,f + 1,map,hj,hf,hN=>by
  have hle:=A.rs.le
  have hlb:=A.le
  have hlm:=A.lm
  have hjl:j < l.length:=by omega
  have hg:m[j]? = some l[j]:=by rw [A.eq j (by omega)]; exact List.getElem?_eq_getElem hjl
  have hgl:l[j]? = some l[j]:=List.getElem?_eq_getElem hjl
  have hname:=A.rs.name j _ hgl
  have hpar:=A.rs.par j _ hgl
  obtain ⟨a,ha,hpr⟩:=A.full hn (j:=j) (by omega)
  have hnm:=vW j (List.mem_range.2 (by omega))
  have hw:IntKind.wrap .i64 ((j:Int) + 1)=((j + 1:Nat):Int):=by rw [nK (by omega) (by omega)]; push_cast; rfl
  have h0:=hN.new j (Nat.le_refl _) (by omega)
  obtain ⟨map',e1,e2⟩:=wP hn A r (j + 1) f (pO map (jM j) (IntKind.wrap .i64 (gq map (jM j) 0 + 1))) (by omega) (by omega) (hN.put (by omega) _ (by rw [h0,nK (by omega) (by omega)]; rfl))
  refine ⟨map',?_,e2⟩
  have c1:decide (l[j].Parent < -1)=false:=by rw [decide_eq_false_iff_not]; omega
  have c2:decide ((j:Int) ≤ l[j].Parent)=false:=by rw [decide_eq_false_iff_not]; omega
  rw [bN,if_pos (by rw [decide_eq_true_eq]; omega),lI,hg,Option.bind_some,hname,zt hn hnm,Option.bind_some,h0,c1,c2,if_neg (by simp),ha,Option.bind_some,hpr,Option.bind_some,Option.bind_some,if_neg (by simp),hw]
  rw [h0] at e1
  rw [e1]
  congr 1
  omega
theorem zf {n:Nat} (hn:100 ≤ n) {l:List ai} (hR:Rs l):dh n l=some true:=by
 have hle:=hR.le
 have hpos:=hR.pos
 obtain ⟨map',e1,_⟩:=wP hn (l:=l) (m:=l) (b:=l.length) ⟨hR,Nat.le_refl _,Nat.le_refl _,fun _ _=>rfl⟩ l.length 0 n [] (by omega) (by omega) vN
 unfold dh
 rw [if_neg (by simp only [Bool.or_eq_true,decide_eq_true_eq]; omega)]
 rw [show ((0:Nat):Int)=0 from rfl] at e1
 obtain ⟨g,hg⟩:∃ g,n - l.length=g + 1:=⟨n - l.length - 1,by omega⟩
 rw [e1,hg,bN,if_neg (by simp)]
theorem qP {n:Nat} (hn:100 ≤ n) {l m:List ai} {b:Nat} (A:Agree l m b) (hm:b < m.length) (hm9:m.length ≤ 16) {r:ai} (hr:m[b]? = some r)
  (hbad:∀ map,Names map b→∃ nb,bF n [Seg.mk 0 r.Name]=some nb∧(((((!nb) || (decide (0 < (gq map r.Name 0)))) || (decide (r.Parent < (-1)))) || (decide ((b:Int) ≤ r.Parent)))=true∨∃ a,eZ n m (b:Int)=some a∧bF n a=some false)):dh n m=some false:=by
 have hlb:=A.le
 have hle:=A.rs.le
 obtain ⟨map',e1,e2⟩:=wP hn A b 0 n [] (by omega) (by omega) vN
 obtain ⟨nb,h1,h2⟩:=hbad map' e2
 unfold dh
 rw [if_neg (by simp only [Bool.or_eq_true,decide_eq_true_eq]; omega)]
 rw [show ((0:Nat):Int)=0 from rfl] at e1
 obtain ⟨g,hg⟩:∃ g,n - b=g + 1:=⟨n - b - 1,by omega⟩
 rw [e1,hg,bN,if_pos (by rw [decide_eq_true_eq]; omega),lI,hr,Option.bind_some,h1,Option.bind_some]
 rcases h2 with h2 | ⟨a,h2,h3⟩
 ·
  rw [if_pos h2,Option.bind_some,if_pos rfl]
 ·
  split
  ·
   rw [Option.bind_some,if_pos rfl]
  ·
   rw [h2,Option.bind_some,h3,Option.bind_some,Option.bind_some,if_pos (by simp)]
end Pr
end Go.Ev

namespace Go.Ev
namespace Pr
set_option linter.unusedVariables false
set_option linter.unusedSimpArgs false
theorem zo {l m:List ai} (hl:0 < l.length) (hm:m.length ≤ 100) (hr:dh 1000 m=some false):aM 1000 l m=some true:=by
 obtain ⟨x,hx,_⟩:=jP l (i:=0) (by omega) (by omega)
 obtain ⟨z,hz⟩:=Ab (n:=1000) m x.Name (by omega) (by omega)
 have e1:gH 1000 m [[97]]=some (-1,[],false):=by
  unfold gH
  rw [hr,Option.bind_some,if_pos (by simp)]
 have e2:gB 1000 m x.Name []=some ([],false):=by
  unfold gB
  rw [hz,Option.bind_some,hr,Option.bind_some]
  have:(if (decide (z < 0))=true then some true else some (!false))=some true:=by split <;> rfl
  rw [this,Option.bind_some,if_pos rfl]
 unfold aM
 rw [e1,Option.bind_some,hx,Option.bind_some,e2,Option.bind_some,hr,Option.bind_some]
 simp [fD]
section
variable {l:List ai} (hR:Rs l) {i:Int} {r:ai} (hr:idx l i=some r)
include hR hr
theorem vg (r':ai):Agree l (gV l i r') i.toNat∧(gV l i r').length=l.length∧(gV l i r')[i.toNat]? = some r':=by
 obtain ⟨h0,h1,h2⟩:=dn hr
 refine ⟨⟨hR,by omega,by unfold gV; simp; omega,fun k hk=>?_⟩,by unfold gV; simp,?_⟩
 ·
  unfold gV; rw [List.getElem?_set_ne (by omega)]
 ·
  unfold gV; rw [List.getElem?_set_self (by omega)]
theorem mX (r':ai) (hbad:∀ map,Names map i.toNat→∃ nb,bF 1000 [Seg.mk 0 r'.Name]=some nb∧(((((!nb) || (decide (0 < (gq map r'.Name 0)))) || (decide (r'.Parent < (-1)))) || (decide ((i.toNat:Int) ≤ r'.Parent)))=true∨∃ a,eZ 1000 (gV l i r') (i.toNat:Int)=some a∧bF 1000 a=some false)):aM 1000 l (gV l i r')=some true:=by
 obtain ⟨h0,h1,h2⟩:=dn hr
 obtain ⟨A,e1,e2⟩:=vg hR hr r'
 have hle:=hR.le
 exact zo hR.pos (by omega) (qP (by omega) A (by omega) (by omega) e2 hbad)
end
theorem Ag {l:List ai} (hl:0 < l.length):∀ (k:Nat) (m:List ai) (f:Nat),m.length + k=17→k < f→aT 1000 l f m=some true
 | 0,m,f + 1,hm,hf=>by
  rw [aT,if_neg (by rw [decide_eq_true_eq]; omega)]
  refine zo hl (by omega) ?_
  unfold dh
  rw [if_pos (by simp only [Bool.or_eq_true,decide_eq_true_eq]; omega)]
 | k + 1,m,f + 1,hm,hf=>by
  rw [aT,if_pos (by rw [decide_eq_true_eq]; omega),zk (by simp),Option.bind_some,mG (by rw [bnd]; simp; omega),Option.bind_some]
  exact Ag hl k _ f (by simp; omega) (by omega)
theorem Cm (a1:cz) (a2 a3 a4:Int):dD 1000 a1 a2 a3 a4=some true:=by
 obtain ⟨l,hl,hR⟩:=zL (n:=1000) (by omega) a1
 have hle:=hR.le
 have hpos:=hR.pos
 have hright:=zf (n:=1000) (by omega) hR
 have hw:IntKind.wrap .i64 ((l.length:Int) - 1)=(l.length:Int) - 1:=nK (by omega) (by omega)
 obtain ⟨i,hi,i0,i1⟩:=fB 1000 a2 0 (IntKind.wrap .i64 ((l.length:Int) - 1)) (by rw [hw]; omega) (by omega) (by rw [hw]; omega)
 rw [hw] at i1
 obtain ⟨k,hk,k0,k9⟩:=fB 1000 a4 0 99 (by omega) (by omega) (by omega)
 obtain ⟨w,hwt,w0,w5⟩:=fB 1000 a3 0 5 (by omega) (by omega) (by omega)
 obtain ⟨r,hr,_,hr2⟩:=jP l i0 (by omega)
 have hin:((i.toNat:Nat):Int)=i:=by omega
 have hname:=hR.name _ r hr2
 have hnm:=vW i.toNat (List.mem_range.2 (by omega))
 have hprn:bF 1000 [Seg.mk 0 r.Name]=some true:=by rw [hname]; exact zt (by omega) hnm
 have happ:app 96 [] l=some l:=by rw [mG (by rw [bnd]; simp; omega)]; simp
 unfold dD
 rw [hl,Option.bind_some,hright,Option.bind_some,if_neg (by simp),happ,Option.bind_some,hi,Option.bind_some,hk,Option.bind_some,hwt,Option.bind_some,hr]
 simp only [Option.bind_some]
 split
 ·
  exact mX hR hr _ (fun map hN=>⟨false,zt (by omega) A9.2,.inl (by simp)⟩)
 ·
  split
  ·
   refine mX hR hr _ (fun map hN=>⟨true,hprn,.inl ?_⟩)
   simp only [nK (n:=1 + k) (by omega) (by omega),nK (n:=i + (1 + k)) (by omega) (by omega)]
   have:decide ((i.toNat:Int) ≤ i + (1 + k))=true:=by rw [decide_eq_true_eq]; omega
   rw [this]; simp
  ·
   split
   ·
    refine mX hR hr _ (fun map hN=>⟨true,hprn,.inl ?_⟩)
    simp only [nK (n:=1 + k) (by omega) (by omega),nK (n:=-1 - (1 + k)) (by omega) (by omega)]
    have:decide (-1 - (1 + k) < (-1:Int))=true:=by rw [decide_eq_true_eq]; omega
    rw [this]; simp
   ·
    split
    ·
     refine mX hR hr _ (fun map hN=>⟨true,hprn,.inr ?_⟩)
     generalize hm:gV l i (ai.mk r.Name r.Parent [Seg.mk 3 [114],Seg.mk 0 [97]] r.Comp r.fQ r.aN)=m
     obtain ⟨A,e1,e2⟩:=vg hR hr (ai.mk r.Name r.Parent [Seg.mk 3 [114],Seg.mk 0 [97]] r.Comp r.fQ r.aN)
     rw [hm] at A e1 e2
     have hmi:idx m i=some (ai.mk r.Name r.Parent [Seg.mk 3 [114],Seg.mk 0 [97]] r.Comp r.fQ r.aN):=by unfold idx; rw [if_pos i0,e2]
     have get:∀ k x,idx m k=some x→k ≤ i→k=i∨idx l k=some x:=fun k x h hki=>by
      by_cases q:k=i
      ·
       exact .inl q
      ·
       refine .inr ?_
       obtain ⟨g0,_,g2⟩:=dn h
       rw [A.eq _ (by omega)] at g2
       unfold idx; rw [if_pos g0,g2]
     have P:=hR.pk i
     have Pm:Pk m i:=⟨fun k x h hki=>by
      rcases get k x h hki with rfl | q
      ·
       rw [hmi] at h; cases h; exact P.par _ r hr (Int.le_refl _)
      ·
       exact P.par k x q hki,fun k x h hki=>by
      rcases get k x h hki with rfl | q
      ·
       rw [hmi] at h; cases h; simp
      ·
       exact P.segs k x q hki⟩
     obtain ⟨us,hU,hul⟩:=Up.exists hR (i.toNat + 1) i i0 (by omega) (by omega)
     have hUm:Up m i us:=hU.to P (fun k x hki h=>by
      by_cases q:k=i
      ·
       subst q; rw [hr] at h; cases h; exact ⟨_,hmi,rfl⟩
      ·
       obtain ⟨g0,_,g2⟩:=dn h
       refine ⟨x,?_,rfl⟩
       unfold idx; rw [if_pos g0,A.eq _ (by omega),g2]) (Int.le_refl _)
     have hf:=AR (n:=1000) (by omega) Pm hUm (Int.le_refl _) (by omega)
     rw [hin]
     refine ⟨_,hf,?_⟩
     have hD:=hU.down P (Int.le_refl _)
     have S:=Au hR hD
     obtain ⟨d,hd⟩:=hD.last
     obtain ⟨y,hy,hy2⟩:=S.sp
     have hsm:dG m i=[Seg.mk 3 [114],Seg.mk 0 [97]]:=rW hmi
     have hle2:=hU.le P (Int.le_refl _)
     have hdy:d.flatMap (dG l)=y:=by
      rw [hd] at hy
      simp only [List.flatMap_append,List.flatMap_cons,List.flatMap_nil,List.append_nil] at hy
      exact List.append_cancel_right hy
     have hnd:∀ k ∈ d,k < i:=by
      have hpw:∀ (c:List Int) (j:Int),Down l c j→∀ e,c=e ++ [j]→∀ k ∈ e,k < j:=fun c j hD=>by
       induction hD with
       | top h hp =>
        intro e he k hk
        have:=congrArg List.length he
        simp at this
        subst this; cases hk
       | snoc q h hp h0 ih =>
        rename_i c p j x
        intro e he k hk
        have e':=(List.append_inj' he rfl).1
        subst e'
        obtain ⟨d',hd'⟩:=q.last
        have hx:=hR.par _ x (dn h).2.2
        have:=(dn h).1
        rw [hd'] at hk
        rcases List.mem_append.1 hk with hk | hk
        ·
         have:=ih d' hd' k hk; omega
        ·
         simp at hk; omega
      exact hpw _ _ hD d hd
     have e:us.reverse.flatMap (dG m)=y ++ [Seg.mk 3 [114],Seg.mk 0 [97]]:=by
      rw [hd]
      simp only [List.flatMap_append,List.flatMap_cons,List.flatMap_nil,List.append_nil,hsm]
      rw [← hdy,og d (fun k hk=>?_)]
      have hki:=hnd k hk
      exact A.Fw (by omega)
     rw [e]
     have hyl:y.length ≤ 40:=by
      have:=S.len
      rw [hy] at this
      simp at this; omega
     have inx:∀ s ∈ y,s ∈ us.reverse.flatMap (dG l):=fun s hs=>by rw [hy]; exact List.mem_append_left _ hs
     refine Ey (by omega) hyl (fun q s hs=>⟨fun n=>?_,hy2 s (List.mem_of_getElem? hs)⟩) (fun q q' s t hs ht hlt hk=>?_)
     ·
      obtain ⟨j,a,_,b⟩:=S.ok s (inx s (List.mem_of_getElem? hs))
      exact b.named (by omega) n
     ·
      have pw:=S.pw
      rw [hy] at pw
      have pw:=(List.pairwise_append.1 pw).1
      obtain ⟨f1,f2⟩:=List.getElem?_eq_some_iff.1 hs
      obtain ⟨f3,f4⟩:=List.getElem?_eq_some_iff.1 ht
      have:=List.pairwise_iff_getElem.1 pw q' q f3 f1 hlt
      rw [f2,f4] at this
      rintro ⟨g1,g2⟩
      exact this ⟨hk,g1,g2⟩
    ·
     split
     ·
      rw [mG (by rw [bnd]; simp; omega),Option.bind_some]
      refine zo hpos (by simp; omega) (qP (by omega) (l:=l) (b:=l.length) ⟨hR,Nat.le_refl _,by simp,fun k hk=>by rw [List.getElem?_append_left hk]⟩ (by simp) (by simp; omega) (r:=ai.mk r.Name (-1) [] 0 false (aN.mk 0 0 [])) (by rw [List.getElem?_append_right (Nat.le_refl _)]; simp) (fun map hN=>⟨true,hprn,.inl ?_⟩))
      have h1:=hN.old i.toNat (by omega)
      simp only
      rw [hname,h1]
      simp
     ·
      exact Ag hpos (17 - l.length) l 1000 (by omega) (by omega)
end Pr
end Go.Ev

import Derived.Test.YtddhgnleekcbiaaGreatDoorPartC
import Derived.Test.YtddhgnleekcbiaaGreatDoorProg
import Derived.WalkKit
import Derived.ProofKit
import Derived.IntWalk
namespace Go.Ev
theorem aa.r {t:Nat} {x:AV} {e2 e:Env} (h:AL.get e t=some x) (k:aa e2 e):aa ((t,x) :: e2) e:=.cons h (.refl _) k
theorem jF.o {x:AV} {a b:List (Option AV)} (k:jF a b):jF (some x :: a) (some x :: b):=.old (.refl _) k
theorem jF.w (x:AV) {a b:List (Option AV)} (k:jF a b):jF (some x :: a) (none :: b):=.new k
theorem jF.n {a b:List (Option AV)} (k:jF a b):jF (none :: a) (none :: b):=.new k
theorem jF.q {x y z u:AV} {a b:List (Option AV)} (k:jF a b):jF (some x :: some y :: some z :: some u :: a) (some x :: some y :: some z :: some u :: b):=.o (.o (.o (.o k)))
theorem RL.v {R:aM} {C:bN} {nt:Nat} {ops:Array Oper} {srcs:List Src} {e0:Env} {ws:List (Option AV)} {S:St} {i:Nat} {o:Oper} {x:AV} {e:Env} {os:List Nat} (ho:ops[i]? = some o) (hx:ws[i]? = some (some x)) (he:jO ws e0 (srcs.getD i [])=some e) (hw:bf ops e o=some true) (h:oper C (bA e) S o.op=some (.val x S)) (k:RL R C nt ops srcs e0 ws S os):RL R C nt ops srcs e0 ws S (i :: os):=.cons ho hx he (.val hw h (.refl _)) k
theorem Has.sl {B S:St} {l:List bC} (h:Has B S l) (is:List Nat) (hn:decide is.Nodup=true) {l':List bC} (hl:is.map (fun i=>l[i]?)=l'.map some):Has B S l':=h.EL is (of_decide_eq_true hn) hl
namespace Pr
set_option linter.unusedVariables false
set_option linter.unusedSimpArgs false
open Go.Proofs
noncomputable def cfg:bN:={ P:=Tryz.prog,good:=fun _=>true,rowT:=fun _=>false,prim:=fun _ _ _=>none,objT:=fun t=>bif Nat.beq t 132 then some (1,.str []) else none,hasPrim:=fun _=>false }
noncomputable def tF:bN:={ cfg with rowT:=fun t=>Nat.beq t 22 }
theorem EN:(Tryz.f6.name == "runtime.NumGoroutine")=false:=by kernel_rfl
theorem oP:(aS cfg.P 29).isSome=true:=by kernel_rfl
theorem wL:aS cfg.P 29=some 37:=by kernel_rfl
theorem Bd:(dA cfg.P 37).isSome=true:=by kernel_rfl
theorem mf:au cfg.P 37=2:=by kernel_rfl
theorem Av:cu cfg.P 37 0=some (0,3):=by kernel_rfl
theorem CS:Nat.beq (au cfg.P 3) 0=false:=by kernel_rfl
theorem sM:dA cfg.P 3=some false:=by kernel_rfl
theorem DZ:(Tryz.f15.name == "runtime.NumGoroutine")=false:=by kernel_rfl
theorem wY:(aS cfg.P 22).isSome=true:=by kernel_rfl
theorem jS:aS cfg.P 22=some 3:=by kernel_rfl
theorem wm:(dA cfg.P 3).isSome=true:=by kernel_rfl
theorem qR:au cfg.P 3=1:=by kernel_rfl
theorem D8:(Tryz.f16.name == "runtime.NumGoroutine")=false:=by kernel_rfl
theorem DT:cfg.rowT 46=false:=by kernel_rfl
theorem Dt:aS cfg.P 46=some 9:=by kernel_rfl
theorem De:dA cfg.P 9=some false:=by kernel_rfl
theorem ER:zeroOf cfg.P 9=some (.str []):=by kernel_rfl
theorem Er:au cfg.P 9=1:=by kernel_rfl
theorem zK:zeroOf cfg.P 33=some (.agg [.str [],.int .i64 0,.di,.int .i64 0,.bool false,.int .i64 0,.int .i64 0,.str []]):=by kernel_rfl
theorem CV:cfg.rowT 25=false:=by kernel_rfl
theorem pE:aS cfg.P 25=some 33:=by kernel_rfl
theorem BL:dA cfg.P 33=some true:=by kernel_rfl
theorem lL:au cfg.P 33=8:=by kernel_rfl
theorem Cq:cfg.rowT 22=false:=by kernel_rfl
theorem Es:zeroOf cfg.P 3=some (.int .i64 0):=by kernel_rfl
theorem AR:cu cfg.P 24 0=some (0,22):=by kernel_rfl
theorem oU:Nat.beq (au cfg.P 22) 0=false:=by kernel_rfl
theorem oW:dA cfg.P 22=some false:=by kernel_rfl
theorem zU:(aS cfg.P 25).isSome=true:=by kernel_rfl
theorem sK:(dA cfg.P 33).isSome=true:=by kernel_rfl
theorem yj:cu cfg.P 33 2=some (2,29):=by kernel_rfl
theorem Cm:Nat.beq (au cfg.P 29) 0=false:=by kernel_rfl
theorem CF:dA cfg.P 29=some false:=by kernel_rfl
theorem EE:(cfg.P.underlying 3).isSome=true:=by kernel_rfl
theorem EB:zi cfg.P 5=some .u8:=by kernel_rfl
theorem D5:cfg.rowT 42=false:=by kernel_rfl
theorem DK:aS cfg.P 42=some 5:=by kernel_rfl
theorem EG:dA cfg.P 5=some false:=by kernel_rfl
theorem EP:zeroOf cfg.P 5=some (.int .u8 0):=by kernel_rfl
theorem ES:au cfg.P 5=1:=by kernel_rfl
theorem Et:kM cfg 42=true:=by kernel_rfl
theorem EC:o9 cfg.P 9=true:=by kernel_rfl
theorem CB:cu cfg.P 24 1=some (1,22):=by kernel_rfl
theorem AX:zeroOf cfg.P 37=some (.agg [.int .i64 0,.str []]):=by kernel_rfl
theorem DJ:cfg.objT 37=none:=by kernel_rfl
theorem Cs:cu cfg.P 24 2=some (2,22):=by kernel_rfl
theorem Eb:(aS cfg.P 46).isSome=true:=by kernel_rfl
theorem Ey:(dA cfg.P 9).isSome=true:=by kernel_rfl
theorem BX:cfg.P.follows .mixedOrders=true:=by kernel_rfl
theorem zH:dA cfg.P 37=some true:=by kernel_rfl
theorem Ck:cfg.rowT 29=false:=by kernel_rfl
theorem Bf:cu cfg.P 24 5=some (5,22):=by kernel_rfl
theorem Bo:cu cfg.P 24 6=some (6,22):=by kernel_rfl
theorem DV:cfg.objT 33=none:=by kernel_rfl
theorem Aj:cu cfg.P 24 3=some (3,22):=by kernel_rfl
theorem Ai:cu cfg.P 24 4=some (4,22):=by kernel_rfl
theorem DU:zeroOf cfg.P 31=some (.agg [.int .i64 0,.int .i64 0,.str []]):=by kernel_rfl
theorem vC:cu cfg.P 33 5=some (5,31):=by kernel_rfl
theorem BP:Nat.beq (au cfg.P 31) 0=false:=by kernel_rfl
theorem Ee:au cfg.P 31=3:=by kernel_rfl
theorem DD:(dA cfg.P 31).isSome=true:=by kernel_rfl
theorem Bv:cu cfg.P 31 0=some (0,3):=by kernel_rfl
theorem yx:cu cfg.P 33 0=some (0,9):=by kernel_rfl
theorem Dy:Nat.beq (au cfg.P 9) 0=false:=by kernel_rfl
theorem CK:cu cfg.P 31 2=some (2,9):=by kernel_rfl
theorem DX:dR cfg 25=true:=by kernel_rfl
theorem DY:bytesOf cfg.P 33=96:=by kernel_rfl
theorem DR:dD cfg 33=true:=by kernel_rfl
theorem D9:dR cfg 22=true:=by kernel_rfl
theorem Ew:bytesOf cfg.P 3=8:=by kernel_rfl
theorem EH:dD cfg 3=true:=by kernel_rfl
theorem ED:(Tryz.f5.name == "runtime.NumGoroutine")=false:=by kernel_rfl
theorem Eo:(Tryz.f17.name == "runtime.NumGoroutine")=false:=by kernel_rfl
theorem Al:tF.rowT 22=true:=by kernel_rfl
theorem Co:dR tF 22=true:=by kernel_rfl
theorem Dh:dD tF 3=true:=by kernel_rfl
theorem x9:cu cfg.P 33 1=some (1,3):=by kernel_rfl
theorem EA:(Tryz.f7.name == "runtime.NumGoroutine")=false:=by kernel_rfl
theorem DL:dR cfg 29=true:=by kernel_rfl
theorem DF:bytesOf cfg.P 37=24:=by kernel_rfl
theorem Em:dD cfg 37=true:=by kernel_rfl
theorem EO:(Tryz.f8.name == "runtime.NumGoroutine")=false:=by kernel_rfl
theorem EK:(Tryz.f9.name == "runtime.NumGoroutine")=false:=by kernel_rfl
theorem Ej:(Tryz.f18.name == "runtime.NumGoroutine")=false:=by kernel_rfl
theorem D7:(Tryz.f19.name == "runtime.NumGoroutine")=false:=by kernel_rfl
theorem Eh:(Tryz.f10.name == "runtime.NumGoroutine")=false:=by kernel_rfl
theorem DW:dA cfg.P 24=some true:=by kernel_rfl
theorem Ef:au cfg.P 24=7:=by kernel_rfl
theorem Dr:(cfg.P.underlying 37).isSome=true:=by kernel_rfl
theorem EJ:(Tryz.f3.name == "runtime.NumGoroutine")=false:=by kernel_rfl
theorem jb:oper.P_place cfg 33=some (qd [(0,1),(1,1),(2,1),(3,1),(4,1),(5,3)]):=nV (by kernel_rfl)
theorem kJ:oper.P_place cfg 37=some (qd [(0,1),(1,1)]):=nV (by kernel_rfl)
theorem q9:oper.P_place cfg 31=some (qd [(0,1),(1,1),(2,1)]):=nV (by kernel_rfl)
theorem Dw (x y:Seg):AV.eqv cfg.P 37 (.d (.agg [(.int .i64 x.Kind),(.str x.Text)])) (.d (.agg [(.int .i64 y.Kind),(.str y.Text)]))=some (Seg.beq x y) :=
 Bu (by kernel_rfl) Tryz.underlying37 (by kernel_rfl) (by kernel_rfl)
def ET:List Src:=[[(9,none)],[(89,some 0)],[(7,none)],[(10,none)],[(92,some 3)],[(1,none)],[(94,some 5)],[(6,none)],[(95,some 6),(96,some 7)],[(97,some 8)],[(98,some 9)],[(1,none)],[(100,some 11)],[(6,none)],[(101,some 12),(102,some 13)],[(103,some 14)],[(90,some 1),(91,some 2),(93,some 4),(99,some 10),(104,some 15)],[],[(11,some 17),(105,some 16)]]
def EF:List Src:=[[(1,none)],[(112,some 0)],[(6,none)],[(113,some 1),(114,some 2)],[(115,some 3)],[(116,some 4)],[(1,none)],[(118,some 6)],[(6,none)],[(119,some 7),(120,some 8)],[(121,some 9)],[(117,some 5),(122,some 10)],[(11,none)],[(123,some 11),(124,some 12)]]
def EI:List Src:=[[(0,none)],[(2,none)],[(0,none)],[(3,none)],[(0,none)],[(3,none)],[(18,some 4),(19,some 5)],[(20,some 6)],[(0,none)],[(2,none)],[(22,some 8),(23,some 9)],[(24,some 10)],[(14,some 0),(15,some 1)],[(21,some 7),(26,some 12)],[(16,some 2),(17,some 3)],[(25,some 11),(27,some 14)]]
def EM:List Src:=[[(0,none)],[(5,none)],[(17,some 0),(18,some 1)],[(19,some 2)],[(1,none)],[(5,none)],[(21,some 4),(22,some 5)],[(23,some 6)],[(20,some 3),(24,some 7)]]
structure Ea (R:aM):Prop where
 obj:dZ R cfg
 porticolaw8_RouteRuns_ok:∀ (n:Nat) (r:Bool),dF n=some r→eF R cfg.P 11 [] (.d (.bool r))
section
variable {R:aM} (E:Ea R)
include E
theorem iq:dZ R tF:=⟨E.obj.toObjOk,E.obj.new⟩
set_option maxRecDepth 20000 in
set_option maxHeartbeats 4000000 in
theorem bu (n:Nat) (a1:Int) (a2:Int) (a3:Int) (r:Int) (h:aX n a1 a2 a3=some r):eF R cfg.P 6 [(.int .i64 a1),(.int .i64 a2),(.int .i64 a3)] (.d (.int .i64 r)):=by
 unfold aX at h
 refine eF.of_wp E.obj.toObjOk (C:=cfg) Tryz.func6 rfl EN rfl ?_
 have H0:Has aG aG []:=Has.pure
 refine aD.seq ?_
 refine aD.region E.obj rfl ?_
 refine ah.val rfl (aj rfl) rfl ?_
 refine ah.nil ?_
 refine aD.seq ?_
 refine aD.region E.obj rfl ?_
 refine ah.val rfl (ae rfl) rfl ?_
 refine ah.val rfl (ae rfl) rfl ?_
 refine ah.val rfl (ae rfl) rfl ?_
 refine ah.val rfl (ay rfl rfl dI) rfl ?_
 refine ah.val rfl (ay rfl rfl dU) rfl ?_
 obtain ⟨z4,hzz4,h⟩:=bind_some h
 refine ah.val rfl (ay rfl rfl (tq hzz4)) rfl ?_
 refine ah.val rfl (aj rfl) rfl ?_
 refine ah.nil ?_
 refine aD.join (B:=aG) (α:=Int) (fun a=>bR a2 a=some r) (fun a=>[(0,(.d (.int .i64 a))),(1,(.d (.int .i64 a2)))]) (fun a=>[]) ?_ ?_
 ·
  intro x7 S5 H6 h
  replace h:bR a2 x7=some r:=h
  replace H6:Has aG S5 []:=H6
  unfold bR at h
  refine aD.seq ?_
  refine aD.region E.obj rfl ?_
  refine ah.val rfl (ae rfl) rfl ?_
  refine ah.val rfl (ae rfl) rfl ?_
  refine ah.val rfl (ay rfl rfl dU) rfl ?_
  refine ah.val rfl (aj rfl) rfl ?_
  refine ah.nil ?_
  have hr:=Option.some.inj h
  subst hr
  exact aD.ret ⟨_,rfl,rfl,kF (aH.eq .nil)⟩
 refine aD.seq ?_
 refine aD.region E.obj rfl ?_
 refine ah.val rfl (ae rfl) rfl ?_
 refine ah.val rfl (ay rfl rfl dS) rfl ?_
 refine ah.nil ?_
 refine aD.cond rfl (fun hb9=>?_) (fun hb9=>?_)
 ·
  replace h:=fw hb9 h
  refine aD.region E.obj rfl ?_
  refine ah.val rfl (ae rfl) rfl ?_
  refine ah.val rfl (ae rfl) rfl ?_
  refine ah.val rfl (ay rfl rfl dU) rfl ?_
  refine ah.val rfl (ae rfl) rfl ?_
  refine ah.val rfl (ay rfl rfl dI) rfl ?_
  refine ah.val rfl (ay rfl rfl dU) rfl ?_
  refine ah.val rfl (aj rfl) rfl ?_
  refine ah.nil ?_
  exact ⟨(IntKind.wrap .i64 ((IntKind.wrap .i64 ((IntKind.wrap .i64 (z4 + a3)) - a2)) + 1)),_,_,aG,.refl _ _,.refl _,(aa.r rfl (aa.r rfl aa.nil)),H0.sl [] rfl rfl,h⟩
 replace h:=fB hb9 h
 refine aD.skip ?_
 exact ⟨z4,_,_,aG,.refl _ _,.refl _,(aa.r rfl (aa.r rfl aa.nil)),H0.sl [] rfl rfl,h⟩
set_option maxRecDepth 20000 in
set_option maxHeartbeats 4000000 in
theorem lM (n:Nat) (a1:(List Seg)) (r:Bool) (h:dB n a1=some r):eF R cfg.P 15 [(.sl ((a1).map bg) false)] (.d (.bool r)):=by
 unfold dB at h
 refine eF.of_wp E.obj.toObjOk (C:=cfg) Tryz.func15 rfl DZ rfl ?_
 have H0:Has aG aG []:=Has.pure
 refine aD.seq ?_
 refine aD.region E.obj rfl ?_
 refine ah.val rfl (aj rfl) rfl ?_
 refine ah.nil ?_
 refine aD.seq ?_
 refine aD.region E.obj rfl ?_
 refine ah.val rfl (ae rfl) rfl ?_
 refine ah.val rfl (bE rfl oP) rfl ?_
 refine ah.val rfl (ay rfl rfl qV) rfl ?_
 refine ah.val rfl (ae rfl) rfl ?_
 obtain ⟨z3,hzz3,h⟩:=bind_some h
 refine ah.fG 9 15 (.d (.bool z3)) ?_ ?_
 ·
  rcases Bool.eq_false_or_eq_true ((decide (0 < ((a1).length:Int)))) with hB2 | hB2
  ·
   refine ah.bool hB2 ?_
   replace hzz3:=fw hB2 hzz3
   refine ah.val rfl (ae rfl) rfl ?_
   refine ah.val rfl (ae rfl) rfl ?_
   refine ah.val rfl (bE rfl oP) rfl ?_
   refine ah.val rfl (ay rfl rfl dI) rfl ?_
   obtain ⟨z4,hzz4,hzz3⟩:=bind_some hzz3
   refine ah.val rfl (bK rfl rfl (dn (enc:=bg) hzz4 wL Bd ((Seg.len _).trans mf.symm))) rfl ?_
   refine ah.val rfl (bT rfl Av CS rfl) rfl ?_
   refine ah.val rfl (bq rfl (by rw [Seg.cells]; exact bH sM rfl)) rfl ?_
   refine ah.val rfl (ay rfl rfl iM) rfl ?_
   refine ah.val rfl (aT (b:=true) rfl rfl) rfl ?_
   cases hzz3
   exact ah.nil ⟨_,rfl,(aa.put (aa.push rfl (aa.push rfl (aa.push rfl (aa.push rfl (aa.push rfl (aa.push rfl (aa.push rfl (aa.push rfl (aa.put (.refl _) (Less.eq (by rw [hB2]))))))))))) (.refl _))⟩
  refine ah.bool hB2 ?_
  refine ah.no rfl rfl ?_
  refine ah.no rfl rfl ?_
  refine ah.no rfl rfl ?_
  refine ah.no rfl rfl ?_
  refine ah.no rfl rfl ?_
  refine ah.no rfl rfl ?_
  refine ah.no rfl rfl ?_
  refine ah.no rfl rfl ?_
  refine ah.val rfl (aT (b:=false) rfl rfl) rfl ?_
  replace hzz3:=fB hB2 hzz3
  cases hzz3
  exact ah.nil ⟨_,rfl,(aa.put (aa.push rfl (aa.push rfl (aa.push rfl (aa.push rfl (aa.push rfl (aa.push rfl (aa.push rfl (aa.push rfl (aa.put (.refl _) (Less.eq (by rw [hB2]))))))))))) (.refl _))⟩
 refine ah.val rfl (aj rfl) rfl ?_
 refine ah.nil ?_
 have hr:=Option.some.inj h
 subst hr
 exact aD.ret ⟨_,rfl,rfl,kF (aH.eq .nil)⟩
set_option maxRecDepth 20000 in
set_option maxHeartbeats 4000000 in
theorem bB (n:Nat) (a1:(List Int)) (a2:Int) (r:Int) (h:bD n a1 a2=some r):eF R cfg.P 16 [(.sl ((a1).map (D.int .i64)) false),(.int .i64 a2)] (.d (.int .i64 r)):=by
 unfold bD at h
 refine eF.of_wp E.obj.toObjOk (C:=cfg) Tryz.func16 rfl D8 rfl ?_
 have H0:Has aG aG []:=Has.pure
 refine aD.seq ?_
 refine aD.region E.obj rfl ?_
 refine ah.val rfl (aj rfl) rfl ?_
 refine ah.nil ?_
 refine aD.seq ?_
 refine aD.seq ?_
 refine aD.region E.obj rfl ?_
 refine ah.val rfl (ae rfl) rfl ?_
 refine ah.val rfl (bE rfl wY) rfl ?_
 refine ah.val rfl (ay rfl rfl ib) rfl ?_
 refine ah.nil ?_
 refine aD.cond rfl (fun hb3=>?_) (fun hb3=>?_)
 ·
  replace h:=fw hb3 h
  refine aD.seq ?_
  refine aD.region E.obj rfl ?_
  refine ah.val rfl (aj rfl) rfl ?_
  refine ah.nil ?_
  have hr:=Option.some.inj h
  subst hr
  exact aD.ret ⟨_,rfl,rfl,kF (aH.eq .nil)⟩
 replace h:=fB hb3 h
 refine aD.skip ?_
 refine aD.seq ?_
 refine aD.region E.obj rfl ?_
 refine ah.val rfl (ae rfl) rfl ?_
 refine ah.val rfl (ae rfl) rfl ?_
 refine ah.val rfl (ae rfl) rfl ?_
 refine ah.val rfl (bE rfl wY) rfl ?_
 obtain ⟨z4,hzz4,h⟩:=bind_some h
 refine ah.val rfl (ay rfl rfl (tq hzz4)) rfl ?_
 obtain ⟨z5,hzz5,h⟩:=bind_some h
 refine ah.val rfl (bK rfl rfl (dn (enc:=(D.int .i64)) hzz5 jS wm (((fun _=>rfl) _).trans qR.symm))) rfl ?_
 refine ah.val rfl (bq rfl (bH sM rfl)) rfl ?_
 refine ah.val rfl (aj rfl) rfl ?_
 refine ah.nil ?_
 have hr:=Option.some.inj h
 subst hr
 exact aD.ret ⟨_,rfl,rfl,kF (aH.eq .nil)⟩
set_option maxRecDepth 20000 in
set_option maxHeartbeats 4000000 in
theorem ik (n:Nat) (a1:bV) (r:(List ai)) (h:bQ n a1=some r):eF R cfg.P 5 [(gJ a1)] (.d (.sl ((r).map aA) false)):=by
 unfold bQ at h
 refine eF.of_wp E.obj.toObjOk (C:=cfg) Tryz.func5 rfl ED rfl ?_
 have H0:Has aG aG []:=Has.pure
 refine aD.seq ?_
 refine aD.region E.obj rfl ?_
 refine ah.box H0 rfl rfl rfl (bV.jv _) rfl (fun b2 S3 H4=>?_)
 refine ah.val rfl (aj rfl) rfl ?_
 refine ah.nil ?_
 refine aD.seq ?_
 refine aD.region E.obj rfl ?_
 refine ah.val rfl (bY (vs:=[(.d (.str [97])),(.d (.str [98])),(.d (.str [105,116,101,109])),(.d (.str [122])),(.d (.str [49])),(.d (.str [108,105,115,116]))]) (ds:=[(.str [97]),(.str [98]),(.str [105,116,101,109]),(.str [122]),(.str [49]),(.str [108,105,115,116])]) DT Dt De ER Er rfl (by decide) (.cons rfl rfl (.cons rfl rfl (.cons rfl rfl (.cons rfl rfl (.cons rfl rfl (.cons rfl rfl .nil)))))) rfl (by intro d hd; simp only [List.mem_cons,List.not_mem_nil,or_false] at hd; rcases hd with rfl | rfl | rfl | rfl | rfl | rfl <;> rfl) rfl) rfl ?_
 refine ah.val rfl (aj rfl) rfl ?_
 refine ah.nil ?_
 refine aD.seq ?_
 refine aD.region E.obj rfl ?_
 refine ah.val rfl (gF (cs:=[(.d (.str [104,111,109,101])),(.d (.int .i64 (-1))),(.d .di),(.d (.int .i64 0)),(.d (.bool false)),(.d (.int .i64 0)),(.d (.int .i64 0)),(.d (.str []))]) zK rfl (jb) (gX rfl rfl rfl rfl (gX rfl rfl rfl rfl rfl))) rfl ?_
 refine ah.less (Less.agg' (d:=aA (ai.mk [104,111,109,101] (-1) [] 0 false (aY.mk 0 0 []))) (aO.eq rfl (aO.eq rfl (aO.rH rfl (.di false) rfl rfl (aO.eq rfl (aO.eq rfl (aO.eq rfl (aO.eq rfl (aO.eq rfl .nil)))))))) ((ai.eq _).trans rfl)) ?_
 refine ah.val rfl (bY (vs:=[(.d (aA (ai.mk [104,111,109,101] (-1) [] 0 false (aY.mk 0 0 []))))]) (ds:=[(aA (ai.mk [104,111,109,101] (-1) [] 0 false (aY.mk 0 0 [])))]) CV pE BL zK lL rfl (by decide) (.cons rfl (ai.len _) .nil) rfl (by intro d hd; simp only [List.mem_cons,List.not_mem_nil,or_false] at hd; rcases hd with rfl <;> exact ai.agg _) rfl) rfl ?_
 refine ah.val rfl (aj rfl) rfl ?_
 refine ah.nil ?_
 refine aD.seq ?_
 refine aD.region E.obj rfl ?_
 refine ah.val rfl (bY (vs:=[(.d (.int .i64 0))]) (ds:=[(.int .i64 0)]) Cq jS sM Es qR rfl (by decide) (.cons rfl rfl .nil) rfl (by intro d hd; simp only [List.mem_cons,List.not_mem_nil,or_false] at hd; rcases hd with rfl <;> rfl) rfl) rfl ?_
 refine ah.val rfl (aj rfl) rfl ?_
 refine ah.nil ?_
 refine aD.seq ?_
 refine aD.seq ?_
 refine aD.region E.obj rfl ?_
 refine ah.val rfl (aj rfl) rfl ?_
 refine ah.nil ?_
 refine aD.block ?_
 have H109:=H4.AA (([(ai.mk [104,111,109,101] (-1) [] 0 false (aY.mk 0 0 []))]).map aA)
 have H110:=H109.AA (([0]).map (D.int .i64))
 refine nQ.start (B:=aG) (α:=(List ai) × AV × (List Int) × AV × Int) (fun k a=>ak n a1 k a.1 a.2.2.1 a.2.2.2.2=some r) (fun a=>[(1,(.ptr b2 0 0)),(3,(.d (.sl (([[97],[98],[105,116,101,109],[122],[49],[108,105,115,116]]).map D.str) true))),(4,a.2.1),(5,a.2.2.2.1),(6,(.d (.int .i64 a.2.2.2.2)))]) (fun a=>[.box b2 [(.d (.sl ((a1.Parents).map (D.int .i64)) false)),(.d (.sl ((a1.Kinds).map (D.int .i64)) false)),(.d (.sl ((a1.Texts).map (D.int .i64)) false)),(.d (.sl ((a1.Rules).map (D.int .i64)) false)),(.d (.sl ((a1.Flags).map (D.int .i64)) false)),(.d (.sl ((a1.eu).map (D.int .i64)) false)),(.d (.sl ((a1.Comps).map (D.int .i64)) false))],.grow a.2.1 ((a.1).map aA),.grow a.2.2.2.1 ((a.2.2.1).map (D.int .i64))]) ?_ ?_ n ⟨⟨[(ai.mk [104,111,109,101] (-1) [] 0 false (aY.mk 0 0 []))],(.d (.sl (([(ai.mk [104,111,109,101] (-1) [] 0 false (aY.mk 0 0 []))]).map aA) true)),[0],(.d (.sl (([0]).map (D.int .i64)) true)),0⟩,_,_,S3,.refl _ _,.refl _,(aa.r rfl (aa.r rfl (aa.r rfl (aa.r rfl (aa.r rfl aa.nil))))),H110.sl [2,1,0] rfl rfl,h⟩
 ·
  intro a h; simp [ak] at h
 intro k21 a S14 H15 h
 obtain ⟨x16,v17,x18,v19,x20⟩:=a
 replace h:ak n a1 (k21 + 1) x16 x18 x20=some r:=h
 replace H15:Has aG S14 [.box b2 [(.d (.sl ((a1.Parents).map (D.int .i64)) false)),(.d (.sl ((a1.Kinds).map (D.int .i64)) false)),(.d (.sl ((a1.Texts).map (D.int .i64)) false)),(.d (.sl ((a1.Rules).map (D.int .i64)) false)),(.d (.sl ((a1.Flags).map (D.int .i64)) false)),(.d (.sl ((a1.eu).map (D.int .i64)) false)),(.d (.sl ((a1.Comps).map (D.int .i64)) false))],.grow v17 ((x16).map aA),.grow v19 ((x18).map (D.int .i64))]:=H15
 unfold ak at h
 refine aD.seq ?_
 refine aD.seq ?_
 refine aD.region E.obj rfl ?_
 refine ah.val rfl (ae rfl) rfl ?_
 refine ah.val rfl (aK rfl AR oU rfl) rfl ?_
 refine ah.val rfl (bM H15 (i:=0) rfl rfl (cK oW rfl)) rfl ?_
 refine ah.val rfl (bE rfl wY) rfl ?_
 refine ah.val rfl (ay rfl rfl dS) rfl ?_
 refine ah.val rfl (ae rfl) rfl ?_
 refine ah.fG 3 24 (.d (.bool ((decide (x20 < ((a1.Parents).length:Int))) && (decide (x20 < 7))))) ?_ ?_
 ·
  rcases Bool.eq_false_or_eq_true ((decide (x20 < ((a1.Parents).length:Int)))) with hB22 | hB22
  ·
   refine ah.bool hB22 ?_
   refine ah.val rfl (ae rfl) rfl ?_
   refine ah.val rfl (ay rfl rfl dS) rfl ?_
   refine ah.val rfl (aT (b:=true) rfl rfl) rfl ?_
   exact ah.nil ⟨_,rfl,(aa.put (aa.push rfl (aa.push rfl (aa.put (.refl _) (Less.eq (by rw [hB22]))))) (Less.eq (by rw [hB22]; rw [Bool.true_and])))⟩
  refine ah.bool hB22 ?_
  refine ah.no rfl rfl ?_
  refine ah.no rfl rfl ?_
  refine ah.val rfl (aT (b:=false) rfl rfl) rfl ?_
  exact ah.nil ⟨_,rfl,(aa.put (aa.push rfl (aa.push rfl (aa.put (.refl _) (Less.eq (by rw [hB22]))))) (Less.eq (by rw [hB22]; rw [Bool.false_and])))⟩
 refine ah.nil ?_
 refine aD.cond rfl (fun hb23=>?_) (fun hb23=>?_)
 ·
  replace h:=fw hb23 h
  refine aD.skip ?_
  refine aD.seq ?_
  refine aD.block ?_
  refine aD.seq ?_
  refine aD.region E.obj rfl ?_
  refine ah.val rfl (aK rfl AR oU rfl) rfl ?_
  refine ah.val rfl (bM H15 (i:=0) rfl rfl (cK oW rfl)) rfl ?_
  refine ah.val rfl (ae rfl) rfl ?_
  obtain ⟨z24,hzz24,h⟩:=bind_some h
  refine ah.val rfl (bK rfl rfl (dn (enc:=(D.int .i64)) hzz24 jS wm (((fun _=>rfl) _).trans qR.symm))) rfl ?_
  refine ah.val rfl (bq rfl (bH sM rfl)) rfl ?_
  refine ah.val rfl (ae rfl) rfl ?_
  refine ah.val rfl (sZ H15 (i:=1) rfl rfl zU) rfl ?_
  refine ah.val rfl (ay rfl rfl dI) rfl ?_
  obtain ⟨z25,hzz25,h⟩:=bind_some h
  refine ah.ret rfl (aN rfl rfl) (bu E _ _ _ _ _ hzz25 _ _ (aH.eq (aH.eq (aH.eq .nil)))) rfl ?_
  refine ah.val rfl (aj rfl) rfl ?_
  refine ah.nil ?_
  refine aD.join (B:=aG) (α:=Int) (fun a=>aR n a1 x16 x18 x20 (ak n a1 k21) a=some r) (fun a=>[(1,(.ptr b2 0 0)),(3,(.d (.sl (([[97],[98],[105,116,101,109],[122],[49],[108,105,115,116]]).map D.str) true))),(4,v17),(5,v19),(6,(.d (.int .i64 x20))),(7,(.d (.int .i64 a)))]) (fun a=>[.box b2 [(.d (.sl ((a1.Parents).map (D.int .i64)) false)),(.d (.sl ((a1.Kinds).map (D.int .i64)) false)),(.d (.sl ((a1.Texts).map (D.int .i64)) false)),(.d (.sl ((a1.Rules).map (D.int .i64)) false)),(.d (.sl ((a1.Flags).map (D.int .i64)) false)),(.d (.sl ((a1.eu).map (D.int .i64)) false)),(.d (.sl ((a1.Comps).map (D.int .i64)) false))],.grow v17 ((x16).map aA),.grow v19 ((x18).map (D.int .i64))]) ?_ ?_
  ·
   intro x28 S26 H27 h
   replace h:aR n a1 x16 x18 x20 (ak n a1 k21) x28=some r:=h
   replace H27:Has aG S26 [.box b2 [(.d (.sl ((a1.Parents).map (D.int .i64)) false)),(.d (.sl ((a1.Kinds).map (D.int .i64)) false)),(.d (.sl ((a1.Texts).map (D.int .i64)) false)),(.d (.sl ((a1.Rules).map (D.int .i64)) false)),(.d (.sl ((a1.Flags).map (D.int .i64)) false)),(.d (.sl ((a1.eu).map (D.int .i64)) false)),(.d (.sl ((a1.Comps).map (D.int .i64)) false))],.grow v17 ((x16).map aA),.grow v19 ((x18).map (D.int .i64))]:=H27
   unfold aR at h
   refine aD.seq ?_
   refine aD.region E.obj rfl ?_
   refine ah.val rfl (aj rfl) rfl ?_
   refine ah.nil ?_
   refine aD.join (B:=aG) (α:=Int) (fun a=>aV n a1 x16 x18 x20 (ak n a1 k21) x28 a=some r) (fun a=>[(1,(.ptr b2 0 0)),(3,(.d (.sl (([[97],[98],[105,116,101,109],[122],[49],[108,105,115,116]]).map D.str) true))),(4,v17),(5,v19),(6,(.d (.int .i64 x20))),(7,(.d (.int .i64 x28))),(8,(.d (.int .i64 a)))]) (fun a=>[.box b2 [(.d (.sl ((a1.Parents).map (D.int .i64)) false)),(.d (.sl ((a1.Kinds).map (D.int .i64)) false)),(.d (.sl ((a1.Texts).map (D.int .i64)) false)),(.d (.sl ((a1.Rules).map (D.int .i64)) false)),(.d (.sl ((a1.Flags).map (D.int .i64)) false)),(.d (.sl ((a1.eu).map (D.int .i64)) false)),(.d (.sl ((a1.Comps).map (D.int .i64)) false))],.grow v17 ((x16).map aA),.grow v19 ((x18).map (D.int .i64))]) ?_ ?_
   ·
    intro x32 S30 H31 h
    replace h:aV n a1 x16 x18 x20 (ak n a1 k21) x28 x32=some r:=h
    replace H31:Has aG S30 [.box b2 [(.d (.sl ((a1.Parents).map (D.int .i64)) false)),(.d (.sl ((a1.Kinds).map (D.int .i64)) false)),(.d (.sl ((a1.Texts).map (D.int .i64)) false)),(.d (.sl ((a1.Rules).map (D.int .i64)) false)),(.d (.sl ((a1.Flags).map (D.int .i64)) false)),(.d (.sl ((a1.eu).map (D.int .i64)) false)),(.d (.sl ((a1.Comps).map (D.int .i64)) false))],.grow v17 ((x16).map aA),.grow v19 ((x18).map (D.int .i64))]:=H31
    unfold aV at h
    refine aD.seq ?_
    refine aD.region E.obj rfl ?_
    refine ah.val rfl (ae rfl) rfl ?_
    refine ah.val rfl (ay rfl rfl dU) rfl ?_
    refine ah.val rfl (sF rfl EE EB) rfl ?_
    refine ah.val rfl (bY (vs:=[(.d (.int .u8 (IntKind.wrap .u8 (IntKind.wrap .i64 (97 + x20)))))]) (ds:=[(.int .u8 (IntKind.wrap .u8 (IntKind.wrap .i64 (97 + x20))))]) D5 DK EG EP ES rfl (by decide) (.cons rfl rfl .nil) rfl (by intro d hd; simp only [List.mem_cons,List.not_mem_nil,or_false] at hd; rcases hd with rfl <;> rfl) rfl) rfl ?_
    refine ah.val rfl (o6 (l:=[(IntKind.wrap .u8 (IntKind.wrap .i64 (97 + x20)))]) rfl EC Et) rfl ?_
    refine ah.val rfl (aj rfl) rfl ?_
    refine ah.nil ?_
    refine aD.seq ?_
    refine aD.region E.obj rfl ?_
    refine ah.val rfl (aK rfl CB oU rfl) rfl ?_
    refine ah.val rfl (bM H31 (i:=0) rfl rfl (cK oW rfl)) rfl ?_
    refine ah.val rfl (ae rfl) rfl ?_
    obtain ⟨z34,hzz34,h⟩:=bind_some h
    refine ah.ret rfl (aN rfl rfl) (bB E _ _ _ _ hzz34 _ _ (aH.eq (aH.eq .nil))) rfl ?_
    obtain ⟨z35,hzz35,h⟩:=bind_some h
    refine ah.ret rfl (aN rfl rfl) (bu E _ _ _ _ _ hzz35 _ _ (aH.eq (aH.eq (aH.eq .nil)))) rfl ?_
    refine ah.val rfl (ay rfl rfl dI) rfl ?_
    refine ah.val rfl (ae rfl) rfl ?_
    obtain ⟨z36,hzz36,h⟩:=bind_some h
    refine ah.val rfl (ay rfl rfl (nY hzz36)) rfl ?_
    refine ah.val rfl (gF (cs:=[(.d (.int .i64 (IntKind.wrap .i64 (z35 - 1)))),(.d (.str z36))]) AX rfl (kJ) (gX rfl rfl rfl rfl (gX rfl rfl rfl rfl rfl))) rfl ?_
    refine ah.less (Less.agg' (d:=bg (Seg.mk (IntKind.wrap .i64 (z35 - 1)) z36)) (aO.eq rfl (aO.eq rfl .nil)) ((Seg.eq _).trans rfl)) ?_
    refine ah.alloc H31 rfl DJ AX rfl rfl (fun b37 S38 H39=>?_)
    refine ah.store H39 (i:=0) rfl rfl rfl rfl (Seg.jv _) rfl mf rfl Bd rfl rfl rfl (fun S40 H41=>?_)
    refine ah.nil ?_
    refine aD.join (B:=aG) (α:=Int × Str) (fun a=>aW n a1 x16 x18 x20 (ak n a1 k21) x28 x32 a.1 a.2=some r) (fun a=>[(1,(.ptr b2 0 0)),(3,(.d (.sl (([[97],[98],[105,116,101,109],[122],[49],[108,105,115,116]]).map D.str) true))),(4,v17),(5,v19),(6,(.d (.int .i64 x20))),(7,(.d (.int .i64 x28))),(8,(.d (.int .i64 x32))),(9,(.d (.str (([(IntKind.wrap .u8 (IntKind.wrap .i64 (97 + x20)))]).map fun (n:Int)=>UInt8.ofNat n.toNat)))),(10,(.ptr b37 0 0))]) (fun a=>[.box b37 [(.d (.int .i64 a.1)),(.d (.str a.2))],.box b2 [(.d (.sl ((a1.Parents).map (D.int .i64)) false)),(.d (.sl ((a1.Kinds).map (D.int .i64)) false)),(.d (.sl ((a1.Texts).map (D.int .i64)) false)),(.d (.sl ((a1.Rules).map (D.int .i64)) false)),(.d (.sl ((a1.Flags).map (D.int .i64)) false)),(.d (.sl ((a1.eu).map (D.int .i64)) false)),(.d (.sl ((a1.Comps).map (D.int .i64)) false))],.grow v17 ((x16).map aA),.grow v19 ((x18).map (D.int .i64))]) ?_ ?_
    ·
     intro a S42 H43 h
     obtain ⟨x44,x45⟩:=a
     replace h:aW n a1 x16 x18 x20 (ak n a1 k21) x28 x32 x44 x45=some r:=h
     replace H43:Has aG S42 [.box b37 [(.d (.int .i64 x44)),(.d (.str x45))],.box b2 [(.d (.sl ((a1.Parents).map (D.int .i64)) false)),(.d (.sl ((a1.Kinds).map (D.int .i64)) false)),(.d (.sl ((a1.Texts).map (D.int .i64)) false)),(.d (.sl ((a1.Rules).map (D.int .i64)) false)),(.d (.sl ((a1.Flags).map (D.int .i64)) false)),(.d (.sl ((a1.eu).map (D.int .i64)) false)),(.d (.sl ((a1.Comps).map (D.int .i64)) false))],.grow v17 ((x16).map aA),.grow v19 ((x18).map (D.int .i64))]:=H43
     unfold aW at h
     refine aD.seq ?_
     obtain ⟨z47,hzz47,h⟩:=bind_some h
     obtain ⟨z48,hzz48,h⟩:=bind_some h
     obtain ⟨z49,hzz49,h⟩:=bind_some h
     obtain ⟨z50,hzz50,h⟩:=bind_some h
     refine aD.yM E.obj BX ET [(1,none),(3,none),(4,none),(5,none),(6,none),(8,none),(11,some 17)] (by kernel_rfl) [17,18] (by decide) [some (.d (.str (([(IntKind.wrap .u8 (IntKind.wrap .i64 (97 + x20)))]).map fun (n:Int)=>UInt8.ofNat n.toNat))),some (.d (.str z47)),some (.d (.int .i64 x28)),some (.d (bg (Seg.mk x44 x45))),some (.d (.sl (([(Seg.mk x44 x45)]).map bg) true)),some (.ptr b2 0 5),some (.d (.sl ((a1.eu).map (D.int .i64)) false)),some (.d (.int .i64 x20)),some (.d (.int .i64 z48)),some (.d (.int .i64 (dm .i64 z48 1))),some (.d (.bool ((dm .i64 z48 1) == 1))),some (.ptr b2 0 6),some (.d (.sl ((a1.Comps).map (D.int .i64)) false)),some (.d (.int .i64 x20)),some (.d (.int .i64 z49)),some (.d (.int .i64 z50)),some (.d (aA (ai.mk z47 x28 [(Seg.mk x44 x45)] z50 ((dm .i64 z48 1) == 1) (aY.mk 0 0 [])))),none,none] ?_
     refine ⟨[0,1,2,3,4,5,6,7,8,9,10,11,12,13,14,15,16],by kernel_rfl,?_,_,_,rfl,rfl,.step ?_⟩
     ·
      refine .v rfl rfl rfl rfl (ae rfl) ?_
      refine .v rfl rfl rfl rfl (ay rfl rfl (nY hzz47)) ?_
      refine .v rfl rfl rfl rfl (ae rfl) ?_
      refine .cons rfl rfl rfl (.step ?_) ?_
      ·
       refine ah.val rfl (bM H43 (i:=0) rfl rfl (mV zH mf rfl)) rfl ?_
       refine ah.less (Less.agg' (d:=bg (Seg.mk x44 x45)) (aO.eq rfl (aO.eq rfl .nil)) ((Seg.eq _).trans rfl)) ?_
       exact ah.nil ⟨_,_,rfl,fun _ ht=>by cases ht; exact ⟨rfl,.refl _⟩⟩
      refine .v rfl rfl rfl rfl (bY (vs:=[(.d (bg (Seg.mk x44 x45)))]) (ds:=[(bg (Seg.mk x44 x45))]) Ck wL zH AX mf rfl (by decide) (.cons rfl (Seg.len _) .nil) rfl (by intro d hd; simp only [List.mem_cons,List.not_mem_nil,or_false] at hd; rcases hd with rfl <;> exact Seg.agg _) rfl) ?_
      refine .v rfl rfl rfl rfl (aK rfl Bf oU rfl) ?_
      refine .v rfl rfl rfl rfl (bM H43 (i:=1) rfl rfl (cK oW rfl)) ?_
      refine .v rfl rfl rfl rfl (ae rfl) ?_
      refine .cons rfl rfl rfl (.step ?_) ?_
      ·
       refine ah.ret rfl (aN rfl rfl) (bB E _ _ _ _ hzz48 _ _ (aH.eq (aH.eq .nil))) rfl ?_
       exact ah.nil ⟨_,_,rfl,fun _ ht=>by cases ht; exact ⟨rfl,.refl _⟩⟩
      refine .v rfl rfl rfl rfl (ay rfl rfl qG) ?_
      refine .v rfl rfl rfl rfl (ay rfl rfl ib) ?_
      refine .v rfl rfl rfl rfl (aK rfl Bo oU rfl) ?_
      refine .v rfl rfl rfl rfl (bM H43 (i:=1) rfl rfl (cK oW rfl)) ?_
      refine .v rfl rfl rfl rfl (ae rfl) ?_
      refine .cons rfl rfl rfl (.step ?_) ?_
      ·
       refine ah.ret rfl (aN rfl rfl) (bB E _ _ _ _ hzz49 _ _ (aH.eq (aH.eq .nil))) rfl ?_
       exact ah.nil ⟨_,_,rfl,fun _ ht=>by cases ht; exact ⟨rfl,.refl _⟩⟩
      refine .cons rfl rfl rfl (.step ?_) ?_
      ·
       refine ah.ret rfl (aN rfl rfl) (bu E _ _ _ _ _ hzz50 _ _ (aH.eq (aH.eq (aH.eq .nil)))) rfl ?_
       exact ah.nil ⟨_,_,rfl,fun _ ht=>by cases ht; exact ⟨rfl,.refl _⟩⟩
      refine .cons rfl rfl rfl (.step ?_) ?_
      ·
       refine ah.val rfl (gF (cs:=[(.d (.str z47)),(.d (.int .i64 x28)),(.d (.sl (([(Seg.mk x44 x45)]).map bg) true)),(.d (.int .i64 z50)),(.d (.bool ((dm .i64 z48 1) == 1))),(.d (.int .i64 0)),(.d (.int .i64 0)),(.d (.str []))]) zK rfl (jb) (gX rfl rfl rfl rfl (gX rfl rfl rfl rfl (gX rfl rfl rfl rfl (gX rfl rfl rfl rfl (gX rfl rfl rfl rfl rfl)))))) rfl ?_
       refine ah.less (Less.agg' (d:=aA (ai.mk z47 x28 [(Seg.mk x44 x45)] z50 ((dm .i64 z48 1) == 1) (aY.mk 0 0 []))) (aO.eq rfl (aO.eq rfl (aO.rH rfl (.pM _ _) rfl rfl (aO.eq rfl (aO.eq rfl (aO.eq rfl (aO.eq rfl (aO.eq rfl .nil)))))))) ((ai.eq _).trans rfl)) ?_
       exact ah.nil ⟨_,_,rfl,fun _ ht=>by cases ht; exact ⟨rfl,.refl _⟩⟩
      exact .nil
     refine ah.alloc H43 rfl DV zK rfl rfl (fun b56 S57 H58=>?_)
     refine ah.nil ⟨_,_,_,rfl,(fun _ ht=>by cases ht; rfl),_,(.q (.q (.q (.q (.o (.w (.ptr b56 0 0) (.n .nil))))))),(fun _ ht=>by cases ht; exact ⟨_,rfl,.refl _⟩),?_⟩
     refine ⟨[0,1,2,3,4,5,6,7,8,9,10,11,12,13,14,15,16],by kernel_rfl,?_,_,_,rfl,rfl,.step ?_⟩
     ·
      refine .v rfl rfl rfl rfl (ae rfl) ?_
      refine .v rfl rfl rfl rfl (ay rfl rfl (nY hzz47)) ?_
      refine .v rfl rfl rfl rfl (ae rfl) ?_
      refine .cons rfl rfl rfl (.step ?_) ?_
      ·
       refine ah.val rfl (bM H58 (i:=1) rfl rfl (mV zH mf rfl)) rfl ?_
       refine ah.less (Less.agg' (d:=bg (Seg.mk x44 x45)) (aO.eq rfl (aO.eq rfl .nil)) ((Seg.eq _).trans rfl)) ?_
       exact ah.nil ⟨_,_,rfl,fun _ ht=>by cases ht; exact ⟨rfl,.refl _⟩⟩
      refine .v rfl rfl rfl rfl (bY (vs:=[(.d (bg (Seg.mk x44 x45)))]) (ds:=[(bg (Seg.mk x44 x45))]) Ck wL zH AX mf rfl (by decide) (.cons rfl (Seg.len _) .nil) rfl (by intro d hd; simp only [List.mem_cons,List.not_mem_nil,or_false] at hd; rcases hd with rfl <;> exact Seg.agg _) rfl) ?_
      refine .v rfl rfl rfl rfl (aK rfl Bf oU rfl) ?_
      refine .v rfl rfl rfl rfl (bM H58 (i:=2) rfl rfl (cK oW rfl)) ?_
      refine .v rfl rfl rfl rfl (ae rfl) ?_
      refine .cons rfl rfl rfl (.step ?_) ?_
      ·
       refine ah.ret rfl (aN rfl rfl) (bB E _ _ _ _ hzz48 _ _ (aH.eq (aH.eq .nil))) rfl ?_
       exact ah.nil ⟨_,_,rfl,fun _ ht=>by cases ht; exact ⟨rfl,.refl _⟩⟩
      refine .v rfl rfl rfl rfl (ay rfl rfl qG) ?_
      refine .v rfl rfl rfl rfl (ay rfl rfl ib) ?_
      refine .v rfl rfl rfl rfl (aK rfl Bo oU rfl) ?_
      refine .v rfl rfl rfl rfl (bM H58 (i:=2) rfl rfl (cK oW rfl)) ?_
      refine .v rfl rfl rfl rfl (ae rfl) ?_
      refine .cons rfl rfl rfl (.step ?_) ?_
      ·
       refine ah.ret rfl (aN rfl rfl) (bB E _ _ _ _ hzz49 _ _ (aH.eq (aH.eq .nil))) rfl ?_
       exact ah.nil ⟨_,_,rfl,fun _ ht=>by cases ht; exact ⟨rfl,.refl _⟩⟩
      refine .cons rfl rfl rfl (.step ?_) ?_
      ·
       refine ah.ret rfl (aN rfl rfl) (bu E _ _ _ _ _ hzz50 _ _ (aH.eq (aH.eq (aH.eq .nil)))) rfl ?_
       exact ah.nil ⟨_,_,rfl,fun _ ht=>by cases ht; exact ⟨rfl,.refl _⟩⟩
      refine .cons rfl rfl rfl (.step ?_) ?_
      ·
       refine ah.val rfl (gF (cs:=[(.d (.str z47)),(.d (.int .i64 x28)),(.d (.sl (([(Seg.mk x44 x45)]).map bg) true)),(.d (.int .i64 z50)),(.d (.bool ((dm .i64 z48 1) == 1))),(.d (.int .i64 0)),(.d (.int .i64 0)),(.d (.str []))]) zK rfl (jb) (gX rfl rfl rfl rfl (gX rfl rfl rfl rfl (gX rfl rfl rfl rfl (gX rfl rfl rfl rfl (gX rfl rfl rfl rfl rfl)))))) rfl ?_
       refine ah.less (Less.agg' (d:=aA (ai.mk z47 x28 [(Seg.mk x44 x45)] z50 ((dm .i64 z48 1) == 1) (aY.mk 0 0 []))) (aO.eq rfl (aO.eq rfl (aO.rH rfl (.pM _ _) rfl rfl (aO.eq rfl (aO.eq rfl (aO.eq rfl (aO.eq rfl (aO.eq rfl .nil)))))))) ((ai.eq _).trans rfl)) ?_
       exact ah.nil ⟨_,_,rfl,fun _ ht=>by cases ht; exact ⟨rfl,.refl _⟩⟩
      exact .nil
     refine ah.store H58 (i:=0) rfl rfl rfl rfl (ai.jv _) rfl lL rfl sK rfl rfl rfl (fun S59 H60=>?_)
     refine ah.nil ⟨_,.any,_,rfl,(fun _ ht=>by cases ht),_,(.q (.q (.q (.q (.o (.o (.w .any .nil))))))),(fun _ ht=>by cases ht),?_⟩
     refine ⟨[],by kernel_rfl,?_,_,rfl,?_⟩
     ·
      exact .nil
     refine aD.join (B:=aG) (α:=Int × Int × Str) (fun a=>aQ x16 x18 x20 (ak n a1 k21) x28 x32 x44 x45 z47 z48 z50 a.1 a.2.1 a.2.2=some r) (fun a=>[(1,(.ptr b2 0 0)),(3,(.d (.sl (([[97],[98],[105,116,101,109],[122],[49],[108,105,115,116]]).map D.str) true))),(4,v17),(5,v19),(6,(.d (.int .i64 x20))),(8,(.d (.int .i64 x32))),(11,(.ptr b56 0 0))]) (fun a=>[.box b56 [(.d (.str (ai.mk z47 x28 [(Seg.mk x44 x45)] z50 ((dm .i64 z48 1) == 1) (aY.mk 0 0 [])).Name)),(.d (.int .i64 (ai.mk z47 x28 [(Seg.mk x44 x45)] z50 ((dm .i64 z48 1) == 1) (aY.mk 0 0 [])).Parent)),(.d (.sl (((ai.mk z47 x28 [(Seg.mk x44 x45)] z50 ((dm .i64 z48 1) == 1) (aY.mk 0 0 [])).Segs).map bg) false)),(.d (.int .i64 (ai.mk z47 x28 [(Seg.mk x44 x45)] z50 ((dm .i64 z48 1) == 1) (aY.mk 0 0 [])).Comp)),(.d (.bool (ai.mk z47 x28 [(Seg.mk x44 x45)] z50 ((dm .i64 z48 1) == 1) (aY.mk 0 0 [])).kE)),(.d (.int .i64 a.1)),(.d (.int .i64 a.2.1)),(.d (.str a.2.2))],.box b2 [(.d (.sl ((a1.Parents).map (D.int .i64)) false)),(.d (.sl ((a1.Kinds).map (D.int .i64)) false)),(.d (.sl ((a1.Texts).map (D.int .i64)) false)),(.d (.sl ((a1.Rules).map (D.int .i64)) false)),(.d (.sl ((a1.Flags).map (D.int .i64)) false)),(.d (.sl ((a1.eu).map (D.int .i64)) false)),(.d (.sl ((a1.Comps).map (D.int .i64)) false))],.grow v17 ((x16).map aA),.grow v19 ((x18).map (D.int .i64))]) ?_ ?_
     ·
      intro a S61 H62 h
      obtain ⟨x63,x64,x65⟩:=a
      replace h:aQ x16 x18 x20 (ak n a1 k21) x28 x32 x44 x45 z47 z48 z50 x63 x64 x65=some r:=h
      replace H62:Has aG S61 [.box b56 [(.d (.str (ai.mk z47 x28 [(Seg.mk x44 x45)] z50 ((dm .i64 z48 1) == 1) (aY.mk 0 0 [])).Name)),(.d (.int .i64 (ai.mk z47 x28 [(Seg.mk x44 x45)] z50 ((dm .i64 z48 1) == 1) (aY.mk 0 0 [])).Parent)),(.d (.sl (((ai.mk z47 x28 [(Seg.mk x44 x45)] z50 ((dm .i64 z48 1) == 1) (aY.mk 0 0 [])).Segs).map bg) false)),(.d (.int .i64 (ai.mk z47 x28 [(Seg.mk x44 x45)] z50 ((dm .i64 z48 1) == 1) (aY.mk 0 0 [])).Comp)),(.d (.bool (ai.mk z47 x28 [(Seg.mk x44 x45)] z50 ((dm .i64 z48 1) == 1) (aY.mk 0 0 [])).kE)),(.d (.int .i64 x63)),(.d (.int .i64 x64)),(.d (.str x65))],.box b2 [(.d (.sl ((a1.Parents).map (D.int .i64)) false)),(.d (.sl ((a1.Kinds).map (D.int .i64)) false)),(.d (.sl ((a1.Texts).map (D.int .i64)) false)),(.d (.sl ((a1.Rules).map (D.int .i64)) false)),(.d (.sl ((a1.Flags).map (D.int .i64)) false)),(.d (.sl ((a1.eu).map (D.int .i64)) false)),(.d (.sl ((a1.Comps).map (D.int .i64)) false))],.grow v17 ((x16).map aA),.grow v19 ((x18).map (D.int .i64))]:=H62
      unfold aQ at h
      refine aD.seq ?_
      refine aD.region E.obj rfl ?_
      refine ah.val rfl (ae rfl) rfl ?_
      refine ah.val rfl (bM H62 (i:=0) rfl rfl (mV BL lL rfl)) rfl ?_
      refine ah.less (Less.agg' (d:=aA (ai.mk ((ai.mk z47 x28 [(Seg.mk x44 x45)] z50 ((dm .i64 z48 1) == 1) (aY.mk 0 0 [])).Name) ((ai.mk z47 x28 [(Seg.mk x44 x45)] z50 ((dm .i64 z48 1) == 1) (aY.mk 0 0 [])).Parent) ((ai.mk z47 x28 [(Seg.mk x44 x45)] z50 ((dm .i64 z48 1) == 1) (aY.mk 0 0 [])).Segs) ((ai.mk z47 x28 [(Seg.mk x44 x45)] z50 ((dm .i64 z48 1) == 1) (aY.mk 0 0 [])).Comp) ((ai.mk z47 x28 [(Seg.mk x44 x45)] z50 ((dm .i64 z48 1) == 1) (aY.mk 0 0 [])).kE) (aY.mk x63 x64 x65))) (aO.eq rfl (aO.eq rfl (aO.eq rfl (aO.eq rfl (aO.eq rfl (aO.eq rfl (aO.eq rfl (aO.eq rfl .nil)))))))) ((ai.eq _).trans rfl)) ?_
      refine ah.val rfl (bY (vs:=[(.d (aA (ai.mk ((ai.mk z47 x28 [(Seg.mk x44 x45)] z50 ((dm .i64 z48 1) == 1) (aY.mk 0 0 [])).Name) ((ai.mk z47 x28 [(Seg.mk x44 x45)] z50 ((dm .i64 z48 1) == 1) (aY.mk 0 0 [])).Parent) ((ai.mk z47 x28 [(Seg.mk x44 x45)] z50 ((dm .i64 z48 1) == 1) (aY.mk 0 0 [])).Segs) ((ai.mk z47 x28 [(Seg.mk x44 x45)] z50 ((dm .i64 z48 1) == 1) (aY.mk 0 0 [])).Comp) ((ai.mk z47 x28 [(Seg.mk x44 x45)] z50 ((dm .i64 z48 1) == 1) (aY.mk 0 0 [])).kE) (aY.mk x63 x64 x65))))]) (ds:=[(aA (ai.mk ((ai.mk z47 x28 [(Seg.mk x44 x45)] z50 ((dm .i64 z48 1) == 1) (aY.mk 0 0 [])).Name) ((ai.mk z47 x28 [(Seg.mk x44 x45)] z50 ((dm .i64 z48 1) == 1) (aY.mk 0 0 [])).Parent) ((ai.mk z47 x28 [(Seg.mk x44 x45)] z50 ((dm .i64 z48 1) == 1) (aY.mk 0 0 [])).Segs) ((ai.mk z47 x28 [(Seg.mk x44 x45)] z50 ((dm .i64 z48 1) == 1) (aY.mk 0 0 [])).Comp) ((ai.mk z47 x28 [(Seg.mk x44 x45)] z50 ((dm .i64 z48 1) == 1) (aY.mk 0 0 [])).kE) (aY.mk x63 x64 x65)))]) CV pE BL zK lL rfl (by decide) (.cons rfl (ai.len _) .nil) rfl (by intro d hd; simp only [List.mem_cons,List.not_mem_nil,or_false] at hd; rcases hd with rfl <;> exact ai.agg _) rfl) rfl ?_
      obtain ⟨z67,hzz67,h⟩:=bind_some h
      refine ah.append (xs:=(x16).map aA) (ys:=([(ai.mk ((ai.mk z47 x28 [(Seg.mk x44 x45)] z50 ((dm .i64 z48 1) == 1) (aY.mk 0 0 [])).Name) ((ai.mk z47 x28 [(Seg.mk x44 x45)] z50 ((dm .i64 z48 1) == 1) (aY.mk 0 0 [])).Parent) ((ai.mk z47 x28 [(Seg.mk x44 x45)] z50 ((dm .i64 z48 1) == 1) (aY.mk 0 0 [])).Segs) ((ai.mk z47 x28 [(Seg.mk x44 x45)] z50 ((dm .i64 z48 1) == 1) (aY.mk 0 0 [])).Comp) ((ai.mk z47 x28 [(Seg.mk x44 x45)] z50 ((dm .i64 z48 1) == 1) (aY.mk 0 0 [])).kE) (aY.mk x63 x64 x65))]).map aA) (zs:=(z67).map aA) H62 rfl rfl rfl (i:=2) rfl rfl CV DX pE (lC hzz67) DY rfl (fM (enc:=aA) (fun z=>(ai.len z).trans lL.symm) _) (fM (enc:=aA) (fun z=>(ai.len z).trans lL.symm) _) DR rfl (uD hzz67) (fun v68 S69 H70=>?_)
      refine ah.val rfl (aj rfl) rfl ?_
      refine ah.nil ?_
      refine aD.region E.obj rfl ?_
      refine ah.val rfl (ae rfl) rfl ?_
      refine ah.val rfl (ae rfl) rfl ?_
      refine ah.val rfl (bY (vs:=[(.d (.int .i64 x32))]) (ds:=[(.int .i64 x32)]) Cq jS sM Es qR rfl (by decide) (.cons rfl rfl .nil) rfl (by intro d hd; simp only [List.mem_cons,List.not_mem_nil,or_false] at hd; rcases hd with rfl <;> rfl) rfl) rfl ?_
      obtain ⟨z71,hzz71,h⟩:=bind_some h
      refine ah.append (xs:=(x18).map (D.int .i64)) (ys:=([x32]).map (D.int .i64)) (zs:=(z71).map (D.int .i64)) H70 rfl rfl rfl (i:=3) rfl rfl Cq D9 jS (lC hzz71) Ew rfl (fM (enc:=(D.int .i64)) (fun _=>qR.symm) _) (fM (enc:=(D.int .i64)) (fun _=>qR.symm) _) EH rfl (uD hzz71) (fun v72 S73 H74=>?_)
      refine ah.val rfl (aj rfl) rfl ?_
      refine ah.nil ?_
      refine aD.region E.obj rfl ?_
      refine ah.val rfl (ae rfl) rfl ?_
      refine ah.val rfl (ay rfl rfl dU) rfl ?_
      refine ah.val rfl (aj rfl) rfl ?_
      refine ah.nil ?_
      exact ⟨⟨z67,v68,z71,v72,(IntKind.wrap .i64 (x20 + 1))⟩,_,_,S73,.refl _ _,.refl _,(aa.r rfl (aa.r rfl (aa.r rfl (aa.r rfl (aa.r rfl aa.nil))))),H74.sl [1,2,3] rfl rfl,h⟩
     refine aD.seq ?_
     refine aD.region E.obj rfl ?_
     refine ah.val rfl (aK rfl Aj oU rfl) rfl ?_
     refine ah.val rfl (bM H60 (i:=2) rfl rfl (cK oW rfl)) rfl ?_
     refine ah.val rfl (ae rfl) rfl ?_
     obtain ⟨z75,hzz75,h⟩:=bind_some h
     refine ah.ret rfl (aN rfl rfl) (bB E _ _ _ _ hzz75 _ _ (aH.eq (aH.eq .nil))) rfl ?_
     refine ah.val rfl (ay rfl rfl qG) rfl ?_
     refine ah.val rfl (ay rfl rfl ib) rfl ?_
     refine ah.nil ?_
     refine aD.cond rfl (fun hb76=>?_) (fun hb76=>?_)
     ·
      replace h:=fw hb76 h
      refine aD.seq ?_
      obtain ⟨z77,hzz77,h⟩:=bind_some h
      obtain ⟨z78,hzz78,h⟩:=bind_some h
      obtain ⟨z79,hzz79,h⟩:=bind_some h
      obtain ⟨z80,hzz80,h⟩:=bind_some h
      obtain ⟨z81,hzz81,h⟩:=bind_some h
      refine aD.yM E.obj BX EF [(1,none),(3,none),(4,none),(5,none),(6,none),(8,none),(11,none)] (by kernel_rfl) [13] (by decide) [some (.ptr b2 0 3),some (.d (.sl ((a1.Rules).map (D.int .i64)) false)),some (.d (.int .i64 x20)),some (.d (.int .i64 z77)),some (.d (.int .i64 z78)),some (.d (.int .i64 z79)),some (.ptr b2 0 4),some (.d (.sl ((a1.Flags).map (D.int .i64)) false)),some (.d (.int .i64 x20)),some (.d (.int .i64 z80)),some (.d (.int .i64 z81)),some (.d (pU (aY.mk z79 z81 []))),some (.ptr b56 0 5),none] ?_
      refine ⟨[0,1,2,3,4,5,6,7,8,9,10,11,12],by kernel_rfl,?_,_,_,rfl,rfl,.step ?_⟩
      ·
       refine .v rfl rfl rfl rfl (aK rfl Aj oU rfl) ?_
       refine .v rfl rfl rfl rfl (bM H60 (i:=2) rfl rfl (cK oW rfl)) ?_
       refine .v rfl rfl rfl rfl (ae rfl) ?_
       refine .cons rfl rfl rfl (.step ?_) ?_
       ·
        refine ah.ret rfl (aN rfl rfl) (bB E _ _ _ _ hzz77 _ _ (aH.eq (aH.eq .nil))) rfl ?_
        exact ah.nil ⟨_,_,rfl,fun _ ht=>by cases ht; exact ⟨rfl,.refl _⟩⟩
       refine .v rfl rfl rfl rfl (ay rfl rfl (zf hzz78)) ?_
       refine .cons rfl rfl rfl (.step ?_) ?_
       ·
        refine ah.ret rfl (aN rfl rfl) (bu E _ _ _ _ _ hzz79 _ _ (aH.eq (aH.eq (aH.eq .nil)))) rfl ?_
        exact ah.nil ⟨_,_,rfl,fun _ ht=>by cases ht; exact ⟨rfl,.refl _⟩⟩
       refine .v rfl rfl rfl rfl (aK rfl Ai oU rfl) ?_
       refine .v rfl rfl rfl rfl (bM H60 (i:=2) rfl rfl (cK oW rfl)) ?_
       refine .v rfl rfl rfl rfl (ae rfl) ?_
       refine .cons rfl rfl rfl (.step ?_) ?_
       ·
        refine ah.ret rfl (aN rfl rfl) (bB E _ _ _ _ hzz80 _ _ (aH.eq (aH.eq .nil))) rfl ?_
        exact ah.nil ⟨_,_,rfl,fun _ ht=>by cases ht; exact ⟨rfl,.refl _⟩⟩
       refine .cons rfl rfl rfl (.step ?_) ?_
       ·
        refine ah.ret rfl (aN rfl rfl) (bu E _ _ _ _ _ hzz81 _ _ (aH.eq (aH.eq (aH.eq .nil)))) rfl ?_
        exact ah.nil ⟨_,_,rfl,fun _ ht=>by cases ht; exact ⟨rfl,.refl _⟩⟩
       refine .cons rfl rfl rfl (.step ?_) ?_
       ·
        refine ah.val rfl (gF (cs:=[(.d (.int .i64 z79)),(.d (.int .i64 z81)),(.d (.str []))]) DU rfl (q9) (gX rfl rfl rfl rfl (gX rfl rfl rfl rfl rfl))) rfl ?_
        refine ah.less (Less.agg' (d:=pU (aY.mk z79 z81 [])) (aO.eq rfl (aO.eq rfl (aO.eq rfl .nil))) ((aY.eq _).trans rfl)) ?_
        exact ah.nil ⟨_,_,rfl,fun _ ht=>by cases ht; exact ⟨rfl,.refl _⟩⟩
       refine .v rfl rfl rfl rfl (aK rfl vC BP rfl) ?_
       exact .nil
      refine ah.store H60 (i:=0) rfl rfl rfl rfl (aY.jv _) rfl Ee rfl DD rfl rfl rfl (fun S84 H85=>?_)
      refine ah.nil ⟨_,.any,_,rfl,(fun _ ht=>by cases ht),_,(.q (.q (.q (.o (.w .any .nil))))),(fun _ ht=>by cases ht),?_⟩
      refine ⟨[],by kernel_rfl,?_,_,rfl,?_⟩
      ·
       exact .nil
      refine aD.seq ?_
      refine aD.region E.obj rfl ?_
      refine ah.val rfl (aK rfl vC BP rfl) rfl ?_
      refine ah.val rfl (aK rfl Bv CS rfl) rfl ?_
      refine ah.val rfl (bM H85 (i:=0) rfl rfl (cK sM rfl)) rfl ?_
      refine ah.val rfl (ay rfl rfl ib) rfl ?_
      refine ah.val rfl (ae rfl) rfl ?_
      refine ah.fG 5 134 (.d (.bool ((((aY.mk z79 z81 []).Kind) == 3) || (((aY.mk z79 z81 []).Kind) == 4)))) ?_ ?_
      ·
       rcases Bool.eq_false_or_eq_true ((((aY.mk z79 z81 []).Kind) == 3)) with hB86 | hB86
       ·
        refine ah.bool hB86 ?_
        refine ah.no rfl rfl ?_
        refine ah.no rfl rfl ?_
        refine ah.no rfl rfl ?_
        refine ah.no rfl rfl ?_
        refine ah.val rfl (aT (b:=true) rfl rfl) rfl ?_
        exact ah.nil ⟨_,rfl,(aa.put (aa.push rfl (aa.push rfl (aa.push rfl (aa.push rfl (aa.put (.refl _) (Less.eq (by rw [hB86]))))))) (Less.eq (by rw [hB86]; rw [Bool.true_or])))⟩
       refine ah.bool hB86 ?_
       refine ah.val rfl (aK rfl vC BP rfl) rfl ?_
       refine ah.val rfl (aK rfl Bv CS rfl) rfl ?_
       refine ah.val rfl (bM H85 (i:=0) rfl rfl (cK sM rfl)) rfl ?_
       refine ah.val rfl (ay rfl rfl ib) rfl ?_
       refine ah.val rfl (aT (b:=false) rfl rfl) rfl ?_
       exact ah.nil ⟨_,rfl,(aa.put (aa.push rfl (aa.push rfl (aa.push rfl (aa.push rfl (aa.put (.refl _) (Less.eq (by rw [hB86]))))))) (Less.eq (by rw [hB86]; rw [Bool.false_or])))⟩
      refine ah.nil ?_
      refine aD.cond rfl (fun hb87=>?_) (fun hb87=>?_)
      ·
       replace h:=fw hb87 h
       refine aD.region E.obj rfl ?_
       refine ah.val rfl (ae rfl) rfl ?_
       refine ah.val rfl (aK rfl Ai oU rfl) rfl ?_
       refine ah.val rfl (bM H85 (i:=2) rfl rfl (cK oW rfl)) rfl ?_
       refine ah.val rfl (ae rfl) rfl ?_
       refine ah.val rfl (ay rfl rfl dU) rfl ?_
       obtain ⟨z88,hzz88,h⟩:=bind_some h
       refine ah.ret rfl (aN rfl rfl) (bB E _ _ _ _ hzz88 _ _ (aH.eq (aH.eq .nil))) rfl ?_
       refine ah.val rfl (ae rfl) rfl ?_
       refine ah.val rfl (sZ H85 (i:=3) rfl rfl zU) rfl ?_
       refine ah.val rfl (ay rfl rfl dI) rfl ?_
       obtain ⟨z89,hzz89,h⟩:=bind_some h
       refine ah.ret rfl (aN rfl rfl) (bu E _ _ _ _ _ hzz89 _ _ (aH.eq (aH.eq (aH.eq .nil)))) rfl ?_
       obtain ⟨z90,hzz90,h⟩:=bind_some h
       refine ah.val rfl (bK rfl rfl (iF (enc:=aA) H85 (i:=3) rfl hzz90 pE sK ((ai.len _).trans lL.symm))) rfl ?_
       refine ah.val rfl (bT rfl yx Dy rfl) rfl ?_
       refine ah.val rfl (bq rfl (by rw [ai.cells]; exact bH De rfl)) rfl ?_
       refine ah.val rfl (aK rfl vC BP rfl) rfl ?_
       refine ah.val rfl (aK rfl CK Dy rfl) rfl ?_
       refine ah.store H85 (i:=0) rfl rfl rfl rfl rfl rfl Er rfl Ey rfl rfl rfl (fun S91 H92=>?_)
       refine ah.nil ?_
       exact ⟨⟨(aY.mk z79 z81 []).Kind,(aY.mk z79 z81 []).Flag,z90.Name⟩,_,_,S91,.refl _ _,.refl _,(aa.r rfl (aa.r rfl (aa.r rfl (aa.r rfl (aa.r rfl (aa.r rfl (aa.r rfl aa.nil))))))),H92.sl [0,2,3,4] rfl rfl,h⟩
      replace h:=fB hb87 h
      refine aD.skip ?_
      exact ⟨⟨(aY.mk z79 z81 []).Kind,(aY.mk z79 z81 []).Flag,(aY.mk z79 z81 []).To⟩,_,_,S84,.refl _ _,.refl _,(aa.r rfl (aa.r rfl (aa.r rfl (aa.r rfl (aa.r rfl (aa.r rfl (aa.r rfl aa.nil))))))),H85.sl [0,2,3,4] rfl rfl,h⟩
     replace h:=fB hb76 h
     refine aD.skip ?_
     exact ⟨⟨(ai.mk z47 x28 [(Seg.mk x44 x45)] z50 ((dm .i64 z48 1) == 1) (aY.mk 0 0 [])).aY.Kind,(ai.mk z47 x28 [(Seg.mk x44 x45)] z50 ((dm .i64 z48 1) == 1) (aY.mk 0 0 [])).aY.Flag,(ai.mk z47 x28 [(Seg.mk x44 x45)] z50 ((dm .i64 z48 1) == 1) (aY.mk 0 0 [])).aY.To⟩,_,_,S59,.refl _ _,.refl _,(aa.r rfl (aa.r rfl (aa.r rfl (aa.r rfl (aa.r rfl (aa.r rfl (aa.r rfl aa.nil))))))),H60.sl [0,2,3,4] rfl rfl,h⟩
    refine aD.seq ?_
    refine aD.region E.obj rfl ?_
    refine ah.val rfl (aK rfl Av CS rfl) rfl ?_
    refine ah.val rfl (bM H41 (i:=0) rfl rfl (cK sM rfl)) rfl ?_
    refine ah.val rfl (ay rfl rfl AZ) rfl ?_
    refine ah.nil ?_
    refine aD.cond rfl (fun hb93=>?_) (fun hb93=>?_)
    ·
     replace h:=fw hb93 h
     refine aD.region E.obj rfl ?_
     refine ah.val rfl (ae rfl) rfl ?_
     refine ah.val rfl (aK rfl Cs oU rfl) rfl ?_
     refine ah.val rfl (bM H41 (i:=1) rfl rfl (cK oW rfl)) rfl ?_
     refine ah.val rfl (ae rfl) rfl ?_
     obtain ⟨z94,hzz94,h⟩:=bind_some h
     refine ah.ret rfl (aN rfl rfl) (bB E _ _ _ _ hzz94 _ _ (aH.eq (aH.eq .nil))) rfl ?_
     refine ah.val rfl (ae rfl) rfl ?_
     refine ah.val rfl (bE rfl Eb) rfl ?_
     refine ah.val rfl (ay rfl rfl dI) rfl ?_
     obtain ⟨z95,hzz95,h⟩:=bind_some h
     refine ah.ret rfl (aN rfl rfl) (bu E _ _ _ _ _ hzz95 _ _ (aH.eq (aH.eq (aH.eq .nil)))) rfl ?_
     obtain ⟨z96,hzz96,h⟩:=bind_some h
     refine ah.val rfl (bK rfl rfl (dn (enc:=D.str) hzz96 Dt Ey (((fun _=>rfl) _).trans Er.symm))) rfl ?_
     refine ah.val rfl (bq rfl (bH De rfl)) rfl ?_
     refine ah.val rfl (gF (cs:=[(.d (.int .i64 0)),(.d (.str z96))]) AX rfl (kJ) (gX rfl rfl rfl rfl rfl)) rfl ?_
     refine ah.less (Less.agg' (d:=bg (Seg.mk 0 z96)) (aO.eq rfl (aO.eq rfl .nil)) ((Seg.eq _).trans rfl)) ?_
     refine ah.store H41 (i:=0) rfl rfl rfl rfl (Seg.jv _) rfl mf rfl Bd rfl rfl rfl (fun S97 H98=>?_)
     refine ah.nil ?_
     exact ⟨⟨(Seg.mk 0 z96).Kind,(Seg.mk 0 z96).Text⟩,_,_,S97,.refl _ _,.refl _,(aa.r rfl (aa.r rfl (aa.r rfl (aa.r rfl (aa.r rfl (aa.r rfl (aa.r rfl (aa.r rfl (aa.r rfl aa.nil))))))))),H98.sl [0,1,2,3] rfl rfl,h⟩
    replace h:=fB hb93 h
    refine aD.skip ?_
    exact ⟨⟨(Seg.mk (IntKind.wrap .i64 (z35 - 1)) z36).Kind,(Seg.mk (IntKind.wrap .i64 (z35 - 1)) z36).Text⟩,_,_,S40,.refl _ _,.refl _,(aa.r rfl (aa.r rfl (aa.r rfl (aa.r rfl (aa.r rfl (aa.r rfl (aa.r rfl (aa.r rfl (aa.r rfl aa.nil))))))))),H41.sl [0,1,2,3] rfl rfl,h⟩
   refine aD.seq ?_
   refine aD.region E.obj rfl ?_
   refine ah.val rfl (ae rfl) rfl ?_
   refine ah.val rfl (ay rfl rfl iM) rfl ?_
   refine ah.nil ?_
   refine aD.cond rfl (fun hb99=>?_) (fun hb99=>?_)
   ·
    replace h:=fw hb99 h
    refine aD.region E.obj rfl ?_
    refine ah.val rfl (ae rfl) rfl ?_
    refine ah.val rfl (ae rfl) rfl ?_
    obtain ⟨z100,hzz100,h⟩:=bind_some h
    refine ah.val rfl (bK rfl rfl (iF (enc:=(D.int .i64)) H27 (i:=2) rfl hzz100 jS wm (((fun _=>rfl) _).trans qR.symm))) rfl ?_
    refine ah.val rfl (bq rfl (bH sM rfl)) rfl ?_
    refine ah.val rfl (ay rfl rfl dU) rfl ?_
    refine ah.val rfl (aj rfl) rfl ?_
    refine ah.nil ?_
    exact ⟨(IntKind.wrap .i64 (z100 + 1)),_,_,S26,.refl _ _,.refl _,(aa.r rfl (aa.r rfl (aa.r rfl (aa.r rfl (aa.r rfl (aa.r rfl (aa.r rfl aa.nil))))))),H27.sl [0,1,2] rfl rfl,h⟩
   replace h:=fB hb99 h
   refine aD.skip ?_
   exact ⟨1,_,_,S26,.refl _ _,.refl _,(aa.r rfl (aa.r rfl (aa.r rfl (aa.r rfl (aa.r rfl (aa.r rfl (aa.r rfl aa.nil))))))),H27.sl [0,1,2] rfl rfl,h⟩
  refine aD.seq ?_
  refine aD.region E.obj rfl ?_
  refine ah.val rfl (ae rfl) rfl ?_
  refine ah.val rfl (ay rfl rfl iM) rfl ?_
  refine ah.val rfl (ae rfl) rfl ?_
  obtain ⟨z102,hzz102,h⟩:=bind_some h
  refine ah.fG 14 52 (.d (.bool z102)) ?_ ?_
  ·
   rcases Bool.eq_false_or_eq_true ((decide (0 ≤ z25))) with hB101 | hB101
   ·
    refine ah.bool hB101 ?_
    replace hzz102:=fw hB101 hzz102
    refine ah.val rfl (ae rfl) rfl ?_
    refine ah.val rfl (ae rfl) rfl ?_
    obtain ⟨z103,hzz103,hzz102⟩:=bind_some hzz102
    refine ah.val rfl (bK rfl rfl (iF (enc:=(D.int .i64)) H15 (i:=2) rfl hzz103 jS wm (((fun _=>rfl) _).trans qR.symm))) rfl ?_
    refine ah.val rfl (bq rfl (bH sM rfl)) rfl ?_
    refine ah.val rfl (ay rfl rfl qV) rfl ?_
    refine ah.val rfl (ae rfl) rfl ?_
    obtain ⟨z105,hzz105,hzz102⟩:=bind_some hzz102
    refine ah.fG 7 51 (.d (.bool z105)) ?_ ?_
    ·
     rcases Bool.eq_false_or_eq_true ((decide (3 < z103))) with hB104 | hB104
     ·
      refine ah.bool hB104 ?_
      refine ah.no rfl rfl ?_
      refine ah.no rfl rfl ?_
      refine ah.no rfl rfl ?_
      refine ah.no rfl rfl ?_
      refine ah.no rfl rfl ?_
      refine ah.no rfl rfl ?_
      refine ah.val rfl (aT (b:=true) rfl rfl) rfl ?_
      replace hzz105:=fw hB104 hzz105
      cases hzz105
      exact ah.nil ⟨_,rfl,(aa.put (aa.push rfl (aa.push rfl (aa.push rfl (aa.push rfl (aa.push rfl (aa.push rfl (aa.put (.refl _) (Less.eq (by rw [hB104]))))))))) (.refl _))⟩
     refine ah.bool hB104 ?_
     replace hzz105:=fB hB104 hzz105
     refine ah.val rfl (ae rfl) rfl ?_
     refine ah.val rfl (ae rfl) rfl ?_
     obtain ⟨z106,hzz106,hzz105⟩:=bind_some hzz105
     refine ah.val rfl (bK rfl rfl (iF (enc:=aA) H15 (i:=1) rfl hzz106 pE sK ((ai.len _).trans lL.symm))) rfl ?_
     refine ah.val rfl (bT rfl yj Cm rfl) rfl ?_
     refine ah.val rfl (bq rfl (by rw [ai.cells]; exact bH CF rfl)) rfl ?_
     obtain ⟨z107,hzz107,hzz105⟩:=bind_some hzz105
     refine ah.ret rfl (aN rfl rfl) (lM E _ _ _ hzz107 _ _ (aH.eq .nil)) rfl ?_
     refine ah.val rfl (aT (b:=false) rfl rfl) rfl ?_
     cases hzz105
     exact ah.nil ⟨_,rfl,(aa.put (aa.push rfl (aa.push rfl (aa.push rfl (aa.push rfl (aa.push rfl (aa.push rfl (aa.put (.refl _) (Less.eq (by rw [hB104]))))))))) (.refl _))⟩
    refine ah.val rfl (aT (b:=true) rfl rfl) rfl ?_
    cases hzz102
    exact ah.nil ⟨_,rfl,(aa.put (aa.push rfl (aa.push rfl (aa.push rfl (aa.push rfl (aa.push rfl (aa.push rfl (aa.push rfl (aa.put (.refl _) (Less.eq (by rw [hB101])))))))))) (.refl _))⟩
   refine ah.bool hB101 ?_
   refine ah.no rfl rfl ?_
   refine ah.no rfl rfl ?_
   refine ah.no rfl rfl ?_
   refine ah.no rfl rfl ?_
   refine ah.no rfl rfl ?_
   refine ah.no rfl rfl ?_
   refine ah.no rfl rfl ?_
   refine ah.no rfl rfl ?_
   refine ah.no rfl rfl ?_
   refine ah.no rfl rfl ?_
   refine ah.no rfl rfl ?_
   refine ah.no rfl rfl ?_
   refine ah.no rfl rfl ?_
   refine ah.val rfl (aT (b:=false) rfl rfl) rfl ?_
   replace hzz102:=fB hB101 hzz102
   cases hzz102
   exact ah.nil ⟨_,rfl,(aa.put (aa.push rfl (aa.push rfl (aa.push rfl (aa.push rfl (aa.push rfl (aa.push rfl (aa.push rfl (aa.push rfl (aa.push rfl (aa.push rfl (aa.push rfl (aa.push rfl (aa.push rfl (aa.put (.refl _) (Less.eq (by rw [hB101])))))))))))))))) (.refl _))⟩
  refine ah.nil ?_
  refine aD.cond rfl (fun hb108=>?_) (fun hb108=>?_)
  ·
   replace h:=fw hb108 h
   refine aD.region E.obj rfl ?_
   refine ah.val rfl (aj rfl) rfl ?_
   refine ah.nil ?_
   exact ⟨(-1),_,_,S14,.refl _ _,.refl _,(aa.r rfl (aa.r rfl (aa.r rfl (aa.r rfl (aa.r rfl (aa.r rfl aa.nil)))))),H15.sl [0,1,2] rfl rfl,h⟩
  replace h:=fB hb108 h
  refine aD.skip ?_
  exact ⟨z25,_,_,S14,.refl _ _,.refl _,(aa.r rfl (aa.r rfl (aa.r rfl (aa.r rfl (aa.r rfl (aa.r rfl aa.nil)))))),H15.sl [0,1,2] rfl rfl,h⟩
 replace h:=fB hb23 h
 refine aD.exit ?_
 refine aD.seq ?_
 refine aD.region E.obj rfl ?_
 refine ah.val rfl (ae rfl) rfl ?_
 refine ah.val rfl (aj rfl) rfl ?_
 refine ah.nil ?_
 have hr:=Option.some.inj h
 subst hr
 exact aD.ret ⟨_,rfl,rfl,kF (aH.grow H15 (i:=1) rfl .nil)⟩
set_option maxRecDepth 20000 in
set_option maxHeartbeats 4000000 in
theorem iC (n:Nat) (a1:(List Int)) (r:(List Int)) (h:bS n a1=some r) (w2:AV):wS R cfg.P 17 [w2] [.row 1 w2 ((a1).map (D.int .i64))] (fun v l=>l=[.row 1 w2 ((r).map (D.int .i64))]):=by
 unfold bS at h
 refine wS.of_wp (C:=tF) Tryz.func17 rfl Eo rfl (fun B0 S0 H0=>?_)
 replace H0:Has B0 S0 [.row 1 w2 ((a1).map (D.int .i64))]:=H0
 refine aD.seq ?_
 refine aD.region (iq E) rfl ?_
 refine ah.val rfl (ae rfl) rfl ?_
 refine ah.val rfl (zB H0 (i:=0) rfl rfl wY) rfl ?_
 refine ah.val rfl (ay rfl rfl dI) rfl ?_
 refine ah.val rfl (aj rfl) rfl ?_
 refine ah.val rfl (aj rfl) rfl ?_
 refine ah.nil ?_
 refine aD.block ?_
 refine nQ.start (B:=B0) (α:=(List Int) × Int × Int) (fun k a=>aI  k a.1 a.2.1 a.2.2=some r) (fun a=>[(0,w2),(2,(.d (.int .i64 a.2.1))),(3,(.d (.int .i64 a.2.2)))]) (fun a=>[.row 1 w2 ((a.1).map (D.int .i64))]) ?_ ?_ n ⟨⟨a1,0,(IntKind.wrap .i64 (((a1).length:Int) - 1))⟩,_,_,S0,.refl _ _,.refl _,(aa.r rfl (aa.r rfl (aa.r rfl aa.nil))),H0.sl [0] rfl rfl,h⟩
 ·
  intro a h; simp [aI] at h
 intro k15 a S10 H11 h
 obtain ⟨x12,x13,x14⟩:=a
 replace h:aI  (k15 + 1) x12 x13 x14=some r:=h
 replace H11:Has B0 S10 [.row 1 w2 ((x12).map (D.int .i64))]:=H11
 unfold aI at h
 refine aD.seq ?_
 refine aD.seq ?_
 refine aD.region (iq E) rfl ?_
 refine ah.val rfl (ae rfl) rfl ?_
 refine ah.val rfl (ae rfl) rfl ?_
 refine ah.val rfl (ay rfl rfl dS) rfl ?_
 refine ah.nil ?_
 refine aD.cond rfl (fun hb16=>?_) (fun hb16=>?_)
 ·
  replace h:=fw hb16 h
  refine aD.skip ?_
  refine aD.seq ?_
  refine aD.block ?_
  obtain ⟨z17,hzz17,h⟩:=bind_some h
  obtain ⟨z18,hzz18,h⟩:=bind_some h
  obtain ⟨z21,hzz21,h⟩:=bind_some h
  refine aD.yM (iq E) BX EI [(0,none),(2,none),(3,none)] (by kernel_rfl) [13,15] (by decide) [some w2,some (.d (.int .i64 x13)),some w2,some (.d (.int .i64 x14)),some w2,some (.d (.int .i64 x14)),some (jT w2 (Int.toNat x14) 0),some (.d (.int .i64 z17)),some w2,some (.d (.int .i64 x13)),some (jT w2 (Int.toNat x13) 0),some (.d (.int .i64 z18)),some (jT w2 (Int.toNat x13) 0),none,none,none] ?_
  refine ⟨[0,1,2,3,4,5,6,7,8,9,10,11,12],by kernel_rfl,?_,_,_,rfl,rfl,.step ?_⟩
  ·
   refine .v rfl rfl rfl rfl (ae rfl) ?_
   refine .v rfl rfl rfl rfl (ae rfl) ?_
   refine .v rfl rfl rfl rfl (ae rfl) ?_
   refine .v rfl rfl rfl rfl (ae rfl) ?_
   refine .v rfl rfl rfl rfl (ae rfl) ?_
   refine .v rfl rfl rfl rfl (ae rfl) ?_
   refine .cons rfl rfl rfl (.step ?_) ?_
   ·
    refine ah.pR (enc:=(D.int .i64)) H11 rfl (i:=0) rfl rfl rfl hzz17 jS wm (((fun _=>rfl) _).trans qR.symm) rfl ?_
    exact ah.nil ⟨_,_,rfl,fun _ ht=>by cases ht; exact ⟨rfl,.refl _⟩⟩
   refine .cons rfl rfl rfl (.step ?_) ?_
   ·
    refine ah.vP H11 rfl (i:=0) rfl hzz17 rfl (bH sM rfl) rfl ?_
    exact ah.nil ⟨_,_,rfl,fun _ ht=>by cases ht; exact ⟨rfl,.refl _⟩⟩
   refine .v rfl rfl rfl rfl (ae rfl) ?_
   refine .v rfl rfl rfl rfl (ae rfl) ?_
   refine .cons rfl rfl rfl (.step ?_) ?_
   ·
    refine ah.pR (enc:=(D.int .i64)) H11 rfl (i:=0) rfl rfl rfl hzz18 jS wm (((fun _=>rfl) _).trans qR.symm) rfl ?_
    exact ah.nil ⟨_,_,rfl,fun _ ht=>by cases ht; exact ⟨rfl,.refl _⟩⟩
   refine .cons rfl rfl rfl (.step ?_) ?_
   ·
    refine ah.vP H11 rfl (i:=0) rfl hzz18 rfl (bH sM rfl) rfl ?_
    exact ah.nil ⟨_,_,rfl,fun _ ht=>by cases ht; exact ⟨rfl,.refl _⟩⟩
   refine .cons rfl rfl rfl (.step ?_) ?_
   ·
    refine ah.pR (enc:=(D.int .i64)) H11 rfl (i:=0) rfl rfl rfl hzz18 jS wm (((fun _=>rfl) _).trans qR.symm) rfl ?_
    exact ah.nil ⟨_,_,rfl,fun _ ht=>by cases ht; exact ⟨rfl,.refl _⟩⟩
   exact .nil
  refine ah.tL (enc:=(D.int .i64)) (z':=z17) (cv:=[(.int .i64 z17)]) H11 rfl (i:=0) rfl hzz18 rfl rfl rfl (.cons (.refl _) .nil) qR rfl wm rfl rfl rfl (fun S24 H25=>?_)
  refine ah.nil ⟨_,.any,_,rfl,(fun _ ht=>by cases ht),_,(.q (.q (.q (.o (.w .any (.w (jT w2 (Int.toNat x14) 0) (.n .nil))))))),(fun _ ht=>by cases ht),?_⟩
  refine ⟨[2,3,14],by kernel_rfl,?_,_,_,rfl,rfl,.step ?_⟩
  ·
   refine .v rfl rfl rfl rfl (ae rfl) ?_
   refine .v rfl rfl rfl rfl (ae rfl) ?_
   refine .cons rfl rfl rfl (.step ?_) ?_
   ·
    refine ah.pR (enc:=(D.int .i64)) H25 rfl (i:=0) rfl rfl rfl hzz21 jS wm (((fun _=>rfl) _).trans qR.symm) rfl ?_
    exact ah.nil ⟨_,_,rfl,fun _ ht=>by cases ht; exact ⟨rfl,.refl _⟩⟩
   exact .nil
  refine ah.tL (enc:=(D.int .i64)) (z':=z18) (cv:=[(.int .i64 z18)]) H25 rfl (i:=0) rfl hzz21 rfl rfl rfl (.cons (.refl _) .nil) qR rfl wm rfl rfl rfl (fun S26 H27=>?_)
  refine ah.nil ⟨_,.any,_,rfl,(fun _ ht=>by cases ht),_,(.q (.q (.q (.o (.o (.o (.w .any .nil))))))),(fun _ ht=>by cases ht),?_⟩
  refine ⟨[],by kernel_rfl,?_,_,rfl,?_⟩
  ·
   exact .nil
  refine aD.region (iq E) rfl ?_
  refine ah.val rfl (ae rfl) rfl ?_
  refine ah.val rfl (ay rfl rfl dU) rfl ?_
  refine ah.val rfl (ae rfl) rfl ?_
  refine ah.val rfl (ay rfl rfl dI) rfl ?_
  refine ah.val rfl (aj rfl) rfl ?_
  refine ah.val rfl (aj rfl) rfl ?_
  refine ah.nil ?_
  exact ⟨⟨(oV (oV x12 x13 z17) x14 z18),(IntKind.wrap .i64 (x13 + 1)),(IntKind.wrap .i64 (x14 - 1))⟩,_,_,S26,.refl _ _,.refl _,(aa.r rfl (aa.r rfl (aa.r rfl aa.nil))),H27.sl [0] rfl rfl,h⟩
 replace h:=fB hb16 h
 refine aD.exit ?_
 have hr:=Option.some.inj h
 subst hr
 exact ⟨_,rfl,rfl,_,_,_,.refl _,(.refl _),rfl,H11.sl [0] rfl rfl⟩
set_option maxRecDepth 20000 in
set_option maxHeartbeats 4000000 in
theorem kX (n:Nat) (a1:(List ai)) (a2:Int) (r:(List Int)) (h:fT n a1 a2=some r):eF R cfg.P 7 [(.sl ((a1).map aA) false),(.int .i64 a2)] (.d (.sl ((r).map (D.int .i64)) false)):=by
 unfold fT at h
 refine eF.of_wp (iq E).toObjOk (C:=tF) Tryz.func7 rfl EA rfl ?_
 have H0:Has aG aG []:=Has.pure
 refine aD.seq ?_
 refine aD.region (iq E) rfl ?_
 refine ah.val rfl (aj rfl) rfl ?_
 refine ah.nil ?_
 refine aD.seq ?_
 refine aD.region (iq E) rfl ?_
 refine ah.val rfl (aj rfl) rfl ?_
 refine ah.nil ?_
 refine aD.join (B:=aG) (α:=(List Int) × AV) (fun a=>dE n a.1=some r) (fun a=>[(5,a.2)]) (fun a=>[.row 1 a.2 ((a.1).map (D.int .i64))]) ?_ ?_
 ·
  intro a S3 H4 h
  obtain ⟨x5,v6⟩:=a
  replace h:dE n x5=some r:=h
  replace H4:Has aG S3 [.row 1 v6 ((x5).map (D.int .i64))]:=H4
  unfold dE at h
  refine aD.seq ?_
  refine aD.region (iq E) rfl ?_
  refine ah.val rfl (ae rfl) rfl ?_
  obtain ⟨z8,hzz8,h⟩:=bind_some h
  refine ah.DN (ins:=[.row 1 v6 ((x5).map (D.int .i64))]) (more:=[]) (H4.sl [0] rfl rfl) rfl (aN rfl rfl) (iC E n _ _ hzz8 _) (.cons (.refl _) .nil) rfl ?_
  rintro _ S9 _ rfl H10
  replace H10:Has aG S9 [.row 1 v6 ((z8).map (D.int .i64))]:=H10
  refine ah.nil ?_
  refine aD.seq ?_
  refine aD.region (iq E) rfl ?_
  refine ah.val rfl (ae rfl) rfl ?_
  refine ah.val rfl (aj rfl) rfl ?_
  refine ah.nil ?_
  obtain ⟨SF4,HF4,hgF4⟩:=H10.freeze (iq E).toObjOk (i:=0) (l':=[]) rfl .nil
  refine aD.ghost (hgF4 _ _ [(4,(.d (.sl ((z8).map (D.int .i64)) false))),(5,(.d (.sl ((z8).map (D.int .i64)) false))),(28,(.d (.sl ((z8).map (D.int .i64)) false))),(30,(.d (.sl ((z8).map (D.int .i64)) false)))] (.it rfl (.it rfl (.it rfl (.it rfl .nil))))) ?_
  have hr:=Option.some.inj h
  subst hr
  exact aD.ret ⟨_,rfl,rfl,kF (aH.eq .nil)⟩
 refine aD.block ?_
 have H35:=H0.DC 1
 refine nQ.start (B:=aG) (α:=Int × (List Int) × AV) (fun k a=>bO n a1 k a.1 a.2.1=some r) (fun a=>[(0,(.d (.sl ((a1).map aA) false))),(1,(.d (.int .i64 a.1))),(5,a.2.2)]) (fun a=>[.row 1 a.2.2 ((a.2.1).map (D.int .i64))]) ?_ ?_ n ⟨⟨a2,[],(.d .di)⟩,_,_,aG,.refl _ _,.refl _,(aa.r rfl (aa.r rfl (aa.r rfl aa.nil))),H35.sl [0] rfl rfl,h⟩
 ·
  intro a h; simp [bO] at h
 intro k23 a S18 H19 h
 obtain ⟨x20,x21,v22⟩:=a
 replace h:bO n a1 (k23 + 1) x20 x21=some r:=h
 replace H19:Has aG S18 [.row 1 v22 ((x21).map (D.int .i64))]:=H19
 unfold bO at h
 refine aD.seq ?_
 refine aD.seq ?_
 refine aD.region (iq E) rfl ?_
 refine ah.val rfl (ae rfl) rfl ?_
 refine ah.val rfl (ay rfl rfl iM) rfl ?_
 refine ah.val rfl (ae rfl) rfl ?_
 refine ah.fG 5 14 (.d (.bool ((decide (0 ≤ x20)) && (decide (x20 < ((a1).length:Int)))))) ?_ ?_
 ·
  rcases Bool.eq_false_or_eq_true ((decide (0 ≤ x20))) with hB24 | hB24
  ·
   refine ah.bool hB24 ?_
   refine ah.val rfl (ae rfl) rfl ?_
   refine ah.val rfl (ae rfl) rfl ?_
   refine ah.val rfl (bE rfl zU) rfl ?_
   refine ah.val rfl (ay rfl rfl dS) rfl ?_
   refine ah.val rfl (aT (b:=true) rfl rfl) rfl ?_
   exact ah.nil ⟨_,rfl,(aa.put (aa.push rfl (aa.push rfl (aa.push rfl (aa.push rfl (aa.put (.refl _) (Less.eq (by rw [hB24]))))))) (Less.eq (by rw [hB24]; rw [Bool.true_and])))⟩
  refine ah.bool hB24 ?_
  refine ah.no rfl rfl ?_
  refine ah.no rfl rfl ?_
  refine ah.no rfl rfl ?_
  refine ah.no rfl rfl ?_
  refine ah.val rfl (aT (b:=false) rfl rfl) rfl ?_
  exact ah.nil ⟨_,rfl,(aa.put (aa.push rfl (aa.push rfl (aa.push rfl (aa.push rfl (aa.put (.refl _) (Less.eq (by rw [hB24]))))))) (Less.eq (by rw [hB24]; rw [Bool.false_and])))⟩
 refine ah.nil ?_
 refine aD.cond rfl (fun hb25=>?_) (fun hb25=>?_)
 ·
  replace h:=fw hb25 h
  refine aD.skip ?_
  refine aD.block ?_
  refine aD.seq ?_
  refine aD.region (iq E) rfl ?_
  refine ah.val rfl (ae rfl) rfl ?_
  refine ah.val rfl (ae rfl) rfl ?_
  refine ah.Aw (enc:=(D.int .i64)) (xs:=[x20]) (vs:=[(.d (.int .i64 x20))]) (cs:=[[(.d (.int .i64 x20))]]) H19 rfl Al jS wm Es qR rfl (by decide) (.cons rfl rfl .nil) rfl (.cons (.refl _) .nil) (fun _=>rfl) (fun _=>rfl) rfl rfl (fun v26 S27 H28=>?_)
  obtain ⟨SF7,HF7,hgF7⟩:=H28.freeze (iq E).toObjOk (i:=0) (l':=[.row 1 v22 ((x21).map (D.int .i64))]) rfl (.same .nil)
  refine ah.ghost (hgF7 _ _ [(0,(.d (.sl ((a1).map aA) false))),(1,(.d (.int .i64 x20))),(5,v22),(7,(.d (.int .i64 x20))),(8,(.d (.bool (decide (0 ≤ x20))))),(9,(.d (.bool (decide (0 ≤ x20))))),(14,(.d (.bool ((decide (0 ≤ x20)) && (decide (x20 < ((a1).length:Int))))))),(15,v22),(16,(.d (.int .i64 x20))),(17,(.d (.sl (([x20]).map (D.int .i64)) false)))] (.cons rfl (.refl _) (.cons rfl (.refl _) (.cons rfl (.refl _) (.cons rfl (.refl _) (.cons rfl (.refl _) (.cons rfl (.refl _) (.cons rfl (.refl _) (.cons rfl (.refl _) (.cons rfl (.refl _) (.it rfl .nil))))))))))) ?_
  obtain ⟨z29,hzz29,h⟩:=bind_some h
  refine ah.zG (xs:=(x21).map (D.int .i64)) (ys:=([x20]).map (D.int .i64)) (zs:=(z29).map (D.int .i64)) HF7 rfl rfl rfl (i:=0) rfl qR rfl Al Co jS (lC hzz29) Ew rfl (fM (enc:=(D.int .i64)) (fun _=>qR.symm) _) (Bj (fun _=>rfl) _) rfl Dh rfl (uD hzz29) (fun v30 S31 H32=>?_)
  refine ah.val rfl (aj rfl) rfl ?_
  refine ah.nil ?_
  refine aD.seq ?_
  refine aD.region (iq E) rfl ?_
  refine ah.val rfl (ae rfl) rfl ?_
  refine ah.val rfl (ae rfl) rfl ?_
  obtain ⟨z33,hzz33,h⟩:=bind_some h
  refine ah.val rfl (bK rfl rfl (dn (enc:=aA) hzz33 pE sK ((ai.len _).trans lL.symm))) rfl ?_
  refine ah.val rfl (bT rfl x9 CS rfl) rfl ?_
  refine ah.val rfl (bq rfl (by rw [ai.cells]; exact bH sM rfl)) rfl ?_
  refine ah.val rfl (aj rfl) rfl ?_
  refine ah.nil ?_
  refine aD.seq ?_
  refine aD.seq ?_
  refine aD.region (iq E) rfl ?_
  refine ah.val rfl (ae rfl) rfl ?_
  refine ah.val rfl (ae rfl) rfl ?_
  refine ah.val rfl (ay rfl rfl iM) rfl ?_
  refine ah.nil ?_
  refine aD.cond rfl (fun hb34=>?_) (fun hb34=>?_)
  ·
   replace h:=fw hb34 h
   refine aD.exit ?_
   exact ⟨⟨z29,v30⟩,_,_,S31,.refl _ _,.refl _,(aa.r rfl aa.nil),H32.sl [0] rfl rfl,h⟩
  replace h:=fB hb34 h
  refine aD.skip ?_
  refine aD.region (iq E) rfl ?_
  refine ah.val rfl (ae rfl) rfl ?_
  refine ah.val rfl (aj rfl) rfl ?_
  refine ah.nil ?_
  exact ⟨⟨z33.Parent,z29,v30⟩,_,_,S31,.refl _ _,.refl _,(aa.r rfl (aa.r rfl (aa.r rfl aa.nil))),H32.sl [0] rfl rfl,h⟩
 replace h:=fB hb25 h
 refine aD.exit ?_
 exact ⟨⟨x21,v22⟩,_,_,S18,.refl _ _,.refl _,(aa.r rfl aa.nil),H19.sl [0] rfl rfl,h⟩
set_option maxRecDepth 20000 in
set_option maxHeartbeats 4000000 in
theorem lW (n:Nat) (a1:(List ai)) (a2:Int) (r:(List Seg)) (h:fH n a1 a2=some r):eF R cfg.P 8 [(.sl ((a1).map aA) false),(.int .i64 a2)] (.d (.sl ((r).map bg) false)):=by
 unfold fH at h
 refine eF.of_wp E.obj.toObjOk (C:=cfg) Tryz.func8 rfl EO rfl ?_
 have H0:Has aG aG []:=Has.pure
 refine aD.seq ?_
 refine aD.region E.obj rfl ?_
 refine ah.val rfl (aj rfl) rfl ?_
 refine ah.nil ?_
 refine aD.seq ?_
 refine aD.region E.obj rfl ?_
 refine ah.val rfl (aj rfl) rfl ?_
 refine ah.nil ?_
 refine aD.seq ?_
 refine aD.seq ?_
 refine aD.region E.obj rfl ?_
 refine ah.val rfl (ae rfl) rfl ?_
 refine ah.val rfl (ae rfl) rfl ?_
 obtain ⟨z3,hzz3,h⟩:=bind_some h
 refine ah.ret rfl (aN rfl rfl) (kX E _ _ _ _ hzz3 _ _ (aH.eq (aH.eq .nil))) rfl ?_
 refine ah.val rfl (bE rfl wY) rfl ?_
 refine ah.val rfl (ae rfl) rfl ?_
 refine ah.nil ?_
 refine aD.block ?_
 have H24:=H0.Ed
 refine nQ.start (B:=aG) (α:=(List Seg) × AV × Int) (fun k a=>bX a1 z3 k a.1 a.2.2=some r) (fun a=>[(0,(.d (.sl ((a1).map aA) false))),(5,a.2.1),(10,(.d (.sl ((z3).map (D.int .i64)) false))),(11,(.d (.int .i64 ((z3).length:Int)))),(12,(.d (.int .i64 a.2.2)))]) (fun a=>[.grow a.2.1 ((a.1).map bg)]) ?_ ?_ n ⟨⟨[],(.d .di),0⟩,_,_,aG,.refl _ _,.refl _,(aa.r rfl (aa.r rfl (aa.r rfl (aa.r rfl (aa.r rfl aa.nil))))),H24.sl [0] rfl rfl,h⟩
 ·
  intro a h; simp [bX] at h
 intro k16 a S11 H12 h
 obtain ⟨x13,v14,x15⟩:=a
 replace h:bX a1 z3 (k16 + 1) x13 x15=some r:=h
 replace H12:Has aG S11 [.grow v14 ((x13).map bg)]:=H12
 unfold bX at h
 refine aD.seq ?_
 refine aD.region E.obj rfl ?_
 refine ah.val rfl (ay rfl rfl dS) rfl ?_
 refine ah.nil ?_
 refine aD.seq ?_
 refine aD.cond rfl (fun hb17=>?_) (fun hb17=>?_)
 ·
  replace h:=fw hb17 h
  refine aD.skip ?_
  refine aD.seq ?_
  refine aD.block ?_
  refine aD.seq ?_
  refine aD.region E.obj rfl ?_
  obtain ⟨z18,hzz18,h⟩:=bind_some h
  refine ah.val rfl (bK rfl rfl (dn (enc:=(D.int .i64)) hzz18 jS wm (((fun _=>rfl) _).trans qR.symm))) rfl ?_
  refine ah.val rfl (bq rfl (bH sM rfl)) rfl ?_
  refine ah.val rfl (aj rfl) rfl ?_
  refine ah.nil ?_
  refine aD.region E.obj rfl ?_
  refine ah.val rfl (ae rfl) rfl ?_
  refine ah.val rfl (ae rfl) rfl ?_
  refine ah.val rfl (ae rfl) rfl ?_
  obtain ⟨z19,hzz19,h⟩:=bind_some h
  refine ah.val rfl (bK rfl rfl (dn (enc:=aA) hzz19 pE sK ((ai.len _).trans lL.symm))) rfl ?_
  refine ah.val rfl (bT rfl yj Cm rfl) rfl ?_
  refine ah.val rfl (bq rfl (by rw [ai.cells]; exact bH CF rfl)) rfl ?_
  obtain ⟨z20,hzz20,h⟩:=bind_some h
  refine ah.append (xs:=(x13).map bg) (ys:=(z19.Segs).map bg) (zs:=(z20).map bg) H12 rfl rfl rfl (i:=0) rfl rfl Ck DL wL (lC hzz20) DF rfl (fM (enc:=bg) (fun z=>(Seg.len z).trans mf.symm) _) (fM (enc:=bg) (fun z=>(Seg.len z).trans mf.symm) _) Em rfl (uD hzz20) (fun v21 S22 H23=>?_)
  refine ah.val rfl (aj rfl) rfl ?_
  refine ah.nil ?_
  refine aD.region E.obj rfl ?_
  refine ah.val rfl (ay rfl rfl dU) rfl ?_
  refine ah.val rfl (ae rfl) rfl ?_
  refine ah.nil ?_
  exact ⟨⟨z20,v21,(IntKind.wrap .i64 (x15 + 1))⟩,_,_,S22,.refl _ _,.refl _,(aa.r rfl (aa.r rfl (aa.r rfl (aa.r rfl (aa.r rfl aa.nil))))),H23.sl [0] rfl rfl,h⟩
 replace h:=fB hb17 h
 refine aD.exit ?_
 refine aD.seq ?_
 refine aD.region E.obj rfl ?_
 refine ah.val rfl (ae rfl) rfl ?_
 refine ah.val rfl (aj rfl) rfl ?_
 refine ah.nil ?_
 have hr:=Option.some.inj h
 subst hr
 exact aD.ret ⟨_,rfl,rfl,kF (aH.grow H12 (i:=0) rfl .nil)⟩
set_option maxRecDepth 20000 in
set_option maxHeartbeats 4000000 in
theorem eB (n:Nat) (a1:(List Seg)) (a2:(List Seg)) (r:Bool) (h:bI n a1 a2=some r):eF R cfg.P 9 [(.sl ((a1).map bg) false),(.sl ((a2).map bg) false)] (.d (.bool r)):=by
 unfold bI at h
 refine eF.of_wp E.obj.toObjOk (C:=cfg) Tryz.func9 rfl EK rfl ?_
 have H0:Has aG aG []:=Has.pure
 refine aD.seq ?_
 refine aD.region E.obj rfl ?_
 refine ah.val rfl (aj rfl) rfl ?_
 refine ah.nil ?_
 refine aD.seq ?_
 refine aD.seq ?_
 refine aD.region E.obj rfl ?_
 refine ah.val rfl (ae rfl) rfl ?_
 refine ah.val rfl (bE rfl oP) rfl ?_
 refine ah.val rfl (ae rfl) rfl ?_
 refine ah.val rfl (bE rfl oP) rfl ?_
 refine ah.val rfl (ay rfl rfl rF) rfl ?_
 refine ah.nil ?_
 refine aD.cond rfl (fun hb3=>?_) (fun hb3=>?_)
 ·
  replace h:=fw hb3 h
  refine aD.seq ?_
  refine aD.region E.obj rfl ?_
  refine ah.val rfl (aj rfl) rfl ?_
  refine ah.nil ?_
  have hr:=Option.some.inj h
  subst hr
  exact aD.ret ⟨_,rfl,rfl,kF (aH.eq .nil)⟩
 replace h:=fB hb3 h
 refine aD.skip ?_
 refine aD.seq ?_
 refine aD.seq ?_
 refine aD.region E.obj rfl ?_
 refine ah.val rfl (aj rfl) rfl ?_
 refine ah.nil ?_
 refine aD.block ?_
 refine nQ.start (B:=aG) (α:=Int) (fun k a=>aL a1 a2 k a=some r) (fun a=>[(0,(.d (.sl ((a1).map bg) false))),(1,(.d (.sl ((a2).map bg) false))),(5,(.d (.int .i64 a)))]) (fun a=>[]) ?_ ?_ n ⟨0,_,_,aG,.refl _ _,.refl _,(aa.r rfl (aa.r rfl (aa.r rfl aa.nil))),H0.sl [] rfl rfl,h⟩
 ·
  intro a h; simp [aL] at h
 intro k12 x11 S9 H10 h
 replace h:aL a1 a2 (k12 + 1) x11=some r:=h
 replace H10:Has aG S9 []:=H10
 unfold aL at h
 refine aD.seq ?_
 refine aD.seq ?_
 refine aD.region E.obj rfl ?_
 refine ah.val rfl (ae rfl) rfl ?_
 refine ah.val rfl (ae rfl) rfl ?_
 refine ah.val rfl (bE rfl oP) rfl ?_
 refine ah.val rfl (ay rfl rfl dS) rfl ?_
 refine ah.nil ?_
 refine aD.cond rfl (fun hb13=>?_) (fun hb13=>?_)
 ·
  replace h:=fw hb13 h
  refine aD.skip ?_
  refine aD.seq ?_
  refine aD.block ?_
  refine aD.seq ?_
  obtain ⟨z14,hzz14,h⟩:=bind_some h
  obtain ⟨z15,hzz15,h⟩:=bind_some h
  refine aD.yM E.obj BX EM [(0,none),(1,none),(5,none),(25,some 8)] (by kernel_rfl) [] (by decide) [some (.d (.sl ((a1).map bg) false)),some (.d (.int .i64 x11)),some (.eptr (bg z14) 0),some (.d (bg z14)),some (.d (.sl ((a2).map bg) false)),some (.d (.int .i64 x11)),some (.eptr (bg z15) 0),some (.d (bg z15)),some (.d (.bool (!(Seg.beq z14 z15))))] ?_
  refine ⟨[0,1,2,3,4,5,6,7,8],by kernel_rfl,?_,_,rfl,?_⟩
  ·
   refine .v rfl rfl rfl rfl (ae rfl) ?_
   refine .v rfl rfl rfl rfl (ae rfl) ?_
   refine .v rfl rfl rfl rfl (bK rfl rfl (dn (enc:=bg) hzz14 wL Bd ((Seg.len _).trans mf.symm))) ?_
   refine .v rfl rfl rfl rfl (bq rfl (Seg.yN zH mf)) ?_
   refine .v rfl rfl rfl rfl (ae rfl) ?_
   refine .v rfl rfl rfl rfl (ae rfl) ?_
   refine .v rfl rfl rfl rfl (bK rfl rfl (dn (enc:=bg) hzz15 wL Bd ((Seg.len _).trans mf.symm))) ?_
   refine .v rfl rfl rfl rfl (bq rfl (Seg.yN zH mf)) ?_
   refine .v rfl rfl rfl rfl (ay rfl rfl (xG (Seg.eq _) (Seg.eq _) (Dw _ _))) ?_
   exact .nil
  refine aD.cond rfl (fun hb16=>?_) (fun hb16=>?_)
  ·
   replace h:=fw hb16 h
   refine aD.seq ?_
   refine aD.region E.obj rfl ?_
   refine ah.val rfl (aj rfl) rfl ?_
   refine ah.nil ?_
   have hr:=Option.some.inj h
   subst hr
   exact aD.ret ⟨_,rfl,rfl,kF (aH.eq .nil)⟩
  replace h:=fB hb16 h
  refine aD.skip ?_
  refine aD.region E.obj rfl ?_
  refine ah.val rfl (ae rfl) rfl ?_
  refine ah.val rfl (ay rfl rfl dU) rfl ?_
  refine ah.val rfl (aj rfl) rfl ?_
  refine ah.nil ?_
  exact ⟨(IntKind.wrap .i64 (x11 + 1)),_,_,S9,.refl _ _,.refl _,(aa.r rfl (aa.r rfl (aa.r rfl aa.nil))),H10.sl [] rfl rfl,h⟩
 replace h:=fB hb13 h
 refine aD.exit ?_
 refine aD.seq ?_
 refine aD.region E.obj rfl ?_
 refine ah.val rfl (aj rfl) rfl ?_
 refine ah.nil ?_
 have hr:=Option.some.inj h
 subst hr
 exact aD.ret ⟨_,rfl,rfl,kF (aH.eq .nil)⟩
set_option maxRecDepth 20000 in
set_option maxHeartbeats 4000000 in
theorem dW (n:Nat) (S0:St) (a1:(List ai)) (fg3:Nat) (fc4:List AV) (p2:ai→Option Bool) (hpp2:∀ S',eu S0 S'→S'.Wf→∀ (y0:ai) (r:Bool),p2 y0=some r→cB R cfg.P fg3 ([.d (aA y0)] ++ fc4) S' (fun o=>o=(none,.d (.bool r),S'))) (r:Int) (h:bz n a1 p2=some r):cB R cfg.P 18 [.d (.sl ((a1).map aA) false),.fn fg3 fc4] S0 (fun o=>o=(none,.d (.int .i64 r),S0)):=by
 unfold bz at h
 refine SpecS.of_wp (C:=cfg) Tryz.func18 rfl Ej rfl (fun wf0=>?_)
 have H0:Has S0 S0 []:=Has.start wf0
 refine aD.seq ?_
 refine aD.region E.obj rfl ?_
 refine ah.val rfl (aj rfl) rfl ?_
 refine ah.nil ?_
 refine aD.seq ?_
 refine aD.seq ?_
 refine aD.region E.obj rfl ?_
 refine ah.val rfl (ae rfl) rfl ?_
 refine ah.val rfl (bE rfl zU) rfl ?_
 refine ah.val rfl (ae rfl) rfl ?_
 refine ah.nil ?_
 refine aD.block ?_
 refine nQ.start (B:=S0) (α:=Int) (fun k a=>az a1 p2 k a=some r) (fun a=>[(0,(.d (.sl ((a1).map aA) false))),(1,(.fn fg3 fc4)),(7,(.d (.int .i64 ((a1).length:Int)))),(8,(.d (.int .i64 a)))]) (fun a=>[]) ?_ ?_ n ⟨0,_,_,S0,.refl _ _,.refl _,(aa.r rfl (aa.r rfl (aa.r rfl (aa.r rfl aa.nil)))),H0.sl [] rfl rfl,h⟩
 ·
  intro a h; simp [az] at h
 intro k13 x12 S10 H11 h
 replace h:az a1 p2 (k13 + 1) x12=some r:=h
 replace H11:Has S0 S10 []:=H11
 unfold az at h
 refine aD.seq ?_
 refine aD.region E.obj rfl ?_
 refine ah.val rfl (ay rfl rfl dS) rfl ?_
 refine ah.nil ?_
 refine aD.seq ?_
 refine aD.cond rfl (fun hb14=>?_) (fun hb14=>?_)
 ·
  replace h:=fw hb14 h
  refine aD.skip ?_
  refine aD.seq ?_
  refine aD.block ?_
  refine aD.seq ?_
  refine aD.region E.obj rfl ?_
  refine ah.val rfl (ae rfl) rfl ?_
  refine ah.val rfl (aj rfl) rfl ?_
  refine ah.nil ?_
  refine aD.seq ?_
  refine aD.region E.obj rfl ?_
  refine ah.val rfl (ae rfl) rfl ?_
  refine ah.val rfl (ae rfl) rfl ?_
  refine ah.val rfl (ae rfl) rfl ?_
  obtain ⟨z15,hzz15,h⟩:=bind_some h
  refine ah.val rfl (bK rfl rfl (dn (enc:=aA) hzz15 pE sK ((ai.len _).trans lL.symm))) rfl ?_
  refine ah.val rfl (bq rfl (ai.yN BL lL)) rfl ?_
  obtain ⟨z16,hzz16,h⟩:=bind_some h
  refine ah.ret rfl (xZ rfl rfl) (hpp2 _ H11.keeps H11.wf _ _ hzz16) rfl ?_
  refine ah.nil ?_
  refine aD.cond rfl (fun hb17=>?_) (fun hb17=>?_)
  ·
   replace h:=fw hb17 h
   refine aD.seq ?_
   refine aD.region E.obj rfl ?_
   refine ah.val rfl (ae rfl) rfl ?_
   refine ah.val rfl (aj rfl) rfl ?_
   refine ah.nil ?_
   have hr:=Option.some.inj h
   subst hr
   exact aD.ret ⟨_,rfl,rfl,H11.keeps,kF (aH.eq .nil)⟩
  replace h:=fB hb17 h
  refine aD.skip ?_
  refine aD.region E.obj rfl ?_
  refine ah.val rfl (ay rfl rfl dU) rfl ?_
  refine ah.val rfl (ae rfl) rfl ?_
  refine ah.nil ?_
  exact ⟨(IntKind.wrap .i64 (x12 + 1)),_,_,S10,.refl _ _,.refl _,(aa.r rfl (aa.r rfl (aa.r rfl (aa.r rfl aa.nil)))),H11.sl [] rfl rfl,h⟩
 replace h:=fB hb14 h
 refine aD.exit ?_
 refine aD.seq ?_
 refine aD.region E.obj rfl ?_
 refine ah.val rfl (aj rfl) rfl ?_
 refine ah.nil ?_
 have hr:=Option.some.inj h
 subst hr
 exact aD.ret ⟨_,rfl,rfl,H11.keeps,kF (aH.eq .nil)⟩
set_option maxRecDepth 20000 in
set_option maxHeartbeats 4000000 in
theorem nG (n:Nat) (a1:ai) (a2:Str) (S0:St) (b3:Nat) (hb4:S0.H.get b3=some (.cells 0 [(.d (.str a2))])) (r:Bool) (h:dM n a1 a2=some r):cB R cfg.P 19 [.d (aA a1),.ptr b3 0 0] S0 (fun o=>o=(none,.d (.bool r),S0)):=by
 unfold dM at h
 refine SpecS.of_wp (C:=cfg) Tryz.func19 rfl D7 rfl (fun wf0=>?_)
 have H0:Has S0 S0 []:=Has.start wf0
 refine aD.seq ?_
 refine aD.region E.obj rfl ?_
 refine ah.box H0 rfl rfl rfl (ai.jv _) rfl (fun b5 S6 H7=>?_)
 refine ah.val rfl (aj rfl) rfl ?_
 refine ah.nil ?_
 refine aD.seq ?_
 refine aD.region E.obj rfl ?_
 refine ah.val rfl (aK rfl yx Dy rfl) rfl ?_
 refine ah.val rfl (bM H7 (i:=0) rfl rfl (cK De rfl)) rfl ?_
 refine ah.val rfl (xY H7 hb4 rfl (cK De rfl)) rfl ?_
 refine ah.val rfl (ay rfl rfl zq) rfl ?_
 refine ah.val rfl (aj rfl) rfl ?_
 refine ah.nil ?_
 have hr:=Option.some.inj h
 subst hr
 exact aD.ret ⟨_,rfl,rfl,H7.keeps,kF (aH.eq .nil)⟩
set_option maxRecDepth 20000 in
set_option maxHeartbeats 4000000 in
theorem rA (n:Nat) (a1:(List ai)) (a2:Str) (r:Int) (h:gY n a1 a2=some r):eF R cfg.P 10 [(.sl ((a1).map aA) false),(.str a2)] (.d (.int .i64 r)):=by
 unfold gY at h
 refine eF.of_wp E.obj.toObjOk (C:=cfg) Tryz.func10 rfl Eh rfl ?_
 have H0:Has aG aG []:=Has.pure
 refine aD.seq ?_
 refine aD.region E.obj rfl ?_
 refine ah.box H0 rfl rfl rfl rfl rfl (fun b3 S4 H5=>?_)
 refine ah.val rfl (aj rfl) rfl ?_
 refine ah.nil ?_
 refine aD.seq ?_
 refine aD.region E.obj rfl ?_
 refine ah.val rfl (ae rfl) rfl ?_
 refine ah.val rfl (sj rfl) rfl ?_
 obtain ⟨z7,hzz7,h⟩:=bind_some h
 refine ah.ret rfl (aN rfl rfl) (cB.Cc (dW E n S4 _ _ _ (fun y6=>dM n y6 a2) (fun S' hk hw y6 r hr=>nG E n y6 a2 S' _ (hk.H _ _ (H5.at (i:=0) rfl)) r hr) _ hzz7) (.cons (.refl _) (.cons (.refl _) .nil))) rfl ?_
 refine ah.val rfl (aj rfl) rfl ?_
 refine ah.nil ?_
 have hr:=Option.some.inj h
 subst hr
 exact aD.ret ⟨_,rfl,rfl,kF (aH.eq .nil)⟩
set_option maxRecDepth 20000 in
set_option maxHeartbeats 4000000 in
theorem q8 (n:Nat) (a1:bV) (a2:Int) (r:Bool) (h:dh n a1 a2=some r):eF R cfg.P 3 [(gJ a1),(.int .i64 a2)] (.d (.bool r)):=by
 unfold dh at h
 refine eF.of_wp E.obj.toObjOk (C:=cfg) Tryz.func3 rfl EJ rfl ?_
 have H0:Has aG aG []:=Has.pure
 refine aD.seq ?_
 refine aD.region E.obj rfl ?_
 refine ah.box H0 rfl rfl rfl (bV.jv _) rfl (fun b3 S4 H5=>?_)
 refine ah.val rfl (aj rfl) rfl ?_
 refine ah.nil ?_
 refine aD.seq ?_
 refine aD.region E.obj rfl ?_
 refine ah.val rfl (bM H5 (i:=0) rfl rfl (mV DW Ef rfl)) rfl ?_
 refine ah.less (Less.agg' (d:=gJ a1) (aO.eq rfl (aO.eq rfl (aO.eq rfl (aO.eq rfl (aO.eq rfl (aO.eq rfl (aO.eq rfl .nil))))))) ((bV.eq _).trans rfl)) ?_
 obtain ⟨z6,hzz6,h⟩:=bind_some h
 refine ah.ret rfl (aN rfl rfl) (ik E _ _ _ hzz6 _ _ (aH.eq .nil)) rfl ?_
 refine ah.val rfl (aj rfl) rfl ?_
 refine ah.nil ?_
 refine aD.seq ?_
 refine aD.region E.obj rfl ?_
 refine ah.val rfl (ae rfl) rfl ?_
 refine ah.val rfl (ae rfl) rfl ?_
 refine ah.val rfl (bE rfl zU) rfl ?_
 refine ah.val rfl (ay rfl rfl dI) rfl ?_
 obtain ⟨z7,hzz7,h⟩:=bind_some h
 refine ah.ret rfl (aN rfl rfl) (bu E _ _ _ _ _ hzz7 _ _ (aH.eq (aH.eq (aH.eq .nil)))) rfl ?_
 refine ah.val rfl (aj rfl) rfl ?_
 refine ah.nil ?_
 refine aD.seq ?_
 refine aD.region E.obj rfl ?_
 refine ah.val rfl (ae rfl) rfl ?_
 refine ah.val rfl (ae rfl) rfl ?_
 obtain ⟨z8,hzz8,h⟩:=bind_some h
 refine ah.ret rfl (aN rfl rfl) (kX E _ _ _ _ hzz8 _ _ (aH.eq (aH.eq .nil))) rfl ?_
 refine ah.val rfl (aj rfl) rfl ?_
 refine ah.nil ?_
 refine aD.seq ?_
 refine aD.seq ?_
 refine aD.region E.obj rfl ?_
 refine ah.val rfl (ae rfl) rfl ?_
 refine ah.val rfl (bE rfl wY) rfl ?_
 refine ah.val rfl (ay rfl rfl dS) rfl ?_
 refine ah.val rfl (ae rfl) rfl ?_
 obtain ⟨z10,hzz10,h⟩:=bind_some h
 refine ah.fG 9 36 (.d (.bool z10)) ?_ ?_
 ·
  rcases Bool.eq_false_or_eq_true ((decide (((z8).length:Int) < 1))) with hB9 | hB9
  ·
   refine ah.bool hB9 ?_
   refine ah.no rfl rfl ?_
   refine ah.no rfl rfl ?_
   refine ah.no rfl rfl ?_
   refine ah.no rfl rfl ?_
   refine ah.no rfl rfl ?_
   refine ah.no rfl rfl ?_
   refine ah.no rfl rfl ?_
   refine ah.no rfl rfl ?_
   refine ah.val rfl (aT (b:=true) rfl rfl) rfl ?_
   replace hzz10:=fw hB9 hzz10
   cases hzz10
   exact ah.nil ⟨_,rfl,(aa.put (aa.push rfl (aa.push rfl (aa.push rfl (aa.push rfl (aa.push rfl (aa.push rfl (aa.push rfl (aa.push rfl (aa.put (.refl _) (Less.eq (by rw [hB9]))))))))))) (.refl _))⟩
  refine ah.bool hB9 ?_
  replace hzz10:=fB hB9 hzz10
  refine ah.val rfl (ae rfl) rfl ?_
  refine ah.val rfl (ae rfl) rfl ?_
  refine ah.val rfl (bE rfl wY) rfl ?_
  refine ah.val rfl (ay rfl rfl dI) rfl ?_
  obtain ⟨z11,hzz11,hzz10⟩:=bind_some hzz10
  refine ah.val rfl (bK rfl rfl (dn (enc:=(D.int .i64)) hzz11 jS wm (((fun _=>rfl) _).trans qR.symm))) rfl ?_
  refine ah.val rfl (bq rfl (bH sM rfl)) rfl ?_
  refine ah.val rfl (ae rfl) rfl ?_
  refine ah.val rfl (ay rfl rfl rF) rfl ?_
  refine ah.val rfl (aT (b:=false) rfl rfl) rfl ?_
  cases hzz10
  exact ah.nil ⟨_,rfl,(aa.put (aa.push rfl (aa.push rfl (aa.push rfl (aa.push rfl (aa.push rfl (aa.push rfl (aa.push rfl (aa.push rfl (aa.put (.refl _) (Less.eq (by rw [hB9]))))))))))) (.refl _))⟩
 refine ah.nil ?_
 refine aD.cond rfl (fun hb12=>?_) (fun hb12=>?_)
 ·
  replace h:=fw hb12 h
  refine aD.seq ?_
  refine aD.region E.obj rfl ?_
  refine ah.val rfl (aj rfl) rfl ?_
  refine ah.nil ?_
  have hr:=Option.some.inj h
  subst hr
  exact aD.ret ⟨_,rfl,rfl,kF (aH.eq .nil)⟩
 replace h:=fB hb12 h
 refine aD.skip ?_
 refine aD.seq ?_
 refine aD.seq ?_
 refine aD.region E.obj rfl ?_
 refine ah.val rfl (ae rfl) rfl ?_
 refine ah.val rfl (bE rfl wY) rfl ?_
 refine ah.val rfl (ae rfl) rfl ?_
 refine ah.nil ?_
 refine aD.block ?_
 refine nQ.start (B:=aG) (α:=Int) (fun k a=>ax n z6 z7 z8 k a=some r) (fun a=>[(5,(.d (.sl ((z6).map aA) false))),(6,(.d (.int .i64 z7))),(7,(.d (.sl ((z8).map (D.int .i64)) false))),(38,(.d (.int .i64 ((z8).length:Int)))),(39,(.d (.int .i64 a)))]) (fun a=>[]) ?_ ?_ n ⟨0,_,_,S4,.refl _ _,.refl _,(aa.r rfl (aa.r rfl (aa.r rfl (aa.r rfl (aa.r rfl aa.nil))))),H5.sl [] rfl rfl,h⟩
 ·
  intro a h; simp [ax] at h
 intro k21 x20 S18 H19 h
 replace h:ax n z6 z7 z8 (k21 + 1) x20=some r:=h
 replace H19:Has aG S18 []:=H19
 unfold ax at h
 refine aD.seq ?_
 refine aD.region E.obj rfl ?_
 refine ah.val rfl (ay rfl rfl dS) rfl ?_
 refine ah.nil ?_
 refine aD.seq ?_
 refine aD.cond rfl (fun hb22=>?_) (fun hb22=>?_)
 ·
  replace h:=fw hb22 h
  refine aD.skip ?_
  refine aD.seq ?_
  refine aD.block ?_
  refine aD.seq ?_
  refine aD.region E.obj rfl ?_
  refine ah.val rfl (ae rfl) rfl ?_
  refine ah.val rfl (aj rfl) rfl ?_
  refine ah.nil ?_
  refine aD.seq ?_
  refine aD.region E.obj rfl ?_
  refine ah.val rfl (aj rfl) rfl ?_
  refine ah.nil ?_
  refine aD.join (B:=aG) (α:=Int) (fun a=>aZ z6 z8 x20 (ax n z6 z7 z8 k21) a=some r) (fun a=>[(5,(.d (.sl ((z6).map aA) false))),(6,(.d (.int .i64 z7))),(7,(.d (.sl ((z8).map (D.int .i64)) false))),(8,(.d (.int .i64 x20))),(9,(.d (.int .i64 a))),(38,(.d (.int .i64 ((z8).length:Int)))),(39,(.d (.int .i64 x20)))]) (fun a=>[]) ?_ ?_
  ·
   intro x25 S23 H24 h
   replace h:aZ z6 z8 x20 (ax n z6 z7 z8 k21) x25=some r:=h
   replace H24:Has aG S23 []:=H24
   unfold aZ at h
   refine aD.seq ?_
   refine aD.region E.obj rfl ?_
   refine ah.val rfl (ae rfl) rfl ?_
   refine ah.val rfl (ae rfl) rfl ?_
   obtain ⟨z27,hzz27,h⟩:=bind_some h
   refine ah.val rfl (bK rfl rfl (dn (enc:=(D.int .i64)) hzz27 jS wm (((fun _=>rfl) _).trans qR.symm))) rfl ?_
   refine ah.val rfl (bq rfl (bH sM rfl)) rfl ?_
   refine ah.val rfl (ay rfl rfl dS) rfl ?_
   refine ah.val rfl (ae rfl) rfl ?_
   obtain ⟨z29,hzz29,h⟩:=bind_some h
   refine ah.fG 8 62 (.d (.bool z29)) ?_ ?_
   ·
    rcases Bool.eq_false_or_eq_true ((decide (z27 < 0))) with hB28 | hB28
    ·
     refine ah.bool hB28 ?_
     refine ah.no rfl rfl ?_
     refine ah.no rfl rfl ?_
     refine ah.no rfl rfl ?_
     refine ah.no rfl rfl ?_
     refine ah.no rfl rfl ?_
     refine ah.no rfl rfl ?_
     refine ah.no rfl rfl ?_
     refine ah.val rfl (aT (b:=true) rfl rfl) rfl ?_
     replace hzz29:=fw hB28 hzz29
     cases hzz29
     exact ah.nil ⟨_,rfl,(aa.put (aa.push rfl (aa.push rfl (aa.push rfl (aa.push rfl (aa.push rfl (aa.push rfl (aa.push rfl (aa.put (.refl _) (Less.eq (by rw [hB28])))))))))) (.refl _))⟩
    refine ah.bool hB28 ?_
    replace hzz29:=fB hB28 hzz29
    refine ah.val rfl (ae rfl) rfl ?_
    refine ah.val rfl (ae rfl) rfl ?_
    obtain ⟨z30,hzz30,hzz29⟩:=bind_some hzz29
    refine ah.val rfl (bK rfl rfl (dn (enc:=(D.int .i64)) hzz30 jS wm (((fun _=>rfl) _).trans qR.symm))) rfl ?_
    refine ah.val rfl (bq rfl (bH sM rfl)) rfl ?_
    refine ah.val rfl (ae rfl) rfl ?_
    refine ah.val rfl (bE rfl zU) rfl ?_
    refine ah.val rfl (ay rfl rfl iM) rfl ?_
    refine ah.val rfl (aT (b:=false) rfl rfl) rfl ?_
    cases hzz29
    exact ah.nil ⟨_,rfl,(aa.put (aa.push rfl (aa.push rfl (aa.push rfl (aa.push rfl (aa.push rfl (aa.push rfl (aa.push rfl (aa.put (.refl _) (Less.eq (by rw [hB28])))))))))) (.refl _))⟩
   refine ah.val rfl (ae rfl) rfl ?_
   obtain ⟨z32,hzz32,h⟩:=bind_some h
   refine ah.fG 11 74 (.d (.bool z32)) ?_ ?_
   ·
    rcases Bool.eq_false_or_eq_true (z29) with hB31 | hB31
    ·
     refine ah.bool hB31 ?_
     refine ah.no rfl rfl ?_
     refine ah.no rfl rfl ?_
     refine ah.no rfl rfl ?_
     refine ah.no rfl rfl ?_
     refine ah.no rfl rfl ?_
     refine ah.no rfl rfl ?_
     refine ah.no rfl rfl ?_
     refine ah.no rfl rfl ?_
     refine ah.no rfl rfl ?_
     refine ah.no rfl rfl ?_
     refine ah.val rfl (aT (b:=true) rfl rfl) rfl ?_
     replace hzz32:=fw hB31 hzz32
     cases hzz32
     exact ah.nil ⟨_,rfl,(aa.put (aa.push rfl (aa.push rfl (aa.push rfl (aa.push rfl (aa.push rfl (aa.push rfl (aa.push rfl (aa.push rfl (aa.push rfl (aa.push rfl (aa.put (.refl _) (Less.eq (by rw [hB31]))))))))))))) (.refl _))⟩
    refine ah.bool hB31 ?_
    replace hzz32:=fB hB31 hzz32
    refine ah.val rfl (ae rfl) rfl ?_
    refine ah.val rfl (ae rfl) rfl ?_
    refine ah.val rfl (ae rfl) rfl ?_
    obtain ⟨z33,hzz33,hzz32⟩:=bind_some hzz32
    refine ah.val rfl (bK rfl rfl (dn (enc:=(D.int .i64)) hzz33 jS wm (((fun _=>rfl) _).trans qR.symm))) rfl ?_
    refine ah.val rfl (bq rfl (bH sM rfl)) rfl ?_
    obtain ⟨z34,hzz34,hzz32⟩:=bind_some hzz32
    refine ah.val rfl (bK rfl rfl (dn (enc:=aA) hzz34 pE sK ((ai.len _).trans lL.symm))) rfl ?_
    refine ah.val rfl (bT rfl x9 CS rfl) rfl ?_
    refine ah.val rfl (bq rfl (by rw [ai.cells]; exact bH sM rfl)) rfl ?_
    refine ah.val rfl (ae rfl) rfl ?_
    refine ah.val rfl (ay rfl rfl rF) rfl ?_
    refine ah.val rfl (aT (b:=false) rfl rfl) rfl ?_
    cases hzz32
    exact ah.nil ⟨_,rfl,(aa.put (aa.push rfl (aa.push rfl (aa.push rfl (aa.push rfl (aa.push rfl (aa.push rfl (aa.push rfl (aa.push rfl (aa.push rfl (aa.push rfl (aa.put (.refl _) (Less.eq (by rw [hB31]))))))))))))) (.refl _))⟩
   refine ah.nil ?_
   refine aD.cond rfl (fun hb35=>?_) (fun hb35=>?_)
   ·
    replace h:=fw hb35 h
    refine aD.seq ?_
    refine aD.region E.obj rfl ?_
    refine ah.val rfl (aj rfl) rfl ?_
    refine ah.nil ?_
    have hr:=Option.some.inj h
    subst hr
    exact aD.ret ⟨_,rfl,rfl,kF (aH.eq .nil)⟩
   replace h:=fB hb35 h
   refine aD.skip ?_
   refine aD.region E.obj rfl ?_
   refine ah.val rfl (ay rfl rfl dU) rfl ?_
   refine ah.val rfl (ae rfl) rfl ?_
   refine ah.nil ?_
   exact ⟨(IntKind.wrap .i64 (x20 + 1)),_,_,S23,.refl _ _,.refl _,(aa.r rfl (aa.r rfl (aa.r rfl (aa.r rfl (aa.r rfl aa.nil))))),H24.sl [] rfl rfl,h⟩
  refine aD.seq ?_
  refine aD.region E.obj rfl ?_
  refine ah.val rfl (ae rfl) rfl ?_
  refine ah.val rfl (ay rfl rfl qV) rfl ?_
  refine ah.nil ?_
  refine aD.cond rfl (fun hb36=>?_) (fun hb36=>?_)
  ·
   replace h:=fw hb36 h
   refine aD.region E.obj rfl ?_
   refine ah.val rfl (ae rfl) rfl ?_
   refine ah.val rfl (ae rfl) rfl ?_
   refine ah.val rfl (ay rfl rfl dI) rfl ?_
   obtain ⟨z37,hzz37,h⟩:=bind_some h
   refine ah.val rfl (bK rfl rfl (dn (enc:=(D.int .i64)) hzz37 jS wm (((fun _=>rfl) _).trans qR.symm))) rfl ?_
   refine ah.val rfl (bq rfl (bH sM rfl)) rfl ?_
   refine ah.val rfl (aj rfl) rfl ?_
   refine ah.nil ?_
   exact ⟨z37,_,_,S18,.refl _ _,.refl _,(aa.r rfl (aa.r rfl (aa.r rfl (aa.r rfl (aa.r rfl (aa.r rfl (aa.r rfl aa.nil))))))),H19.sl [] rfl rfl,h⟩
  replace h:=fB hb36 h
  refine aD.skip ?_
  exact ⟨(-1),_,_,S18,.refl _ _,.refl _,(aa.r rfl (aa.r rfl (aa.r rfl (aa.r rfl (aa.r rfl (aa.r rfl (aa.r rfl aa.nil))))))),H19.sl [] rfl rfl,h⟩
 replace h:=fB hb22 h
 refine aD.exit ?_
 refine aD.seq ?_
 refine aD.region E.obj rfl ?_
 refine ah.val rfl (ae rfl) rfl ?_
 refine ah.val rfl (ae rfl) rfl ?_
 obtain ⟨z38,hzz38,h⟩:=bind_some h
 refine ah.ret rfl (aN rfl rfl) (lW E _ _ _ _ hzz38 _ _ (aH.eq (aH.eq .nil))) rfl ?_
 refine ah.val rfl (aj rfl) rfl ?_
 refine ah.nil ?_
 refine aD.seq ?_
 refine aD.region E.obj rfl ?_
 refine ah.val rfl (ae rfl) rfl ?_
 refine ah.val rfl (ae rfl) rfl ?_
 obtain ⟨z39,hzz39,h⟩:=bind_some h
 refine ah.val rfl (bK rfl rfl (dn (enc:=aA) hzz39 pE sK ((ai.len _).trans lL.symm))) rfl ?_
 refine ah.val rfl (bT rfl yj Cm rfl) rfl ?_
 refine ah.val rfl (bq rfl (by rw [ai.cells]; exact bH CF rfl)) rfl ?_
 refine ah.val rfl (aj rfl) rfl ?_
 refine ah.nil ?_
 refine aD.seq ?_
 refine aD.seq ?_
 refine aD.region E.obj rfl ?_
 refine ah.val rfl (ae rfl) rfl ?_
 refine ah.val rfl (bE rfl oP) rfl ?_
 refine ah.val rfl (ae rfl) rfl ?_
 refine ah.val rfl (bE rfl oP) rfl ?_
 refine ah.val rfl (ay rfl rfl dS) rfl ?_
 refine ah.val rfl (ae rfl) rfl ?_
 obtain ⟨z41,hzz41,h⟩:=bind_some h
 refine ah.fG 11 100 (.d (.bool z41)) ?_ ?_
 ·
  rcases Bool.eq_false_or_eq_true ((decide (((z38).length:Int) < ((z39.Segs).length:Int)))) with hB40 | hB40
  ·
   refine ah.bool hB40 ?_
   refine ah.no rfl rfl ?_
   refine ah.no rfl rfl ?_
   refine ah.no rfl rfl ?_
   refine ah.no rfl rfl ?_
   refine ah.no rfl rfl ?_
   refine ah.no rfl rfl ?_
   refine ah.no rfl rfl ?_
   refine ah.no rfl rfl ?_
   refine ah.no rfl rfl ?_
   refine ah.no rfl rfl ?_
   refine ah.val rfl (aT (b:=true) rfl rfl) rfl ?_
   replace hzz41:=fw hB40 hzz41
   cases hzz41
   exact ah.nil ⟨_,rfl,(aa.put (aa.push rfl (aa.push rfl (aa.push rfl (aa.push rfl (aa.push rfl (aa.push rfl (aa.push rfl (aa.push rfl (aa.push rfl (aa.push rfl (aa.put (.refl _) (Less.eq (by rw [hB40]))))))))))))) (.refl _))⟩
  refine ah.bool hB40 ?_
  replace hzz41:=fB hB40 hzz41
  refine ah.val rfl (ae rfl) rfl ?_
  refine ah.val rfl (ae rfl) rfl ?_
  refine ah.val rfl (bE rfl oP) rfl ?_
  refine ah.val rfl (ae rfl) rfl ?_
  refine ah.val rfl (bE rfl oP) rfl ?_
  refine ah.val rfl (ay rfl rfl dI) rfl ?_
  obtain ⟨z42,hzz42,hzz41⟩:=bind_some hzz41
  refine ah.val rfl (yo rfl rfl wL Dr (fun z=>(Seg.len z).trans mf.symm) hzz42) rfl ?_
  refine ah.val rfl (ae rfl) rfl ?_
  obtain ⟨z43,hzz43,hzz41⟩:=bind_some hzz41
  refine ah.ret rfl (aN rfl rfl) (eB E _ _ _ _ hzz43 _ _ (aH.eq (aH.eq .nil))) rfl ?_
  refine ah.val rfl (Aa rfl) rfl ?_
  refine ah.val rfl (aT (b:=false) rfl rfl) rfl ?_
  cases hzz41
  exact ah.nil ⟨_,rfl,(aa.put (aa.push rfl (aa.push rfl (aa.push rfl (aa.push rfl (aa.push rfl (aa.push rfl (aa.push rfl (aa.push rfl (aa.push rfl (aa.push rfl (aa.put (.refl _) (Less.eq (by rw [hB40]))))))))))))) (.refl _))⟩
 refine ah.nil ?_
 refine aD.cond rfl (fun hb44=>?_) (fun hb44=>?_)
 ·
  replace h:=fw hb44 h
  refine aD.seq ?_
  refine aD.region E.obj rfl ?_
  refine ah.val rfl (aj rfl) rfl ?_
  refine ah.nil ?_
  have hr:=Option.some.inj h
  subst hr
  exact aD.ret ⟨_,rfl,rfl,kF (aH.eq .nil)⟩
 replace h:=fB hb44 h
 refine aD.skip ?_
 refine aD.seq ?_
 refine aD.region E.obj rfl ?_
 refine ah.val rfl (ae rfl) rfl ?_
 refine ah.val rfl (ae rfl) rfl ?_
 refine ah.val rfl (bE rfl oP) rfl ?_
 refine ah.val rfl (ae rfl) rfl ?_
 refine ah.val rfl (bE rfl oP) rfl ?_
 refine ah.val rfl (ay rfl rfl dI) rfl ?_
 obtain ⟨z45,hzz45,h⟩:=bind_some h
 refine ah.val rfl (xH rfl rfl wL Dr (fun z=>(Seg.len z).trans mf.symm) hzz45) rfl ?_
 refine ah.val rfl (aj rfl) rfl ?_
 refine ah.nil ?_
 refine aD.seq ?_
 refine aD.region E.obj rfl ?_
 refine ah.val rfl (ae rfl) rfl ?_
 refine ah.val rfl (ae rfl) rfl ?_
 obtain ⟨z46,hzz46,h⟩:=bind_some h
 refine ah.val rfl (bK rfl rfl (dn (enc:=aA) hzz46 pE sK ((ai.len _).trans lL.symm))) rfl ?_
 refine ah.val rfl (bT rfl x9 CS rfl) rfl ?_
 refine ah.val rfl (bq rfl (by rw [ai.cells]; exact bH sM rfl)) rfl ?_
 refine ah.val rfl (aj rfl) rfl ?_
 refine ah.nil ?_
 refine aD.seq ?_
 refine aD.region E.obj rfl ?_
 refine ah.val rfl (ae rfl) rfl ?_
 refine ah.val rfl (ay rfl rfl dS) rfl ?_
 refine ah.val rfl (ae rfl) rfl ?_
 refine ah.fG 4 119 (.d (.bool ((decide (z46.Parent < 0)) && (((z45).length:Int) == 0)))) ?_ ?_
 ·
  rcases Bool.eq_false_or_eq_true ((decide (z46.Parent < 0))) with hB47 | hB47
  ·
   refine ah.bool hB47 ?_
   refine ah.val rfl (ae rfl) rfl ?_
   refine ah.val rfl (bE rfl oP) rfl ?_
   refine ah.val rfl (ay rfl rfl ib) rfl ?_
   refine ah.val rfl (aT (b:=true) rfl rfl) rfl ?_
   exact ah.nil ⟨_,rfl,(aa.put (aa.push rfl (aa.push rfl (aa.push rfl (aa.put (.refl _) (Less.eq (by rw [hB47])))))) (Less.eq (by rw [hB47]; rw [Bool.true_and])))⟩
  refine ah.bool hB47 ?_
  refine ah.no rfl rfl ?_
  refine ah.no rfl rfl ?_
  refine ah.no rfl rfl ?_
  refine ah.val rfl (aT (b:=false) rfl rfl) rfl ?_
  exact ah.nil ⟨_,rfl,(aa.put (aa.push rfl (aa.push rfl (aa.push rfl (aa.put (.refl _) (Less.eq (by rw [hB47])))))) (Less.eq (by rw [hB47]; rw [Bool.false_and])))⟩
 refine ah.val rfl (ae rfl) rfl ?_
 obtain ⟨z49,hzz49,h⟩:=bind_some h
 refine ah.fG 10 130 (.d (.bool z49)) ?_ ?_
 ·
  rcases Bool.eq_false_or_eq_true (((decide (z46.Parent < 0)) && (((z45).length:Int) == 0))) with hB48 | hB48
  ·
   refine ah.bool hB48 ?_
   refine ah.no rfl rfl ?_
   refine ah.no rfl rfl ?_
   refine ah.no rfl rfl ?_
   refine ah.no rfl rfl ?_
   refine ah.no rfl rfl ?_
   refine ah.no rfl rfl ?_
   refine ah.no rfl rfl ?_
   refine ah.no rfl rfl ?_
   refine ah.no rfl rfl ?_
   refine ah.val rfl (aT (b:=true) rfl rfl) rfl ?_
   replace hzz49:=fw hB48 hzz49
   cases hzz49
   exact ah.nil ⟨_,rfl,(aa.put (aa.push rfl (aa.push rfl (aa.push rfl (aa.push rfl (aa.push rfl (aa.push rfl (aa.push rfl (aa.push rfl (aa.push rfl (aa.put (.refl _) (Less.eq (by rw [hB48])))))))))))) (.refl _))⟩
  refine ah.bool hB48 ?_
  replace hzz49:=fB hB48 hzz49
  refine ah.val rfl (ae rfl) rfl ?_
  refine ah.val rfl (ay rfl rfl iM) rfl ?_
  refine ah.val rfl (ae rfl) rfl ?_
  obtain ⟨z51,hzz51,hzz49⟩:=bind_some hzz49
  refine ah.fG 6 129 (.d (.bool z51)) ?_ ?_
  ·
   rcases Bool.eq_false_or_eq_true ((decide (0 ≤ z46.Parent))) with hB50 | hB50
   ·
    refine ah.bool hB50 ?_
    replace hzz51:=fw hB50 hzz51
    refine ah.val rfl (ae rfl) rfl ?_
    refine ah.val rfl (ae rfl) rfl ?_
    refine ah.val rfl (ae rfl) rfl ?_
    obtain ⟨z52,hzz52,hzz51⟩:=bind_some hzz51
    refine ah.ret rfl (aN rfl rfl) (lW E _ _ _ _ hzz52 _ _ (aH.eq (aH.eq .nil))) rfl ?_
    obtain ⟨z53,hzz53,hzz51⟩:=bind_some hzz51
    refine ah.ret rfl (aN rfl rfl) (eB E _ _ _ _ hzz53 _ _ (aH.eq (aH.eq .nil))) rfl ?_
    refine ah.val rfl (aT (b:=true) rfl rfl) rfl ?_
    cases hzz51
    exact ah.nil ⟨_,rfl,(aa.put (aa.push rfl (aa.push rfl (aa.push rfl (aa.push rfl (aa.push rfl (aa.put (.refl _) (Less.eq (by rw [hB50])))))))) (.refl _))⟩
   refine ah.bool hB50 ?_
   refine ah.no rfl rfl ?_
   refine ah.no rfl rfl ?_
   refine ah.no rfl rfl ?_
   refine ah.no rfl rfl ?_
   refine ah.no rfl rfl ?_
   refine ah.val rfl (aT (b:=false) rfl rfl) rfl ?_
   replace hzz51:=fB hB50 hzz51
   cases hzz51
   exact ah.nil ⟨_,rfl,(aa.put (aa.push rfl (aa.push rfl (aa.push rfl (aa.push rfl (aa.push rfl (aa.put (.refl _) (Less.eq (by rw [hB50])))))))) (.refl _))⟩
  refine ah.val rfl (aT (b:=false) rfl rfl) rfl ?_
  cases hzz49
  exact ah.nil ⟨_,rfl,(aa.put (aa.push rfl (aa.push rfl (aa.push rfl (aa.push rfl (aa.put (.refl _) (Less.eq (by rw [hB48]))))))) (.refl _))⟩
 refine ah.val rfl (ae rfl) rfl ?_
 obtain ⟨z55,hzz55,h⟩:=bind_some h
 refine ah.fG 10 141 (.d (.bool z55)) ?_ ?_
 ·
  rcases Bool.eq_false_or_eq_true (z49) with hB54 | hB54
  ·
   refine ah.bool hB54 ?_
   replace hzz55:=fw hB54 hzz55
   refine ah.val rfl (ae rfl) rfl ?_
   refine ah.val rfl (ae rfl) rfl ?_
   refine ah.val rfl (ae rfl) rfl ?_
   obtain ⟨z56,hzz56,hzz55⟩:=bind_some hzz55
   refine ah.val rfl (bK rfl rfl (dn (enc:=aA) hzz56 pE sK ((ai.len _).trans lL.symm))) rfl ?_
   refine ah.val rfl (bT rfl yx Dy rfl) rfl ?_
   refine ah.val rfl (bq rfl (by rw [ai.cells]; exact bH De rfl)) rfl ?_
   obtain ⟨z57,hzz57,hzz55⟩:=bind_some hzz55
   refine ah.ret rfl (aN rfl rfl) (rA E _ _ _ _ hzz57 _ _ (aH.eq (aH.eq .nil))) rfl ?_
   refine ah.val rfl (ae rfl) rfl ?_
   refine ah.val rfl (ay rfl rfl ib) rfl ?_
   refine ah.val rfl (aT (b:=true) rfl rfl) rfl ?_
   cases hzz55
   exact ah.nil ⟨_,rfl,(aa.put (aa.push rfl (aa.push rfl (aa.push rfl (aa.push rfl (aa.push rfl (aa.push rfl (aa.push rfl (aa.push rfl (aa.push rfl (aa.put (.refl _) (Less.eq (by rw [hB54])))))))))))) (.refl _))⟩
  refine ah.bool hB54 ?_
  refine ah.no rfl rfl ?_
  refine ah.no rfl rfl ?_
  refine ah.no rfl rfl ?_
  refine ah.no rfl rfl ?_
  refine ah.no rfl rfl ?_
  refine ah.no rfl rfl ?_
  refine ah.no rfl rfl ?_
  refine ah.no rfl rfl ?_
  refine ah.no rfl rfl ?_
  refine ah.val rfl (aT (b:=false) rfl rfl) rfl ?_
  replace hzz55:=fB hB54 hzz55
  cases hzz55
  exact ah.nil ⟨_,rfl,(aa.put (aa.push rfl (aa.push rfl (aa.push rfl (aa.push rfl (aa.push rfl (aa.push rfl (aa.push rfl (aa.push rfl (aa.push rfl (aa.put (.refl _) (Less.eq (by rw [hB54])))))))))))) (.refl _))⟩
 refine ah.val rfl (ae rfl) rfl ?_
 obtain ⟨z59,hzz59,h⟩:=bind_some h
 refine ah.fG 2 144 (.d (.bool z59)) ?_ ?_
 ·
  rcases Bool.eq_false_or_eq_true (z55) with hB58 | hB58
  ·
   refine ah.bool hB58 ?_
   replace hzz59:=fw hB58 hzz59
   obtain ⟨z60,hzz60,hzz59⟩:=bind_some hzz59
   refine ah.ret rfl (aN rfl rfl) (E.porticolaw8_RouteRuns_ok _  _ hzz60 _ _ .nil) rfl ?_
   refine ah.val rfl (aT (b:=true) rfl rfl) rfl ?_
   cases hzz59
   exact ah.nil ⟨_,rfl,(aa.put (aa.push rfl (aa.put (.refl _) (Less.eq (by rw [hB58])))) (.refl _))⟩
  refine ah.bool hB58 ?_
  refine ah.no rfl rfl ?_
  refine ah.val rfl (aT (b:=false) rfl rfl) rfl ?_
  replace hzz59:=fB hB58 hzz59
  cases hzz59
  exact ah.nil ⟨_,rfl,(aa.put (aa.push rfl (aa.put (.refl _) (Less.eq (by rw [hB58])))) (.refl _))⟩
 refine ah.val rfl (aj rfl) rfl ?_
 refine ah.nil ?_
 have hr:=Option.some.inj h
 subst hr
 exact aD.ret ⟨_,rfl,rfl,kF (aH.eq .nil)⟩
end
end Pr
end Go.Ev

namespace Go.Ev
namespace Pr
set_option linter.unusedVariables false
set_option linter.unusedSimpArgs false
theorem pK {n:Int} (h0:-9223372036854775808 ≤ n) (h1:n ≤ 9223372036854775807):IntKind.wrap .i64 n=n:=Go.IntWalk.i64_in n ⟨h0,h1⟩
theorem lK {α:Type} (l:List α) (i:Nat):idx l (i:Int)=l[i]?:=by
 unfold idx
 rw [if_pos (by omega)]
 simp
theorem lH {α:Type} {l done rest:List α} {z:α} (h:l=done ++ z :: rest):idx l (done.length:Int)=some z:=by
 rw [lK,h]; simp
theorem jE {α:Type} (l:List α) {i:Int} (h0:0 ≤ i) (h1:i < l.length):∃ x,idx l i=some x∧x ∈ l∧l[i.toNat]? = some x:=by
 obtain ⟨j,rfl⟩:=Int.eq_ofNat_of_zero_le h0
 have hj:j < l.length:=by omega
 exact ⟨l[j],by rw [lK]; exact List.getElem?_eq_getElem hj,List.getElem_mem hj,by simp [hj]⟩
theorem rQ {α:Type} {nb:Nat} {l ys:List α} (h:(l.length + ys.length) * nb ≤ bound):app nb l ys=some (l ++ ys):=by
 unfold app; rw [if_pos h]
theorem yP {k:IntKind} {a b:Int} (h:b ≠ 0):zF k a b=some (a.tmod b):=by
 unfold zF; rw [if_neg h]
theorem bnd:bound=70368744177664:=rfl
end Pr
end Go.Ev

namespace Go.Ev
namespace Pr
set_option linter.unusedVariables false
set_option linter.unusedSimpArgs false
set_option linter.unusedSectionVars false
theorem fO (n:Nat) (a lo hi:Int) (h1:lo ≤ hi) (h2:-1000000000000 ≤ lo) (h3:hi ≤ 1000000000000000):∃ r,aX n a lo hi=some r∧lo ≤ r∧r ≤ hi:=by
 unfold aX
 rw [pK (n:=hi - lo) (by omega) (by omega),pK (by omega) (by omega),yP (by omega),Option.bind_some]
 have k1:=Int.tmod_lt_of_pos a (show 0 < hi - lo + 1 by omega)
 have k2:=Int.lt_tmod_of_pos a (show 0 < hi - lo + 1 by omega)
 unfold bR
 by_cases hz:a.tmod (hi - lo + 1) < 0
 ·
  rw [if_pos (by simpa using hz)]
  rw [pK (n:=a.tmod (hi - lo + 1) + hi) (by omega) (by omega),pK (n:=a.tmod (hi - lo + 1) + hi - lo) (by omega) (by omega),pK (n:=a.tmod (hi - lo + 1) + hi - lo + 1) (by omega) (by omega),pK (by omega) (by omega)]
  exact ⟨_,rfl,by omega,by omega⟩
 ·
  rw [if_neg (by simpa using hz),pK (by omega) (by omega)]
  exact ⟨_,rfl,by omega,by omega⟩
theorem jW (n:Nat) (l:List Int) (i:Int) (h:0 ≤ i):∃ r,bD n l i=some r:=by
 unfold bD
 by_cases h0:l.length=0
 ·
  rw [if_pos (by simp; exact List.eq_nil_of_length_eq_zero h0)]; exact ⟨_,rfl⟩
 ·
  rw [if_neg (by simp; intro q; exact h0 (by rw [q]; rfl)),yP (by omega),Option.bind_some]
  have hp:(0:Int) < (l.length:Int):=by omega
  obtain ⟨x,hx,_⟩:=jE l (i:=i.tmod l.length) (Int.tmod_nonneg _ h) (Int.tmod_lt_of_pos _ hp)
  exact ⟨x,by rw [hx]; rfl⟩
def nm (i:Int):Str:=([(IntKind.wrap .u8 (IntKind.wrap .i64 (97 + i)))]).map fun (n:Int)=>UInt8.ofNat n.toNat
def qK:Nat→Str
 | 0=>[104,111,109,101]
 | j + 1=>[114] ++ nm j
theorem zl {a b:Nat} (ha:a < 8) (hb:b < 8) (h:qK a=qK b):a=b:=by
 have key:∀ i ∈ List.range 8,∀ j ∈ List.range 8,qK i=qK j→i=j:=by decide +kernel
 exact key a (List.mem_range.2 ha) b (List.mem_range.2 hb) h
structure Rs (l:List ai):Prop where
 pos:0 < l.length
 le:l.length ≤ 8
 par:∀ (j:Nat) (r:ai),l[j]? = some r→-1 ≤ r.Parent∧r.Parent < j
 name:∀ (j:Nat) (r:ai),l[j]? = some r→r.Name=qK j
 segs:∀ (j:Nat) (r:ai),l[j]? = some r→r.Segs.length ≤ 1
theorem Rs.snoc {l:List ai} (h:Rs l) (hl:l.length ≤ 7) {r:ai} (hn:r.Name=qK l.length) (hp:-1 ≤ r.Parent∧r.Parent < l.length) (hs:r.Segs.length=1):Rs (l ++ [r]):=by
 have get:∀ (j:Nat) (x:ai),(l ++ [r])[j]? = some x→l[j]? = some x∨(j=l.length∧x=r):=fun j x hx=>by
  by_cases q:j < l.length
  ·
   rw [List.getElem?_append_left q] at hx; exact .inl hx
  ·
   rw [List.getElem?_append_right (by omega)] at hx
   have:j - l.length=0:=by
    have:=(List.getElem?_eq_some_iff.1 hx).1
    simp at this; omega
   rw [this] at hx
   simp at hx
   exact .inr ⟨by omega,hx.symm⟩
 refine ⟨by simp,by simp; omega,fun j x hx=>?_,fun j x hx=>?_,fun j x hx=>?_⟩
 ·
  rcases get j x hx with q | ⟨rfl,rfl⟩
  ·
   exact h.par j x q
  ·
   exact hp
 ·
  rcases get j x hx with q | ⟨rfl,rfl⟩
  ·
   exact h.name j x q
  ·
   exact hn
 ·
  rcases get j x hx with q | ⟨rfl,rfl⟩
  ·
   exact h.segs j x q
  ·
   omega
section
variable {n:Nat} {a1:bV} {l:List ai} {dp:List Int} {again:List ai→List Int→Int→Option (List ai)}
theorem yC (hl:l.length ≤ 8) (hd:dp.length ≤ 8) (i x28 x32 x44:Int) (x45 z47:Str) (z48 z50 x63 x64:Int) (x65:Str):∃ rec:ai,rec.Name=z47∧rec.Parent=x28∧rec.Segs.length=1∧aQ l dp i again x28 x32 x44 x45 z47 z48 z50 x63 x64 x65=again (l ++ [rec]) (dp ++ [x32]) (IntKind.wrap .i64 (i + 1)):=by
 unfold aQ
 rw [rQ (by rw [bnd]; simp; omega),Option.bind_some,rQ (by rw [bnd]; simp; omega),Option.bind_some]
 exact ⟨_,rfl,rfl,rfl,rfl⟩
theorem zY {a b:Str} (h:a.length + b.length ≤ 1000):cat a b=some (a ++ b):=by unfold cat; rw [if_pos (by omega)]
theorem A9 (hp:0 < l.length) (hl:l.length ≤ 8) (hd:dp.length ≤ 8) {i:Int} (h0:0 ≤ i) (h7:i ≤ 7) (x28 x32 x44:Int) (x45:Str):∃ rec:ai,rec.Name=[114] ++ nm i∧rec.Parent=x28∧rec.Segs.length=1∧aW n a1 l dp i again x28 x32 x44 x45=again (l ++ [rec]) (dp ++ [x32]) (IntKind.wrap .i64 (i + 1)):=by
 unfold aW
 have hc:cat [114] (([(IntKind.wrap .u8 (IntKind.wrap .i64 (97 + i)))]).map fun (n:Int)=>UInt8.ofNat n.toNat)=some ([114] ++ nm i):=zY (by simp)
 obtain ⟨k1,e1⟩:=jW n a1.eu i h0
 obtain ⟨k2,e2⟩:=jW n a1.Comps i h0
 obtain ⟨w1,f1,_⟩:=fO n k2 0 3 (by omega) (by omega) (by omega)
 obtain ⟨k3,e3⟩:=jW n a1.Rules i h0
 rw [hc,Option.bind_some,e1,Option.bind_some,e2,Option.bind_some,f1,Option.bind_some,e3,Option.bind_some]
 split
 ·
  rw [Option.bind_some]
  have hq:zW .i64 k3 4=some (IntKind.wrap .i64 (k3.tdiv 4)):=by unfold zW; rw [if_neg (by omega)]
  obtain ⟨w2,f2,_⟩:=fO n (IntKind.wrap .i64 (k3.tdiv 4)) 0 4 (by omega) (by omega) (by omega)
  obtain ⟨k4,e4⟩:=jW n a1.Flags i h0
  obtain ⟨w3,f3,_⟩:=fO n k4 0 3 (by omega) (by omega) (by omega)
  rw [hq,Option.bind_some,f2,Option.bind_some,e4,Option.bind_some,f3,Option.bind_some]
  split
  ·
   have hw:IntKind.wrap .i64 (i + 1)=i + 1:=pK (by omega) (by omega)
   obtain ⟨k5,e5⟩:=jW n a1.Flags (IntKind.wrap .i64 (i + 1)) (by rw [hw]; omega)
   have hw2:IntKind.wrap .i64 ((l.length:Int) - 1)=(l.length:Int) - 1:=pK (by omega) (by omega)
   obtain ⟨w4,f4,g1,g2⟩:=fO n k5 0 (IntKind.wrap .i64 ((l.length:Int) - 1)) (by rw [hw2]; omega) (by omega) (by rw [hw2]; omega)
   rw [hw2] at g2
   obtain ⟨x,hx,_⟩:=jE l (i:=w4) g1 (by omega)
   rw [e5,Option.bind_some,f4,Option.bind_some,hx,Option.bind_some]
   exact yC hl hd _ _ _ _ _ _ _ _ _ _ _
  ·
   exact yC hl hd _ _ _ _ _ _ _ _ _ _ _
 ·
  exact yC hl hd _ _ _ _ _ _ _ _ _ _ _
theorem Bc (hp:0 < l.length) (hl:l.length ≤ 8) (hd:dp.length ≤ 8) {i:Int} (h0:0 ≤ i) (h7:i ≤ 7) (x28 x32:Int):∃ rec:ai,rec.Name=[114] ++ nm i∧rec.Parent=x28∧rec.Segs.length=1∧aV n a1 l dp i again x28 x32=again (l ++ [rec]) (dp ++ [x32]) (IntKind.wrap .i64 (i + 1)):=by
 unfold aV
 obtain ⟨k1,e1⟩:=jW n a1.Kinds i h0
 obtain ⟨w1,f1,_⟩:=fO n k1 0 4 (by omega) (by omega) (by omega)
 have hc:cat [112] (([(IntKind.wrap .u8 (IntKind.wrap .i64 (97 + i)))]).map fun (n:Int)=>UInt8.ofNat n.toNat)=some ([112] ++ nm i):=zY (by simp)
 rw [e1,Option.bind_some,f1,Option.bind_some,hc,Option.bind_some]
 split
 ·
  obtain ⟨k2,e2⟩:=jW n a1.Texts i h0
  have h6:IntKind.wrap .i64 ((([[97],[98],[105,116,101,109],[122],[49],[108,105,115,116]]:List (List Nat)).length:Int) - 1)=5:=by rw [pK (by simp) (by simp)]; rfl
  obtain ⟨w2,f2,g1,g2⟩:=fO n k2 0 5 (by omega) (by omega) (by omega)
  obtain ⟨x,hx,_⟩:=jE ([[97],[98],[105,116,101,109],[122],[49],[108,105,115,116]]:List Str) (i:=w2) g1 (by simp; omega)
  rw [e2,Option.bind_some,h6,f2,Option.bind_some,hx,Option.bind_some]
  exact A9 hp hl hd h0 h7 _ _ _ _
 ·
  exact A9 hp hl hd h0 h7 _ _ _ _
theorem CJ (hp:0 < l.length) (hl:l.length ≤ 8) (hd:dp.length=l.length) {i x28:Int} (h0:0 ≤ i) (h7:i ≤ 7) (hx:x28 < l.length):∃ (rec:ai) (x32:Int),rec.Name=[114] ++ nm i∧rec.Parent=x28∧rec.Segs.length=1∧aR n a1 l dp i again x28=again (l ++ [rec]) (dp ++ [x32]) (IntKind.wrap .i64 (i + 1)):=by
 unfold aR
 by_cases h:0 ≤ x28
 ·
  obtain ⟨x,hx,_⟩:=jE dp (i:=x28) h (by omega)
  rw [if_pos (by simpa using h),hx,Option.bind_some]
  obtain ⟨rec,q⟩:=Bc (n:=n) (a1:=a1) (again:=again) (l:=l) (dp:=dp) hp hl (by omega) h0 h7 x28 (IntKind.wrap .i64 (x + 1))
  exact ⟨rec,_,q⟩
 ·
  rw [if_neg (by simpa using h)]
  obtain ⟨rec,q⟩:=Bc (n:=n) (a1:=a1) (again:=again) (l:=l) (dp:=dp) hp hl (by omega) h0 h7 x28 1
  exact ⟨rec,_,q⟩
end
theorem BN (n:Nat) (s:List Seg) (h:s.length ≤ 1000):∃ b,dB n s=some b:=by
 unfold dB
 by_cases h0:0 < s.length
 ·
  obtain ⟨x,hx,_⟩:=jE s (i:=(s.length:Int) - 1) (by omega) (by omega)
  rw [if_pos (by simpa using h0),pK (by omega) (by omega),hx]
  exact ⟨_,rfl⟩
 ·
  rw [if_neg (by simpa using h0)]
  exact ⟨_,rfl⟩
theorem yL {n:Nat} {a1:bV}:∀ (r i f:Nat) (l:List ai) (dp:List Int),i + r=min a1.Parents.length 7→r < f→Rs l→l.length=i + 1→dp.length=i + 1→∃ l',ak n a1 f l dp (i:Int)=some l'∧Rs l'
 | 0,i,f + 1,l,dp,hi,hf,hR,hl,hd=>by
  refine ⟨l,?_,hR⟩
  rw [ak,if_neg (by simp only [Bool.and_eq_true,decide_eq_true_eq]; omega)]
 | r + 1,i,f + 1,l,dp,hi,hf,hR,hl,hd=>by
  have hii:i < a1.Parents.length:=by omega
  have hw2:IntKind.wrap .i64 ((l.length:Int) - 1)=(l.length:Int) - 1:=pK (by omega) (by omega)
  obtain ⟨z,fz,z1,z2⟩:=fO n a1.Parents[i] (-1) (IntKind.wrap .i64 ((l.length:Int) - 1)) (by rw [hw2]; omega) (by omega) (by rw [hw2]; omega)
  rw [hw2] at z2
  have hin:∃ b,(if (decide (0 ≤ z))=true then ((idx dp z).bind fun z101=>((if (decide (3 < z101))=true then some true else ((idx l z).bind fun z102=>((dB n z102.Segs).bind fun z103=>(some z103)))).bind fun z103=>(some z103))) else some false)=some b:=by
   by_cases h0:0 ≤ z
   ·
    obtain ⟨x,hx,_⟩:=jE dp (i:=z) h0 (by omega)
    obtain ⟨y,hy,_,hy2⟩:=jE l (i:=z) h0 (by omega)
    obtain ⟨b,hb⟩:=BN n y.Segs (by have:=hR.segs _ _ hy2; omega)
    rw [if_pos (by simpa using h0),hx,Option.bind_some,hy,Option.bind_some,hb]
    split <;> exact ⟨_,rfl⟩
   ·
    rw [if_neg (by simpa using h0)]; exact ⟨_,rfl⟩
  obtain ⟨b,hb⟩:=hin
  rw [ak,if_pos (by simp only [Bool.and_eq_true,decide_eq_true_eq]; omega),lK,List.getElem?_eq_getElem hii,Option.bind_some,fz,Option.bind_some,hb,Option.bind_some]
  have fin:∀ x28:Int,-1 ≤ x28→x28 < l.length→∃ l',aR n a1 l dp (i:Int) (ak n a1 f) x28=some l'∧Rs l':=fun x28 g1 g2=>by
   obtain ⟨rec,x32,q1,q2,q3,q4⟩:=CJ (n:=n) (a1:=a1) (again:=ak n a1 f) hR.pos hR.le (by omega:dp.length=l.length) (i:=(i:Int)) (x28:=x28) (by omega) (by omega) g2
   rw [q4,show IntKind.wrap .i64 ((i:Int) + 1)=((i + 1:Nat):Int) by rw [pK (by omega) (by omega)]; push_cast; rfl]
   exact yL r (i + 1) f (l ++ [rec]) (dp ++ [x32]) (by omega) (by omega) (hR.snoc (by omega) (by rw [q1,hl]; rfl) (by rw [q2]; exact ⟨g1,g2⟩) q3) (by simp [hl]) (by simp [hd])
  cases b with
  | true=>exact fin (-1) (by omega) (by omega)
  | false=>exact fin z z1 (by omega)
theorem yz {n:Nat} (hn:10 ≤ n) (a1:bV):∃ l,bQ n a1=some l∧Rs l:=by
 unfold bQ
 refine yL (min a1.Parents.length 7) 0 n _ _ (by omega) (by omega) ⟨by simp,by simp,fun j r h=>?_,fun j r h=>?_,fun j r h=>?_⟩ rfl rfl <;>
 ·
  have hj:j=0:=by have:=(List.getElem?_eq_some_iff.1 h).1; simp at this; omega
  subst hj
  simp at h
  subst h
  simp [qK]
end Pr
end Go.Ev

namespace Go.Ev
namespace Pr
set_option linter.unusedVariables false
set_option linter.unusedSimpArgs false
theorem xc {α:Type} {d r:List α} {z z':α}:oV (d ++ z :: r) (d.length:Int) z'=d ++ z' :: r:=by
 unfold oV; simp
theorem yH:∀ (k:Nat) (m p s:List Int) (f:Nat),m.length ≤ k→m.length < f→(p ++ m ++ s).length < 1000000→aI f (p ++ m ++ s) (p.length:Int) ((p.length:Int) + m.length - 1)=some (p ++ m.reverse ++ s)
 | k,[],p,s,f + 1,hk,hf,hl=>by
  rw [aI,if_neg (by simp; omega)]; simp
 | k,[a],p,s,f + 1,hk,hf,hl=>by
  rw [aI,if_neg (by simp)]; simp
 | k + 1,a :: b :: t,p,s,f + 1,hk,hf,hl=>by
  obtain ⟨m',c,hm⟩:∃ m' c,b :: t=m' ++ [c]:=⟨(b :: t).dropLast,(b :: t).getLast (by simp),(List.dropLast_concat_getLast (by simp)).symm⟩
  have hml:(b :: t).length=m'.length + 1:=by rw [hm]; simp
  simp only [List.length_cons] at hml
  have e:p ++ (a :: b :: t) ++ s=p ++ a :: (m' ++ c :: s):=by rw [hm]; simp
  have e2:p ++ (a :: b :: t) ++ s=(p ++ a :: m') ++ c :: s:=by rw [e]; simp
  have hlen:(p ++ (a :: b :: t) ++ s).length=p.length + (t.length + 2) + s.length:=by simp; omega
  have hj:(p.length:Int) + (a :: b :: t).length - 1=(((p ++ a :: m').length:Nat):Int):=by simp; omega
  have i1:idx (p ++ (a :: b :: t) ++ s) ((p.length:Int) + (a :: b :: t).length - 1)=some c:=by rw [hj]; exact lH e2
  have i2:idx (p ++ (a :: b :: t) ++ s) (p.length:Int)=some a:=lH e
  have s1:oV (p ++ (a :: b :: t) ++ s) (p.length:Int) c=(p ++ c :: m') ++ c :: s:=by rw [e,xc]; simp
  have hj2:(p.length:Int) + (a :: b :: t).length - 1=(((p ++ c :: m').length:Nat):Int):=by simp; omega
  have i3:idx ((p ++ c :: m') ++ c :: s) ((p.length:Int) + (a :: b :: t).length - 1)=some c:=by rw [hj2]; exact lH rfl
  have s2:oV ((p ++ c :: m') ++ c :: s) ((p.length:Int) + (a :: b :: t).length - 1) a=(p ++ [c]) ++ m' ++ (a :: s):=by rw [hj2,xc]; simp
  rw [aI,if_pos (by simp only [List.length_cons,decide_eq_true_eq]; omega),i1,Option.bind_some,i2,Option.bind_some,s1,i3,Option.bind_some,s2]
  have ih:=yH k m' (p ++ [c]) (a :: s) f (by simp at hk; omega) (by simp at hf; omega) (by rw [hlen] at hl; simp; omega)
  have w1:IntKind.wrap .i64 ((p.length:Int) + 1)=(((p ++ [c]).length:Nat):Int):=by rw [pK (by omega) (by rw [hlen] at hl; omega)]; simp
  have w2:IntKind.wrap .i64 ((p.length:Int) + (a :: b :: t).length - 1 - 1)=(((p ++ [c]).length:Nat):Int) + m'.length - 1:=by
   rw [pK (by simp only [List.length_cons]; omega) (by simp only [List.length_cons]; rw [hlen] at hl; omega)]
   simp; omega
  rw [w1,w2,ih,hm]
  simp
theorem xJ {n:Nat} {a:List Int} (hn:a.length < n) (hl:a.length < 1000000):bS n a=some a.reverse:=by
 unfold bS
 have:=yH a.length a [] [] n (Nat.le_refl _) hn (by simpa using hl)
 simp only [List.nil_append,List.append_nil,List.length_nil] at this
 rw [pK (by omega) (by omega)]
 rw [show ((0:Nat):Int) + (a.length:Int) - 1=(a.length:Int) - 1 by omega] at this
 exact this
inductive Up (l:List ai):Int→List Int→Prop
 | top {i:Int} {r:ai} (h:idx l i=some r) (hp:r.Parent < 0):Up l i [i]
 | up {i:Int} {r:ai} {us:List Int} (h:idx l i=some r) (hp:0 ≤ r.Parent) (k:Up l r.Parent us):Up l i (i :: us)
theorem Up.exists {l:List ai} (hR:Rs l):∀ (m:Nat) (i:Int),0 ≤ i→i < l.length→i < m→∃ us,Up l i us∧us.length ≤ i.toNat + 1
 | 0,i,h0,_,hm=>by omega
 | m + 1,i,h0,hl,hm=>by
  obtain ⟨r,hr,_,hr2⟩:=jE l h0 hl
  have hp:=hR.par _ r hr2
  by_cases h:r.Parent < 0
  ·
   exact ⟨[i],.top hr h,by simp⟩
  ·
   obtain ⟨us,hu,hl'⟩:=Up.exists hR m r.Parent (by omega) (by omega) (by omega)
   exact ⟨i :: us,.up hr (by omega) hu,by simp; omega⟩
theorem gP {α:Type} {l:List α} {i:Int} {x:α} (h:idx l i=some x):0 ≤ i∧i < l.length∧l[i.toNat]? = some x:=by
 obtain ⟨h1,h2⟩:=jc h
 have:=(List.getElem?_eq_some_iff.1 h2).1
 exact ⟨h1,by omega,h2⟩
theorem zV {n:Nat} {l:List ai} (hR:Rs l) {i:Int} {us:List Int} (h:Up l i us):∀ (f:Nat) (acc:List Int),us.length < f→acc.length + us.length ≤ 1000→bO n l f i acc=dE n (acc ++ us):=by
 induction h with
 | top h hp =>
  intro f acc hf hl
  obtain ⟨f,rfl⟩:∃ g,f=g + 2:=⟨f - 2,by simp at hf; omega⟩
  obtain ⟨h1,h2,h3⟩:=gP h
  simp at hl
  rw [bO,if_pos (by simp only [Bool.and_eq_true,decide_eq_true_eq]; exact ⟨h1,h2⟩),rQ (by rw [bnd]; simp; omega),Option.bind_some,h,Option.bind_some,if_neg (by rw [decide_eq_true_eq]; omega),bO,if_neg (by simp only [Bool.and_eq_true,decide_eq_true_eq]; omega)]
 | up h hp k ih =>
  intro f acc hf hl
  rename_i i r us
  obtain ⟨f,rfl⟩:∃ g,f=g + 1:=⟨f - 1,by simp at hf; omega⟩
  obtain ⟨h1,h2,h3⟩:=gP h
  have hpar:=hR.par _ _ h3
  simp at hl hf
  rw [bO,if_pos (by simp only [Bool.and_eq_true,decide_eq_true_eq]; exact ⟨h1,h2⟩),rQ (by rw [bnd]; simp; omega),Option.bind_some,h,Option.bind_some,if_neg (by rw [decide_eq_true_eq]; omega),ih f (acc ++ [i]) (by omega) (by simp; omega)]
  simp
theorem wZ {n:Nat} (hn:100 ≤ n) {l:List ai} (hR:Rs l) {i:Int} {us:List Int} (h:Up l i us) (hu:us.length ≤ 50):fT n l i=some us.reverse:=by
 unfold fT
 rw [zV hR h n [] (by omega) (by simp; omega),List.nil_append,dE,xJ (by omega) (by omega)]
 rfl
inductive Down (l:List ai):List Int→Int→Prop
 | top {i:Int} {r:ai} (h:idx l i=some r) (hp:r.Parent = -1):Down l [i] i
 | snoc {c:List Int} {p i:Int} {r:ai} (k:Down l c p) (h:idx l i=some r) (hp:r.Parent=p) (h0:0 ≤ p):Down l (c ++ [i]) i
theorem Up.down {l:List ai} (hR:Rs l) {i:Int} {us:List Int} (h:Up l i us):Down l us.reverse i:=by
 induction h with
 | top h hp =>
  have:=hR.par _ _ (gP h).2.2
  exact .top h (by omega)
 | up h hp k ih=>rw [List.reverse_cons]; exact .snoc ih h rfl hp
theorem Down.last {l:List ai} {c:List Int} {i:Int} (h:Down l c i):∃ d,c=d ++ [i]:=by
 cases h with
 | top h hp=>exact ⟨[],rfl⟩
 | snoc k h hp h0=>exact ⟨_,rfl⟩
theorem Down.at {l:List ai} {c:List Int} {i:Int} (h:Down l c i):∀ (m:Nat) (k:Int),c[m]? = some k→∃ r,idx l k=some r∧((m=0∧r.Parent = -1)∨(0 < m∧c[m - 1]? = some r.Parent)):=by
 induction h with
 | top h hp =>
  intro m k hk
  have hm:m=0:=by have:=(List.getElem?_eq_some_iff.1 hk).1; simp at this; omega
  subst hm
  simp at hk; subst hk
  exact ⟨_,h,.inl ⟨rfl,hp⟩⟩
 | snoc k h hp h0 ih =>
  rename_i c p i r
  intro m x hx
  obtain ⟨d,hd⟩:=k.last
  by_cases q:m < c.length
  ·
   rw [List.getElem?_append_left q] at hx
   obtain ⟨r',h1,h2⟩:=ih m x hx
   refine ⟨r',h1,?_⟩
   rcases h2 with h2 | ⟨h2,h3⟩
   ·
    exact .inl h2
   ·
    exact .inr ⟨h2,by rw [List.getElem?_append_left (by omega)]; exact h3⟩
  ·
   have hm:m=c.length:=by have:=(List.getElem?_eq_some_iff.1 hx).1; simp at this; omega
   subst hm
   rw [List.getElem?_append_right (Nat.le_refl _)] at hx
   simp at hx; subst hx
   have hcl:c.length=d.length + 1:=by rw [hd]; simp
   refine ⟨r,h,.inr ⟨by omega,?_⟩⟩
   rw [List.getElem?_append_left (by omega),hp]
   rw [hcl,Nat.add_sub_cancel,hd]
   simp
def iw (l:List ai) (k:Int):List Seg:=match idx l k with | some r=>r.Segs | none=>[]
theorem xe {l:List ai} (hR:Rs l) (c:List Int) (hc:∀ k ∈ c,0 ≤ k∧k < l.length) (hcl:c.length ≤ 50):∀ (rest done:List Int) (out:List Seg) (f:Nat),c=done ++ rest→rest.length < f→out.length ≤ done.length→bX l c f out (done.length:Int)=some (out ++ rest.flatMap (iw l))
 | [],done,out,f + 1,h,hf,ho=>by
  rw [bX,if_neg (by rw [h]; simp)]; simp
 | k :: rest,done,out,f + 1,h,hf,ho=>by
  have hlen:c.length=done.length + rest.length + 1:=by rw [h]; simp; omega
  obtain ⟨h0,h1⟩:=hc k (by rw [h]; simp)
  obtain ⟨r,hr,_,hr2⟩:=jE l h0 h1
  have hs:=hR.segs _ r hr2
  have hseg:iw l k=r.Segs:=by unfold iw; rw [hr]
  rw [bX,if_pos (by rw [decide_eq_true_eq]; omega),lH h,Option.bind_some,hr,Option.bind_some,rQ (by rw [bnd]; omega),Option.bind_some]
  have ih:=xe hR c hc hcl rest (done ++ [k]) (out ++ r.Segs) f (by rw [h]; simp) (by simp at hf; omega) (by simp; omega)
  have hw:IntKind.wrap .i64 ((done.length:Int) + 1)=(((done ++ [k]).length:Nat):Int):=by rw [pK (by omega) (by omega)]; simp
  rw [hw,ih]
  simp [hseg]
theorem yI {n:Nat} (hn:100 ≤ n) {l:List ai} (hR:Rs l) {i:Int} {us:List Int} (h:Up l i us) (hu:us.length ≤ 50):fH n l i=some (us.reverse.flatMap (iw l)):=by
 have hc:∀ k ∈ us.reverse,0 ≤ k∧k < l.length:=fun k hk=>by
  obtain ⟨m,hm⟩:=List.getElem?_of_mem hk
  obtain ⟨r,hr,_⟩:=(h.down hR).at m k hm
  have:=gP hr
  exact ⟨this.1,this.2.1⟩
 unfold fH
 rw [wZ hn hR h hu,Option.bind_some]
 have:=xe hR us.reverse hc (by simpa using hu) us.reverse [] [] n rfl (by simp; omega) (by simp)
 simpa using this
theorem Bg (x:Seg):Seg.beq x x=true:=by simp [Seg.beq]
theorem rf (a:List Seg) (hl:a.length < 1000000):∀ (rest done:List Seg) (f:Nat),a=done ++ rest→rest.length < f→aL a a f (done.length:Int)=some true
 | [],done,f + 1,h,hf=>by rw [aL,if_neg (by rw [decide_eq_true_eq,h]; simp)]
 | z :: rest,done,f + 1,h,hf=>by
  have hlen:a.length=done.length + rest.length + 1:=by rw [h]; simp; omega
  have hw:IntKind.wrap .i64 ((done.length:Int) + 1)=(((done ++ [z]).length:Nat):Int):=by rw [pK (by omega) (by omega)]; simp
  rw [aL,if_pos (by rw [decide_eq_true_eq]; omega),lH h,Option.bind_some,Option.bind_some,Bg,if_neg (by simp),hw]
  exact rf a hl rest (done ++ [z]) f (by rw [h]; simp) (by simp at hf; omega)
theorem vY {n:Nat} (a:List Seg) (hn:a.length < n) (hl:a.length < 1000000):bI n a a=some true:=by
 unfold bI
 rw [if_neg (by simp)]
 exact rf a hl a [] n rfl hn
theorem zX {n:Nat} (hn:100 ≤ n) {l:List ai} (hR:Rs l) {i:Int} {r:ai} (hr:idx l i=some r):gY n l r.Name=some i:=by
 obtain ⟨h0,h1,h2⟩:=gP hr
 have hle:=hR.le
 have loop:∀ (k j f:Nat),j + k=i.toNat→k < f→az l (fun y6=>dM n y6 r.Name) f (j:Int)=some i:=by
  intro k
  induction k with
  | zero =>
   intro j f hj hf
   obtain ⟨f,rfl⟩:∃ g,f=g + 1:=⟨f - 1,by omega⟩
   have hji:(j:Int)=i:=by omega
   rw [az,hji,if_pos (by rw [decide_eq_true_eq]; exact h1),hr,Option.bind_some,dM,Option.bind_some,if_pos (by simp)]
  | succ k ih =>
   intro j f hj hf
   obtain ⟨f,rfl⟩:∃ g,f=g + 1:=⟨f - 1,by omega⟩
   have hjl:j < l.length:=by omega
   have hg:l[j]? = some l[j]:=List.getElem?_eq_getElem hjl
   have hne:(l[j].Name == r.Name)=false:=by
    rw [beq_eq_false_iff_ne]
    intro q
    rw [hR.name _ _ hg,hR.name _ _ h2] at q
    have:=zl (by omega) (by omega) q
    omega
   rw [az,if_pos (by rw [decide_eq_true_eq]; omega),lK,hg,Option.bind_some,dM,hne,Option.bind_some,if_neg (by simp),show IntKind.wrap .i64 ((j:Int) + 1)=((j + 1:Nat):Int) by rw [pK (by omega) (by omega)]; push_cast; rfl]
   exact ih (j + 1) f (by omega) (by omega)
 unfold gY bz
 have:=loop i.toNat 0 n (by omega) (by omega)
 rw [show ((0:Nat):Int)=0 from rfl] at this
 rw [this]; rfl
end Pr
end Go.Ev

namespace Go.Ev
namespace Pr
set_option linter.unusedVariables false
set_option linter.unusedSimpArgs false
theorem CO {α:Type} {l:List α} {k:Int} (h0:0 ≤ k) (h1:k ≤ l.length):cut l 0 k=some (l.take k.toNat):=by
 unfold cut; rw [if_pos ⟨by omega,h0,h1⟩]; rfl
theorem Cv {α:Type} {l:List α} {k:Int} (h0:0 ≤ k) (h1:k ≤ l.length):cut l k (l.length:Int)=some (l.drop k.toNat):=by
 unfold cut; rw [if_pos ⟨h0,h1,by omega⟩,Int.toNat_natCast,List.take_length]
theorem rO {n:Nat} {l:List ai} {i:Int} {c:List Int} (hD:Down l c i) (hl:l.length ≤ 8) (hcl:c.length ≤ 50):∀ (k m f:Nat),m + k=c.length→k < f→ax n l i c f (m:Int)=ax n l i c 1 (c.length:Int)
 | 0,m,f + 1,hm,hf=>by
  rw [show m=c.length by omega,ax,if_neg (by simp)]
  conv=>rhs; rw [ax,if_neg (by simp)]
 | k + 1,m,f + 1,hm,hf=>by
  have hmc:m < c.length:=by omega
  have hg:c[m]? = some c[m]:=List.getElem?_eq_getElem hmc
  obtain ⟨r,hr,hp⟩:=hD.at m _ hg
  obtain ⟨g0,g1,_⟩:=gP hr
  have hw:IntKind.wrap .i64 ((m:Int) + 1)=((m + 1:Nat):Int):=by rw [pK (by omega) (by omega)]; push_cast; rfl
  have j26:∀ x:Int,r.Parent=x→aZ l c (m:Int) (ax n l i c f) x=ax n l i c 1 (c.length:Int):=fun x hx=>by
   unfold aZ
   rw [lK,hg,Option.bind_some,if_neg (by rw [decide_eq_true_eq]; omega),Option.bind_some,Option.bind_some,show decide ((l.length:Int) ≤ c[m])=false by rw [decide_eq_false_iff_not]; omega,if_neg (by simp),Option.bind_some,hr,Option.bind_some,Option.bind_some,hx]
   rw [if_neg (by simp),hw]
   exact rO hD hl hcl k (m + 1) f (by omega) (by omega)
  conv=>lhs; rw [ax,if_pos (by rw [decide_eq_true_eq]; omega)]
  rcases hp with ⟨h0,h1⟩ | ⟨h0,h1⟩
  ·
   rw [if_neg (by rw [decide_eq_true_eq]; omega)]
   exact j26 _ h1
  ·
   rw [if_pos (by rw [decide_eq_true_eq]; omega),pK (by omega) (by omega),show (m:Int) - 1=((m - 1:Nat):Int) by omega,lK,h1,Option.bind_some]
   exact j26 _ rfl
theorem AQ (a1:bV) (a2:Int):dh 1000 a1 a2=some true:=by
 obtain ⟨l,hl,hR⟩:=yz (n:=1000) (by omega) a1
 have hle:=hR.le
 have hpos:=hR.pos
 have hw:IntKind.wrap .i64 ((l.length:Int) - 1)=(l.length:Int) - 1:=pK (by omega) (by omega)
 obtain ⟨i,hi,i0,i1⟩:=fO 1000 a2 0 (IntKind.wrap .i64 ((l.length:Int) - 1)) (by rw [hw]; omega) (by omega) (by rw [hw]; omega)
 rw [hw] at i1
 obtain ⟨r,hr,_,hr2⟩:=jE l i0 (by omega)
 obtain ⟨us,hU,hul⟩:=Up.exists hR (i.toNat + 1) i i0 (by omega) (by omega)
 have hu50:us.length ≤ 50:=by omega
 have hD:=hU.down hR
 obtain ⟨d,hd⟩:=hD.last
 have hc:=wZ (n:=1000) (by omega) hR hU hu50
 have hfull:=yI (n:=1000) (by omega) hR hU hu50
 have hcl:us.reverse.length=us.length:=by simp
 have hdl:us.length=d.length + 1:=by rw [← hcl,hd]; simp
 have loop:=rO (n:=1000) hD hle (by omega) us.length 0 1000 (by omega) (by omega)
 have hseg:iw l i=r.Segs:=by unfold iw; rw [hr]
 have hsl:=hR.segs _ r hr2
 have hahead:(r.Parent < 0∧d=[])∨(0 ≤ r.Parent∧fH 1000 l r.Parent=some (d.flatMap (iw l))):=by
  cases hU with
  | top h hp =>
   rw [hr] at h; cases h
   refine .inl ⟨hp,?_⟩
   have:=congrArg List.length hd
   simp at this
   exact this
  | up h hp k =>
   rw [hr] at h; cases h
   refine .inr ⟨hp,?_⟩
   rw [List.reverse_cons] at hd
   have:=(List.append_inj' hd rfl).1
   rw [yI (by omega) hR k (by simp at hu50; omega),this]
 have hF:us.reverse.flatMap (iw l)=d.flatMap (iw l) ++ r.Segs:=by rw [hd]; simp [hseg]
 have hA:∀ (q:List Int),(∀ k ∈ q,True)→(q.flatMap (iw l)).length ≤ q.length:=fun q=>by
  induction q with
  | nil=>intro _; simp
  | cons k q ih =>
   intro _
   have h1:(iw l k).length ≤ 1:=by
    unfold iw
    cases hq:idx l k with
    | none=>simp
    | some x=>exact hR.segs _ x (gP hq).2.2
   have:=ih (fun _ _=>trivial)
   simp only [List.flatMap_cons,List.length_append,List.length_cons]; omega
 have hAl:=hA d (fun _ _=>trivial)
 have last:idx us.reverse (IntKind.wrap .i64 ((us.reverse.length:Int) - 1))=some i:=by
  rw [pK (by omega) (by omega),hcl,hdl,show ((d.length + 1:Nat):Int) - 1=((d.length:Nat):Int) by omega,hd]
  exact lH rfl
 have hn:=zX (n:=1000) (by omega) hR hr
 unfold dh
 rw [hl,Option.bind_some,hi,Option.bind_some,hc,Option.bind_some,if_neg (by rw [decide_eq_true_eq]; omega),last,Option.bind_some,Option.bind_some,if_neg (by simp)]
 rw [show ((0:Nat):Int)=0 from rfl] at loop
 refine loop.trans ?_
 rw [ax,if_neg (by simp),hfull,Option.bind_some,hr,Option.bind_some,hF]
 have hlen:((d.flatMap (iw l) ++ r.Segs).length:Int) - (r.Segs.length:Int)=((d.flatMap (iw l)).length:Int):=by simp
 have hlw:IntKind.wrap .i64 (((d.flatMap (iw l) ++ r.Segs).length:Int) - (r.Segs.length:Int))=((d.flatMap (iw l)).length:Int):=by rw [hlen,pK (by omega) (by omega)]
 rw [if_neg (by rw [decide_eq_true_eq]; simp; omega),hlw,Cv (by omega) (by simp; omega),Option.bind_some,Int.toNat_natCast,List.drop_left,vY r.Segs (by omega) (by omega),Option.bind_some,Option.bind_some,if_neg (by simp),CO (by omega) (by simp; omega),Option.bind_some,Option.bind_some,Int.toNat_natCast,List.take_left]
 rcases hahead with ⟨h1,h2⟩ | ⟨h1,h2⟩
 ·
  subst h2
  rw [if_pos (by simp; exact h1),Option.bind_some,if_pos rfl,Option.bind_some,hn]
  simp [dF]
 ·
  rw [if_neg (by simp only [Bool.and_eq_true,decide_eq_true_eq]; omega),if_pos (by rw [decide_eq_true_eq]; exact h1),h2,Option.bind_some,vY _ (by omega) (by omega),Option.bind_some,Option.bind_some,Option.bind_some,if_pos rfl,Option.bind_some,hn]
  simp [dF]
end Pr
end Go.Ev

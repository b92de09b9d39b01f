import Derived.Test.YtjlfkpfombdelaaDoorPartC
import Derived.Test.YtjlfkpfombdelaaDoorProg
import Derived.WalkKit
import Derived.ProofKit
namespace Go.Ev
theorem aa.r {t:Nat} {x:AV} {e2 e:Env} (h:AL.get e t=some x) (k:aa e2 e):aa ((t,x) :: e2) e:=.cons h (.refl _) k
theorem mZ.o {x:AV} {a b:List (Option AV)} (k:mZ a b):mZ (some x :: a) (some x :: b):=.old (.refl _) k
theorem mZ.w (x:AV) {a b:List (Option AV)} (k:mZ a b):mZ (some x :: a) (none :: b):=.new k
theorem mZ.n {a b:List (Option AV)} (k:mZ a b):mZ (none :: a) (none :: b):=.new k
theorem mZ.q {x y z u:AV} {a b:List (Option AV)} (k:mZ a b):mZ (some x :: some y :: some z :: some u :: a) (some x :: some y :: some z :: some u :: b):=.o (.o (.o (.o k)))
theorem RL.v {R:bL} {C:gK} {nt:Nat} {ops:Array Oper} {srcs:List Src} {e0:Env} {ws:List (Option AV)} {S:St} {i:Nat} {o:Oper} {x:AV} {e:Env} {os:List Nat} (ho:ops[i]? = some o) (hx:ws[i]? = some (some x)) (he:mP ws e0 (srcs.getD i [])=some e) (hw:dZ ops e o=some true) (h:oper C (ic e) S o.op=some (.val x S)) (k:RL R C nt ops srcs e0 ws S os):RL R C nt ops srcs e0 ws S (i :: os):=.cons ho hx he (.val hw h (.refl _)) k
theorem Has.sl {B S:St} {l:List eH} (h:Has B S l) (is:List Nat) (hn:decide is.Nodup=true) {l':List eH} (hl:is.map (fun i=>l[i]?)=l'.map some):Has B S l':=h.IA is (of_decide_eq_true hn) hl
namespace Pr
set_option linter.unusedVariables false
set_option linter.unusedSimpArgs false
open Go.Proofs
noncomputable def cfg:gK:={ P:=Tryd.prog,good:=fun _=>true,rowT:=fun _=>false,prim:=fun _ _ _=>none,objT:=fun t=>bif Nat.beq t 70 then some (1,.str []) else none,hasPrim:=fun _=>false }
theorem Gt:(Tryd.f18.name == "runtime.NumGoroutine")=false:=by kernel_rfl
theorem DT:(cu cfg.P 23).isSome=true:=by kernel_rfl
theorem Ei:cu cfg.P 23=some 3:=by kernel_rfl
theorem FO:(gW cfg.P 3).isSome=true:=by kernel_rfl
theorem FP:aH cfg.P 3=1:=by kernel_rfl
theorem qF:gW cfg.P 3=some false:=by kernel_rfl
theorem Hw:(Tryd.f22.name == "runtime.NumGoroutine")=false:=by kernel_rfl
theorem kM:cfg.rowT 28=false:=by kernel_rfl
theorem gV:cu cfg.P 28=some 9:=by kernel_rfl
theorem j5:gW cfg.P 9=some false:=by kernel_rfl
theorem BP:zeroOf cfg.P 9=some (.str []):=by kernel_rfl
theorem kg:aH cfg.P 9=1:=by kernel_rfl
theorem Bq:fE cfg.P 25 0=some (0,23):=by kernel_rfl
theorem wM:Nat.beq (aH cfg.P 23) 0=false:=by kernel_rfl
theorem wG:gW cfg.P 23=some false:=by kernel_rfl
theorem qH:cfg.P.follows .mixedOrders=true:=by kernel_rfl
theorem Dl:fE cfg.P 25 1=some (1,23):=by kernel_rfl
theorem kI:(cu cfg.P 28).isSome=true:=by kernel_rfl
theorem yS:(gW cfg.P 9).isSome=true:=by kernel_rfl
theorem nZ:zeroOf cfg.P 47=some (.agg [.int .i64 0,.str []]):=by kernel_rfl
theorem zF:cfg.objT 47=none:=by kernel_rfl
theorem iD:aH cfg.P 47=2:=by kernel_rfl
theorem om:(gW cfg.P 47).isSome=true:=by kernel_rfl
theorem fU:fE cfg.P 47 0=some (0,3):=by kernel_rfl
theorem uf:Nat.beq (aH cfg.P 3) 0=false:=by kernel_rfl
theorem Hf:(cfg.P.underlying 3).isSome=true:=by kernel_rfl
theorem GL:Bf cfg.P 5=some .u8:=by kernel_rfl
theorem yo:cfg.rowT 56=false:=by kernel_rfl
theorem yK:cu cfg.P 56=some 5:=by kernel_rfl
theorem FX:gW cfg.P 5=some false:=by kernel_rfl
theorem FK:zeroOf cfg.P 5=some (.int .u8 0):=by kernel_rfl
theorem Ci:aH cfg.P 5=1:=by kernel_rfl
theorem Fe:oK cfg 56=true:=by kernel_rfl
theorem jK:nI cfg.P 9=true:=by kernel_rfl
theorem jb:fE cfg.P 47 1=some (1,9):=by kernel_rfl
theorem rH:Nat.beq (aH cfg.P 9) 0=false:=by kernel_rfl
theorem ql:gW cfg.P 47=some true:=by kernel_rfl
theorem Cs:cfg.rowT 22=false:=by kernel_rfl
theorem qm:cu cfg.P 22=some 47:=by kernel_rfl
theorem Fs:iU cfg 22=true:=by kernel_rfl
theorem Fj:bytesOf cfg.P 47=24:=by kernel_rfl
theorem ER:iB cfg 47=true:=by kernel_rfl
theorem E8:fE cfg.P 25 2=some (2,3):=by kernel_rfl
theorem Io:(Tryd.f6.name == "runtime.NumGoroutine")=false:=by kernel_rfl
theorem GA:(Tryd.f17.name == "runtime.NumGoroutine")=false:=by kernel_rfl
theorem F5:cfg.objT 32=none:=by kernel_rfl
theorem CY:zeroOf cfg.P 32=some (.agg [.bJ,.bJ]):=by kernel_rfl
theorem DC:fE cfg.P 27 0=some (0,23):=by kernel_rfl
theorem qC:fE cfg.P 32 0=some (0,28):=by kernel_rfl
theorem Ce:Nat.beq (aH cfg.P 28) 0=false:=by kernel_rfl
theorem Cy:gW cfg.P 28=some false:=by kernel_rfl
theorem u7:iU cfg 28=true:=by kernel_rfl
theorem DJ:bytesOf cfg.P 9=16:=by kernel_rfl
theorem DL:iB cfg 9=true:=by kernel_rfl
theorem GX:aH cfg.P 28=1:=by kernel_rfl
theorem HZ:(gW cfg.P 28).isSome=true:=by kernel_rfl
theorem Eg:fE cfg.P 27 1=some (1,23):=by kernel_rfl
theorem qy:fE cfg.P 32 1=some (1,29):=by kernel_rfl
theorem Bb:Nat.beq (aH cfg.P 29) 0=false:=by kernel_rfl
theorem BS:gW cfg.P 29=some false:=by kernel_rfl
theorem Ff:fE cfg.P 27 2=some (2,23):=by kernel_rfl
theorem lg:zeroOf cfg.P 42=some (.agg [.str [],.str []]):=by kernel_rfl
theorem rU:cfg.rowT 29=false:=by kernel_rfl
theorem mI:cu cfg.P 29=some 42:=by kernel_rfl
theorem qg:gW cfg.P 42=some true:=by kernel_rfl
theorem iL:aH cfg.P 42=2:=by kernel_rfl
theorem Dw:iU cfg 29=true:=by kernel_rfl
theorem DF:bytesOf cfg.P 42=32:=by kernel_rfl
theorem DN:iB cfg 42=true:=by kernel_rfl
theorem HY:aH cfg.P 29=1:=by kernel_rfl
theorem GZ:(gW cfg.P 29).isSome=true:=by kernel_rfl
theorem FV:gW cfg.P 32=some true:=by kernel_rfl
theorem Fq:aH cfg.P 32=2:=by kernel_rfl
theorem Gx:(gW cfg.P 32).isSome=true:=by kernel_rfl
theorem Ij:(Tryd.f7.name == "runtime.NumGoroutine")=false:=by kernel_rfl
theorem GH:(Tryd.f32.name == "runtime.NumGoroutine")=false:=by kernel_rfl
theorem G9:(Tryd.f33.name == "runtime.NumGoroutine")=false:=by kernel_rfl
theorem qM:(cu cfg.P 22).isSome=true:=by kernel_rfl
theorem GM:(Tryd.f50.name == "runtime.NumGoroutine")=false:=by kernel_rfl
theorem Hd:(Tryd.f34.name == "runtime.NumGoroutine")=false:=by kernel_rfl
theorem FN:(cfg.P.underlying 47).isSome=true:=by kernel_rfl
theorem Gs:(Tryd.f13.name == "runtime.NumGoroutine")=false:=by kernel_rfl
theorem Hl:(Tryd.f55.name == "runtime.NumGoroutine")=false:=by kernel_rfl
theorem FH:cfg.objT 70=some (1,.str []):=by kernel_rfl
theorem Hg:(Tryd.f42.name == "runtime.NumGoroutine")=false:=by kernel_rfl
theorem Gu:(Tryd.f23.name == "runtime.NumGoroutine")=false:=by kernel_rfl
theorem FQ:(cfg.P.underlying 9).isSome=true:=by kernel_rfl
theorem Ii:(Tryd.f8.name == "runtime.NumGoroutine")=false:=by kernel_rfl
theorem Hq:(Tryd.f35.name == "runtime.NumGoroutine")=false:=by kernel_rfl
theorem EU:pV cfg 67=some (9,4):=by kernel_rfl
theorem Ie:cfg.P.underlying 9=some .string:=by kernel_rfl
theorem Iw:zeroOf cfg.P 4=some (.bool false):=by kernel_rfl
theorem GI:(Tryd.f14.name == "runtime.NumGoroutine")=false:=by kernel_rfl
theorem Gp:(Tryd.f44.name == "runtime.NumGoroutine")=false:=by kernel_rfl
theorem EA:iU cfg 56=true:=by kernel_rfl
theorem F9:bytesOf cfg.P 5=1:=by kernel_rfl
theorem Gf:iB cfg 5=true:=by kernel_rfl
theorem GR:(Tryd.f24.name == "runtime.NumGoroutine")=false:=by kernel_rfl
theorem Iq:(Tryd.f9.name == "runtime.NumGoroutine")=false:=by kernel_rfl
theorem pR:(cu cfg.P 29).isSome=true:=by kernel_rfl
theorem uq:(gW cfg.P 42).isSome=true:=by kernel_rfl
theorem Dx:cfg.objT 42=none:=by kernel_rfl
theorem sG:fE cfg.P 42 0=some (0,9):=by kernel_rfl
theorem wm:fE cfg.P 42 1=some (1,9):=by kernel_rfl
theorem G5:(Tryd.f57.name == "runtime.NumGoroutine")=false:=by kernel_rfl
theorem Gi:(Tryd.f45.name == "runtime.NumGoroutine")=false:=by kernel_rfl
theorem FB:(cfg.P.underlying 5).isSome=true:=by kernel_rfl
theorem FC:Bf cfg.P 3=some .i64:=by kernel_rfl
theorem GV:(Tryd.f74.name == "runtime.NumGoroutine")=false:=by kernel_rfl
theorem Hu:(Tryd.f58.name == "runtime.NumGoroutine")=false:=by kernel_rfl
theorem Gy:(Tryd.f46.name == "runtime.NumGoroutine")=false:=by kernel_rfl
theorem Gq:(Tryd.f25.name == "runtime.NumGoroutine")=false:=by kernel_rfl
theorem Gv:(Tryd.f47.name == "runtime.NumGoroutine")=false:=by kernel_rfl
theorem G6:(Tryd.f26.name == "runtime.NumGoroutine")=false:=by kernel_rfl
theorem GQ:(Tryd.f27.name == "runtime.NumGoroutine")=false:=by kernel_rfl
theorem Gj:(Tryd.f10.name == "runtime.NumGoroutine")=false:=by kernel_rfl
theorem He:(Tryd.f28.name == "runtime.NumGoroutine")=false:=by kernel_rfl
theorem Gz:(Tryd.f29.name == "runtime.NumGoroutine")=false:=by kernel_rfl
theorem Gw:(Tryd.f48.name == "runtime.NumGoroutine")=false:=by kernel_rfl
theorem Ht:(Tryd.f30.name == "runtime.NumGoroutine")=false:=by kernel_rfl
theorem HV:(Tryd.f31.name == "runtime.NumGoroutine")=false:=by kernel_rfl
theorem GU:(Tryd.f11.name == "runtime.NumGoroutine")=false:=by kernel_rfl
theorem GD:(Tryd.f12.name == "runtime.NumGoroutine")=false:=by kernel_rfl
theorem GK:(Tryd.f15.name == "runtime.NumGoroutine")=false:=by kernel_rfl
theorem Gg:(Tryd.f67.name == "runtime.NumGoroutine")=false:=by kernel_rfl
theorem Gh:(Tryd.f82.name == "runtime.NumGoroutine")=false:=by kernel_rfl
theorem Gr:(Tryd.f52.name == "runtime.NumGoroutine")=false:=by kernel_rfl
theorem GG:(Tryd.f71.name == "runtime.NumGoroutine")=false:=by kernel_rfl
theorem Hz:(Tryd.f39.name == "runtime.NumGoroutine")=false:=by kernel_rfl
theorem Hm:(Tryd.f54.name == "runtime.NumGoroutine")=false:=by kernel_rfl
theorem Ha:(Tryd.f41.name == "runtime.NumGoroutine")=false:=by kernel_rfl
theorem nm20:(Tryd.f20.name == "runtime.NumGoroutine")=false:=by kernel_rfl
theorem GJ:(Tryd.f16.name == "runtime.NumGoroutine")=false:=by kernel_rfl
theorem Gl:(cfg.P.underlying 42).isSome=true:=by kernel_rfl
theorem Hy:gW cfg.P 25=some true:=by kernel_rfl
theorem Gn:aH cfg.P 25=3:=by kernel_rfl
theorem GY:gW cfg.P 27=some true:=by kernel_rfl
theorem G8:aH cfg.P 27=3:=by kernel_rfl
theorem Gb:cfg.P.underlying 4=some .bool:=by kernel_rfl
theorem Il:(Tryd.f3.name == "runtime.NumGoroutine")=false:=by kernel_rfl
theorem gD:oper.P_place cfg 47=some (wu [(0,1),(1,1)]):=r9 (by kernel_rfl)
theorem dX:oper.P_place cfg 42=some (wu [(0,1),(1,1)]):=r9 (by kernel_rfl)
theorem lK:oper.P_place cfg 32=some (wu [(0,1),(1,1)]):=r9 (by kernel_rfl)
theorem FZ (x y:aD):AV.eqv cfg.P 42 (.d (.agg [(.str x.Name),(.str x.Value)])) (.d (.agg [(.str y.Name),(.str y.Value)]))=some (aD.beq x y) :=
 Dk (by kernel_rfl) Tryd.underlying42 (by kernel_rfl) (by kernel_rfl)
def Ik:List Src:=[[(1,none)],[(20,some 0)],[(5,none)],[(21,some 1),(22,some 2)],[(23,some 3)],[(24,some 4)],[(3,none)],[(1,none)],[(27,some 7)],[(5,none)],[(28,some 8),(29,some 9)],[(3,none)],[(31,some 11)],[(32,some 12)],[(30,some 10),(33,some 13)],[(26,some 6),(34,some 14)],[(35,some 15)],[(25,some 5),(36,some 16)],[],[(6,some 18),(37,some 17)]]
def Iz:List Src:=[[(4,none)],[(19,some 0)],[(3,none)],[(1,none)],[(22,some 3)],[(5,none)],[(23,some 4),(24,some 5)],[(25,some 6)],[(3,none)],[(27,some 8)],[(28,some 9)],[(26,some 7),(29,some 10)],[(21,some 2),(30,some 11)],[(31,some 12)],[(32,some 13)],[(20,some 1),(33,some 14)],[(4,none)],[(34,some 15),(35,some 16)]]
def Ih:List Src:=[[(4,none)],[(47,some 0)],[(3,none)],[(1,none)],[(50,some 3)],[(6,none)],[(51,some 4),(52,some 5)],[(53,some 6)],[(3,none)],[(55,some 8)],[(56,some 9)],[(54,some 7),(57,some 10)],[(49,some 2),(58,some 11)],[(59,some 12)],[(3,none)],[(1,none)],[(62,some 15)],[(6,none)],[(63,some 16),(64,some 17)],[(3,none)],[(66,some 19)],[(67,some 20)],[(65,some 18),(68,some 21)],[(61,some 14),(69,some 22)],[(70,some 23)],[(60,some 13),(71,some 24)],[(72,some 25)],[(48,some 1),(73,some 26)],[(4,none)],[(74,some 27),(75,some 28)]]
def Ip:List Src:=[[(6,none)],[(8,none)],[(23,some 1)],[(1,none)],[(25,some 3)],[(24,some 2),(26,some 4)],[(27,some 5)],[(22,some 0),(28,some 6)],[(29,some 7)],[]]
def IB:List Src:=[[(4,none)],[(3,none)],[(0,none)],[(5,none)],[(24,some 2),(25,some 3)],[(26,some 4)],[(23,some 1),(27,some 5)],[(3,none)],[(0,none)],[(5,none)],[(30,some 8),(31,some 9)],[(32,some 10)],[(29,some 7),(33,some 11)],[(28,some 6),(34,some 12)],[(22,some 0),(35,some 13)],[(36,some 14)]]
def Ho:List Src:=[[(7,none)],[(1,none)],[(64,some 1)],[(63,some 0),(65,some 2)],[(66,some 3)],[(8,none),(67,some 4)],[(68,some 5),(67,some 4)],[(69,some 6),(67,some 4)],[(70,some 7),(67,some 4)],[(1,none),(71,some 8)],[(7,none),(71,some 8)],[(72,some 9),(73,some 10),(71,some 8)],[(74,some 11),(71,some 8)],[(8,none),(71,some 8)],[(76,some 13),(71,some 8)],[(75,some 12),(77,some 14),(71,some 8)],[(71,some 8),(78,some 15),(67,some 4)],[(67,some 4),(79,some 16)],[(80,some 17)]]
def Ir:List Src:=[[(6,none)],[(8,none)],[(86,some 1)],[(1,none)],[(7,none)],[(88,some 3),(89,some 4)],[(90,some 5)],[(87,some 2),(91,some 6)],[(92,some 7)],[(85,some 0),(93,some 8)],[(94,some 9)]]
def Iy:List Src:=[[(0,none)],[(18,some 0)],[(19,some 1)],[(0,none)],[(21,some 3)],[(22,some 4)],[(20,some 2)],[(23,some 5)]]
def Iu:List Src:=[[(4,none)],[(0,none)],[(5,none)],[(53,some 2)],[(52,some 1),(54,some 3)],[(55,some 4)],[(56,some 5)],[(0,none)],[(5,none)],[(59,some 8)],[(58,some 7),(60,some 9)],[(61,some 10)],[(57,some 6),(62,some 11)],[(63,some 12)],[(64,some 13)],[(51,some 0),(65,some 14)],[(66,some 15)]]
def Ig:List Src:=[[(0,none)],[(5,none)],[(17,some 0),(18,some 1)],[(19,some 2)],[(1,none)],[(5,none)],[(21,some 4),(22,some 5)],[(23,some 6)],[(20,some 3),(24,some 7)]]
def Ia:List Src:=[[(0,none)],[(0,none)],[(26,some 1)],[(27,some 2)],[(25,some 0),(28,some 3)],[(3,none)],[(3,none)],[(31,some 6)],[(32,some 7)],[(30,some 5),(33,some 8)],[(4,none)],[(4,none)],[(36,some 11)],[(37,some 12)],[(35,some 10),(38,some 13)],[(29,some 4)],[(34,some 9)],[(39,some 14)]]
structure F4 (R:bL):Prop where
 obj:lZ R cfg
 strings_Split_ok:∀ (n:Nat) (x0:Str) (x1:Str) (r:(List Str)),strings_Split n x0 x1=some r→aY R cfg.P 40 [(.str x0),(.str x1)] (.d (.sl ((r).map D.str) false))
 strings_Join_ok:∀ (n:Nat) (x0:(List Str)) (x1:Str) (r:Str),strings_Join n x0 x1=some r→aY R cfg.P 43 [(.sl ((x0).map D.str) false),(.str x1)] (.d (.str r))
 strings_Trim_ok:∀ (n:Nat) (x0:Str) (x1:Str) (r:Str),jP n x0 x1=some r→aY R cfg.P 49 [(.str x0),(.str x1)] (.d (.str r))
 strings_IndexByte_ok:∀ (n:Nat) (x0:Str) (x1:Int) (r:Int),strings_IndexByte n x0 x1=some r→aY R cfg.P 72 [(.str x0),(.int .u8 x1)] (.d (.int .i64 r))
 bld:zf R cfg.P 36 37 38
section
variable {R:bL} (E:F4 R)
include E
set_option maxRecDepth 20000 in
set_option maxHeartbeats 4000000 in
theorem dA (n:Nat) (a1:Int) (a2:Int) (a3:Int) (r:Int) (h:dm n a1 a2 a3=some r):aY R cfg.P 18 [(.int .i64 a1),(.int .i64 a2),(.int .i64 a3)] (.d (.int .i64 r)):=by
 unfold dm at h
 refine aY.of_wp E.obj.toObjOk (C:=cfg) Tryd.func18 rfl Gt rfl ?_
 have H0:Has ay ay []:=Has.pure
 refine aj.seq ?_
 refine aj.region E.obj rfl ?_
 refine ai.val rfl (ah rfl) rfl ?_
 refine ai.nil ?_
 refine aj.seq ?_
 refine aj.region E.obj rfl ?_
 refine ai.val rfl (ae rfl) rfl ?_
 refine ai.val rfl (ae rfl) rfl ?_
 refine ai.val rfl (ae rfl) rfl ?_
 refine ai.val rfl (ak rfl rfl fM) rfl ?_
 refine ai.val rfl (ak rfl rfl bf) rfl ?_
 obtain ⟨z4,hzz4,h⟩:=bind_some h
 refine ai.val rfl (ak rfl rfl (xO hzz4)) rfl ?_
 refine ai.val rfl (ah rfl) rfl ?_
 refine ai.nil ?_
 refine aj.join (B:=ay) (α:=Int) (fun a=>eB a2 a=some r) (fun a=>[(0,(.d (.int .i64 a))),(1,(.d (.int .i64 a2)))]) (fun a=>[]) ?_ ?_
 ·
  intro x7 S5 H6 h
  replace h:eB a2 x7=some r:=h
  replace H6:Has ay S5 []:=H6
  unfold eB at h
  refine aj.seq ?_
  refine aj.region E.obj rfl ?_
  refine ai.val rfl (ae rfl) rfl ?_
  refine ai.val rfl (ae rfl) rfl ?_
  refine ai.val rfl (ak rfl rfl bf) rfl ?_
  refine ai.val rfl (ah rfl) rfl ?_
  refine ai.nil ?_
  have hr:=Option.some.inj h
  subst hr
  exact aj.ret ⟨_,rfl,rfl,eG (av.eq .nil)⟩
 refine aj.seq ?_
 refine aj.region E.obj rfl ?_
 refine ai.val rfl (ae rfl) rfl ?_
 refine ai.val rfl (ak rfl rfl bE) rfl ?_
 refine ai.nil ?_
 refine aj.cond rfl (fun hb9=>?_) (fun hb9=>?_)
 ·
  replace h:=bg hb9 h
  refine aj.region E.obj rfl ?_
  refine ai.val rfl (ae rfl) rfl ?_
  refine ai.val rfl (ae rfl) rfl ?_
  refine ai.val rfl (ak rfl rfl bf) rfl ?_
  refine ai.val rfl (ae rfl) rfl ?_
  refine ai.val rfl (ak rfl rfl fM) rfl ?_
  refine ai.val rfl (ak rfl rfl bf) rfl ?_
  refine ai.val rfl (ah rfl) rfl ?_
  refine ai.nil ?_
  exact ⟨(IntKind.wrap .i64 ((IntKind.wrap .i64 ((IntKind.wrap .i64 (z4 + a3)) - a2)) + 1)),_,_,ay,.refl _ _,.refl _,(aa.r rfl (aa.r rfl aa.nil)),H0.sl [] rfl rfl,h⟩
 replace h:=aZ hb9 h
 refine aj.skip ?_
 exact ⟨z4,_,_,ay,.refl _ _,.refl _,(aa.r rfl (aa.r rfl aa.nil)),H0.sl [] rfl rfl,h⟩
set_option maxRecDepth 20000 in
set_option maxHeartbeats 4000000 in
theorem jl (n:Nat) (a1:(List Int)) (a2:Int) (r:Int) (h:gy n a1 a2=some r):aY R cfg.P 22 [(.sl ((a1).map (D.int .i64)) false),(.int .i64 a2)] (.d (.int .i64 r)):=by
 unfold gy at h
 refine aY.of_wp E.obj.toObjOk (C:=cfg) Tryd.func22 rfl Hw rfl ?_
 have H0:Has ay ay []:=Has.pure
 refine aj.seq ?_
 refine aj.region E.obj rfl ?_
 refine ai.val rfl (ah rfl) rfl ?_
 refine ai.nil ?_
 refine aj.seq ?_
 refine aj.seq ?_
 refine aj.region E.obj rfl ?_
 refine ai.val rfl (ae rfl) rfl ?_
 refine ai.val rfl (aI rfl DT) rfl ?_
 refine ai.val rfl (ak rfl rfl cZ) rfl ?_
 refine ai.nil ?_
 refine aj.cond rfl (fun hb3=>?_) (fun hb3=>?_)
 ·
  replace h:=bg hb3 h
  refine aj.seq ?_
  refine aj.region E.obj rfl ?_
  refine ai.val rfl (ah rfl) rfl ?_
  refine ai.nil ?_
  have hr:=Option.some.inj h
  subst hr
  exact aj.ret ⟨_,rfl,rfl,eG (av.eq .nil)⟩
 replace h:=aZ hb3 h
 refine aj.skip ?_
 refine aj.seq ?_
 refine aj.region E.obj rfl ?_
 refine ai.val rfl (ae rfl) rfl ?_
 refine ai.val rfl (ae rfl) rfl ?_
 refine ai.val rfl (ae rfl) rfl ?_
 refine ai.val rfl (aI rfl DT) rfl ?_
 obtain ⟨z4,hzz4,h⟩:=bind_some h
 refine ai.val rfl (ak rfl rfl (xO hzz4)) rfl ?_
 obtain ⟨z5,hzz5,h⟩:=bind_some h
 refine ai.val rfl (bO rfl rfl (df (enc:=(D.int .i64)) hzz5 Ei FO (((fun _=>rfl) _).trans FP.symm))) rfl ?_
 refine ai.val rfl (aX rfl (dB qF rfl)) rfl ?_
 refine ai.val rfl (ah rfl) rfl ?_
 refine ai.nil ?_
 have hr:=Option.some.inj h
 subst hr
 exact aj.ret ⟨_,rfl,rfl,eG (av.eq .nil)⟩
set_option maxRecDepth 20000 in
set_option maxHeartbeats 4000000 in
theorem kZ (n:Nat) (a1:dF) (r:(List Seg)) (h:eD n a1=some r):aY R cfg.P 6 [(iI a1)] (.d (.sl ((r).map aJ) false)):=by
 unfold eD at h
 refine aY.of_wp E.obj.toObjOk (C:=cfg) Tryd.func6 rfl Io rfl ?_
 have H0:Has ay ay []:=Has.pure
 refine aj.seq ?_
 refine aj.region E.obj rfl ?_
 refine ai.box H0 rfl rfl rfl (dF.eO _) rfl (fun b2 S3 H4=>?_)
 refine ai.val rfl (ah rfl) rfl ?_
 refine ai.nil ?_
 refine aj.seq ?_
 refine aj.region E.obj rfl ?_
 refine ai.val rfl (aK (vs:=[(.d (.str [97])),(.d (.str [98])),(.d (.str [105,116,101,109])),(.d (.str [122])),(.d (.str [49])),(.d (.str [108,105,115,116]))]) (ds:=[(.str [97]),(.str [98]),(.str [105,116,101,109]),(.str [122]),(.str [49]),(.str [108,105,115,116])]) kM gV j5 BP kg rfl (by decide) (.cons rfl rfl (.cons rfl rfl (.cons rfl rfl (.cons rfl rfl (.cons rfl rfl (.cons rfl rfl .nil)))))) rfl (by intro d hd; simp only [List.mem_cons,List.not_mem_nil,or_false] at hd; rcases hd with rfl | rfl | rfl | rfl | rfl | rfl <;> rfl) rfl) rfl ?_
 refine ai.val rfl (ah rfl) rfl ?_
 refine ai.nil ?_
 refine aj.seq ?_
 refine aj.region E.obj rfl ?_
 refine ai.val rfl (ah rfl) rfl ?_
 refine ai.nil ?_
 refine aj.seq ?_
 refine aj.seq ?_
 refine aj.region E.obj rfl ?_
 refine ai.val rfl (ah rfl) rfl ?_
 refine ai.nil ?_
 refine aj.block ?_
 have H59:=H4.rQ
 refine kS.start (B:=ay) (α:=(List Seg) × AV × Int) (fun k a=>aN n a1 k a.1 a.2.2=some r) (fun a=>[(1,(.ptr b2 0 0)),(3,(.d (.sl ((([[97],[98],[105,116,101,109],[122],[49],[108,105,115,116]]:List Str)).map D.str) true))),(4,a.2.1),(5,(.d (.int .i64 a.2.2)))]) (fun a=>[.box b2 [(.d (.sl ((a1.Kinds).map (D.int .i64)) false)),(.d (.sl ((a1.Texts).map (D.int .i64)) false)),(.d (.int .i64 a1.Last))],.grow a.2.1 ((a.1).map aJ)]) ?_ ?_ n ⟨⟨[],(.d .bJ),0⟩,_,_,S3,.refl _ _,.refl _,(aa.r rfl (aa.r rfl (aa.r rfl (aa.r rfl aa.nil)))),H59.sl [1,0] rfl rfl,h⟩
 ·
  intro a h; simp [aN] at h
 intro k17 a S12 H13 h
 obtain ⟨x14,v15,x16⟩:=a
 replace h:aN n a1 (k17 + 1) x14 x16=some r:=h
 replace H13:Has ay S12 [.box b2 [(.d (.sl ((a1.Kinds).map (D.int .i64)) false)),(.d (.sl ((a1.Texts).map (D.int .i64)) false)),(.d (.int .i64 a1.Last))],.grow v15 ((x14).map aJ)]:=H13
 unfold aN at h
 refine aj.seq ?_
 refine aj.seq ?_
 refine aj.region E.obj rfl ?_
 refine ai.val rfl (ae rfl) rfl ?_
 refine ai.val rfl (ax rfl Bq wM rfl) rfl ?_
 refine ai.val rfl (aB H13 (i:=0) rfl rfl (aG wG rfl)) rfl ?_
 refine ai.val rfl (aI rfl DT) rfl ?_
 refine ai.val rfl (ak rfl rfl bE) rfl ?_
 refine ai.val rfl (ae rfl) rfl ?_
 refine ai.aT 3 17 (.d (.bool ((decide (x16 < ((a1.Kinds).length:Int))) && (decide (x16 < 4))))) ?_ ?_
 ·
  rcases Bool.eq_false_or_eq_true ((decide (x16 < ((a1.Kinds).length:Int)))) with hB18 | hB18
  ·
   refine ai.bool hB18 ?_
   refine ai.val rfl (ae rfl) rfl ?_
   refine ai.val rfl (ak rfl rfl bE) rfl ?_
   refine ai.val rfl (au (b:=true) rfl rfl) rfl ?_
   exact ai.nil ⟨_,rfl,(aa.put (aa.push rfl (aa.push rfl (aa.put (.refl _) (Less.eq (by rw [hB18]))))) (Less.eq (by rw [hB18]; rw [Bool.true_and])))⟩
  refine ai.bool hB18 ?_
  refine ai.no rfl rfl ?_
  refine ai.no rfl rfl ?_
  refine ai.val rfl (au (b:=false) rfl rfl) rfl ?_
  exact ai.nil ⟨_,rfl,(aa.put (aa.push rfl (aa.push rfl (aa.put (.refl _) (Less.eq (by rw [hB18]))))) (Less.eq (by rw [hB18]; rw [Bool.false_and])))⟩
 refine ai.nil ?_
 refine aj.cond rfl (fun hb19=>?_) (fun hb19=>?_)
 ·
  replace h:=bg hb19 h
  refine aj.skip ?_
  refine aj.seq ?_
  refine aj.block ?_
  refine aj.seq ?_
  obtain ⟨z20,hzz20,h⟩:=bind_some h
  obtain ⟨z21,hzz21,h⟩:=bind_some h
  obtain ⟨z22,hzz22,h⟩:=bind_some h
  obtain ⟨z23,hzz23,h⟩:=bind_some h
  obtain ⟨z24,hzz24,h⟩:=bind_some h
  refine aj.l6 E.obj qH Ik [(1,none),(3,none),(4,none),(5,none),(6,some 18)] (by kernel_rfl) [18,19] (by decide) [some (.ptr b2 0 0),some (.d (.sl ((a1.Kinds).map (D.int .i64)) false)),some (.d (.int .i64 x16)),some (.eptr (.int .i64 z20) 0),some (.d (.int .i64 z20)),some (.d (.int .i64 z21)),some (.d (.sl ((([[97],[98],[105,116,101,109],[122],[49],[108,105,115,116]]:List Str)).map D.str) true)),some (.ptr b2 0 1),some (.d (.sl ((a1.Texts).map (D.int .i64)) false)),some (.d (.int .i64 x16)),some (.d (.int .i64 z22)),some (.d (.sl ((([[97],[98],[105,116,101,109],[122],[49],[108,105,115,116]]:List Str)).map D.str) true)),some (.d (.int .i64 ((([[97],[98],[105,116,101,109],[122],[49],[108,105,115,116]]:List Str)).length:Int))),some (.d (.int .i64 (IntKind.wrap .i64 (((([[97],[98],[105,116,101,109],[122],[49],[108,105,115,116]]:List Str)).length:Int) - 1)))),some (.d (.int .i64 z23)),some (.eptr (.str z24) 0),some (.d (.str z24)),some (.d (aJ (Seg.mk z21 z24))),none,none] ?_
  refine ⟨[0,1,2,3,4,5,6,7,8,9,10,11,12,13,14,15,16,17],by kernel_rfl,?_,_,_,rfl,rfl,.step ?_⟩
  ·
   refine .v rfl rfl rfl rfl (ax rfl Bq wM rfl) ?_
   refine .v rfl rfl rfl rfl (aB H13 (i:=0) rfl rfl (aG wG rfl)) ?_
   refine .v rfl rfl rfl rfl (ae rfl) ?_
   refine .v rfl rfl rfl rfl (bO rfl rfl (df (enc:=(D.int .i64)) hzz20 Ei FO (((fun _=>rfl) _).trans FP.symm))) ?_
   refine .v rfl rfl rfl rfl (aX rfl (dB qF rfl)) ?_
   refine .cons rfl rfl rfl (.step ?_) ?_
   ·
    refine ai.ret rfl (aA rfl rfl) (dA E _ _ _ _ _ hzz21 _ _ (av.eq (av.eq (av.eq .nil)))) rfl ?_
    exact ai.nil ⟨_,_,rfl,fun _ ht=>by cases ht; exact ⟨rfl,.refl _⟩⟩
   refine .v rfl rfl rfl rfl (ae rfl) ?_
   refine .v rfl rfl rfl rfl (ax rfl Dl wM rfl) ?_
   refine .v rfl rfl rfl rfl (aB H13 (i:=0) rfl rfl (aG wG rfl)) ?_
   refine .v rfl rfl rfl rfl (ae rfl) ?_
   refine .cons rfl rfl rfl (.step ?_) ?_
   ·
    refine ai.ret rfl (aA rfl rfl) (jl E _ _ _ _ hzz22 _ _ (av.eq (av.eq .nil))) rfl ?_
    exact ai.nil ⟨_,_,rfl,fun _ ht=>by cases ht; exact ⟨rfl,.refl _⟩⟩
   refine .v rfl rfl rfl rfl (ae rfl) ?_
   refine .v rfl rfl rfl rfl (aI rfl kI) ?_
   refine .v rfl rfl rfl rfl (ak rfl rfl fM) ?_
   refine .cons rfl rfl rfl (.step ?_) ?_
   ·
    refine ai.ret rfl (aA rfl rfl) (dA E _ _ _ _ _ hzz23 _ _ (av.eq (av.eq (av.eq .nil)))) rfl ?_
    exact ai.nil ⟨_,_,rfl,fun _ ht=>by cases ht; exact ⟨rfl,.refl _⟩⟩
   refine .v rfl rfl rfl rfl (bO rfl rfl (df (enc:=D.str) hzz24 gV yS (((fun _=>rfl) _).trans kg.symm))) ?_
   refine .v rfl rfl rfl rfl (aX rfl (dB j5 rfl)) ?_
   refine .cons rfl rfl rfl (.step ?_) ?_
   ·
    refine ai.val rfl (dw (cs:=[(.d (.int .i64 z21)),(.d (.str z24))]) nZ rfl (gD) (fA rfl rfl rfl rfl (fA rfl rfl rfl rfl rfl))) rfl ?_
    refine ai.less (Less.agg' (d:=aJ (Seg.mk z21 z24)) (aU.eq rfl (aU.eq rfl .nil)) ((Seg.eq _).trans rfl)) ?_
    exact ai.nil ⟨_,_,rfl,fun _ ht=>by cases ht; exact ⟨rfl,.refl _⟩⟩
   exact .nil
  refine ai.alloc H13 rfl zF nZ rfl rfl (fun b30 S31 H32=>?_)
  refine ai.nil ⟨_,_,_,rfl,(fun _ ht=>by cases ht; rfl),_,(.q (.q (.q (.q (.o (.o (.w (.ptr b30 0 0) (.n .nil)))))))),(fun _ ht=>by cases ht; exact ⟨_,rfl,.refl _⟩),?_⟩
  refine ⟨[0,1,2,3,4,5,6,7,8,9,10,11,12,13,14,15,16,17],by kernel_rfl,?_,_,_,rfl,rfl,.step ?_⟩
  ·
   refine .v rfl rfl rfl rfl (ax rfl Bq wM rfl) ?_
   refine .v rfl rfl rfl rfl (aB H32 (i:=1) rfl rfl (aG wG rfl)) ?_
   refine .v rfl rfl rfl rfl (ae rfl) ?_
   refine .v rfl rfl rfl rfl (bO rfl rfl (df (enc:=(D.int .i64)) hzz20 Ei FO (((fun _=>rfl) _).trans FP.symm))) ?_
   refine .v rfl rfl rfl rfl (aX rfl (dB qF rfl)) ?_
   refine .cons rfl rfl rfl (.step ?_) ?_
   ·
    refine ai.ret rfl (aA rfl rfl) (dA E _ _ _ _ _ hzz21 _ _ (av.eq (av.eq (av.eq .nil)))) rfl ?_
    exact ai.nil ⟨_,_,rfl,fun _ ht=>by cases ht; exact ⟨rfl,.refl _⟩⟩
   refine .v rfl rfl rfl rfl (ae rfl) ?_
   refine .v rfl rfl rfl rfl (ax rfl Dl wM rfl) ?_
   refine .v rfl rfl rfl rfl (aB H32 (i:=1) rfl rfl (aG wG rfl)) ?_
   refine .v rfl rfl rfl rfl (ae rfl) ?_
   refine .cons rfl rfl rfl (.step ?_) ?_
   ·
    refine ai.ret rfl (aA rfl rfl) (jl E _ _ _ _ hzz22 _ _ (av.eq (av.eq .nil))) rfl ?_
    exact ai.nil ⟨_,_,rfl,fun _ ht=>by cases ht; exact ⟨rfl,.refl _⟩⟩
   refine .v rfl rfl rfl rfl (ae rfl) ?_
   refine .v rfl rfl rfl rfl (aI rfl kI) ?_
   refine .v rfl rfl rfl rfl (ak rfl rfl fM) ?_
   refine .cons rfl rfl rfl (.step ?_) ?_
   ·
    refine ai.ret rfl (aA rfl rfl) (dA E _ _ _ _ _ hzz23 _ _ (av.eq (av.eq (av.eq .nil)))) rfl ?_
    exact ai.nil ⟨_,_,rfl,fun _ ht=>by cases ht; exact ⟨rfl,.refl _⟩⟩
   refine .v rfl rfl rfl rfl (bO rfl rfl (df (enc:=D.str) hzz24 gV yS (((fun _=>rfl) _).trans kg.symm))) ?_
   refine .v rfl rfl rfl rfl (aX rfl (dB j5 rfl)) ?_
   refine .cons rfl rfl rfl (.step ?_) ?_
   ·
    refine ai.val rfl (dw (cs:=[(.d (.int .i64 z21)),(.d (.str z24))]) nZ rfl (gD) (fA rfl rfl rfl rfl (fA rfl rfl rfl rfl rfl))) rfl ?_
    refine ai.less (Less.agg' (d:=aJ (Seg.mk z21 z24)) (aU.eq rfl (aU.eq rfl .nil)) ((Seg.eq _).trans rfl)) ?_
    exact ai.nil ⟨_,_,rfl,fun _ ht=>by cases ht; exact ⟨rfl,.refl _⟩⟩
   exact .nil
  refine ai.store H32 (i:=0) rfl rfl rfl rfl (Seg.eO _) rfl iD rfl om rfl rfl rfl (fun S33 H34=>?_)
  refine ai.nil ⟨_,.any,_,rfl,(fun _ ht=>by cases ht),_,(.q (.q (.q (.q (.o (.o (.o (.w .any .nil)))))))),(fun _ ht=>by cases ht),?_⟩
  refine ⟨[],by kernel_rfl,?_,_,rfl,?_⟩
  ·
   exact .nil
  refine aj.join (B:=ay) (α:=Str) (fun a=>bV x14 x16 (aN n a1 k17) z21 z24 a=some r) (fun a=>[(1,(.ptr b2 0 0)),(3,(.d (.sl ((([[97],[98],[105,116,101,109],[122],[49],[108,105,115,116]]:List Str)).map D.str) true))),(4,v15),(5,(.d (.int .i64 x16))),(6,(.ptr b30 0 0))]) (fun a=>[.box b30 [(.d (.int .i64 (Seg.mk z21 z24).Kind)),(.d (.str a))],.box b2 [(.d (.sl ((a1.Kinds).map (D.int .i64)) false)),(.d (.sl ((a1.Texts).map (D.int .i64)) false)),(.d (.int .i64 a1.Last))],.grow v15 ((x14).map aJ)]) ?_ ?_
  ·
   intro x37 S35 H36 h
   replace h:bV x14 x16 (aN n a1 k17) z21 z24 x37=some r:=h
   replace H36:Has ay S35 [.box b30 [(.d (.int .i64 (Seg.mk z21 z24).Kind)),(.d (.str x37))],.box b2 [(.d (.sl ((a1.Kinds).map (D.int .i64)) false)),(.d (.sl ((a1.Texts).map (D.int .i64)) false)),(.d (.int .i64 a1.Last))],.grow v15 ((x14).map aJ)]:=H36
   unfold bV at h
   refine aj.region E.obj rfl ?_
   refine ai.val rfl (ae rfl) rfl ?_
   refine ai.val rfl (aB H36 (i:=0) rfl rfl (jQ ql iD rfl)) rfl ?_
   refine ai.less (Less.agg' (d:=aJ (Seg.mk ((Seg.mk z21 z24).Kind) x37)) (aU.eq rfl (aU.eq rfl .nil)) ((Seg.eq _).trans rfl)) ?_
   refine ai.val rfl (aK (vs:=[(.d (aJ (Seg.mk ((Seg.mk z21 z24).Kind) x37)))]) (ds:=[(aJ (Seg.mk ((Seg.mk z21 z24).Kind) x37))]) Cs qm ql nZ iD rfl (by decide) (.cons rfl (Seg.len _) .nil) rfl (by intro d hd; simp only [List.mem_cons,List.not_mem_nil,or_false] at hd; rcases hd with rfl <;> exact Seg.agg _) rfl) rfl ?_
   obtain ⟨z39,hzz39,h⟩:=bind_some h
   refine ai.append (xs:=(x14).map aJ) (ys:=([(Seg.mk ((Seg.mk z21 z24).Kind) x37)]).map aJ) (zs:=(z39).map aJ) H36 rfl rfl rfl (i:=2) rfl rfl Cs Fs qm (dC hzz39) Fj rfl (aQ (enc:=aJ) (fun z=>(Seg.len z).trans iD.symm) _) (aQ (enc:=aJ) (fun z=>(Seg.len z).trans iD.symm) _) ER rfl (gB hzz39) (fun v40 S41 H42=>?_)
   refine ai.val rfl (ah rfl) rfl ?_
   refine ai.nil ?_
   refine aj.region E.obj rfl ?_
   refine ai.val rfl (ae rfl) rfl ?_
   refine ai.val rfl (ak rfl rfl bf) rfl ?_
   refine ai.val rfl (ah rfl) rfl ?_
   refine ai.nil ?_
   exact ⟨⟨z39,v40,(IntKind.wrap .i64 (x16 + 1))⟩,_,_,S41,.refl _ _,.refl _,(aa.r rfl (aa.r rfl (aa.r rfl (aa.r rfl aa.nil)))),H42.sl [1,2] rfl rfl,h⟩
  refine aj.seq ?_
  refine aj.region E.obj rfl ?_
  refine ai.val rfl (ax rfl fU uf rfl) rfl ?_
  refine ai.val rfl (aB H34 (i:=0) rfl rfl (aG qF rfl)) rfl ?_
  refine ai.val rfl (ak rfl rfl cZ) rfl ?_
  refine ai.nil ?_
  refine aj.cond rfl (fun hb43=>?_) (fun hb43=>?_)
  ·
   replace h:=bg hb43 h
   refine aj.region E.obj rfl ?_
   refine ai.val rfl (ae rfl) rfl ?_
   refine ai.val rfl (ak rfl rfl bf) rfl ?_
   refine ai.val rfl (fD rfl Hf GL) rfl ?_
   refine ai.val rfl (aK (vs:=[(.d (.int .u8 (IntKind.wrap .u8 (IntKind.wrap .i64 (48 + x16)))))]) (ds:=[(.int .u8 (IntKind.wrap .u8 (IntKind.wrap .i64 (48 + x16))))]) yo yK FX FK Ci rfl (by decide) (.cons rfl rfl .nil) rfl (by intro d hd; simp only [List.mem_cons,List.not_mem_nil,or_false] at hd; rcases hd with rfl <;> rfl) rfl) rfl ?_
   refine ai.val rfl (kL (l:=[(IntKind.wrap .u8 (IntKind.wrap .i64 (48 + x16)))]) rfl jK Fe) rfl ?_
   obtain ⟨z44,hzz44,h⟩:=bind_some h
   refine ai.val rfl (ak rfl rfl (sJ hzz44)) rfl ?_
   refine ai.val rfl (ax rfl jb rH rfl) rfl ?_
   refine ai.store H34 (i:=0) rfl rfl rfl rfl rfl rfl kg rfl yS rfl rfl rfl (fun S45 H46=>?_)
   refine ai.nil ?_
   exact ⟨z44,_,_,S45,.refl _ _,.refl _,(aa.r rfl (aa.r rfl (aa.r rfl (aa.r rfl (aa.r rfl aa.nil))))),H46.sl [0,1,2] rfl rfl,h⟩
  replace h:=aZ hb43 h
  refine aj.skip ?_
  exact ⟨(Seg.mk z21 z24).Text,_,_,S33,.refl _ _,.refl _,(aa.r rfl (aa.r rfl (aa.r rfl (aa.r rfl (aa.r rfl aa.nil))))),H34.sl [0,1,2] rfl rfl,h⟩
 replace h:=aZ hb19 h
 refine aj.exit ?_
 refine aj.join (B:=ay) (α:=(List Seg) × AV) (fun a=>dh a.1=some r) (fun a=>[(4,a.2)]) (fun a=>[.grow a.2 ((a.1).map aJ)]) ?_ ?_
 ·
  intro a S47 H48 h
  obtain ⟨x49,v50⟩:=a
  replace h:dh x49=some r:=h
  replace H48:Has ay S47 [.grow v50 ((x49).map aJ)]:=H48
  unfold dh at h
  refine aj.seq ?_
  refine aj.region E.obj rfl ?_
  refine ai.val rfl (ae rfl) rfl ?_
  refine ai.val rfl (ah rfl) rfl ?_
  refine ai.nil ?_
  have hr:=Option.some.inj h
  subst hr
  exact aj.ret ⟨_,rfl,rfl,eG (av.grow H48 (i:=0) rfl .nil)⟩
 refine aj.seq ?_
 refine aj.region E.obj rfl ?_
 refine ai.val rfl (ax rfl E8 uf rfl) rfl ?_
 refine ai.val rfl (aB H13 (i:=0) rfl rfl (aG qF rfl)) rfl ?_
 obtain ⟨z52,hzz52,h⟩:=bind_some h
 refine ai.ret rfl (aA rfl rfl) (dA E _ _ _ _ _ hzz52 _ _ (av.eq (av.eq (av.eq .nil)))) rfl ?_
 refine ai.val rfl (ah rfl) rfl ?_
 refine ai.nil ?_
 refine aj.seq ?_
 refine aj.region E.obj rfl ?_
 refine ai.val rfl (ae rfl) rfl ?_
 refine ai.val rfl (ak rfl rfl cZ) rfl ?_
 refine ai.val rfl (ae rfl) rfl ?_
 refine ai.aT 3 60 (.d (.bool ((z52 == 2) || (z52 == 3)))) ?_ ?_
 ·
  rcases Bool.eq_false_or_eq_true ((z52 == 2)) with hB53 | hB53
  ·
   refine ai.bool hB53 ?_
   refine ai.no rfl rfl ?_
   refine ai.no rfl rfl ?_
   refine ai.val rfl (au (b:=true) rfl rfl) rfl ?_
   exact ai.nil ⟨_,rfl,(aa.put (aa.push rfl (aa.push rfl (aa.put (.refl _) (Less.eq (by rw [hB53]))))) (Less.eq (by rw [hB53]; rw [Bool.true_or])))⟩
  refine ai.bool hB53 ?_
  refine ai.val rfl (ae rfl) rfl ?_
  refine ai.val rfl (ak rfl rfl cZ) rfl ?_
  refine ai.val rfl (au (b:=false) rfl rfl) rfl ?_
  exact ai.nil ⟨_,rfl,(aa.put (aa.push rfl (aa.push rfl (aa.put (.refl _) (Less.eq (by rw [hB53]))))) (Less.eq (by rw [hB53]; rw [Bool.false_or])))⟩
 refine ai.nil ?_
 refine aj.cond rfl (fun hb54=>?_) (fun hb54=>?_)
 ·
  replace h:=bg hb54 h
  refine aj.region E.obj rfl ?_
  refine ai.val rfl (ae rfl) rfl ?_
  refine ai.val rfl (ae rfl) rfl ?_
  refine ai.val rfl (dw (cs:=[(.d (.int .i64 z52)),(.d (.str [108,97,115,116]))]) nZ rfl (gD) (fA rfl rfl rfl rfl (fA rfl rfl rfl rfl rfl))) rfl ?_
  refine ai.less (Less.agg' (d:=aJ (Seg.mk z52 [108,97,115,116])) (aU.eq rfl (aU.eq rfl .nil)) ((Seg.eq _).trans rfl)) ?_
  refine ai.val rfl (aK (vs:=[(.d (aJ (Seg.mk z52 [108,97,115,116])))]) (ds:=[(aJ (Seg.mk z52 [108,97,115,116]))]) Cs qm ql nZ iD rfl (by decide) (.cons rfl (Seg.len _) .nil) rfl (by intro d hd; simp only [List.mem_cons,List.not_mem_nil,or_false] at hd; rcases hd with rfl <;> exact Seg.agg _) rfl) rfl ?_
  obtain ⟨z55,hzz55,h⟩:=bind_some h
  refine ai.append (xs:=(x14).map aJ) (ys:=([(Seg.mk z52 [108,97,115,116])]).map aJ) (zs:=(z55).map aJ) H13 rfl rfl rfl (i:=1) rfl rfl Cs Fs qm (dC hzz55) Fj rfl (aQ (enc:=aJ) (fun z=>(Seg.len z).trans iD.symm) _) (aQ (enc:=aJ) (fun z=>(Seg.len z).trans iD.symm) _) ER rfl (gB hzz55) (fun v56 S57 H58=>?_)
  refine ai.val rfl (ah rfl) rfl ?_
  refine ai.nil ?_
  exact ⟨⟨z55,v56⟩,_,_,S57,.refl _ _,.refl _,(aa.r rfl aa.nil),H58.sl [1] rfl rfl,h⟩
 replace h:=aZ hb54 h
 refine aj.skip ?_
 exact ⟨⟨x14,v15⟩,_,_,S12,.refl _ _,.refl _,(aa.r rfl aa.nil),H13.sl [1] rfl rfl,h⟩
set_option maxRecDepth 20000 in
set_option maxHeartbeats 4000000 in
theorem oV (n:Nat)  (r:(List Str)) (h:iT n  = some r):aY R cfg.P 17 [] (.d (.sl ((r).map D.str) false)):=by
 unfold iT at h
 refine aY.of_wp E.obj.toObjOk (C:=cfg) Tryd.func17 rfl GA rfl ?_
 have H0:Has ay ay []:=Has.pure
 refine aj.seq ?_
 refine aj.region E.obj rfl ?_
 refine ai.val rfl (ah rfl) rfl ?_
 refine ai.nil ?_
 refine aj.seq ?_
 refine aj.region E.obj rfl ?_
 refine ai.val rfl (aK (vs:=[(.d (.str [97])),(.d (.str [98])),(.d (.str [105,116,101,109])),(.d (.str [120,32,121])),(.d (.str [37])),(.d (.str [97,47,98])),(.d (.str [46,46])),(.d (.str [122])),(.d (.str [49])),(.d (.str [108,105,115,116])),(.d (.str [255])),(.d (.str [63,61,38]))]) (ds:=[(.str [97]),(.str [98]),(.str [105,116,101,109]),(.str [120,32,121]),(.str [37]),(.str [97,47,98]),(.str [46,46]),(.str [122]),(.str [49]),(.str [108,105,115,116]),(.str [255]),(.str [63,61,38])]) kM gV j5 BP kg rfl (by decide) (.cons rfl rfl (.cons rfl rfl (.cons rfl rfl (.cons rfl rfl (.cons rfl rfl (.cons rfl rfl (.cons rfl rfl (.cons rfl rfl (.cons rfl rfl (.cons rfl rfl (.cons rfl rfl (.cons rfl rfl .nil)))))))))))) rfl (by intro d hd; simp only [List.mem_cons,List.not_mem_nil,or_false] at hd; rcases hd with rfl | rfl | rfl | rfl | rfl | rfl | rfl | rfl | rfl | rfl | rfl | rfl <;> rfl) rfl) rfl ?_
 refine ai.val rfl (ah rfl) rfl ?_
 refine ai.nil ?_
 have hr:=Option.some.inj h
 subst hr
 exact aj.ret ⟨_,rfl,rfl,eG (av.fw rfl (.nU _ _) .nil)⟩
set_option maxRecDepth 20000 in
set_option maxHeartbeats 4000000 in
theorem nG (n:Nat) (a1:iO) (r:kK) (h:fP n a1=some r):aY R cfg.P 7 [(lT a1)] (.d (kQ r)):=by
 unfold fP at h
 refine aY.of_wp E.obj.toObjOk (C:=cfg) Tryd.func7 rfl Ij rfl ?_
 have H0:Has ay ay []:=Has.pure
 refine aj.seq ?_
 refine aj.region E.obj rfl ?_
 refine ai.box H0 rfl rfl rfl (iO.eO _) rfl (fun b2 S3 H4=>?_)
 refine ai.alloc H4 rfl F5 CY rfl rfl (fun b5 S6 H7=>?_)
 refine ai.nil ?_
 refine aj.seq ?_
 refine aj.region E.obj rfl ?_
 obtain ⟨z8,hzz8,h⟩:=bind_some h
 refine ai.ret rfl (aA rfl rfl) (oV E _  _ hzz8 _ _ .nil) rfl ?_
 refine ai.val rfl (ah rfl) rfl ?_
 refine ai.nil ?_
 refine aj.seq ?_
 refine aj.region E.obj rfl ?_
 refine ai.alloc H7 rfl F5 CY rfl rfl (fun b9 S10 H11=>?_)
 refine ai.nil ?_
 refine aj.seq ?_
 refine aj.seq ?_
 refine aj.region E.obj rfl ?_
 refine ai.val rfl (ah rfl) rfl ?_
 refine ai.nil ?_
 refine aj.block ?_
 have H76:=H11.rQ
 refine kS.start (B:=ay) (α:=(List Str) × AV × Int) (fun k a=>bS n a1 z8 k a.1 a.2.2=some r) (fun a=>[(1,(.ptr b2 0 0)),(2,(.ptr b5 0 0)),(3,(.d (.sl ((z8).map D.str) false))),(4,(.ptr b9 0 0)),(5,(.d (.int .i64 a.2.2)))]) (fun a=>[.box b9 [a.2.1,(.d .bJ)],.box b5 [(.d .bJ),(.d .bJ)],.box b2 [(.d (.sl ((a1.Path).map (D.int .i64)) false)),(.d (.sl ((a1.Names).map (D.int .i64)) false)),(.d (.sl ((a1.Values).map (D.int .i64)) false))],.grow a.2.1 ((a.1).map D.str)]) ?_ ?_ n ⟨⟨[],(.d .bJ),0⟩,_,_,S10,.refl _ _,.refl _,(aa.r rfl (aa.r rfl (aa.r rfl (aa.r rfl (aa.r rfl aa.nil))))),H76.sl [1,2,3,0] rfl rfl,h⟩
 ·
  intro a h; simp [bS] at h
 intro k24 a S19 H20 h
 obtain ⟨x21,v22,x23⟩:=a
 replace h:bS n a1 z8 (k24 + 1) x21 x23=some r:=h
 replace H20:Has ay S19 [.box b9 [v22,(.d .bJ)],.box b5 [(.d .bJ),(.d .bJ)],.box b2 [(.d (.sl ((a1.Path).map (D.int .i64)) false)),(.d (.sl ((a1.Names).map (D.int .i64)) false)),(.d (.sl ((a1.Values).map (D.int .i64)) false))],.grow v22 ((x21).map D.str)]:=H20
 unfold bS at h
 refine aj.seq ?_
 refine aj.seq ?_
 refine aj.region E.obj rfl ?_
 refine ai.val rfl (ae rfl) rfl ?_
 refine ai.val rfl (ax rfl DC wM rfl) rfl ?_
 refine ai.val rfl (aB H20 (i:=2) rfl rfl (aG wG rfl)) rfl ?_
 refine ai.val rfl (aI rfl DT) rfl ?_
 refine ai.val rfl (ak rfl rfl bE) rfl ?_
 refine ai.val rfl (ae rfl) rfl ?_
 refine ai.aT 3 16 (.d (.bool ((decide (x23 < ((a1.Path).length:Int))) && (decide (x23 < 5))))) ?_ ?_
 ·
  rcases Bool.eq_false_or_eq_true ((decide (x23 < ((a1.Path).length:Int)))) with hB25 | hB25
  ·
   refine ai.bool hB25 ?_
   refine ai.val rfl (ae rfl) rfl ?_
   refine ai.val rfl (ak rfl rfl bE) rfl ?_
   refine ai.val rfl (au (b:=true) rfl rfl) rfl ?_
   exact ai.nil ⟨_,rfl,(aa.put (aa.push rfl (aa.push rfl (aa.put (.refl _) (Less.eq (by rw [hB25]))))) (Less.eq (by rw [hB25]; rw [Bool.true_and])))⟩
  refine ai.bool hB25 ?_
  refine ai.no rfl rfl ?_
  refine ai.no rfl rfl ?_
  refine ai.val rfl (au (b:=false) rfl rfl) rfl ?_
  exact ai.nil ⟨_,rfl,(aa.put (aa.push rfl (aa.push rfl (aa.put (.refl _) (Less.eq (by rw [hB25]))))) (Less.eq (by rw [hB25]; rw [Bool.false_and])))⟩
 refine ai.nil ?_
 refine aj.cond rfl (fun hb26=>?_) (fun hb26=>?_)
 ·
  replace h:=bg hb26 h
  refine aj.skip ?_
  refine aj.seq ?_
  refine aj.block ?_
  obtain ⟨z27,hzz27,h⟩:=bind_some h
  obtain ⟨z28,hzz28,h⟩:=bind_some h
  obtain ⟨z29,hzz29,h⟩:=bind_some h
  obtain ⟨z30,hzz30,h⟩:=bind_some h
  refine aj.l6 E.obj qH Iz [(1,none),(2,none),(3,none),(4,none),(5,none)] (by kernel_rfl) [15,17] (by decide) [some (.ptr b9 0 0),some v22,some (.d (.sl ((z8).map D.str) false)),some (.ptr b2 0 0),some (.d (.sl ((a1.Path).map (D.int .i64)) false)),some (.d (.int .i64 x23)),some (.eptr (.int .i64 z27) 0),some (.d (.int .i64 z27)),some (.d (.sl ((z8).map D.str) false)),some (.d (.int .i64 ((z8).length:Int))),some (.d (.int .i64 (IntKind.wrap .i64 (((z8).length:Int) - 1)))),some (.d (.int .i64 z28)),some (.eptr (.str z29) 0),some (.d (.str z29)),some (.d (.sl (([z29]).map D.str) true)),none,none,none] ?_
  refine ⟨[0,1,2,3,4,5,6,7,8,9,10,11,12,13,14],by kernel_rfl,?_,_,_,rfl,rfl,.step ?_⟩
  ·
   refine .v rfl rfl rfl rfl (ax rfl qC Ce rfl) ?_
   refine .v rfl rfl rfl rfl (aB H20 (i:=0) rfl rfl (aG Cy rfl)) ?_
   refine .v rfl rfl rfl rfl (ae rfl) ?_
   refine .v rfl rfl rfl rfl (ax rfl DC wM rfl) ?_
   refine .v rfl rfl rfl rfl (aB H20 (i:=2) rfl rfl (aG wG rfl)) ?_
   refine .v rfl rfl rfl rfl (ae rfl) ?_
   refine .v rfl rfl rfl rfl (bO rfl rfl (df (enc:=(D.int .i64)) hzz27 Ei FO (((fun _=>rfl) _).trans FP.symm))) ?_
   refine .v rfl rfl rfl rfl (aX rfl (dB qF rfl)) ?_
   refine .v rfl rfl rfl rfl (ae rfl) ?_
   refine .v rfl rfl rfl rfl (aI rfl kI) ?_
   refine .v rfl rfl rfl rfl (ak rfl rfl fM) ?_
   refine .cons rfl rfl rfl (.step ?_) ?_
   ·
    refine ai.ret rfl (aA rfl rfl) (dA E _ _ _ _ _ hzz28 _ _ (av.eq (av.eq (av.eq .nil)))) rfl ?_
    exact ai.nil ⟨_,_,rfl,fun _ ht=>by cases ht; exact ⟨rfl,.refl _⟩⟩
   refine .v rfl rfl rfl rfl (bO rfl rfl (df (enc:=D.str) hzz29 gV yS (((fun _=>rfl) _).trans kg.symm))) ?_
   refine .v rfl rfl rfl rfl (aX rfl (dB j5 rfl)) ?_
   refine .v rfl rfl rfl rfl (aK (vs:=[(.d (.str z29))]) (ds:=[(.str z29)]) kM gV j5 BP kg rfl (by decide) (.cons rfl rfl .nil) rfl (by intro d hd; simp only [List.mem_cons,List.not_mem_nil,or_false] at hd; rcases hd with rfl <;> rfl) rfl) ?_
   exact .nil
  refine ai.append (xs:=(x21).map D.str) (ys:=([z29]).map D.str) (zs:=(z30).map D.str) H20 rfl rfl rfl (i:=3) rfl rfl kM u7 gV (dC hzz30) DJ rfl (aQ (enc:=D.str) (fun _=>kg.symm) _) (aQ (enc:=D.str) (fun _=>kg.symm) _) DL rfl (gB hzz30) (fun v36 S37 H38=>?_)
  refine ai.nil ⟨_,_,_,rfl,(fun _ ht=>by cases ht; rfl),_,(.q (.q (.q (.o (.o (.o (.w v36 (.w (.ptr b9 0 0) (.n .nil))))))))),(fun _ ht=>by cases ht; exact ⟨_,rfl,.refl _⟩),?_⟩
  refine ⟨[16],by kernel_rfl,?_,_,_,rfl,rfl,.step ?_⟩
  ·
   refine .v rfl rfl rfl rfl (ax rfl qC Ce rfl) ?_
   exact .nil
  refine ai.store H38 (i:=0) rfl rfl rfl rfl (oI (H38.at (i:=3) rfl)).2.2.2.2 rfl GX (oI (H38.at (i:=3) rfl)).2.2.2.1 HZ rfl rfl rfl (fun S39 H40=>?_)
  refine ai.nil ⟨_,.any,_,rfl,(fun _ ht=>by cases ht),_,(.q (.q (.q (.q (.o (.w .any .nil)))))),(fun _ ht=>by cases ht),?_⟩
  refine ⟨[],by kernel_rfl,?_,_,rfl,?_⟩
  ·
   exact .nil
  refine aj.region E.obj rfl ?_
  refine ai.val rfl (ae rfl) rfl ?_
  refine ai.val rfl (ak rfl rfl bf) rfl ?_
  refine ai.val rfl (ah rfl) rfl ?_
  refine ai.nil ?_
  exact ⟨⟨z30,v36,(IntKind.wrap .i64 (x23 + 1))⟩,_,_,S39,.refl _ _,.refl _,(aa.r rfl (aa.r rfl (aa.r rfl (aa.r rfl (aa.r rfl aa.nil))))),H40.sl [0,1,2,3] rfl rfl,h⟩
 replace h:=aZ hb26 h
 refine aj.exit ?_
 refine aj.seq ?_
 refine aj.seq ?_
 refine aj.region E.obj rfl ?_
 refine ai.val rfl (ah rfl) rfl ?_
 refine ai.nil ?_
 refine aj.block ?_
 have H75:=H20.rQ
 refine kS.start (B:=ay) (α:=(List aD) × AV × Int) (fun k a=>bR n a1 z8 x21 k a.1 a.2.2=some r) (fun a=>[(1,(.ptr b2 0 0)),(2,(.ptr b5 0 0)),(3,(.d (.sl ((z8).map D.str) false))),(4,(.ptr b9 0 0)),(6,(.d (.int .i64 a.2.2)))]) (fun a=>[.box b9 [v22,a.2.1],.box b5 [(.d .bJ),(.d .bJ)],.box b2 [(.d (.sl ((a1.Path).map (D.int .i64)) false)),(.d (.sl ((a1.Names).map (D.int .i64)) false)),(.d (.sl ((a1.Values).map (D.int .i64)) false))],.grow v22 ((x21).map D.str),.grow a.2.1 ((a.1).map az)]) ?_ ?_ n ⟨⟨[],(.d .bJ),0⟩,_,_,S19,.refl _ _,.refl _,(aa.r rfl (aa.r rfl (aa.r rfl (aa.r rfl (aa.r rfl aa.nil))))),H75.sl [1,2,3,4,0] rfl rfl,h⟩
 ·
  intro a h; simp [bR] at h
 intro k53 a S48 H49 h
 obtain ⟨x50,v51,x52⟩:=a
 replace h:bR n a1 z8 x21 (k53 + 1) x50 x52=some r:=h
 replace H49:Has ay S48 [.box b9 [v22,v51],.box b5 [(.d .bJ),(.d .bJ)],.box b2 [(.d (.sl ((a1.Path).map (D.int .i64)) false)),(.d (.sl ((a1.Names).map (D.int .i64)) false)),(.d (.sl ((a1.Values).map (D.int .i64)) false))],.grow v22 ((x21).map D.str),.grow v51 ((x50).map az)]:=H49
 unfold bR at h
 refine aj.seq ?_
 refine aj.seq ?_
 refine aj.region E.obj rfl ?_
 refine ai.val rfl (ae rfl) rfl ?_
 refine ai.val rfl (ax rfl Eg wM rfl) rfl ?_
 refine ai.val rfl (aB H49 (i:=2) rfl rfl (aG wG rfl)) rfl ?_
 refine ai.val rfl (aI rfl DT) rfl ?_
 refine ai.val rfl (ak rfl rfl bE) rfl ?_
 refine ai.val rfl (ae rfl) rfl ?_
 refine ai.aT 3 44 (.d (.bool ((decide (x52 < ((a1.Names).length:Int))) && (decide (x52 < 3))))) ?_ ?_
 ·
  rcases Bool.eq_false_or_eq_true ((decide (x52 < ((a1.Names).length:Int)))) with hB54 | hB54
  ·
   refine ai.bool hB54 ?_
   refine ai.val rfl (ae rfl) rfl ?_
   refine ai.val rfl (ak rfl rfl bE) rfl ?_
   refine ai.val rfl (au (b:=true) rfl rfl) rfl ?_
   exact ai.nil ⟨_,rfl,(aa.put (aa.push rfl (aa.push rfl (aa.put (.refl _) (Less.eq (by rw [hB54]))))) (Less.eq (by rw [hB54]; rw [Bool.true_and])))⟩
  refine ai.bool hB54 ?_
  refine ai.no rfl rfl ?_
  refine ai.no rfl rfl ?_
  refine ai.val rfl (au (b:=false) rfl rfl) rfl ?_
  exact ai.nil ⟨_,rfl,(aa.put (aa.push rfl (aa.push rfl (aa.put (.refl _) (Less.eq (by rw [hB54]))))) (Less.eq (by rw [hB54]; rw [Bool.false_and])))⟩
 refine ai.nil ?_
 refine aj.cond rfl (fun hb55=>?_) (fun hb55=>?_)
 ·
  replace h:=bg hb55 h
  refine aj.skip ?_
  refine aj.seq ?_
  refine aj.block ?_
  obtain ⟨z56,hzz56,h⟩:=bind_some h
  obtain ⟨z57,hzz57,h⟩:=bind_some h
  obtain ⟨z58,hzz58,h⟩:=bind_some h
  obtain ⟨z59,hzz59,h⟩:=bind_some h
  obtain ⟨z60,hzz60,h⟩:=bind_some h
  obtain ⟨z61,hzz61,h⟩:=bind_some h
  obtain ⟨z62,hzz62,h⟩:=bind_some h
  refine aj.l6 E.obj qH Ih [(1,none),(2,none),(3,none),(4,none),(6,none)] (by kernel_rfl) [27,29] (by decide) [some (.ptr b9 0 1),some v51,some (.d (.sl ((z8).map D.str) false)),some (.ptr b2 0 1),some (.d (.sl ((a1.Names).map (D.int .i64)) false)),some (.d (.int .i64 x52)),some (.eptr (.int .i64 z56) 0),some (.d (.int .i64 z56)),some (.d (.sl ((z8).map D.str) false)),some (.d (.int .i64 ((z8).length:Int))),some (.d (.int .i64 (IntKind.wrap .i64 (((z8).length:Int) - 1)))),some (.d (.int .i64 z57)),some (.eptr (.str z58) 0),some (.d (.str z58)),some (.d (.sl ((z8).map D.str) false)),some (.ptr b2 0 2),some (.d (.sl ((a1.Values).map (D.int .i64)) false)),some (.d (.int .i64 x52)),some (.d (.int .i64 z59)),some (.d (.sl ((z8).map D.str) false)),some (.d (.int .i64 ((z8).length:Int))),some (.d (.int .i64 (IntKind.wrap .i64 (((z8).length:Int) - 1)))),some (.d (.int .i64 z60)),some (.eptr (.str z61) 0),some (.d (.str z61)),some (.d (az (aD.mk z58 z61))),some (.d (.sl (([(aD.mk z58 z61)]).map az) true)),none,none,none] ?_
  refine ⟨[0,1,2,3,4,5,6,7,8,9,10,11,12,13,14,15,16,17,18,19,20,21,22,23,24,25,26],by kernel_rfl,?_,_,_,rfl,rfl,.step ?_⟩
  ·
   refine .v rfl rfl rfl rfl (ax rfl qy Bb rfl) ?_
   refine .v rfl rfl rfl rfl (aB H49 (i:=0) rfl rfl (aG BS rfl)) ?_
   refine .v rfl rfl rfl rfl (ae rfl) ?_
   refine .v rfl rfl rfl rfl (ax rfl Eg wM rfl) ?_
   refine .v rfl rfl rfl rfl (aB H49 (i:=2) rfl rfl (aG wG rfl)) ?_
   refine .v rfl rfl rfl rfl (ae rfl) ?_
   refine .v rfl rfl rfl rfl (bO rfl rfl (df (enc:=(D.int .i64)) hzz56 Ei FO (((fun _=>rfl) _).trans FP.symm))) ?_
   refine .v rfl rfl rfl rfl (aX rfl (dB qF rfl)) ?_
   refine .v rfl rfl rfl rfl (ae rfl) ?_
   refine .v rfl rfl rfl rfl (aI rfl kI) ?_
   refine .v rfl rfl rfl rfl (ak rfl rfl fM) ?_
   refine .cons rfl rfl rfl (.step ?_) ?_
   ·
    refine ai.ret rfl (aA rfl rfl) (dA E _ _ _ _ _ hzz57 _ _ (av.eq (av.eq (av.eq .nil)))) rfl ?_
    exact ai.nil ⟨_,_,rfl,fun _ ht=>by cases ht; exact ⟨rfl,.refl _⟩⟩
   refine .v rfl rfl rfl rfl (bO rfl rfl (df (enc:=D.str) hzz58 gV yS (((fun _=>rfl) _).trans kg.symm))) ?_
   refine .v rfl rfl rfl rfl (aX rfl (dB j5 rfl)) ?_
   refine .v rfl rfl rfl rfl (ae rfl) ?_
   refine .v rfl rfl rfl rfl (ax rfl Ff wM rfl) ?_
   refine .v rfl rfl rfl rfl (aB H49 (i:=2) rfl rfl (aG wG rfl)) ?_
   refine .v rfl rfl rfl rfl (ae rfl) ?_
   refine .cons rfl rfl rfl (.step ?_) ?_
   ·
    refine ai.ret rfl (aA rfl rfl) (jl E _ _ _ _ hzz59 _ _ (av.eq (av.eq .nil))) rfl ?_
    exact ai.nil ⟨_,_,rfl,fun _ ht=>by cases ht; exact ⟨rfl,.refl _⟩⟩
   refine .v rfl rfl rfl rfl (ae rfl) ?_
   refine .v rfl rfl rfl rfl (aI rfl kI) ?_
   refine .v rfl rfl rfl rfl (ak rfl rfl fM) ?_
   refine .cons rfl rfl rfl (.step ?_) ?_
   ·
    refine ai.ret rfl (aA rfl rfl) (dA E _ _ _ _ _ hzz60 _ _ (av.eq (av.eq (av.eq .nil)))) rfl ?_
    exact ai.nil ⟨_,_,rfl,fun _ ht=>by cases ht; exact ⟨rfl,.refl _⟩⟩
   refine .v rfl rfl rfl rfl (bO rfl rfl (df (enc:=D.str) hzz61 gV yS (((fun _=>rfl) _).trans kg.symm))) ?_
   refine .v rfl rfl rfl rfl (aX rfl (dB j5 rfl)) ?_
   refine .cons rfl rfl rfl (.step ?_) ?_
   ·
    refine ai.val rfl (dw (cs:=[(.d (.str z58)),(.d (.str z61))]) lg rfl (dX) (fA rfl rfl rfl rfl (fA rfl rfl rfl rfl rfl))) rfl ?_
    refine ai.less (Less.agg' (d:=az (aD.mk z58 z61)) (aU.eq rfl (aU.eq rfl .nil)) ((aD.eq _).trans rfl)) ?_
    exact ai.nil ⟨_,_,rfl,fun _ ht=>by cases ht; exact ⟨rfl,.refl _⟩⟩
   refine .v rfl rfl rfl rfl (aK (vs:=[(.d (az (aD.mk z58 z61)))]) (ds:=[(az (aD.mk z58 z61))]) rU mI qg lg iL rfl (by decide) (.cons rfl (aD.len _) .nil) rfl (by intro d hd; simp only [List.mem_cons,List.not_mem_nil,or_false] at hd; rcases hd with rfl <;> exact aD.agg _) rfl) ?_
   exact .nil
  refine ai.append (xs:=(x50).map az) (ys:=([(aD.mk z58 z61)]).map az) (zs:=(z62).map az) H49 rfl rfl rfl (i:=4) rfl rfl rU Dw mI (dC hzz62) DF rfl (aQ (enc:=az) (fun z=>(aD.len z).trans iL.symm) _) (aQ (enc:=az) (fun z=>(aD.len z).trans iL.symm) _) DN rfl (gB hzz62) (fun v68 S69 H70=>?_)
  refine ai.nil ⟨_,_,_,rfl,(fun _ ht=>by cases ht; rfl),_,(.q (.q (.q (.q (.q (.q (.o (.o (.o (.w v68 (.w (.ptr b9 0 1) (.n .nil)))))))))))),(fun _ ht=>by cases ht; exact ⟨_,rfl,.refl _⟩),?_⟩
  refine ⟨[28],by kernel_rfl,?_,_,_,rfl,rfl,.step ?_⟩
  ·
   refine .v rfl rfl rfl rfl (ax rfl qy Bb rfl) ?_
   exact .nil
  refine ai.store H70 (i:=0) rfl rfl rfl rfl (oI (H70.at (i:=4) rfl)).2.2.2.2 rfl HY (oI (H70.at (i:=4) rfl)).2.2.2.1 GZ rfl rfl rfl (fun S71 H72=>?_)
  refine ai.nil ⟨_,.any,_,rfl,(fun _ ht=>by cases ht),_,(.q (.q (.q (.q (.q (.q (.q (.o (.w .any .nil))))))))),(fun _ ht=>by cases ht),?_⟩
  refine ⟨[],by kernel_rfl,?_,_,rfl,?_⟩
  ·
   exact .nil
  refine aj.region E.obj rfl ?_
  refine ai.val rfl (ae rfl) rfl ?_
  refine ai.val rfl (ak rfl rfl bf) rfl ?_
  refine ai.val rfl (ah rfl) rfl ?_
  refine ai.nil ?_
  exact ⟨⟨z62,v68,(IntKind.wrap .i64 (x52 + 1))⟩,_,_,S71,.refl _ _,.refl _,(aa.r rfl (aa.r rfl (aa.r rfl (aa.r rfl (aa.r rfl aa.nil))))),H72.sl [0,1,2,3,4] rfl rfl,h⟩
 replace h:=aZ hb55 h
 refine aj.exit ?_
 refine aj.seq ?_
 refine aj.region E.obj rfl ?_
 refine ai.val rfl (aB H49 (i:=0) rfl rfl (jQ FV Fq rfl)) rfl ?_
 refine ai.less (Less.agg' (d:=kQ (kK.mk x21 x50)) (aU.grow H49 (i:=3) rfl (aU.grow H49 (i:=4) rfl .nil)) ((kK.eq _).trans rfl)) ?_
 refine ai.store H49 (i:=1) rfl rfl rfl rfl (kK.eO _) rfl Fq rfl Gx rfl rfl rfl (fun S73 H74=>?_)
 refine ai.nil ?_
 have hr:=Option.some.inj h
 subst hr
 exact aj.ret ⟨_,jr H74 (i:=1) rfl rfl rfl (jQ FV Fq rfl),rfl,eG (av.oP (d:=kQ (kK.mk x21 x50)) (aU.eq rfl (aU.eq rfl .nil)) ((kK.eq _).trans rfl))⟩
set_option maxRecDepth 20000 in
set_option maxHeartbeats 4000000 in
theorem rJ (n:Nat) (a1:Str) (r:Bool) (h:jv n a1=some r):aY R cfg.P 32 [(.str a1)] (.d (.bool r)):=by
 unfold jv at h
 refine aY.of_wp E.obj.toObjOk (C:=cfg) Tryd.func32 rfl GH rfl ?_
 have H0:Has ay ay []:=Has.pure
 refine aj.seq ?_
 refine aj.region E.obj rfl ?_
 refine ai.val rfl (ah rfl) rfl ?_
 refine ai.nil ?_
 refine aj.seq ?_
 refine aj.region E.obj rfl ?_
 refine ai.val rfl (ae rfl) rfl ?_
 refine ai.val rfl (ak rfl rfl jJ) rfl ?_
 refine ai.val rfl (ae rfl) rfl ?_
 refine ai.aT 4 9 (.d (.bool ((!(a1 == [])) && (decide (((a1).length:Int) ≤ 16))))) ?_ ?_
 ·
  rcases Bool.eq_false_or_eq_true ((!(a1 == []))) with hB2 | hB2
  ·
   refine ai.bool hB2 ?_
   refine ai.val rfl (ae rfl) rfl ?_
   refine ai.val rfl (cz rfl (bQ jK) rfl) rfl ?_
   refine ai.val rfl (ak rfl rfl fQ) rfl ?_
   refine ai.val rfl (au (b:=true) rfl rfl) rfl ?_
   exact ai.nil ⟨_,rfl,(aa.put (aa.push rfl (aa.push rfl (aa.push rfl (aa.put (.refl _) (Less.eq (by rw [hB2])))))) (Less.eq (by rw [hB2]; rw [Bool.true_and])))⟩
  refine ai.bool hB2 ?_
  refine ai.no rfl rfl ?_
  refine ai.no rfl rfl ?_
  refine ai.no rfl rfl ?_
  refine ai.val rfl (au (b:=false) rfl rfl) rfl ?_
  exact ai.nil ⟨_,rfl,(aa.put (aa.push rfl (aa.push rfl (aa.push rfl (aa.put (.refl _) (Less.eq (by rw [hB2])))))) (Less.eq (by rw [hB2]; rw [Bool.false_and])))⟩
 refine ai.val rfl (ae rfl) rfl ?_
 obtain ⟨z4,hzz4,h⟩:=bind_some h
 refine ai.aT 4 14 (.d (.bool z4)) ?_ ?_
 ·
  rcases Bool.eq_false_or_eq_true (((!(a1 == [])) && (decide (((a1).length:Int) ≤ 16)))) with hB3 | hB3
  ·
   refine ai.bool hB3 ?_
   replace hzz4:=bg hB3 hzz4
   refine ai.val rfl (ae rfl) rfl ?_
   obtain ⟨z5,hzz5,hzz4⟩:=bind_some hzz4
   refine ai.ret rfl (aA rfl rfl) (E.strings_Trim_ok _ _ _ _ hzz5 _ _ (av.eq (av.eq .nil))) rfl ?_
   refine ai.val rfl (ak rfl rfl jf) rfl ?_
   refine ai.val rfl (au (b:=true) rfl rfl) rfl ?_
   cases hzz4
   exact ai.nil ⟨_,rfl,(aa.put (aa.push rfl (aa.push rfl (aa.push rfl (aa.put (.refl _) (Less.eq (by rw [hB3])))))) (.refl _))⟩
  refine ai.bool hB3 ?_
  refine ai.no rfl rfl ?_
  refine ai.no rfl rfl ?_
  refine ai.no rfl rfl ?_
  refine ai.val rfl (au (b:=false) rfl rfl) rfl ?_
  replace hzz4:=aZ hB3 hzz4
  cases hzz4
  exact ai.nil ⟨_,rfl,(aa.put (aa.push rfl (aa.push rfl (aa.push rfl (aa.put (.refl _) (Less.eq (by rw [hB3])))))) (.refl _))⟩
 refine ai.val rfl (ah rfl) rfl ?_
 refine ai.nil ?_
 have hr:=Option.some.inj h
 subst hr
 exact aj.ret ⟨_,rfl,rfl,eG (av.eq .nil)⟩
set_option maxRecDepth 20000 in
set_option maxHeartbeats 4000000 in
theorem qB (n:Nat) (a1:Seg) (a2:Seg) (S0:St) (b3:Nat) (hb4:S0.H.get b3=some (.cells 0 [(.d (.int .i64 a2.Kind)),(.d (.str a2.Text))])) (r:Bool) (h:gM n a1 a2=some r):gm R cfg.P 33 [.d (aJ a1),.ptr b3 0 0] S0 (fun o=>o=(none,.d (.bool r),S0)):=by
 unfold gM at h
 refine SpecS.of_wp (C:=cfg) Tryd.func33 rfl G9 rfl (fun wf0=>?_)
 have H0:Has S0 S0 []:=Has.start wf0
 refine aj.seq ?_
 refine aj.region E.obj rfl ?_
 refine ai.box H0 rfl rfl rfl (Seg.eO _) rfl (fun b5 S6 H7=>?_)
 refine ai.val rfl (ah rfl) rfl ?_
 refine ai.nil ?_
 refine aj.seq ?_
 refine aj.region E.obj rfl ?_
 refine ai.val rfl (ax rfl fU uf rfl) rfl ?_
 refine ai.val rfl (aB H7 (i:=0) rfl rfl (aG qF rfl)) rfl ?_
 refine ai.val rfl (ak rfl rfl iA) rfl ?_
 refine ai.val rfl (ae rfl) rfl ?_
 refine ai.aT 6 13 (.d (.bool ((a1.Kind != 0) && (a1.Text == a2.Text)))) ?_ ?_
 ·
  rcases Bool.eq_false_or_eq_true ((a1.Kind != 0)) with hB8 | hB8
  ·
   refine ai.bool hB8 ?_
   refine ai.val rfl (ax rfl jb rH rfl) rfl ?_
   refine ai.val rfl (aB H7 (i:=0) rfl rfl (aG j5 rfl)) rfl ?_
   refine ai.val rfl (ax rfl jb rH rfl) rfl ?_
   refine ai.val rfl (AQ H7 hb4 rfl (aG j5 rfl)) rfl ?_
   refine ai.val rfl (ak rfl rfl jf) rfl ?_
   refine ai.val rfl (au (b:=true) rfl rfl) rfl ?_
   exact ai.nil ⟨_,rfl,(aa.put (aa.push rfl (aa.push rfl (aa.push rfl (aa.push rfl (aa.push rfl (aa.put (.refl _) (Less.eq (by rw [hB8])))))))) (Less.eq (by rw [hB8]; rw [Bool.true_and])))⟩
  refine ai.bool hB8 ?_
  refine ai.no rfl rfl ?_
  refine ai.no rfl rfl ?_
  refine ai.no rfl rfl ?_
  refine ai.no rfl rfl ?_
  refine ai.no rfl rfl ?_
  refine ai.val rfl (au (b:=false) rfl rfl) rfl ?_
  exact ai.nil ⟨_,rfl,(aa.put (aa.push rfl (aa.push rfl (aa.push rfl (aa.push rfl (aa.push rfl (aa.put (.refl _) (Less.eq (by rw [hB8])))))))) (Less.eq (by rw [hB8]; rw [Bool.false_and])))⟩
 refine ai.val rfl (ah rfl) rfl ?_
 refine ai.nil ?_
 have hr:=Option.some.inj h
 subst hr
 exact aj.ret ⟨_,rfl,rfl,H7.keeps,eG (av.eq .nil)⟩
set_option maxRecDepth 20000 in
set_option maxHeartbeats 4000000 in
theorem ji (n:Nat) (S0:St) (a1:(List Seg)) (fg3:Nat) (fc4:List AV) (p2:Seg→Option Bool) (hpp2:∀ S',nX S0 S'→S'.Wf→∀ (y0:Seg) (r:Bool),p2 y0=some r→gm R cfg.P fg3 ([.d (aJ y0)] ++ fc4) S' (fun o=>o=(none,.d (.bool r),S'))) (r:Int) (h:dL n a1 p2=some r):gm R cfg.P 50 [.d (.sl ((a1).map aJ) false),.fn fg3 fc4] S0 (fun o=>o=(none,.d (.int .i64 r),S0)):=by
 unfold dL at h
 refine SpecS.of_wp (C:=cfg) Tryd.func50 rfl GM rfl (fun wf0=>?_)
 have H0:Has S0 S0 []:=Has.start wf0
 refine aj.seq ?_
 refine aj.region E.obj rfl ?_
 refine ai.val rfl (ah rfl) rfl ?_
 refine ai.nil ?_
 refine aj.seq ?_
 refine aj.seq ?_
 refine aj.region E.obj rfl ?_
 refine ai.val rfl (ae rfl) rfl ?_
 refine ai.val rfl (aI rfl qM) rfl ?_
 refine ai.val rfl (ae rfl) rfl ?_
 refine ai.nil ?_
 refine aj.block ?_
 refine kS.start (B:=S0) (α:=Int) (fun k a=>aP a1 p2 k a=some r) (fun a=>[(0,(.d (.sl ((a1).map aJ) false))),(1,(.fn fg3 fc4)),(7,(.d (.int .i64 ((a1).length:Int)))),(8,(.d (.int .i64 a)))]) (fun a=>[]) ?_ ?_ n ⟨0,_,_,S0,.refl _ _,.refl _,(aa.r rfl (aa.r rfl (aa.r rfl (aa.r rfl aa.nil)))),H0.sl [] rfl rfl,h⟩
 ·
  intro a h; simp [aP] at h
 intro k13 x12 S10 H11 h
 replace h:aP a1 p2 (k13 + 1) x12=some r:=h
 replace H11:Has S0 S10 []:=H11
 unfold aP at h
 refine aj.seq ?_
 refine aj.region E.obj rfl ?_
 refine ai.val rfl (ak rfl rfl bE) rfl ?_
 refine ai.nil ?_
 refine aj.seq ?_
 refine aj.cond rfl (fun hb14=>?_) (fun hb14=>?_)
 ·
  replace h:=bg hb14 h
  refine aj.skip ?_
  refine aj.seq ?_
  refine aj.block ?_
  refine aj.seq ?_
  refine aj.region E.obj rfl ?_
  refine ai.val rfl (ae rfl) rfl ?_
  refine ai.val rfl (ah rfl) rfl ?_
  refine ai.nil ?_
  refine aj.seq ?_
  refine aj.region E.obj rfl ?_
  refine ai.val rfl (ae rfl) rfl ?_
  refine ai.val rfl (ae rfl) rfl ?_
  refine ai.val rfl (ae rfl) rfl ?_
  obtain ⟨z15,hzz15,h⟩:=bind_some h
  refine ai.val rfl (bO rfl rfl (df (enc:=aJ) hzz15 qm om ((Seg.len _).trans iD.symm))) rfl ?_
  refine ai.val rfl (aX rfl (Seg.lX ql iD)) rfl ?_
  obtain ⟨z16,hzz16,h⟩:=bind_some h
  refine ai.ret rfl (Bn rfl rfl) (hpp2 _ H11.keeps H11.wf _ _ hzz16) rfl ?_
  refine ai.nil ?_
  refine aj.cond rfl (fun hb17=>?_) (fun hb17=>?_)
  ·
   replace h:=bg hb17 h
   refine aj.seq ?_
   refine aj.region E.obj rfl ?_
   refine ai.val rfl (ae rfl) rfl ?_
   refine ai.val rfl (ah rfl) rfl ?_
   refine ai.nil ?_
   have hr:=Option.some.inj h
   subst hr
   exact aj.ret ⟨_,rfl,rfl,H11.keeps,eG (av.eq .nil)⟩
  replace h:=aZ hb17 h
  refine aj.skip ?_
  refine aj.region E.obj rfl ?_
  refine ai.val rfl (ak rfl rfl bf) rfl ?_
  refine ai.val rfl (ae rfl) rfl ?_
  refine ai.nil ?_
  exact ⟨(IntKind.wrap .i64 (x12 + 1)),_,_,S10,.refl _ _,.refl _,(aa.r rfl (aa.r rfl (aa.r rfl (aa.r rfl aa.nil)))),H11.sl [] rfl rfl,h⟩
 replace h:=aZ hb14 h
 refine aj.exit ?_
 refine aj.seq ?_
 refine aj.region E.obj rfl ?_
 refine ai.val rfl (ah rfl) rfl ?_
 refine ai.nil ?_
 have hr:=Option.some.inj h
 subst hr
 exact aj.ret ⟨_,rfl,rfl,H11.keeps,eG (av.eq .nil)⟩
set_option maxRecDepth 20000 in
set_option maxHeartbeats 4000000 in
theorem iQ (n:Nat) (S0:St) (a1:(List Seg)) (fg3:Nat) (fc4:List AV) (p2:Seg→Option Bool) (hpp2:∀ S',nX S0 S'→S'.Wf→∀ (y0:Seg) (r:Bool),p2 y0=some r→gm R cfg.P fg3 ([.d (aJ y0)] ++ fc4) S' (fun o=>o=(none,.d (.bool r),S'))) (r:Bool) (h:bH n a1 p2=some r):gm R cfg.P 34 [.d (.sl ((a1).map aJ) false),.fn fg3 fc4] S0 (fun o=>o=(none,.d (.bool r),S0)):=by
 unfold bH at h
 refine SpecS.of_wp (C:=cfg) Tryd.func34 rfl Hd rfl (fun wf0=>?_)
 have H0:Has S0 S0 []:=Has.start wf0
 refine aj.seq ?_
 refine aj.region E.obj rfl ?_
 refine ai.val rfl (ah rfl) rfl ?_
 refine ai.nil ?_
 refine aj.seq ?_
 refine aj.region E.obj rfl ?_
 refine ai.val rfl (ae rfl) rfl ?_
 refine ai.val rfl (ae rfl) rfl ?_
 obtain ⟨z6,hzz6,h⟩:=bind_some h
 refine ai.ret rfl (aA rfl rfl) (gm.DV (ji E n S0 _ _ _ p2 (fun S' hk hw y5 r hr=>hpp2 S' (H0.keeps.trans hk) hw y5 r hr) _ hzz6) (.cons (.refl _) (.cons (.refl _) .nil))) rfl ?_
 refine ai.val rfl (ak rfl rfl dN) rfl ?_
 refine ai.val rfl (ah rfl) rfl ?_
 refine ai.nil ?_
 have hr:=Option.some.inj h
 subst hr
 exact aj.ret ⟨_,rfl,rfl,H0.keeps,eG (av.eq .nil)⟩
set_option maxRecDepth 20000 in
set_option maxHeartbeats 4000000 in
theorem jk (n:Nat) (a1:(List Seg)) (r:Bool) (h:fZ n a1=some r):aY R cfg.P 13 [(.sl ((a1).map aJ) false)] (.d (.bool r)):=by
 unfold fZ at h
 refine aY.of_wp E.obj.toObjOk (C:=cfg) Tryd.func13 rfl Gs rfl ?_
 have H0:Has ay ay []:=Has.pure
 refine aj.seq ?_
 refine aj.region E.obj rfl ?_
 refine ai.val rfl (ah rfl) rfl ?_
 refine ai.nil ?_
 refine aj.seq ?_
 refine aj.seq ?_
 refine aj.region E.obj rfl ?_
 refine ai.val rfl (ae rfl) rfl ?_
 refine ai.val rfl (aI rfl qM) rfl ?_
 refine ai.val rfl (ak rfl rfl fO) rfl ?_
 refine ai.nil ?_
 refine aj.cond rfl (fun hb2=>?_) (fun hb2=>?_)
 ·
  replace h:=bg hb2 h
  refine aj.seq ?_
  refine aj.region E.obj rfl ?_
  refine ai.val rfl (ah rfl) rfl ?_
  refine ai.nil ?_
  have hr:=Option.some.inj h
  subst hr
  exact aj.ret ⟨_,rfl,rfl,eG (av.eq .nil)⟩
 replace h:=aZ hb2 h
 refine aj.skip ?_
 refine aj.seq ?_
 refine aj.seq ?_
 refine aj.region E.obj rfl ?_
 refine ai.val rfl (ae rfl) rfl ?_
 refine ai.val rfl (aI rfl qM) rfl ?_
 refine ai.val rfl (ae rfl) rfl ?_
 refine ai.nil ?_
 refine aj.block ?_
 refine kS.start (B:=ay) (α:=Int) (fun k a=>dS n a1 k a=some r) (fun a=>[(0,(.d (.sl ((a1).map aJ) false))),(10,(.d (.sl ((a1).map aJ) false))),(11,(.d (.int .i64 ((a1).length:Int)))),(12,(.d (.int .i64 a)))]) (fun a=>[]) ?_ ?_ n ⟨0,_,_,ay,.refl _ _,.refl _,(aa.r rfl (aa.r rfl (aa.r rfl (aa.r rfl aa.nil)))),H0.sl [] rfl rfl,h⟩
 ·
  intro a h; simp [dS] at h
 intro k11 x10 S8 H9 h
 replace h:dS n a1 (k11 + 1) x10=some r:=h
 replace H9:Has ay S8 []:=H9
 unfold dS at h
 refine aj.seq ?_
 refine aj.region E.obj rfl ?_
 refine ai.val rfl (ak rfl rfl bE) rfl ?_
 refine ai.nil ?_
 refine aj.seq ?_
 refine aj.cond rfl (fun hb12=>?_) (fun hb12=>?_)
 ·
  replace h:=bg hb12 h
  refine aj.skip ?_
  refine aj.seq ?_
  refine aj.block ?_
  refine aj.seq ?_
  refine aj.region E.obj rfl ?_
  refine ai.val rfl (ae rfl) rfl ?_
  obtain ⟨z13,hzz13,h⟩:=bind_some h
  refine ai.val rfl (bO rfl rfl (df (enc:=aJ) hzz13 qm om ((Seg.len _).trans iD.symm))) rfl ?_
  refine ai.val rfl (aX rfl (Seg.lX ql iD)) rfl ?_
  refine ai.alloc H9 rfl zF nZ rfl rfl (fun b14 S15 H16=>?_)
  refine ai.val rfl (ah rfl) rfl ?_
  refine ai.store H16 (i:=0) rfl rfl rfl rfl (Seg.eO _) rfl iD rfl om rfl rfl rfl (fun S17 H18=>?_)
  refine ai.nil ?_
  refine aj.seq ?_
  refine aj.region E.obj rfl ?_
  refine ai.val rfl (ae rfl) rfl ?_
  refine ai.val rfl (ae rfl) rfl ?_
  refine ai.val rfl (aI rfl qM) rfl ?_
  refine ai.val rfl (ak rfl rfl fM) rfl ?_
  refine ai.val rfl (ak rfl rfl cZ) rfl ?_
  refine ai.val rfl (ah rfl) rfl ?_
  refine ai.nil ?_
  refine aj.seq ?_
  refine aj.block ?_
  refine aj.seq ?_
  refine aj.region E.obj rfl ?_
  refine ai.val rfl (ax rfl jb rH rfl) rfl ?_
  refine ai.val rfl (aB H18 (i:=0) rfl rfl (aG j5 rfl)) rfl ?_
  obtain ⟨z19,hzz19,h⟩:=bind_some h
  refine ai.ret rfl (aA rfl rfl) (rJ E _ _ _ hzz19 _ _ (av.eq .nil)) rfl ?_
  refine ai.val rfl (bY rfl) rfl ?_
  refine ai.val rfl (ae rfl) rfl ?_
  refine ai.aT 4 31 (.d (.bool ((!z19) || (decide (z13.Kind < 0))))) ?_ ?_
  ·
   rcases Bool.eq_false_or_eq_true ((!z19)) with hB20 | hB20
   ·
    refine ai.bool hB20 ?_
    refine ai.no rfl rfl ?_
    refine ai.no rfl rfl ?_
    refine ai.no rfl rfl ?_
    refine ai.val rfl (au (b:=true) rfl rfl) rfl ?_
    exact ai.nil ⟨_,rfl,(aa.put (aa.push rfl (aa.push rfl (aa.push rfl (aa.put (.refl _) (Less.eq (by rw [hB20])))))) (Less.eq (by rw [hB20]; rw [Bool.true_or])))⟩
   refine ai.bool hB20 ?_
   refine ai.val rfl (ax rfl fU uf rfl) rfl ?_
   refine ai.val rfl (aB H18 (i:=0) rfl rfl (aG qF rfl)) rfl ?_
   refine ai.val rfl (ak rfl rfl bE) rfl ?_
   refine ai.val rfl (au (b:=false) rfl rfl) rfl ?_
   exact ai.nil ⟨_,rfl,(aa.put (aa.push rfl (aa.push rfl (aa.push rfl (aa.put (.refl _) (Less.eq (by rw [hB20])))))) (Less.eq (by rw [hB20]; rw [Bool.false_or])))⟩
  refine ai.val rfl (ae rfl) rfl ?_
  refine ai.aT 4 36 (.d (.bool (((!z19) || (decide (z13.Kind < 0))) || (decide (3 < z13.Kind))))) ?_ ?_
  ·
   rcases Bool.eq_false_or_eq_true (((!z19) || (decide (z13.Kind < 0)))) with hB21 | hB21
   ·
    refine ai.bool hB21 ?_
    refine ai.no rfl rfl ?_
    refine ai.no rfl rfl ?_
    refine ai.no rfl rfl ?_
    refine ai.val rfl (au (b:=true) rfl rfl) rfl ?_
    exact ai.nil ⟨_,rfl,(aa.put (aa.push rfl (aa.push rfl (aa.push rfl (aa.put (.refl _) (Less.eq (by rw [hB21])))))) (Less.eq (by rw [hB21]; rw [Bool.true_or])))⟩
   refine ai.bool hB21 ?_
   refine ai.val rfl (ax rfl fU uf rfl) rfl ?_
   refine ai.val rfl (aB H18 (i:=0) rfl rfl (aG qF rfl)) rfl ?_
   refine ai.val rfl (ak rfl rfl fO) rfl ?_
   refine ai.val rfl (au (b:=false) rfl rfl) rfl ?_
   exact ai.nil ⟨_,rfl,(aa.put (aa.push rfl (aa.push rfl (aa.push rfl (aa.put (.refl _) (Less.eq (by rw [hB21])))))) (Less.eq (by rw [hB21]; rw [Bool.false_or])))⟩
  refine ai.val rfl (ah rfl) rfl ?_
  refine ai.nil ?_
  refine aj.cond rfl (fun hb22=>?_) (fun hb22=>?_)
  ·
   replace h:=bg hb22 h
   refine aj.seq ?_
   refine aj.region E.obj rfl ?_
   refine ai.val rfl (ah rfl) rfl ?_
   refine ai.nil ?_
   have hr:=Option.some.inj h
   subst hr
   exact aj.ret ⟨_,rfl,rfl,eG (av.eq .nil)⟩
  replace h:=aZ hb22 h
  refine aj.seq ?_
  refine aj.region E.obj rfl ?_
  refine ai.val rfl (ax rfl fU uf rfl) rfl ?_
  refine ai.val rfl (aB H18 (i:=0) rfl rfl (aG qF rfl)) rfl ?_
  refine ai.val rfl (ak rfl rfl dN) rfl ?_
  refine ai.val rfl (ae rfl) rfl ?_
  refine ai.aT 3 44 (.d (.bool ((decide (2 ≤ z13.Kind)) && (!(x10 == (IntKind.wrap .i64 (((a1).length:Int) - 1))))))) ?_ ?_
  ·
   rcases Bool.eq_false_or_eq_true ((decide (2 ≤ z13.Kind))) with hB23 | hB23
   ·
    refine ai.bool hB23 ?_
    refine ai.val rfl (ae rfl) rfl ?_
    refine ai.val rfl (bY rfl) rfl ?_
    refine ai.val rfl (au (b:=true) rfl rfl) rfl ?_
    exact ai.nil ⟨_,rfl,(aa.put (aa.push rfl (aa.push rfl (aa.put (.refl _) (Less.eq (by rw [hB23]))))) (Less.eq (by rw [hB23]; rw [Bool.true_and])))⟩
   refine ai.bool hB23 ?_
   refine ai.no rfl rfl ?_
   refine ai.no rfl rfl ?_
   refine ai.val rfl (au (b:=false) rfl rfl) rfl ?_
   exact ai.nil ⟨_,rfl,(aa.put (aa.push rfl (aa.push rfl (aa.put (.refl _) (Less.eq (by rw [hB23]))))) (Less.eq (by rw [hB23]; rw [Bool.false_and])))⟩
  refine ai.val rfl (ah rfl) rfl ?_
  refine ai.nil ?_
  refine aj.cond rfl (fun hb24=>?_) (fun hb24=>?_)
  ·
   replace h:=bg hb24 h
   refine aj.seq ?_
   refine aj.region E.obj rfl ?_
   refine ai.val rfl (ah rfl) rfl ?_
   refine ai.nil ?_
   have hr:=Option.some.inj h
   subst hr
   exact aj.ret ⟨_,rfl,rfl,eG (av.eq .nil)⟩
  replace h:=aZ hb24 h
  refine aj.skip ?_
  refine aj.seq ?_
  refine aj.region E.obj rfl ?_
  refine ai.val rfl (wE rfl) rfl ?_
  refine ai.val rfl (ah rfl) rfl ?_
  refine ai.nil ?_
  refine aj.seq ?_
  refine aj.region E.obj rfl ?_
  refine ai.val rfl (ax rfl fU uf rfl) rfl ?_
  refine ai.val rfl (aB H18 (i:=0) rfl rfl (aG qF rfl)) rfl ?_
  refine ai.val rfl (ak rfl rfl iA) rfl ?_
  refine ai.val rfl (ae rfl) rfl ?_
  obtain ⟨z26,hzz26,h⟩:=bind_some h
  refine ai.aT 6 55 (.d (.bool z26)) ?_ ?_
  ·
   rcases Bool.eq_false_or_eq_true ((z13.Kind != 0)) with hB25 | hB25
   ·
    refine ai.bool hB25 ?_
    replace hzz26:=bg hB25 hzz26
    refine ai.val rfl (ae rfl) rfl ?_
    refine ai.val rfl (ae rfl) rfl ?_
    obtain ⟨z27,hzz27,hzz26⟩:=bind_some hzz26
    refine ai.val rfl (nS rfl rfl qm FN (fun z=>(Seg.len z).trans iD.symm) hzz27) rfl ?_
    refine ai.val rfl (ae rfl) rfl ?_
    obtain ⟨z29,hzz29,hzz26⟩:=bind_some hzz26
    refine ai.ret rfl (aA rfl rfl) (gm.DV (iQ E n S17 _ _ _ (fun y28=>gM n y28 z13) (fun S' hk hw y28 r hr=>qB E n y28 z13 S' _ (hk.H _ _ (H18.at (i:=0) rfl)) r hr) _ hzz29) (.cons (.refl _) (.cons (.refl _) .nil))) rfl ?_
    refine ai.val rfl (au (b:=true) rfl rfl) rfl ?_
    cases hzz26
    exact ai.nil ⟨_,rfl,(aa.put (aa.push rfl (aa.push rfl (aa.push rfl (aa.push rfl (aa.push rfl (aa.put (.refl _) (Less.eq (by rw [hB25])))))))) (.refl _))⟩
   refine ai.bool hB25 ?_
   refine ai.no rfl rfl ?_
   refine ai.no rfl rfl ?_
   refine ai.no rfl rfl ?_
   refine ai.no rfl rfl ?_
   refine ai.no rfl rfl ?_
   refine ai.val rfl (au (b:=false) rfl rfl) rfl ?_
   replace hzz26:=aZ hB25 hzz26
   cases hzz26
   exact ai.nil ⟨_,rfl,(aa.put (aa.push rfl (aa.push rfl (aa.push rfl (aa.push rfl (aa.push rfl (aa.put (.refl _) (Less.eq (by rw [hB25])))))))) (.refl _))⟩
  refine ai.nil ?_
  refine aj.cond rfl (fun hb30=>?_) (fun hb30=>?_)
  ·
   replace h:=bg hb30 h
   refine aj.seq ?_
   refine aj.region E.obj rfl ?_
   refine ai.val rfl (ah rfl) rfl ?_
   refine ai.nil ?_
   have hr:=Option.some.inj h
   subst hr
   exact aj.ret ⟨_,rfl,rfl,eG (av.eq .nil)⟩
  replace h:=aZ hb30 h
  refine aj.skip ?_
  refine aj.region E.obj rfl ?_
  refine ai.val rfl (ak rfl rfl bf) rfl ?_
  refine ai.val rfl (ae rfl) rfl ?_
  refine ai.nil ?_
  exact ⟨(IntKind.wrap .i64 (x10 + 1)),_,_,S17,.refl _ _,.refl _,(aa.r rfl (aa.r rfl (aa.r rfl (aa.r rfl aa.nil)))),H18.sl [] rfl rfl,h⟩
 replace h:=aZ hb12 h
 refine aj.exit ?_
 refine aj.seq ?_
 refine aj.region E.obj rfl ?_
 refine ai.val rfl (ah rfl) rfl ?_
 refine ai.nil ?_
 have hr:=Option.some.inj h
 subst hr
 exact aj.ret ⟨_,rfl,rfl,eG (av.eq .nil)⟩
set_option maxRecDepth 20000 in
set_option maxHeartbeats 4000000 in
theorem rq (n:Nat) (a1:Int) (r:Bool) (h:je n a1=some r):aY R cfg.P 55 [(.int .u8 a1)] (.d (.bool r)):=by
 unfold je at h
 refine aY.of_wp E.obj.toObjOk (C:=cfg) Tryd.func55 rfl Hl rfl ?_
 have H0:Has ay ay []:=Has.pure
 refine aj.seq ?_
 refine aj.region E.obj rfl ?_
 refine ai.val rfl (ah rfl) rfl ?_
 refine ai.nil ?_
 refine aj.seq ?_
 refine aj.region E.obj rfl ?_
 refine ai.val rfl (ae rfl) rfl ?_
 refine ai.val rfl (ak rfl rfl dN) rfl ?_
 refine ai.val rfl (ae rfl) rfl ?_
 refine ai.aT 3 9 (.d (.bool ((decide (97 ≤ a1)) && (decide (a1 ≤ 122))))) ?_ ?_
 ·
  rcases Bool.eq_false_or_eq_true ((decide (97 ≤ a1))) with hB2 | hB2
  ·
   refine ai.bool hB2 ?_
   refine ai.val rfl (ae rfl) rfl ?_
   refine ai.val rfl (ak rfl rfl fQ) rfl ?_
   refine ai.val rfl (au (b:=true) rfl rfl) rfl ?_
   exact ai.nil ⟨_,rfl,(aa.put (aa.push rfl (aa.push rfl (aa.put (.refl _) (Less.eq (by rw [hB2]))))) (Less.eq (by rw [hB2]; rw [Bool.true_and])))⟩
  refine ai.bool hB2 ?_
  refine ai.no rfl rfl ?_
  refine ai.no rfl rfl ?_
  refine ai.val rfl (au (b:=false) rfl rfl) rfl ?_
  exact ai.nil ⟨_,rfl,(aa.put (aa.push rfl (aa.push rfl (aa.put (.refl _) (Less.eq (by rw [hB2]))))) (Less.eq (by rw [hB2]; rw [Bool.false_and])))⟩
 refine ai.val rfl (ae rfl) rfl ?_
 refine ai.aT 7 17 (.d (.bool (((decide (97 ≤ a1)) && (decide (a1 ≤ 122))) || ((decide (65 ≤ a1)) && (decide (a1 ≤ 90)))))) ?_ ?_
 ·
  rcases Bool.eq_false_or_eq_true (((decide (97 ≤ a1)) && (decide (a1 ≤ 122)))) with hB3 | hB3
  ·
   refine ai.bool hB3 ?_
   refine ai.no rfl rfl ?_
   refine ai.no rfl rfl ?_
   refine ai.no rfl rfl ?_
   refine ai.no rfl rfl ?_
   refine ai.no rfl rfl ?_
   refine ai.no rfl rfl ?_
   refine ai.val rfl (au (b:=true) rfl rfl) rfl ?_
   exact ai.nil ⟨_,rfl,(aa.put (aa.push rfl (aa.push rfl (aa.push rfl (aa.push rfl (aa.push rfl (aa.push rfl (aa.put (.refl _) (Less.eq (by rw [hB3]))))))))) (Less.eq (by rw [hB3]; rw [Bool.true_or])))⟩
  refine ai.bool hB3 ?_
  refine ai.val rfl (ae rfl) rfl ?_
  refine ai.val rfl (ak rfl rfl dN) rfl ?_
  refine ai.val rfl (ae rfl) rfl ?_
  refine ai.aT 3 16 (.d (.bool ((decide (65 ≤ a1)) && (decide (a1 ≤ 90))))) ?_ ?_
  ·
   rcases Bool.eq_false_or_eq_true ((decide (65 ≤ a1))) with hB4 | hB4
   ·
    refine ai.bool hB4 ?_
    refine ai.val rfl (ae rfl) rfl ?_
    refine ai.val rfl (ak rfl rfl fQ) rfl ?_
    refine ai.val rfl (au (b:=true) rfl rfl) rfl ?_
    exact ai.nil ⟨_,rfl,(aa.put (aa.push rfl (aa.push rfl (aa.put (.refl _) (Less.eq (by rw [hB4]))))) (Less.eq (by rw [hB4]; rw [Bool.true_and])))⟩
   refine ai.bool hB4 ?_
   refine ai.no rfl rfl ?_
   refine ai.no rfl rfl ?_
   refine ai.val rfl (au (b:=false) rfl rfl) rfl ?_
   exact ai.nil ⟨_,rfl,(aa.put (aa.push rfl (aa.push rfl (aa.put (.refl _) (Less.eq (by rw [hB4]))))) (Less.eq (by rw [hB4]; rw [Bool.false_and])))⟩
  refine ai.val rfl (au (b:=false) rfl rfl) rfl ?_
  exact ai.nil ⟨_,rfl,(aa.put (aa.push rfl (aa.push rfl (aa.push rfl (aa.push rfl (aa.put (.refl _) (Less.eq (by rw [hB3]))))))) (Less.eq (by rw [hB3]; rw [Bool.false_or])))⟩
 refine ai.val rfl (ah rfl) rfl ?_
 refine ai.nil ?_
 refine aj.seq ?_
 refine aj.region E.obj rfl ?_
 refine ai.val rfl (ae rfl) rfl ?_
 refine ai.val rfl (ae rfl) rfl ?_
 refine ai.aT 7 26 (.d (.bool ((((decide (97 ≤ a1)) && (decide (a1 ≤ 122))) || ((decide (65 ≤ a1)) && (decide (a1 ≤ 90)))) || ((decide (48 ≤ a1)) && (decide (a1 ≤ 57)))))) ?_ ?_
 ·
  rcases Bool.eq_false_or_eq_true ((((decide (97 ≤ a1)) && (decide (a1 ≤ 122))) || ((decide (65 ≤ a1)) && (decide (a1 ≤ 90))))) with hB5 | hB5
  ·
   refine ai.bool hB5 ?_
   refine ai.no rfl rfl ?_
   refine ai.no rfl rfl ?_
   refine ai.no rfl rfl ?_
   refine ai.no rfl rfl ?_
   refine ai.no rfl rfl ?_
   refine ai.no rfl rfl ?_
   refine ai.val rfl (au (b:=true) rfl rfl) rfl ?_
   exact ai.nil ⟨_,rfl,(aa.put (aa.push rfl (aa.push rfl (aa.push rfl (aa.push rfl (aa.push rfl (aa.push rfl (aa.put (.refl _) (Less.eq (by rw [hB5]))))))))) (Less.eq (by rw [hB5]; rw [Bool.true_or])))⟩
  refine ai.bool hB5 ?_
  refine ai.val rfl (ae rfl) rfl ?_
  refine ai.val rfl (ak rfl rfl dN) rfl ?_
  refine ai.val rfl (ae rfl) rfl ?_
  refine ai.aT 3 25 (.d (.bool ((decide (48 ≤ a1)) && (decide (a1 ≤ 57))))) ?_ ?_
  ·
   rcases Bool.eq_false_or_eq_true ((decide (48 ≤ a1))) with hB6 | hB6
   ·
    refine ai.bool hB6 ?_
    refine ai.val rfl (ae rfl) rfl ?_
    refine ai.val rfl (ak rfl rfl fQ) rfl ?_
    refine ai.val rfl (au (b:=true) rfl rfl) rfl ?_
    exact ai.nil ⟨_,rfl,(aa.put (aa.push rfl (aa.push rfl (aa.put (.refl _) (Less.eq (by rw [hB6]))))) (Less.eq (by rw [hB6]; rw [Bool.true_and])))⟩
   refine ai.bool hB6 ?_
   refine ai.no rfl rfl ?_
   refine ai.no rfl rfl ?_
   refine ai.val rfl (au (b:=false) rfl rfl) rfl ?_
   exact ai.nil ⟨_,rfl,(aa.put (aa.push rfl (aa.push rfl (aa.put (.refl _) (Less.eq (by rw [hB6]))))) (Less.eq (by rw [hB6]; rw [Bool.false_and])))⟩
  refine ai.val rfl (au (b:=false) rfl rfl) rfl ?_
  exact ai.nil ⟨_,rfl,(aa.put (aa.push rfl (aa.push rfl (aa.push rfl (aa.push rfl (aa.put (.refl _) (Less.eq (by rw [hB5]))))))) (Less.eq (by rw [hB5]; rw [Bool.false_or])))⟩
 refine ai.val rfl (ae rfl) rfl ?_
 obtain ⟨z8,hzz8,h⟩:=bind_some h
 refine ai.aT 4 31 (.d (.bool z8)) ?_ ?_
 ·
  rcases Bool.eq_false_or_eq_true (((((decide (97 ≤ a1)) && (decide (a1 ≤ 122))) || ((decide (65 ≤ a1)) && (decide (a1 ≤ 90)))) || ((decide (48 ≤ a1)) && (decide (a1 ≤ 57))))) with hB7 | hB7
  ·
   refine ai.bool hB7 ?_
   refine ai.no rfl rfl ?_
   refine ai.no rfl rfl ?_
   refine ai.no rfl rfl ?_
   refine ai.val rfl (au (b:=true) rfl rfl) rfl ?_
   replace hzz8:=bg hB7 hzz8
   cases hzz8
   exact ai.nil ⟨_,rfl,(aa.put (aa.push rfl (aa.push rfl (aa.push rfl (aa.put (.refl _) (Less.eq (by rw [hB7])))))) (.refl _))⟩
  refine ai.bool hB7 ?_
  replace hzz8:=aZ hB7 hzz8
  refine ai.val rfl (ae rfl) rfl ?_
  obtain ⟨z9,hzz9,hzz8⟩:=bind_some hzz8
  refine ai.ret rfl (aA rfl rfl) (E.strings_IndexByte_ok _ _ _ _ hzz9 _ _ (av.eq (av.eq .nil))) rfl ?_
  refine ai.val rfl (ak rfl rfl dN) rfl ?_
  refine ai.val rfl (au (b:=false) rfl rfl) rfl ?_
  cases hzz8
  exact ai.nil ⟨_,rfl,(aa.put (aa.push rfl (aa.push rfl (aa.push rfl (aa.put (.refl _) (Less.eq (by rw [hB7])))))) (.refl _))⟩
 refine ai.val rfl (ah rfl) rfl ?_
 refine ai.nil ?_
 have hr:=Option.some.inj h
 subst hr
 exact aj.ret ⟨_,rfl,rfl,eG (av.eq .nil)⟩
set_option maxRecDepth 20000 in
set_option maxHeartbeats 4000000 in
theorem wK (n:Nat) (a1:Str) (r:Str) (h:lN n a1=some r):aY R cfg.P 42 [(.str a1)] (.d (.str r)):=by
 unfold lN at h
 refine aY.of_wp E.obj.toObjOk (C:=cfg) Tryd.func42 rfl Hg rfl ?_
 have H0:Has ay ay []:=Has.pure
 refine aj.seq ?_
 refine aj.region E.obj rfl ?_
 refine ai.val rfl (ah rfl) rfl ?_
 refine ai.nil ?_
 refine aj.seq ?_
 refine aj.region E.obj rfl ?_
 refine ai.zo H0 rfl FH rfl (fun b2 S3 H4=>?_)
 refine ai.nil ?_
 refine aj.seq ?_
 refine aj.seq ?_
 refine aj.region E.obj rfl ?_
 refine ai.val rfl (ae rfl) rfl ?_
 refine ai.val rfl (cz rfl (bQ jK) rfl) rfl ?_
 refine ai.val rfl (ae rfl) rfl ?_
 refine ai.nil ?_
 refine aj.block ?_
 refine kS.start (B:=ay) (α:=Str × Int) (fun k a=>bZ n a1 k a.1 a.2=some r) (fun a=>[(0,(.d (.str a1))),(3,(.ptr b2 0 0)),(7,(.d (.int .i64 ((a1).length:Int)))),(8,(.d (.int .i64 a.2)))]) (fun a=>[.obj b2 1 (.str a.1)]) ?_ ?_ n ⟨⟨[],0⟩,_,_,S3,.refl _ _,.refl _,(aa.r rfl (aa.r rfl (aa.r rfl (aa.r rfl aa.nil)))),H4.sl [0] rfl rfl,h⟩
 ·
  intro a h; simp [bZ] at h
 intro k15 a S11 H12 h
 obtain ⟨x13,x14⟩:=a
 replace h:bZ n a1 (k15 + 1) x13 x14=some r:=h
 replace H12:Has ay S11 [.obj b2 1 (.str x13)]:=H12
 unfold bZ at h
 refine aj.seq ?_
 refine aj.region E.obj rfl ?_
 refine ai.val rfl (ak rfl rfl bE) rfl ?_
 refine ai.nil ?_
 refine aj.seq ?_
 refine aj.cond rfl (fun hb16=>?_) (fun hb16=>?_)
 ·
  replace h:=bg hb16 h
  refine aj.skip ?_
  refine aj.join (B:=ay) (α:=Str) (fun a=>iC x14 (bZ n a1 k15) a=some r) (fun a=>[(0,(.d (.str a1))),(3,(.ptr b2 0 0)),(7,(.d (.int .i64 ((a1).length:Int)))),(8,(.d (.int .i64 x14)))]) (fun a=>[.obj b2 1 (.str a)]) ?_ ?_
  ·
   intro x19 S17 H18 h
   replace h:iC x14 (bZ n a1 k15) x19=some r:=h
   replace H18:Has ay S17 [.obj b2 1 (.str x19)]:=H18
   unfold iC at h
   refine aj.region E.obj rfl ?_
   refine ai.val rfl (ak rfl rfl bf) rfl ?_
   refine ai.val rfl (ae rfl) rfl ?_
   refine ai.nil ?_
   exact ⟨⟨x19,(IntKind.wrap .i64 (x14 + 1))⟩,_,_,S17,.refl _ _,.refl _,(aa.r rfl (aa.r rfl (aa.r rfl (aa.r rfl aa.nil)))),H18.sl [0] rfl rfl,h⟩
  refine aj.block ?_
  refine aj.seq ?_
  refine aj.region E.obj rfl ?_
  refine ai.val rfl (ae rfl) rfl ?_
  refine ai.val rfl (ah rfl) rfl ?_
  refine ai.nil ?_
  refine aj.seq ?_
  refine aj.region E.obj rfl ?_
  refine ai.val rfl (ae rfl) rfl ?_
  refine ai.val rfl (ae rfl) rfl ?_
  obtain ⟨z21,hzz21,h⟩:=bind_some h
  refine ai.val rfl (bM rfl rfl (aW hzz21).1 jK (aW hzz21).2) rfl ?_
  refine ai.val rfl (ah rfl) rfl ?_
  refine ai.nil ?_
  refine aj.seq ?_
  refine aj.seq ?_
  refine aj.region E.obj rfl ?_
  refine ai.val rfl (ae rfl) rfl ?_
  obtain ⟨z22,hzz22,h⟩:=bind_some h
  refine ai.ret rfl (aA rfl rfl) (rq E _ _ _ hzz22 _ _ (av.eq .nil)) rfl ?_
  refine ai.nil ?_
  refine aj.cond rfl (fun hb23=>?_) (fun hb23=>?_)
  ·
   replace h:=bg hb23 h
   refine aj.seq ?_
   refine aj.region E.obj rfl ?_
   refine ai.val rfl (ae rfl) rfl ?_
   obtain ⟨z26,hzz26,h⟩:=bind_some h
   refine ai.wb E.bld H12 rfl rfl (i:=0) rfl hzz26 rfl (fun S24 H25=>?_)
   refine ai.nil ?_
   refine aj.exit ?_
   exact ⟨z26,_,_,S24,.refl _ _,.refl _,(aa.r rfl (aa.r rfl (aa.r rfl (aa.r rfl aa.nil)))),H25.sl [0] rfl rfl,h⟩
  replace h:=aZ hb23 h
  refine aj.skip ?_
  refine aj.seq ?_
  refine aj.region E.obj rfl ?_
  obtain ⟨z29,hzz29,h⟩:=bind_some h
  refine ai.wb E.bld H12 rfl rfl (i:=0) rfl hzz29 rfl (fun S27 H28=>?_)
  refine ai.nil ?_
  refine aj.seq ?_
  refine aj.region E.obj rfl ?_
  refine ai.val rfl (ae rfl) rfl ?_
  obtain ⟨z30,hzz30,h⟩:=bind_some h
  refine ai.val rfl (ak rfl rfl (xu hzz30)) rfl ?_
  obtain ⟨z31,hzz31,h⟩:=bind_some h
  refine ai.val rfl (bM rfl rfl (aW hzz31).1 jK (aW hzz31).2) rfl ?_
  obtain ⟨z34,hzz34,h⟩:=bind_some h
  refine ai.wb E.bld H28 rfl rfl (i:=0) rfl hzz34 rfl (fun S32 H33=>?_)
  refine ai.nil ?_
  refine aj.region E.obj rfl ?_
  refine ai.val rfl (ae rfl) rfl ?_
  refine ai.val rfl (ak rfl rfl zD) rfl ?_
  obtain ⟨z35,hzz35,h⟩:=bind_some h
  refine ai.val rfl (bM rfl rfl (aW hzz35).1 jK (aW hzz35).2) rfl ?_
  obtain ⟨z38,hzz38,h⟩:=bind_some h
  refine ai.wb E.bld H33 rfl rfl (i:=0) rfl hzz38 rfl (fun S36 H37=>?_)
  refine ai.nil ?_
  exact ⟨z38,_,_,S36,.refl _ _,.refl _,(aa.r rfl (aa.r rfl (aa.r rfl (aa.r rfl aa.nil)))),H37.sl [0] rfl rfl,h⟩
 replace h:=aZ hb16 h
 refine aj.exit ?_
 refine aj.seq ?_
 refine aj.region E.obj rfl ?_
 refine ai.st E.bld H12 rfl rfl (i:=0) rfl rfl (fun S39 H40=>?_)
 refine ai.val rfl (ah rfl) rfl ?_
 refine ai.nil ?_
 have hr:=Option.some.inj h
 subst hr
 exact aj.ret ⟨_,rfl,rfl,eG (av.eq .nil)⟩
set_option maxRecDepth 20000 in
set_option maxHeartbeats 4000000 in
theorem tZ (n:Nat) (a1:(List Str)) (r:Str) (h:iG n a1=some r):aY R cfg.P 23 [(.sl ((a1).map D.str) false)] (.d (.str r)):=by
 unfold iG at h
 refine aY.of_wp E.obj.toObjOk (C:=cfg) Tryd.func23 rfl Gu rfl ?_
 have H0:Has ay ay []:=Has.pure
 refine aj.seq ?_
 refine aj.region E.obj rfl ?_
 refine ai.val rfl (ah rfl) rfl ?_
 refine ai.nil ?_
 refine aj.seq ?_
 refine aj.region E.obj rfl ?_
 refine ai.val rfl (ah rfl) rfl ?_
 refine ai.nil ?_
 refine aj.seq ?_
 refine aj.seq ?_
 refine aj.region E.obj rfl ?_
 refine ai.val rfl (ae rfl) rfl ?_
 refine ai.val rfl (aI rfl kI) rfl ?_
 refine ai.val rfl (ae rfl) rfl ?_
 refine ai.nil ?_
 refine aj.block ?_
 have H23:=H0.rQ
 refine kS.start (B:=ay) (α:=(List Str) × AV × Int) (fun k a=>bD n a1 k a.1 a.2.2=some r) (fun a=>[(3,a.2.1),(6,(.d (.sl ((a1).map D.str) false))),(7,(.d (.int .i64 ((a1).length:Int)))),(8,(.d (.int .i64 a.2.2)))]) (fun a=>[.grow a.2.1 ((a.1).map D.str)]) ?_ ?_ n ⟨⟨[],(.d .bJ),0⟩,_,_,ay,.refl _ _,.refl _,(aa.r rfl (aa.r rfl (aa.r rfl (aa.r rfl aa.nil)))),H23.sl [0] rfl rfl,h⟩
 ·
  intro a h; simp [bD] at h
 intro k14 a S9 H10 h
 obtain ⟨x11,v12,x13⟩:=a
 replace h:bD n a1 (k14 + 1) x11 x13=some r:=h
 replace H10:Has ay S9 [.grow v12 ((x11).map D.str)]:=H10
 unfold bD at h
 refine aj.seq ?_
 refine aj.region E.obj rfl ?_
 refine ai.val rfl (ak rfl rfl bE) rfl ?_
 refine ai.nil ?_
 refine aj.seq ?_
 refine aj.cond rfl (fun hb15=>?_) (fun hb15=>?_)
 ·
  replace h:=bg hb15 h
  refine aj.skip ?_
  refine aj.seq ?_
  refine aj.block ?_
  refine aj.seq ?_
  refine aj.region E.obj rfl ?_
  obtain ⟨z16,hzz16,h⟩:=bind_some h
  refine ai.val rfl (bO rfl rfl (df (enc:=D.str) hzz16 gV yS (((fun _=>rfl) _).trans kg.symm))) rfl ?_
  refine ai.val rfl (aX rfl (dB j5 rfl)) rfl ?_
  refine ai.val rfl (ah rfl) rfl ?_
  refine ai.nil ?_
  refine aj.region E.obj rfl ?_
  refine ai.val rfl (ae rfl) rfl ?_
  refine ai.val rfl (ae rfl) rfl ?_
  obtain ⟨z17,hzz17,h⟩:=bind_some h
  refine ai.ret rfl (aA rfl rfl) (wK E _ _ _ hzz17 _ _ (av.eq .nil)) rfl ?_
  refine ai.val rfl (aK (vs:=[(.d (.str z17))]) (ds:=[(.str z17)]) kM gV j5 BP kg rfl (by decide) (.cons rfl rfl .nil) rfl (by intro d hd; simp only [List.mem_cons,List.not_mem_nil,or_false] at hd; rcases hd with rfl <;> rfl) rfl) rfl ?_
  obtain ⟨z18,hzz18,h⟩:=bind_some h
  refine ai.append (xs:=(x11).map D.str) (ys:=([z17]).map D.str) (zs:=(z18).map D.str) H10 rfl rfl rfl (i:=0) rfl rfl kM u7 gV (dC hzz18) DJ rfl (aQ (enc:=D.str) (fun _=>kg.symm) _) (aQ (enc:=D.str) (fun _=>kg.symm) _) DL rfl (gB hzz18) (fun v19 S20 H21=>?_)
  refine ai.val rfl (ah rfl) rfl ?_
  refine ai.nil ?_
  refine aj.region E.obj rfl ?_
  refine ai.val rfl (ak rfl rfl bf) rfl ?_
  refine ai.val rfl (ae rfl) rfl ?_
  refine ai.nil ?_
  exact ⟨⟨z18,v19,(IntKind.wrap .i64 (x13 + 1))⟩,_,_,S20,.refl _ _,.refl _,(aa.r rfl (aa.r rfl (aa.r rfl (aa.r rfl aa.nil)))),H21.sl [0] rfl rfl,h⟩
 replace h:=aZ hb15 h
 refine aj.exit ?_
 refine aj.seq ?_
 refine aj.region E.obj rfl ?_
 refine ai.val rfl (ae rfl) rfl ?_
 obtain ⟨z22,hzz22,h⟩:=bind_some h
 refine ai.ret rfl (aA rfl rfl) (E.strings_Join_ok _ _ _ _ hzz22 _ _ (av.grow H10 (i:=0) rfl (av.eq .nil))) rfl ?_
 refine ai.val rfl (ah rfl) rfl ?_
 refine ai.nil ?_
 have hr:=Option.some.inj h
 subst hr
 exact aj.ret ⟨_,rfl,rfl,eG (av.eq .nil)⟩
set_option maxRecDepth 20000 in
set_option maxHeartbeats 4000000 in
theorem kr (n:Nat) (a1:(List Seg)) (a2:(List Str)) (r:((List aD) × Bool)) (h:fF n a1 a2=some r):aY R cfg.P 8 [(.sl ((a1).map aJ) false),(.sl ((a2).map D.str) false)] (.tup [.d (.sl ((r.1).map az) false),.d (.bool r.2)]):=by
 unfold fF at h
 refine aY.of_wp E.obj.toObjOk (C:=cfg) Tryd.func8 rfl Ii rfl ?_
 have H0:Has ay ay []:=Has.pure
 refine aj.seq ?_
 refine aj.region E.obj rfl ?_
 refine ai.val rfl (ah rfl) rfl ?_
 refine ai.val rfl (ah rfl) rfl ?_
 refine ai.nil ?_
 refine aj.seq ?_
 refine aj.seq ?_
 refine aj.region E.obj rfl ?_
 refine ai.val rfl (ae rfl) rfl ?_
 obtain ⟨z3,hzz3,h⟩:=bind_some h
 refine ai.ret rfl (aA rfl rfl) (jk E _ _ _ hzz3 _ _ (av.eq .nil)) rfl ?_
 refine ai.val rfl (bY rfl) rfl ?_
 refine ai.nil ?_
 refine aj.cond rfl (fun hb4=>?_) (fun hb4=>?_)
 ·
  replace h:=bg hb4 h
  refine aj.seq ?_
  refine aj.region E.obj rfl ?_
  refine ai.val rfl (ah rfl) rfl ?_
  refine ai.val rfl (ah rfl) rfl ?_
  refine ai.nil ?_
  have hr:=Option.some.inj h
  subst hr
  exact aj.ret ⟨_,rfl,rfl,fT (vs:=[(.d .bJ),(.d (.bool false))]) (ds:=[(.sl (([]).map az) false),(.bool false)]) (av.fw rfl (.bJ false) (av.eq .nil))⟩
 replace h:=aZ hb4 h
 refine aj.skip ?_
 refine aj.seq ?_
 refine aj.region E.obj rfl ?_
 refine ai.val rfl (ah rfl) rfl ?_
 refine ai.nil ?_
 refine aj.seq ?_
 refine aj.seq ?_
 refine aj.region E.obj rfl ?_
 refine ai.val rfl (ae rfl) rfl ?_
 refine ai.val rfl (aI rfl qM) rfl ?_
 refine ai.val rfl (ae rfl) rfl ?_
 refine ai.nil ?_
 refine aj.block ?_
 have H53:=H0.rQ
 refine kS.start (B:=ay) (α:=(List Str) × (List aD) × AV × Int) (fun k a=>bI n a1 k a.1 a.2.1 a.2.2.2=some r) (fun a=>[(1,(.d (.sl ((a.1).map D.str) false))),(6,a.2.2.1),(13,(.d (.sl ((a1).map aJ) false))),(14,(.d (.int .i64 ((a1).length:Int)))),(15,(.d (.int .i64 a.2.2.2)))]) (fun a=>[.grow a.2.2.1 ((a.2.1).map az)]) ?_ ?_ n ⟨⟨a2,[],(.d .bJ),0⟩,_,_,ay,.refl _ _,.refl _,(aa.r rfl (aa.r rfl (aa.r rfl (aa.r rfl (aa.r rfl aa.nil))))),H53.sl [0] rfl rfl,h⟩
 ·
  intro a h; simp [bI] at h
 intro k19 a S13 H14 h
 obtain ⟨x15,x16,v17,x18⟩:=a
 replace h:bI n a1 (k19 + 1) x15 x16 x18=some r:=h
 replace H14:Has ay S13 [.grow v17 ((x16).map az)]:=H14
 unfold bI at h
 refine aj.seq ?_
 refine aj.region E.obj rfl ?_
 refine ai.val rfl (ak rfl rfl bE) rfl ?_
 refine ai.nil ?_
 refine aj.seq ?_
 refine aj.cond rfl (fun hb20=>?_) (fun hb20=>?_)
 ·
  replace h:=bg hb20 h
  refine aj.skip ?_
  refine aj.join (B:=ay) (α:=(List Str) × (List aD) × AV) (fun a=>eP x18 (bI n a1 k19) a.1 a.2.1=some r) (fun a=>[(1,(.d (.sl ((a.1).map D.str) false))),(6,a.2.2),(13,(.d (.sl ((a1).map aJ) false))),(14,(.d (.int .i64 ((a1).length:Int)))),(15,(.d (.int .i64 x18)))]) (fun a=>[.grow a.2.2 ((a.2.1).map az)]) ?_ ?_
  ·
   intro a S21 H22 h
   obtain ⟨x23,x24,v25⟩:=a
   replace h:eP x18 (bI n a1 k19) x23 x24=some r:=h
   replace H22:Has ay S21 [.grow v25 ((x24).map az)]:=H22
   unfold eP at h
   refine aj.region E.obj rfl ?_
   refine ai.val rfl (ak rfl rfl bf) rfl ?_
   refine ai.val rfl (ae rfl) rfl ?_
   refine ai.nil ?_
   exact ⟨⟨x23,x24,v25,(IntKind.wrap .i64 (x18 + 1))⟩,_,_,S21,.refl _ _,.refl _,(aa.r rfl (aa.r rfl (aa.r rfl (aa.r rfl (aa.r rfl aa.nil))))),H22.sl [0] rfl rfl,h⟩
  refine aj.block ?_
  refine aj.seq ?_
  refine aj.region E.obj rfl ?_
  obtain ⟨z27,hzz27,h⟩:=bind_some h
  refine ai.val rfl (bO rfl rfl (df (enc:=aJ) hzz27 qm om ((Seg.len _).trans iD.symm))) rfl ?_
  refine ai.val rfl (aX rfl (Seg.lX ql iD)) rfl ?_
  refine ai.alloc H14 rfl zF nZ rfl rfl (fun b28 S29 H30=>?_)
  refine ai.store H30 (i:=0) rfl rfl rfl rfl (Seg.eO _) rfl iD rfl om rfl rfl rfl (fun S31 H32=>?_)
  refine ai.nil ?_
  refine aj.seq ?_
  refine aj.seq ?_
  refine aj.region E.obj rfl ?_
  refine ai.val rfl (ax rfl fU uf rfl) rfl ?_
  refine ai.val rfl (aB H32 (i:=0) rfl rfl (aG qF rfl)) rfl ?_
  refine ai.val rfl (ak rfl rfl cZ) rfl ?_
  refine ai.nil ?_
  refine aj.cond rfl (fun hb33=>?_) (fun hb33=>?_)
  ·
   replace h:=bg hb33 h
   refine aj.seq ?_
   obtain ⟨z34,hzz34,h⟩:=bind_some h
   obtain ⟨z35,hzz35,h⟩:=bind_some h
   refine aj.l6 E.obj qH Ip [(4,some 8),(5,some 9)] (by kernel_rfl) [7] (by decide) [some v17,some (.ptr b28 0 1),some (.d (.str z27.Text)),some (.d (.sl ((x15).map D.str) false)),some (.d (.str z34)),some (.d (az (aD.mk z27.Text z34))),some (.d (.sl (([(aD.mk z27.Text z34)]).map az) true)),none,none,none] ?_
   refine ⟨[0,1,2,3,4,5,6],by kernel_rfl,?_,_,_,rfl,rfl,.step ?_⟩
   ·
    refine .v rfl rfl rfl rfl (ae rfl) ?_
    refine .v rfl rfl rfl rfl (ax rfl jb rH rfl) ?_
    refine .v rfl rfl rfl rfl (aB H32 (i:=0) rfl rfl (aG j5 rfl)) ?_
    refine .v rfl rfl rfl rfl (ae rfl) ?_
    refine .cons rfl rfl rfl (.step ?_) ?_
    ·
     refine ai.ret rfl (aA rfl rfl) (tZ E _ _ _ hzz34 _ _ (av.eq .nil)) rfl ?_
     exact ai.nil ⟨_,_,rfl,fun _ ht=>by cases ht; exact ⟨rfl,.refl _⟩⟩
    refine .cons rfl rfl rfl (.step ?_) ?_
    ·
     refine ai.val rfl (dw (cs:=[(.d (.str z27.Text)),(.d (.str z34))]) lg rfl (dX) (fA rfl rfl rfl rfl (fA rfl rfl rfl rfl rfl))) rfl ?_
     refine ai.less (Less.agg' (d:=az (aD.mk z27.Text z34)) (aU.eq rfl (aU.eq rfl .nil)) ((aD.eq _).trans rfl)) ?_
     exact ai.nil ⟨_,_,rfl,fun _ ht=>by cases ht; exact ⟨rfl,.refl _⟩⟩
    refine .v rfl rfl rfl rfl (aK (vs:=[(.d (az (aD.mk z27.Text z34)))]) (ds:=[(az (aD.mk z27.Text z34))]) rU mI qg lg iL rfl (by decide) (.cons rfl (aD.len _) .nil) rfl (by intro d hd; simp only [List.mem_cons,List.not_mem_nil,or_false] at hd; rcases hd with rfl <;> exact aD.agg _) rfl) ?_
    exact .nil
   refine ai.append (xs:=(x16).map az) (ys:=([(aD.mk z27.Text z34)]).map az) (zs:=(z35).map az) H32 rfl rfl rfl (i:=1) rfl rfl rU Dw mI (dC hzz35) DF rfl (aQ (enc:=az) (fun z=>(aD.len z).trans iL.symm) _) (aQ (enc:=az) (fun z=>(aD.len z).trans iL.symm) _) DN rfl (gB hzz35) (fun v39 S40 H41=>?_)
   refine ai.nil ⟨_,_,_,rfl,(fun _ ht=>by cases ht; rfl),_,(.q (.o (.o (.o (.w v39 (.w v39 (.w (.d (.bool true)) .nil))))))),(fun _ ht=>by cases ht; exact ⟨_,rfl,.refl _⟩),?_⟩
   refine ⟨[8,9],by kernel_rfl,?_,_,rfl,?_⟩
   ·
    refine .v rfl rfl rfl rfl (ah rfl) ?_
    refine .v rfl rfl rfl rfl (ah rfl) ?_
    exact .nil
   have hr:=Option.some.inj h
   subst hr
   exact aj.ret ⟨_,rfl,rfl,fT (vs:=[v39,(.d (.bool true))]) (ds:=[(.sl ((z35).map az) false),(.bool true)]) (av.grow H41 (i:=1) rfl (av.eq .nil))⟩
  replace h:=aZ hb33 h
  refine aj.skip ?_
  refine aj.seq ?_
  refine aj.seq ?_
  refine aj.region E.obj rfl ?_
  refine ai.val rfl (ae rfl) rfl ?_
  refine ai.val rfl (aI rfl kI) rfl ?_
  refine ai.val rfl (ak rfl rfl cZ) rfl ?_
  refine ai.nil ?_
  refine aj.cond rfl (fun hb42=>?_) (fun hb42=>?_)
  ·
   replace h:=bg hb42 h
   refine aj.seq ?_
   refine aj.seq ?_
   refine aj.region E.obj rfl ?_
   refine ai.val rfl (ax rfl fU uf rfl) rfl ?_
   refine ai.val rfl (aB H32 (i:=0) rfl rfl (aG qF rfl)) rfl ?_
   refine ai.val rfl (ak rfl rfl cZ) rfl ?_
   refine ai.nil ?_
   refine aj.cond rfl (fun hb43=>?_) (fun hb43=>?_)
   ·
    replace h:=bg hb43 h
    refine aj.seq ?_
    refine aj.region E.obj rfl ?_
    refine ai.val rfl (ae rfl) rfl ?_
    refine ai.val rfl (ah rfl) rfl ?_
    refine ai.val rfl (ah rfl) rfl ?_
    refine ai.nil ?_
    have hr:=Option.some.inj h
    subst hr
    exact aj.ret ⟨_,rfl,rfl,fT (vs:=[v17,(.d (.bool true))]) (ds:=[(.sl ((x16).map az) false),(.bool true)]) (av.grow H32 (i:=1) rfl (av.eq .nil))⟩
   replace h:=aZ hb43 h
   refine aj.skip ?_
   refine aj.seq ?_
   refine aj.region E.obj rfl ?_
   refine ai.val rfl (ah rfl) rfl ?_
   refine ai.val rfl (ah rfl) rfl ?_
   refine ai.nil ?_
   have hr:=Option.some.inj h
   subst hr
   exact aj.ret ⟨_,rfl,rfl,fT (vs:=[(.d .bJ),(.d (.bool false))]) (ds:=[(.sl (([]).map az) false),(.bool false)]) (av.fw rfl (.bJ false) (av.eq .nil))⟩
  replace h:=aZ hb42 h
  refine aj.skip ?_
  refine aj.seq ?_
  refine aj.region E.obj rfl ?_
  refine ai.val rfl (ae rfl) rfl ?_
  obtain ⟨z44,hzz44,h⟩:=bind_some h
  refine ai.val rfl (bO rfl rfl (df (enc:=D.str) hzz44 gV yS (((fun _=>rfl) _).trans kg.symm))) rfl ?_
  refine ai.val rfl (aX rfl (dB j5 rfl)) rfl ?_
  refine ai.val rfl (ah rfl) rfl ?_
  refine ai.nil ?_
  refine aj.seq ?_
  refine aj.region E.obj rfl ?_
  refine ai.val rfl (ae rfl) rfl ?_
  obtain ⟨z45,hzz45,h⟩:=bind_some h
  refine ai.val rfl (AJ rfl rfl gV FQ (fun z=>((fun _=>rfl) z).trans kg.symm) hzz45) rfl ?_
  refine ai.val rfl (ah rfl) rfl ?_
  refine ai.nil ?_
  refine aj.seq ?_
  refine aj.region E.obj rfl ?_
  refine ai.val rfl (ax rfl fU uf rfl) rfl ?_
  refine ai.val rfl (aB H32 (i:=0) rfl rfl (aG qF rfl)) rfl ?_
  refine ai.val rfl (ak rfl rfl iA) rfl ?_
  refine ai.nil ?_
  refine aj.cond rfl (fun hb46=>?_) (fun hb46=>?_)
  ·
   replace h:=bg hb46 h
   refine aj.region E.obj rfl ?_
   refine ai.val rfl (ae rfl) rfl ?_
   refine ai.val rfl (ax rfl jb rH rfl) rfl ?_
   refine ai.val rfl (aB H32 (i:=0) rfl rfl (aG j5 rfl)) rfl ?_
   refine ai.val rfl (ae rfl) rfl ?_
   refine ai.val rfl (dw (cs:=[(.d (.str z27.Text)),(.d (.str z44))]) lg rfl (dX) (fA rfl rfl rfl rfl (fA rfl rfl rfl rfl rfl))) rfl ?_
   refine ai.less (Less.agg' (d:=az (aD.mk z27.Text z44)) (aU.eq rfl (aU.eq rfl .nil)) ((aD.eq _).trans rfl)) ?_
   refine ai.val rfl (aK (vs:=[(.d (az (aD.mk z27.Text z44)))]) (ds:=[(az (aD.mk z27.Text z44))]) rU mI qg lg iL rfl (by decide) (.cons rfl (aD.len _) .nil) rfl (by intro d hd; simp only [List.mem_cons,List.not_mem_nil,or_false] at hd; rcases hd with rfl <;> exact aD.agg _) rfl) rfl ?_
   obtain ⟨z47,hzz47,h⟩:=bind_some h
   refine ai.append (xs:=(x16).map az) (ys:=([(aD.mk z27.Text z44)]).map az) (zs:=(z47).map az) H32 rfl rfl rfl (i:=1) rfl rfl rU Dw mI (dC hzz47) DF rfl (aQ (enc:=az) (fun z=>(aD.len z).trans iL.symm) _) (aQ (enc:=az) (fun z=>(aD.len z).trans iL.symm) _) DN rfl (gB hzz47) (fun v48 S49 H50=>?_)
   refine ai.val rfl (ah rfl) rfl ?_
   refine ai.nil ?_
   exact ⟨⟨z45,z47,v48⟩,_,_,S49,.refl _ _,.refl _,(aa.r rfl (aa.r rfl (aa.r rfl (aa.r rfl (aa.r rfl aa.nil))))),H50.sl [1] rfl rfl,h⟩
  replace h:=aZ hb46 h
  refine aj.seq ?_
  refine aj.region E.obj rfl ?_
  refine ai.val rfl (ae rfl) rfl ?_
  refine ai.val rfl (ax rfl jb rH rfl) rfl ?_
  refine ai.val rfl (aB H32 (i:=0) rfl rfl (aG j5 rfl)) rfl ?_
  refine ai.val rfl (ak rfl rfl jJ) rfl ?_
  refine ai.nil ?_
  refine aj.cond rfl (fun hb51=>?_) (fun hb51=>?_)
  ·
   replace h:=bg hb51 h
   refine aj.seq ?_
   refine aj.region E.obj rfl ?_
   refine ai.val rfl (ah rfl) rfl ?_
   refine ai.val rfl (ah rfl) rfl ?_
   refine ai.nil ?_
   have hr:=Option.some.inj h
   subst hr
   exact aj.ret ⟨_,rfl,rfl,fT (vs:=[(.d .bJ),(.d (.bool false))]) (ds:=[(.sl (([]).map az) false),(.bool false)]) (av.fw rfl (.bJ false) (av.eq .nil))⟩
  replace h:=aZ hb51 h
  refine aj.skip ?_
  exact ⟨⟨z45,x16,v17⟩,_,_,S31,.refl _ _,.refl _,(aa.r rfl (aa.r rfl (aa.r rfl (aa.r rfl (aa.r rfl aa.nil))))),H32.sl [1] rfl rfl,h⟩
 replace h:=aZ hb20 h
 refine aj.exit ?_
 refine aj.seq ?_
 refine aj.seq ?_
 refine aj.region E.obj rfl ?_
 refine ai.val rfl (ae rfl) rfl ?_
 refine ai.val rfl (aI rfl kI) rfl ?_
 refine ai.val rfl (ak rfl rfl fO) rfl ?_
 refine ai.nil ?_
 refine aj.cond rfl (fun hb52=>?_) (fun hb52=>?_)
 ·
  replace h:=bg hb52 h
  refine aj.seq ?_
  refine aj.region E.obj rfl ?_
  refine ai.val rfl (ah rfl) rfl ?_
  refine ai.val rfl (ah rfl) rfl ?_
  refine ai.nil ?_
  have hr:=Option.some.inj h
  subst hr
  exact aj.ret ⟨_,rfl,rfl,fT (vs:=[(.d .bJ),(.d (.bool false))]) (ds:=[(.sl (([]).map az) false),(.bool false)]) (av.fw rfl (.bJ false) (av.eq .nil))⟩
 replace h:=aZ hb52 h
 refine aj.skip ?_
 refine aj.seq ?_
 refine aj.region E.obj rfl ?_
 refine ai.val rfl (ae rfl) rfl ?_
 refine ai.val rfl (ah rfl) rfl ?_
 refine ai.val rfl (ah rfl) rfl ?_
 refine ai.nil ?_
 have hr:=Option.some.inj h
 subst hr
 exact aj.ret ⟨_,rfl,rfl,fT (vs:=[v17,(.d (.bool true))]) (ds:=[(.sl ((x16).map az) false),(.bool true)]) (av.grow H14 (i:=0) rfl (av.eq .nil))⟩
set_option maxRecDepth 20000 in
set_option maxHeartbeats 4000000 in
theorem pQ (n:Nat) (a1:Str) (r:Bool) (h:iy n a1=some r):aY R cfg.P 35 [(.str a1)] (.d (.bool r)):=by
 unfold iy at h
 refine aY.of_wp E.obj.toObjOk (C:=cfg) Tryd.func35 rfl Hq rfl ?_
 have H0:Has ay ay []:=Has.pure
 refine aj.seq ?_
 refine aj.region E.obj rfl ?_
 refine ai.val rfl (ah rfl) rfl ?_
 refine ai.nil ?_
 refine aj.seq ?_
 refine aj.seq ?_
 refine aj.region E.obj rfl ?_
 refine ai.val rfl (ah rfl) rfl ?_
 refine ai.nil ?_
 refine aj.block ?_
 refine kS.start (B:=ay) (α:=Int) (fun k a=>di a1 k a=some r) (fun a=>[(0,(.d (.str a1))),(3,(.d (.int .i64 a)))]) (fun a=>[]) ?_ ?_ n ⟨0,_,_,ay,.refl _ _,.refl _,(aa.r rfl (aa.r rfl aa.nil)),H0.sl [] rfl rfl,h⟩
 ·
  intro a h; simp [di] at h
 intro k10 x9 S7 H8 h
 replace h:di a1 (k10 + 1) x9=some r:=h
 replace H8:Has ay S7 []:=H8
 unfold di at h
 refine aj.seq ?_
 refine aj.seq ?_
 refine aj.region E.obj rfl ?_
 refine ai.val rfl (ae rfl) rfl ?_
 refine ai.val rfl (ae rfl) rfl ?_
 refine ai.val rfl (cz rfl (bQ jK) rfl) rfl ?_
 refine ai.val rfl (ak rfl rfl bE) rfl ?_
 refine ai.nil ?_
 refine aj.cond rfl (fun hb11=>?_) (fun hb11=>?_)
 ·
  replace h:=bg hb11 h
  refine aj.skip ?_
  refine aj.seq ?_
  refine aj.block ?_
  refine aj.seq ?_
  refine aj.region E.obj rfl ?_
  refine ai.val rfl (ae rfl) rfl ?_
  refine ai.val rfl (ae rfl) rfl ?_
  obtain ⟨z12,hzz12,h⟩:=bind_some h
  refine ai.val rfl (bM rfl rfl (aW hzz12).1 jK (aW hzz12).2) rfl ?_
  refine ai.val rfl (ak rfl rfl bE) rfl ?_
  refine ai.val rfl (ae rfl) rfl ?_
  obtain ⟨z14,hzz14,h⟩:=bind_some h
  refine ai.aT 5 19 (.d (.bool z14)) ?_ ?_
  ·
   rcases Bool.eq_false_or_eq_true ((decide ((z12.toNat:Int) < 97))) with hB13 | hB13
   ·
    refine ai.bool hB13 ?_
    refine ai.no rfl rfl ?_
    refine ai.no rfl rfl ?_
    refine ai.no rfl rfl ?_
    refine ai.no rfl rfl ?_
    refine ai.val rfl (au (b:=true) rfl rfl) rfl ?_
    replace hzz14:=bg hB13 hzz14
    cases hzz14
    exact ai.nil ⟨_,rfl,(aa.put (aa.push rfl (aa.push rfl (aa.push rfl (aa.push rfl (aa.put (.refl _) (Less.eq (by rw [hB13]))))))) (.refl _))⟩
   refine ai.bool hB13 ?_
   replace hzz14:=aZ hB13 hzz14
   refine ai.val rfl (ae rfl) rfl ?_
   refine ai.val rfl (ae rfl) rfl ?_
   obtain ⟨z15,hzz15,hzz14⟩:=bind_some hzz14
   refine ai.val rfl (bM rfl rfl (aW hzz15).1 jK (aW hzz15).2) rfl ?_
   refine ai.val rfl (ak rfl rfl fO) rfl ?_
   refine ai.val rfl (au (b:=false) rfl rfl) rfl ?_
   cases hzz14
   exact ai.nil ⟨_,rfl,(aa.put (aa.push rfl (aa.push rfl (aa.push rfl (aa.push rfl (aa.put (.refl _) (Less.eq (by rw [hB13]))))))) (.refl _))⟩
  refine ai.val rfl (ae rfl) rfl ?_
  obtain ⟨z17,hzz17,h⟩:=bind_some h
  refine ai.aT 11 31 (.d (.bool z17)) ?_ ?_
  ·
   rcases Bool.eq_false_or_eq_true (z14) with hB16 | hB16
   ·
    refine ai.bool hB16 ?_
    replace hzz17:=bg hB16 hzz17
    refine ai.val rfl (ae rfl) rfl ?_
    refine ai.val rfl (ae rfl) rfl ?_
    obtain ⟨z18,hzz18,hzz17⟩:=bind_some hzz17
    refine ai.val rfl (bM rfl rfl (aW hzz18).1 jK (aW hzz18).2) rfl ?_
    refine ai.val rfl (ak rfl rfl bE) rfl ?_
    refine ai.val rfl (ae rfl) rfl ?_
    obtain ⟨z20,hzz20,hzz17⟩:=bind_some hzz17
    refine ai.aT 5 30 (.d (.bool z20)) ?_ ?_
    ·
     rcases Bool.eq_false_or_eq_true ((decide ((z18.toNat:Int) < 48))) with hB19 | hB19
     ·
      refine ai.bool hB19 ?_
      refine ai.no rfl rfl ?_
      refine ai.no rfl rfl ?_
      refine ai.no rfl rfl ?_
      refine ai.no rfl rfl ?_
      refine ai.val rfl (au (b:=true) rfl rfl) rfl ?_
      replace hzz20:=bg hB19 hzz20
      cases hzz20
      exact ai.nil ⟨_,rfl,(aa.put (aa.push rfl (aa.push rfl (aa.push rfl (aa.push rfl (aa.put (.refl _) (Less.eq (by rw [hB19]))))))) (.refl _))⟩
     refine ai.bool hB19 ?_
     replace hzz20:=aZ hB19 hzz20
     refine ai.val rfl (ae rfl) rfl ?_
     refine ai.val rfl (ae rfl) rfl ?_
     obtain ⟨z21,hzz21,hzz20⟩:=bind_some hzz20
     refine ai.val rfl (bM rfl rfl (aW hzz21).1 jK (aW hzz21).2) rfl ?_
     refine ai.val rfl (ak rfl rfl fO) rfl ?_
     refine ai.val rfl (au (b:=false) rfl rfl) rfl ?_
     cases hzz20
     exact ai.nil ⟨_,rfl,(aa.put (aa.push rfl (aa.push rfl (aa.push rfl (aa.push rfl (aa.put (.refl _) (Less.eq (by rw [hB19]))))))) (.refl _))⟩
    refine ai.val rfl (au (b:=true) rfl rfl) rfl ?_
    cases hzz17
    exact ai.nil ⟨_,rfl,(aa.put (aa.push rfl (aa.push rfl (aa.push rfl (aa.push rfl (aa.push rfl (aa.push rfl (aa.put (.refl _) (Less.eq (by rw [hB16]))))))))) (.refl _))⟩
   refine ai.bool hB16 ?_
   refine ai.no rfl rfl ?_
   refine ai.no rfl rfl ?_
   refine ai.no rfl rfl ?_
   refine ai.no rfl rfl ?_
   refine ai.no rfl rfl ?_
   refine ai.no rfl rfl ?_
   refine ai.no rfl rfl ?_
   refine ai.no rfl rfl ?_
   refine ai.no rfl rfl ?_
   refine ai.no rfl rfl ?_
   refine ai.val rfl (au (b:=false) rfl rfl) rfl ?_
   replace hzz17:=aZ hB16 hzz17
   cases hzz17
   exact ai.nil ⟨_,rfl,(aa.put (aa.push rfl (aa.push rfl (aa.push rfl (aa.push rfl (aa.push rfl (aa.push rfl (aa.push rfl (aa.push rfl (aa.push rfl (aa.push rfl (aa.put (.refl _) (Less.eq (by rw [hB16]))))))))))))) (.refl _))⟩
  refine ai.nil ?_
  refine aj.cond rfl (fun hb22=>?_) (fun hb22=>?_)
  ·
   replace h:=bg hb22 h
   refine aj.seq ?_
   refine aj.region E.obj rfl ?_
   refine ai.val rfl (ah rfl) rfl ?_
   refine ai.nil ?_
   have hr:=Option.some.inj h
   subst hr
   exact aj.ret ⟨_,rfl,rfl,eG (av.eq .nil)⟩
  replace h:=aZ hb22 h
  refine aj.skip ?_
  refine aj.region E.obj rfl ?_
  refine ai.val rfl (ae rfl) rfl ?_
  refine ai.val rfl (ak rfl rfl bf) rfl ?_
  refine ai.val rfl (ah rfl) rfl ?_
  refine ai.nil ?_
  exact ⟨(IntKind.wrap .i64 (x9 + 1)),_,_,S7,.refl _ _,.refl _,(aa.r rfl (aa.r rfl aa.nil)),H8.sl [] rfl rfl,h⟩
 replace h:=aZ hb11 h
 refine aj.exit ?_
 refine aj.seq ?_
 refine aj.region E.obj rfl ?_
 refine ai.val rfl (ae rfl) rfl ?_
 refine ai.val rfl (cz rfl (bQ jK) rfl) rfl ?_
 refine ai.val rfl (ak rfl rfl dN) rfl ?_
 refine ai.val rfl (ae rfl) rfl ?_
 refine ai.aT 4 39 (.d (.bool ((decide (1 ≤ ((a1).length:Int))) && (decide (((a1).length:Int) ≤ 16))))) ?_ ?_
 ·
  rcases Bool.eq_false_or_eq_true ((decide (1 ≤ ((a1).length:Int)))) with hB23 | hB23
  ·
   refine ai.bool hB23 ?_
   refine ai.val rfl (ae rfl) rfl ?_
   refine ai.val rfl (cz rfl (bQ jK) rfl) rfl ?_
   refine ai.val rfl (ak rfl rfl fQ) rfl ?_
   refine ai.val rfl (au (b:=true) rfl rfl) rfl ?_
   exact ai.nil ⟨_,rfl,(aa.put (aa.push rfl (aa.push rfl (aa.push rfl (aa.put (.refl _) (Less.eq (by rw [hB23])))))) (Less.eq (by rw [hB23]; rw [Bool.true_and])))⟩
  refine ai.bool hB23 ?_
  refine ai.no rfl rfl ?_
  refine ai.no rfl rfl ?_
  refine ai.no rfl rfl ?_
  refine ai.val rfl (au (b:=false) rfl rfl) rfl ?_
  exact ai.nil ⟨_,rfl,(aa.put (aa.push rfl (aa.push rfl (aa.push rfl (aa.put (.refl _) (Less.eq (by rw [hB23])))))) (Less.eq (by rw [hB23]; rw [Bool.false_and])))⟩
 refine ai.val rfl (ah rfl) rfl ?_
 refine ai.nil ?_
 have hr:=Option.some.inj h
 subst hr
 exact aj.ret ⟨_,rfl,rfl,eG (av.eq .nil)⟩
set_option maxRecDepth 20000 in
set_option maxHeartbeats 4000000 in
theorem fV (n:Nat) (a1:(List Seg)) (r:Bool) (h:dn n a1=some r):aY R cfg.P 14 [(.sl ((a1).map aJ) false)] (.d (.bool r)):=by
 unfold dn at h
 refine aY.of_wp E.obj.toObjOk (C:=cfg) Tryd.func14 rfl GI rfl ?_
 have H0:Has ay ay []:=Has.pure
 refine aj.seq ?_
 refine aj.region E.obj rfl ?_
 refine ai.val rfl (ah rfl) rfl ?_
 refine ai.nil ?_
 refine aj.seq ?_
 refine aj.seq ?_
 refine aj.region E.obj rfl ?_
 refine ai.val rfl (ae rfl) rfl ?_
 refine ai.val rfl (aI rfl qM) rfl ?_
 refine ai.val rfl (ak rfl rfl fO) rfl ?_
 refine ai.nil ?_
 refine aj.cond rfl (fun hb2=>?_) (fun hb2=>?_)
 ·
  replace h:=bg hb2 h
  refine aj.seq ?_
  refine aj.region E.obj rfl ?_
  refine ai.val rfl (ah rfl) rfl ?_
  refine ai.nil ?_
  have hr:=Option.some.inj h
  subst hr
  exact aj.ret ⟨_,rfl,rfl,eG (av.eq .nil)⟩
 replace h:=aZ hb2 h
 refine aj.skip ?_
 refine aj.seq ?_
 refine aj.region E.obj rfl ?_
 refine ai.makeMap D.str D.bool H0 rfl EU rfl (fun b3 S4 H5=>?_)
 refine ai.val rfl (ah rfl) rfl ?_
 refine ai.nil ?_
 refine aj.seq ?_
 refine aj.seq ?_
 refine aj.region E.obj rfl ?_
 refine ai.val rfl (ae rfl) rfl ?_
 refine ai.val rfl (aI rfl qM) rfl ?_
 refine ai.val rfl (ae rfl) rfl ?_
 refine ai.nil ?_
 refine aj.block ?_
 refine kS.start (B:=ay) (α:=(List (Str × Bool)) × Int) (fun k a=>aO n a1 k a.1 a.2=some r) (fun a=>[(0,(.d (.sl ((a1).map aJ) false))),(3,(.map b3)),(10,(.d (.sl ((a1).map aJ) false))),(11,(.d (.int .i64 ((a1).length:Int)))),(12,(.d (.int .i64 a.2)))]) (fun a=>[.map b3 (mD D.str D.bool a.1)]) ?_ ?_ n ⟨⟨[],0⟩,_,_,S4,.refl _ _,.refl _,(aa.r rfl (aa.r rfl (aa.r rfl (aa.r rfl (aa.r rfl aa.nil))))),H5.sl [0] rfl rfl,h⟩
 ·
  intro a h; simp [aO] at h
 intro k16 a S12 H13 h
 obtain ⟨x14,x15⟩:=a
 replace h:aO n a1 (k16 + 1) x14 x15=some r:=h
 replace H13:Has ay S12 [.map b3 (mD D.str D.bool x14)]:=H13
 unfold aO at h
 refine aj.seq ?_
 refine aj.region E.obj rfl ?_
 refine ai.val rfl (ak rfl rfl bE) rfl ?_
 refine ai.nil ?_
 refine aj.seq ?_
 refine aj.cond rfl (fun hb17=>?_) (fun hb17=>?_)
 ·
  replace h:=bg hb17 h
  refine aj.skip ?_
  refine aj.join (B:=ay) (α:=(List (Str × Bool))) (fun a=>bU x15 (aO n a1 k16) a=some r) (fun a=>[(0,(.d (.sl ((a1).map aJ) false))),(3,(.map b3)),(10,(.d (.sl ((a1).map aJ) false))),(11,(.d (.int .i64 ((a1).length:Int)))),(12,(.d (.int .i64 x15)))]) (fun a=>[.map b3 (mD D.str D.bool a)]) ?_ ?_
  ·
   intro x20 S18 H19 h
   replace h:bU x15 (aO n a1 k16) x20=some r:=h
   replace H19:Has ay S18 [.map b3 (mD D.str D.bool x20)]:=H19
   unfold bU at h
   refine aj.region E.obj rfl ?_
   refine ai.val rfl (ak rfl rfl bf) rfl ?_
   refine ai.val rfl (ae rfl) rfl ?_
   refine ai.nil ?_
   exact ⟨⟨x20,(IntKind.wrap .i64 (x15 + 1))⟩,_,_,S18,.refl _ _,.refl _,(aa.r rfl (aa.r rfl (aa.r rfl (aa.r rfl (aa.r rfl aa.nil))))),H19.sl [0] rfl rfl,h⟩
  refine aj.block ?_
  refine aj.seq ?_
  refine aj.region E.obj rfl ?_
  refine ai.val rfl (ae rfl) rfl ?_
  obtain ⟨z22,hzz22,h⟩:=bind_some h
  refine ai.val rfl (bO rfl rfl (df (enc:=aJ) hzz22 qm om ((Seg.len _).trans iD.symm))) rfl ?_
  refine ai.val rfl (aX rfl (Seg.lX ql iD)) rfl ?_
  refine ai.alloc H13 rfl zF nZ rfl rfl (fun b23 S24 H25=>?_)
  refine ai.val rfl (ah rfl) rfl ?_
  refine ai.store H25 (i:=0) rfl rfl rfl rfl (Seg.eO _) rfl iD rfl om rfl rfl rfl (fun S26 H27=>?_)
  refine ai.nil ?_
  refine aj.seq ?_
  refine aj.seq ?_
  refine aj.region E.obj rfl ?_
  refine ai.val rfl (ax rfl fU uf rfl) rfl ?_
  refine ai.val rfl (aB H27 (i:=0) rfl rfl (aG qF rfl)) rfl ?_
  refine ai.val rfl (ak rfl rfl bE) rfl ?_
  refine ai.val rfl (ae rfl) rfl ?_
  refine ai.aT 4 24 (.d (.bool ((decide (z22.Kind < 0)) || (decide (3 < z22.Kind))))) ?_ ?_
  ·
   rcases Bool.eq_false_or_eq_true ((decide (z22.Kind < 0))) with hB28 | hB28
   ·
    refine ai.bool hB28 ?_
    refine ai.no rfl rfl ?_
    refine ai.no rfl rfl ?_
    refine ai.no rfl rfl ?_
    refine ai.val rfl (au (b:=true) rfl rfl) rfl ?_
    exact ai.nil ⟨_,rfl,(aa.put (aa.push rfl (aa.push rfl (aa.push rfl (aa.put (.refl _) (Less.eq (by rw [hB28])))))) (Less.eq (by rw [hB28]; rw [Bool.true_or])))⟩
   refine ai.bool hB28 ?_
   refine ai.val rfl (ax rfl fU uf rfl) rfl ?_
   refine ai.val rfl (aB H27 (i:=0) rfl rfl (aG qF rfl)) rfl ?_
   refine ai.val rfl (ak rfl rfl fO) rfl ?_
   refine ai.val rfl (au (b:=false) rfl rfl) rfl ?_
   exact ai.nil ⟨_,rfl,(aa.put (aa.push rfl (aa.push rfl (aa.push rfl (aa.put (.refl _) (Less.eq (by rw [hB28])))))) (Less.eq (by rw [hB28]; rw [Bool.false_or])))⟩
  refine ai.val rfl (ae rfl) rfl ?_
  obtain ⟨z30,hzz30,h⟩:=bind_some h
  refine ai.aT 5 30 (.d (.bool z30)) ?_ ?_
  ·
   rcases Bool.eq_false_or_eq_true (((decide (z22.Kind < 0)) || (decide (3 < z22.Kind)))) with hB29 | hB29
   ·
    refine ai.bool hB29 ?_
    refine ai.no rfl rfl ?_
    refine ai.no rfl rfl ?_
    refine ai.no rfl rfl ?_
    refine ai.no rfl rfl ?_
    refine ai.val rfl (au (b:=true) rfl rfl) rfl ?_
    replace hzz30:=bg hB29 hzz30
    cases hzz30
    exact ai.nil ⟨_,rfl,(aa.put (aa.push rfl (aa.push rfl (aa.push rfl (aa.push rfl (aa.put (.refl _) (Less.eq (by rw [hB29]))))))) (.refl _))⟩
   refine ai.bool hB29 ?_
   replace hzz30:=aZ hB29 hzz30
   refine ai.val rfl (ax rfl jb rH rfl) rfl ?_
   refine ai.val rfl (aB H27 (i:=0) rfl rfl (aG j5 rfl)) rfl ?_
   obtain ⟨z31,hzz31,hzz30⟩:=bind_some hzz30
   refine ai.ret rfl (aA rfl rfl) (pQ E _ _ _ hzz31 _ _ (av.eq .nil)) rfl ?_
   refine ai.val rfl (bY rfl) rfl ?_
   refine ai.val rfl (au (b:=false) rfl rfl) rfl ?_
   cases hzz30
   exact ai.nil ⟨_,rfl,(aa.put (aa.push rfl (aa.push rfl (aa.push rfl (aa.push rfl (aa.put (.refl _) (Less.eq (by rw [hB29]))))))) (.refl _))⟩
  refine ai.val rfl (ae rfl) rfl ?_
  refine ai.aT 11 42 (.d (.bool (z30 || ((decide (2 ≤ z22.Kind)) && (decide ((IntKind.wrap .i64 (x15 + 1)) < ((a1).length:Int))))))) ?_ ?_
  ·
   rcases Bool.eq_false_or_eq_true (z30) with hB32 | hB32
   ·
    refine ai.bool hB32 ?_
    refine ai.no rfl rfl ?_
    refine ai.no rfl rfl ?_
    refine ai.no rfl rfl ?_
    refine ai.no rfl rfl ?_
    refine ai.no rfl rfl ?_
    refine ai.no rfl rfl ?_
    refine ai.no rfl rfl ?_
    refine ai.no rfl rfl ?_
    refine ai.no rfl rfl ?_
    refine ai.no rfl rfl ?_
    refine ai.val rfl (au (b:=true) rfl rfl) rfl ?_
    exact ai.nil ⟨_,rfl,(aa.put (aa.push rfl (aa.push rfl (aa.push rfl (aa.push rfl (aa.push rfl (aa.push rfl (aa.push rfl (aa.push rfl (aa.push rfl (aa.push rfl (aa.put (.refl _) (Less.eq (by rw [hB32]))))))))))))) (Less.eq (by rw [hB32]; rw [Bool.true_or])))⟩
   refine ai.bool hB32 ?_
   refine ai.val rfl (ax rfl fU uf rfl) rfl ?_
   refine ai.val rfl (aB H27 (i:=0) rfl rfl (aG qF rfl)) rfl ?_
   refine ai.val rfl (ak rfl rfl dN) rfl ?_
   refine ai.val rfl (ae rfl) rfl ?_
   refine ai.aT 6 41 (.d (.bool ((decide (2 ≤ z22.Kind)) && (decide ((IntKind.wrap .i64 (x15 + 1)) < ((a1).length:Int)))))) ?_ ?_
   ·
    rcases Bool.eq_false_or_eq_true ((decide (2 ≤ z22.Kind))) with hB33 | hB33
    ·
     refine ai.bool hB33 ?_
     refine ai.val rfl (ae rfl) rfl ?_
     refine ai.val rfl (ak rfl rfl bf) rfl ?_
     refine ai.val rfl (ae rfl) rfl ?_
     refine ai.val rfl (aI rfl qM) rfl ?_
     refine ai.val rfl (ak rfl rfl bE) rfl ?_
     refine ai.val rfl (au (b:=true) rfl rfl) rfl ?_
     exact ai.nil ⟨_,rfl,(aa.put (aa.push rfl (aa.push rfl (aa.push rfl (aa.push rfl (aa.push rfl (aa.put (.refl _) (Less.eq (by rw [hB33])))))))) (Less.eq (by rw [hB33]; rw [Bool.true_and])))⟩
    refine ai.bool hB33 ?_
    refine ai.no rfl rfl ?_
    refine ai.no rfl rfl ?_
    refine ai.no rfl rfl ?_
    refine ai.no rfl rfl ?_
    refine ai.no rfl rfl ?_
    refine ai.val rfl (au (b:=false) rfl rfl) rfl ?_
    exact ai.nil ⟨_,rfl,(aa.put (aa.push rfl (aa.push rfl (aa.push rfl (aa.push rfl (aa.push rfl (aa.put (.refl _) (Less.eq (by rw [hB33])))))))) (Less.eq (by rw [hB33]; rw [Bool.false_and])))⟩
   refine ai.val rfl (au (b:=false) rfl rfl) rfl ?_
   exact ai.nil ⟨_,rfl,(aa.put (aa.push rfl (aa.push rfl (aa.push rfl (aa.push rfl (aa.push rfl (aa.put (.refl _) (Less.eq (by rw [hB32])))))))) (Less.eq (by rw [hB32]; rw [Bool.false_or])))⟩
  refine ai.nil ?_
  refine aj.cond rfl (fun hb34=>?_) (fun hb34=>?_)
  ·
   replace h:=bg hb34 h
   refine aj.seq ?_
   refine aj.region E.obj rfl ?_
   refine ai.val rfl (ah rfl) rfl ?_
   refine ai.nil ?_
   have hr:=Option.some.inj h
   subst hr
   exact aj.ret ⟨_,rfl,rfl,eG (av.eq .nil)⟩
  replace h:=aZ hb34 h
  refine aj.skip ?_
  refine aj.seq ?_
  refine aj.region E.obj rfl ?_
  refine ai.val rfl (ax rfl fU uf rfl) rfl ?_
  refine ai.val rfl (aB H27 (i:=0) rfl rfl (aG qF rfl)) rfl ?_
  refine ai.val rfl (ak rfl rfl iA) rfl ?_
  refine ai.nil ?_
  refine aj.cond rfl (fun hb35=>?_) (fun hb35=>?_)
  ·
   replace h:=bg hb35 h
   refine aj.seq ?_
   refine aj.seq ?_
   refine aj.region E.obj rfl ?_
   refine ai.val rfl (ae rfl) rfl ?_
   refine ai.val rfl (ax rfl jb rH rfl) rfl ?_
   refine ai.val rfl (aB H27 (i:=0) rfl rfl (aG j5 rfl)) rfl ?_
   refine ai.val rfl (yu (ek:=D.str) (ev:=D.bool) (k:=z22.Text) (z:=false) H27 (i:=1) rfl rfl rfl EU (CV Ie) Iw) rfl ?_
   refine ai.nil ?_
   refine aj.cond rfl (fun hb36=>?_) (fun hb36=>?_)
   ·
    replace h:=bg hb36 h
    refine aj.seq ?_
    refine aj.region E.obj rfl ?_
    refine ai.val rfl (ah rfl) rfl ?_
    refine ai.nil ?_
    have hr:=Option.some.inj h
    subst hr
    exact aj.ret ⟨_,rfl,rfl,eG (av.eq .nil)⟩
   replace h:=aZ hb36 h
   refine aj.skip ?_
   refine aj.region E.obj rfl ?_
   refine ai.val rfl (ae rfl) rfl ?_
   refine ai.val rfl (ax rfl jb rH rfl) rfl ?_
   refine ai.val rfl (aB H27 (i:=0) rfl rfl (aG j5 rfl)) rfl ?_
   refine ai.mapUpdate (ek:=D.str) (ev:=D.bool) (k:=z22.Text) (v:=true) H27 rfl (i:=1) rfl rfl rfl rfl EU (CV Ie) (fun S37 H38=>?_)
   refine ai.nil ?_
   exact ⟨(vw x14 z22.Text true),_,_,S37,.refl _ _,.refl _,(aa.r rfl (aa.r rfl (aa.r rfl (aa.r rfl (aa.r rfl aa.nil))))),H38.sl [1] rfl rfl,h⟩
  replace h:=aZ hb35 h
  refine aj.skip ?_
  exact ⟨x14,_,_,S26,.refl _ _,.refl _,(aa.r rfl (aa.r rfl (aa.r rfl (aa.r rfl (aa.r rfl aa.nil))))),H27.sl [1] rfl rfl,h⟩
 replace h:=aZ hb17 h
 refine aj.exit ?_
 refine aj.seq ?_
 refine aj.region E.obj rfl ?_
 refine ai.val rfl (ah rfl) rfl ?_
 refine ai.nil ?_
 have hr:=Option.some.inj h
 subst hr
 exact aj.ret ⟨_,rfl,rfl,eG (av.eq .nil)⟩
set_option maxRecDepth 20000 in
set_option maxHeartbeats 4000000 in
theorem kJ (n:Nat) (a1:Int) (r:Bool) (h:eT n a1=some r):aY R cfg.P 44 [(.int .u8 a1)] (.d (.bool r)):=by
 unfold eT at h
 refine aY.of_wp E.obj.toObjOk (C:=cfg) Tryd.func44 rfl Gp rfl ?_
 have H0:Has ay ay []:=Has.pure
 refine aj.seq ?_
 refine aj.region E.obj rfl ?_
 refine ai.val rfl (ah rfl) rfl ?_
 refine ai.nil ?_
 refine aj.seq ?_
 refine aj.region E.obj rfl ?_
 refine ai.val rfl (ae rfl) rfl ?_
 refine ai.val rfl (ak rfl rfl dN) rfl ?_
 refine ai.val rfl (ae rfl) rfl ?_
 refine ai.aT 3 8 (.d (.bool ((decide (97 ≤ a1)) && (decide (a1 ≤ 122))))) ?_ ?_
 ·
  rcases Bool.eq_false_or_eq_true ((decide (97 ≤ a1))) with hB2 | hB2
  ·
   refine ai.bool hB2 ?_
   refine ai.val rfl (ae rfl) rfl ?_
   refine ai.val rfl (ak rfl rfl fQ) rfl ?_
   refine ai.val rfl (au (b:=true) rfl rfl) rfl ?_
   exact ai.nil ⟨_,rfl,(aa.put (aa.push rfl (aa.push rfl (aa.put (.refl _) (Less.eq (by rw [hB2]))))) (Less.eq (by rw [hB2]; rw [Bool.true_and])))⟩
  refine ai.bool hB2 ?_
  refine ai.no rfl rfl ?_
  refine ai.no rfl rfl ?_
  refine ai.val rfl (au (b:=false) rfl rfl) rfl ?_
  exact ai.nil ⟨_,rfl,(aa.put (aa.push rfl (aa.push rfl (aa.put (.refl _) (Less.eq (by rw [hB2]))))) (Less.eq (by rw [hB2]; rw [Bool.false_and])))⟩
 refine ai.val rfl (ae rfl) rfl ?_
 refine ai.aT 7 16 (.d (.bool (((decide (97 ≤ a1)) && (decide (a1 ≤ 122))) || ((decide (65 ≤ a1)) && (decide (a1 ≤ 90)))))) ?_ ?_
 ·
  rcases Bool.eq_false_or_eq_true (((decide (97 ≤ a1)) && (decide (a1 ≤ 122)))) with hB3 | hB3
  ·
   refine ai.bool hB3 ?_
   refine ai.no rfl rfl ?_
   refine ai.no rfl rfl ?_
   refine ai.no rfl rfl ?_
   refine ai.no rfl rfl ?_
   refine ai.no rfl rfl ?_
   refine ai.no rfl rfl ?_
   refine ai.val rfl (au (b:=true) rfl rfl) rfl ?_
   exact ai.nil ⟨_,rfl,(aa.put (aa.push rfl (aa.push rfl (aa.push rfl (aa.push rfl (aa.push rfl (aa.push rfl (aa.put (.refl _) (Less.eq (by rw [hB3]))))))))) (Less.eq (by rw [hB3]; rw [Bool.true_or])))⟩
  refine ai.bool hB3 ?_
  refine ai.val rfl (ae rfl) rfl ?_
  refine ai.val rfl (ak rfl rfl dN) rfl ?_
  refine ai.val rfl (ae rfl) rfl ?_
  refine ai.aT 3 15 (.d (.bool ((decide (65 ≤ a1)) && (decide (a1 ≤ 90))))) ?_ ?_
  ·
   rcases Bool.eq_false_or_eq_true ((decide (65 ≤ a1))) with hB4 | hB4
   ·
    refine ai.bool hB4 ?_
    refine ai.val rfl (ae rfl) rfl ?_
    refine ai.val rfl (ak rfl rfl fQ) rfl ?_
    refine ai.val rfl (au (b:=true) rfl rfl) rfl ?_
    exact ai.nil ⟨_,rfl,(aa.put (aa.push rfl (aa.push rfl (aa.put (.refl _) (Less.eq (by rw [hB4]))))) (Less.eq (by rw [hB4]; rw [Bool.true_and])))⟩
   refine ai.bool hB4 ?_
   refine ai.no rfl rfl ?_
   refine ai.no rfl rfl ?_
   refine ai.val rfl (au (b:=false) rfl rfl) rfl ?_
   exact ai.nil ⟨_,rfl,(aa.put (aa.push rfl (aa.push rfl (aa.put (.refl _) (Less.eq (by rw [hB4]))))) (Less.eq (by rw [hB4]; rw [Bool.false_and])))⟩
  refine ai.val rfl (au (b:=false) rfl rfl) rfl ?_
  exact ai.nil ⟨_,rfl,(aa.put (aa.push rfl (aa.push rfl (aa.push rfl (aa.push rfl (aa.put (.refl _) (Less.eq (by rw [hB3]))))))) (Less.eq (by rw [hB3]; rw [Bool.false_or])))⟩
 refine ai.val rfl (ae rfl) rfl ?_
 refine ai.aT 7 24 (.d (.bool ((((decide (97 ≤ a1)) && (decide (a1 ≤ 122))) || ((decide (65 ≤ a1)) && (decide (a1 ≤ 90)))) || ((decide (48 ≤ a1)) && (decide (a1 ≤ 57)))))) ?_ ?_
 ·
  rcases Bool.eq_false_or_eq_true ((((decide (97 ≤ a1)) && (decide (a1 ≤ 122))) || ((decide (65 ≤ a1)) && (decide (a1 ≤ 90))))) with hB5 | hB5
  ·
   refine ai.bool hB5 ?_
   refine ai.no rfl rfl ?_
   refine ai.no rfl rfl ?_
   refine ai.no rfl rfl ?_
   refine ai.no rfl rfl ?_
   refine ai.no rfl rfl ?_
   refine ai.no rfl rfl ?_
   refine ai.val rfl (au (b:=true) rfl rfl) rfl ?_
   exact ai.nil ⟨_,rfl,(aa.put (aa.push rfl (aa.push rfl (aa.push rfl (aa.push rfl (aa.push rfl (aa.push rfl (aa.put (.refl _) (Less.eq (by rw [hB5]))))))))) (Less.eq (by rw [hB5]; rw [Bool.true_or])))⟩
  refine ai.bool hB5 ?_
  refine ai.val rfl (ae rfl) rfl ?_
  refine ai.val rfl (ak rfl rfl dN) rfl ?_
  refine ai.val rfl (ae rfl) rfl ?_
  refine ai.aT 3 23 (.d (.bool ((decide (48 ≤ a1)) && (decide (a1 ≤ 57))))) ?_ ?_
  ·
   rcases Bool.eq_false_or_eq_true ((decide (48 ≤ a1))) with hB6 | hB6
   ·
    refine ai.bool hB6 ?_
    refine ai.val rfl (ae rfl) rfl ?_
    refine ai.val rfl (ak rfl rfl fQ) rfl ?_
    refine ai.val rfl (au (b:=true) rfl rfl) rfl ?_
    exact ai.nil ⟨_,rfl,(aa.put (aa.push rfl (aa.push rfl (aa.put (.refl _) (Less.eq (by rw [hB6]))))) (Less.eq (by rw [hB6]; rw [Bool.true_and])))⟩
   refine ai.bool hB6 ?_
   refine ai.no rfl rfl ?_
   refine ai.no rfl rfl ?_
   refine ai.val rfl (au (b:=false) rfl rfl) rfl ?_
   exact ai.nil ⟨_,rfl,(aa.put (aa.push rfl (aa.push rfl (aa.put (.refl _) (Less.eq (by rw [hB6]))))) (Less.eq (by rw [hB6]; rw [Bool.false_and])))⟩
  refine ai.val rfl (au (b:=false) rfl rfl) rfl ?_
  exact ai.nil ⟨_,rfl,(aa.put (aa.push rfl (aa.push rfl (aa.push rfl (aa.push rfl (aa.put (.refl _) (Less.eq (by rw [hB5]))))))) (Less.eq (by rw [hB5]; rw [Bool.false_or])))⟩
 refine ai.val rfl (ae rfl) rfl ?_
 refine ai.aT 3 28 (.d (.bool (((((decide (97 ≤ a1)) && (decide (a1 ≤ 122))) || ((decide (65 ≤ a1)) && (decide (a1 ≤ 90)))) || ((decide (48 ≤ a1)) && (decide (a1 ≤ 57)))) || (a1 == 45)))) ?_ ?_
 ·
  rcases Bool.eq_false_or_eq_true (((((decide (97 ≤ a1)) && (decide (a1 ≤ 122))) || ((decide (65 ≤ a1)) && (decide (a1 ≤ 90)))) || ((decide (48 ≤ a1)) && (decide (a1 ≤ 57))))) with hB7 | hB7
  ·
   refine ai.bool hB7 ?_
   refine ai.no rfl rfl ?_
   refine ai.no rfl rfl ?_
   refine ai.val rfl (au (b:=true) rfl rfl) rfl ?_
   exact ai.nil ⟨_,rfl,(aa.put (aa.push rfl (aa.push rfl (aa.put (.refl _) (Less.eq (by rw [hB7]))))) (Less.eq (by rw [hB7]; rw [Bool.true_or])))⟩
  refine ai.bool hB7 ?_
  refine ai.val rfl (ae rfl) rfl ?_
  refine ai.val rfl (ak rfl rfl cZ) rfl ?_
  refine ai.val rfl (au (b:=false) rfl rfl) rfl ?_
  exact ai.nil ⟨_,rfl,(aa.put (aa.push rfl (aa.push rfl (aa.put (.refl _) (Less.eq (by rw [hB7]))))) (Less.eq (by rw [hB7]; rw [Bool.false_or])))⟩
 refine ai.val rfl (ae rfl) rfl ?_
 refine ai.aT 3 32 (.d (.bool ((((((decide (97 ≤ a1)) && (decide (a1 ≤ 122))) || ((decide (65 ≤ a1)) && (decide (a1 ≤ 90)))) || ((decide (48 ≤ a1)) && (decide (a1 ≤ 57)))) || (a1 == 45)) || (a1 == 46)))) ?_ ?_
 ·
  rcases Bool.eq_false_or_eq_true ((((((decide (97 ≤ a1)) && (decide (a1 ≤ 122))) || ((decide (65 ≤ a1)) && (decide (a1 ≤ 90)))) || ((decide (48 ≤ a1)) && (decide (a1 ≤ 57)))) || (a1 == 45))) with hB8 | hB8
  ·
   refine ai.bool hB8 ?_
   refine ai.no rfl rfl ?_
   refine ai.no rfl rfl ?_
   refine ai.val rfl (au (b:=true) rfl rfl) rfl ?_
   exact ai.nil ⟨_,rfl,(aa.put (aa.push rfl (aa.push rfl (aa.put (.refl _) (Less.eq (by rw [hB8]))))) (Less.eq (by rw [hB8]; rw [Bool.true_or])))⟩
  refine ai.bool hB8 ?_
  refine ai.val rfl (ae rfl) rfl ?_
  refine ai.val rfl (ak rfl rfl cZ) rfl ?_
  refine ai.val rfl (au (b:=false) rfl rfl) rfl ?_
  exact ai.nil ⟨_,rfl,(aa.put (aa.push rfl (aa.push rfl (aa.put (.refl _) (Less.eq (by rw [hB8]))))) (Less.eq (by rw [hB8]; rw [Bool.false_or])))⟩
 refine ai.val rfl (ae rfl) rfl ?_
 refine ai.aT 3 36 (.d (.bool (((((((decide (97 ≤ a1)) && (decide (a1 ≤ 122))) || ((decide (65 ≤ a1)) && (decide (a1 ≤ 90)))) || ((decide (48 ≤ a1)) && (decide (a1 ≤ 57)))) || (a1 == 45)) || (a1 == 46)) || (a1 == 95)))) ?_ ?_
 ·
  rcases Bool.eq_false_or_eq_true (((((((decide (97 ≤ a1)) && (decide (a1 ≤ 122))) || ((decide (65 ≤ a1)) && (decide (a1 ≤ 90)))) || ((decide (48 ≤ a1)) && (decide (a1 ≤ 57)))) || (a1 == 45)) || (a1 == 46))) with hB9 | hB9
  ·
   refine ai.bool hB9 ?_
   refine ai.no rfl rfl ?_
   refine ai.no rfl rfl ?_
   refine ai.val rfl (au (b:=true) rfl rfl) rfl ?_
   exact ai.nil ⟨_,rfl,(aa.put (aa.push rfl (aa.push rfl (aa.put (.refl _) (Less.eq (by rw [hB9]))))) (Less.eq (by rw [hB9]; rw [Bool.true_or])))⟩
  refine ai.bool hB9 ?_
  refine ai.val rfl (ae rfl) rfl ?_
  refine ai.val rfl (ak rfl rfl cZ) rfl ?_
  refine ai.val rfl (au (b:=false) rfl rfl) rfl ?_
  exact ai.nil ⟨_,rfl,(aa.put (aa.push rfl (aa.push rfl (aa.put (.refl _) (Less.eq (by rw [hB9]))))) (Less.eq (by rw [hB9]; rw [Bool.false_or])))⟩
 refine ai.val rfl (ae rfl) rfl ?_
 refine ai.aT 3 40 (.d (.bool ((((((((decide (97 ≤ a1)) && (decide (a1 ≤ 122))) || ((decide (65 ≤ a1)) && (decide (a1 ≤ 90)))) || ((decide (48 ≤ a1)) && (decide (a1 ≤ 57)))) || (a1 == 45)) || (a1 == 46)) || (a1 == 95)) || (a1 == 126)))) ?_ ?_
 ·
  rcases Bool.eq_false_or_eq_true ((((((((decide (97 ≤ a1)) && (decide (a1 ≤ 122))) || ((decide (65 ≤ a1)) && (decide (a1 ≤ 90)))) || ((decide (48 ≤ a1)) && (decide (a1 ≤ 57)))) || (a1 == 45)) || (a1 == 46)) || (a1 == 95))) with hB10 | hB10
  ·
   refine ai.bool hB10 ?_
   refine ai.no rfl rfl ?_
   refine ai.no rfl rfl ?_
   refine ai.val rfl (au (b:=true) rfl rfl) rfl ?_
   exact ai.nil ⟨_,rfl,(aa.put (aa.push rfl (aa.push rfl (aa.put (.refl _) (Less.eq (by rw [hB10]))))) (Less.eq (by rw [hB10]; rw [Bool.true_or])))⟩
  refine ai.bool hB10 ?_
  refine ai.val rfl (ae rfl) rfl ?_
  refine ai.val rfl (ak rfl rfl cZ) rfl ?_
  refine ai.val rfl (au (b:=false) rfl rfl) rfl ?_
  exact ai.nil ⟨_,rfl,(aa.put (aa.push rfl (aa.push rfl (aa.put (.refl _) (Less.eq (by rw [hB10]))))) (Less.eq (by rw [hB10]; rw [Bool.false_or])))⟩
 refine ai.val rfl (ah rfl) rfl ?_
 refine ai.nil ?_
 have hr:=Option.some.inj h
 subst hr
 exact aj.ret ⟨_,rfl,rfl,eG (av.eq .nil)⟩
set_option maxRecDepth 20000 in
set_option maxHeartbeats 4000000 in
theorem ko (n:Nat) (a1:Str) (r:Str) (h:eX n a1=some r):aY R cfg.P 24 [(.str a1)] (.d (.str r)):=by
 unfold eX at h
 refine aY.of_wp E.obj.toObjOk (C:=cfg) Tryd.func24 rfl GR rfl ?_
 have H0:Has ay ay []:=Has.pure
 refine aj.seq ?_
 refine aj.region E.obj rfl ?_
 refine ai.val rfl (ah rfl) rfl ?_
 refine ai.nil ?_
 refine aj.seq ?_
 refine aj.region E.obj rfl ?_
 refine ai.val rfl (ah rfl) rfl ?_
 refine ai.nil ?_
 refine aj.seq ?_
 refine aj.region E.obj rfl ?_
 refine ai.val rfl (ah rfl) rfl ?_
 refine ai.nil ?_
 refine aj.seq ?_
 refine aj.seq ?_
 refine aj.region E.obj rfl ?_
 refine ai.val rfl (ah rfl) rfl ?_
 refine ai.nil ?_
 refine aj.block ?_
 have H40:=H0.rQ
 refine kS.start (B:=ay) (α:=(List Int) × AV × Int) (fun k a=>bq n a1 k a.1 a.2.2=some r) (fun a=>[(0,(.d (.str a1))),(3,(.d (.str [48,49,50,51,52,53,54,55,56,57,65,66,67,68,69,70]))),(4,a.2.1),(5,(.d (.int .i64 a.2.2)))]) (fun a=>[.grow a.2.1 ((a.1).map (D.int .u8))]) ?_ ?_ n ⟨⟨[],(.d .bJ),0⟩,_,_,ay,.refl _ _,.refl _,(aa.r rfl (aa.r rfl (aa.r rfl (aa.r rfl aa.nil)))),H40.sl [0] rfl rfl,h⟩
 ·
  intro a h; simp [bq] at h
 intro k14 a S9 H10 h
 obtain ⟨x11,v12,x13⟩:=a
 replace h:bq n a1 (k14 + 1) x11 x13=some r:=h
 replace H10:Has ay S9 [.grow v12 ((x11).map (D.int .u8))]:=H10
 unfold bq at h
 refine aj.seq ?_
 refine aj.seq ?_
 refine aj.region E.obj rfl ?_
 refine ai.val rfl (ae rfl) rfl ?_
 refine ai.val rfl (ae rfl) rfl ?_
 refine ai.val rfl (cz rfl (bQ jK) rfl) rfl ?_
 refine ai.val rfl (ak rfl rfl bE) rfl ?_
 refine ai.nil ?_
 refine aj.cond rfl (fun hb15=>?_) (fun hb15=>?_)
 ·
  replace h:=bg hb15 h
  refine aj.skip ?_
  refine aj.join (B:=ay) (α:=(List Int) × AV) (fun a=>dJ x13 (bq n a1 k14) a.1=some r) (fun a=>[(0,(.d (.str a1))),(3,(.d (.str [48,49,50,51,52,53,54,55,56,57,65,66,67,68,69,70]))),(4,a.2),(5,(.d (.int .i64 x13)))]) (fun a=>[.grow a.2 ((a.1).map (D.int .u8))]) ?_ ?_
  ·
   intro a S16 H17 h
   obtain ⟨x18,v19⟩:=a
   replace h:dJ x13 (bq n a1 k14) x18=some r:=h
   replace H17:Has ay S16 [.grow v19 ((x18).map (D.int .u8))]:=H17
   unfold dJ at h
   refine aj.region E.obj rfl ?_
   refine ai.val rfl (ae rfl) rfl ?_
   refine ai.val rfl (ak rfl rfl bf) rfl ?_
   refine ai.val rfl (ah rfl) rfl ?_
   refine ai.nil ?_
   exact ⟨⟨x18,v19,(IntKind.wrap .i64 (x13 + 1))⟩,_,_,S16,.refl _ _,.refl _,(aa.r rfl (aa.r rfl (aa.r rfl (aa.r rfl aa.nil)))),H17.sl [0] rfl rfl,h⟩
  refine aj.block ?_
  refine aj.seq ?_
  refine aj.region E.obj rfl ?_
  refine ai.val rfl (ae rfl) rfl ?_
  refine ai.val rfl (ae rfl) rfl ?_
  obtain ⟨z21,hzz21,h⟩:=bind_some h
  refine ai.val rfl (bM rfl rfl (aW hzz21).1 jK (aW hzz21).2) rfl ?_
  obtain ⟨z22,hzz22,h⟩:=bind_some h
  refine ai.ret rfl (aA rfl rfl) (kJ E _ _ _ hzz22 _ _ (av.eq .nil)) rfl ?_
  refine ai.nil ?_
  refine aj.cond rfl (fun hb23=>?_) (fun hb23=>?_)
  ·
   replace h:=bg hb23 h
   refine aj.region E.obj rfl ?_
   refine ai.val rfl (ae rfl) rfl ?_
   refine ai.val rfl (ae rfl) rfl ?_
   refine ai.val rfl (ae rfl) rfl ?_
   obtain ⟨z24,hzz24,h⟩:=bind_some h
   refine ai.val rfl (bM rfl rfl (aW hzz24).1 jK (aW hzz24).2) rfl ?_
   refine ai.val rfl (aK (vs:=[(.d (.int .u8 (z24.toNat:Int)))]) (ds:=[(.int .u8 (z24.toNat:Int))]) yo yK FX FK Ci rfl (by decide) (.cons rfl rfl .nil) rfl (by intro d hd; simp only [List.mem_cons,List.not_mem_nil,or_false] at hd; rcases hd with rfl <;> rfl) rfl) rfl ?_
   obtain ⟨z25,hzz25,h⟩:=bind_some h
   refine ai.append (xs:=(x11).map (D.int .u8)) (ys:=([(z24.toNat:Int)]).map (D.int .u8)) (zs:=(z25).map (D.int .u8)) H10 rfl rfl rfl (i:=0) rfl rfl yo EA yK (dC hzz25) F9 rfl (aQ (enc:=(D.int .u8)) (fun _=>Ci.symm) _) (aQ (enc:=(D.int .u8)) (fun _=>Ci.symm) _) Gf rfl (gB hzz25) (fun v26 S27 H28=>?_)
   refine ai.val rfl (ah rfl) rfl ?_
   refine ai.nil ?_
   exact ⟨⟨z25,v26⟩,_,_,S27,.refl _ _,.refl _,(aa.r rfl (aa.r rfl (aa.r rfl (aa.r rfl aa.nil)))),H28.sl [0] rfl rfl,h⟩
  replace h:=aZ hb23 h
  obtain ⟨z29,hzz29,h⟩:=bind_some h
  obtain ⟨z30,hzz30,h⟩:=bind_some h
  obtain ⟨z31,hzz31,h⟩:=bind_some h
  obtain ⟨z32,hzz32,h⟩:=bind_some h
  obtain ⟨z33,hzz33,h⟩:=bind_some h
  refine aj.l6 E.obj qH IB [(0,none),(3,none),(4,some 15),(5,none)] (by kernel_rfl) [14] (by decide) [some v12,some (.d (.str [48,49,50,51,52,53,54,55,56,57,65,66,67,68,69,70])),some (.d (.str a1)),some (.d (.int .i64 x13)),some (.d (.int .u8 (z29.toNat:Int))),some (.d (.int .u8 z30)),some (.d (.int .u8 (z31.toNat:Int))),some (.d (.str [48,49,50,51,52,53,54,55,56,57,65,66,67,68,69,70])),some (.d (.str a1)),some (.d (.int .i64 x13)),some (.d (.int .u8 (z29.toNat:Int))),some (.d (.int .u8 (BX .u8 (z29.toNat:Int) 15))),some (.d (.int .u8 (z32.toNat:Int))),some (.d (.sl (([37,(z31.toNat:Int),(z32.toNat:Int)]).map (D.int .u8)) true)),none,none] ?_
  refine ⟨[0,1,2,3,4,5,6,7,8,9,10,11,12,13],by kernel_rfl,?_,_,_,rfl,rfl,.step ?_⟩
  ·
   refine .v rfl rfl rfl rfl (ae rfl) ?_
   refine .v rfl rfl rfl rfl (ae rfl) ?_
   refine .v rfl rfl rfl rfl (ae rfl) ?_
   refine .v rfl rfl rfl rfl (ae rfl) ?_
   refine .v rfl rfl rfl rfl (bM rfl rfl (aW hzz29).1 jK (aW hzz29).2) ?_
   refine .v rfl rfl rfl rfl (ak rfl rfl (xu hzz30)) ?_
   refine .v rfl rfl rfl rfl (bM rfl rfl (aW hzz31).1 jK (aW hzz31).2) ?_
   refine .v rfl rfl rfl rfl (ae rfl) ?_
   refine .v rfl rfl rfl rfl (ae rfl) ?_
   refine .v rfl rfl rfl rfl (ae rfl) ?_
   refine .v rfl rfl rfl rfl (bM rfl rfl (aW hzz29).1 jK (aW hzz29).2) ?_
   refine .v rfl rfl rfl rfl (ak rfl rfl zD) ?_
   refine .v rfl rfl rfl rfl (bM rfl rfl (aW hzz32).1 jK (aW hzz32).2) ?_
   refine .v rfl rfl rfl rfl (aK (vs:=[(.d (.int .u8 37)),(.d (.int .u8 (z31.toNat:Int))),(.d (.int .u8 (z32.toNat:Int)))]) (ds:=[(.int .u8 37),(.int .u8 (z31.toNat:Int)),(.int .u8 (z32.toNat:Int))]) yo yK FX FK Ci rfl (by decide) (.cons rfl rfl (.cons rfl rfl (.cons rfl rfl .nil))) rfl (by intro d hd; simp only [List.mem_cons,List.not_mem_nil,or_false] at hd; rcases hd with rfl | rfl | rfl <;> rfl) rfl) ?_
   exact .nil
  refine ai.append (xs:=(x11).map (D.int .u8)) (ys:=([37,(z31.toNat:Int),(z32.toNat:Int)]).map (D.int .u8)) (zs:=(z33).map (D.int .u8)) H10 rfl rfl rfl (i:=0) rfl rfl yo EA yK (dC hzz33) F9 rfl (aQ (enc:=(D.int .u8)) (fun _=>Ci.symm) _) (aQ (enc:=(D.int .u8)) (fun _=>Ci.symm) _) Gf rfl (gB hzz33) (fun v37 S38 H39=>?_)
  refine ai.nil ⟨_,_,_,rfl,(fun _ ht=>by cases ht; rfl),_,(.q (.q (.q (.o (.o (.w v37 (.w v37 .nil))))))),(fun _ ht=>by cases ht; exact ⟨_,rfl,.refl _⟩),?_⟩
  refine ⟨[15],by kernel_rfl,?_,_,rfl,?_⟩
  ·
   refine .v rfl rfl rfl rfl (ah rfl) ?_
   exact .nil
  exact ⟨⟨z33,v37⟩,_,_,S38,.refl _ _,.refl _,(aa.r rfl (aa.r rfl (aa.r rfl (aa.r rfl aa.nil)))),H39.sl [0] rfl rfl,h⟩
 replace h:=aZ hb15 h
 refine aj.exit ?_
 refine aj.seq ?_
 refine aj.region E.obj rfl ?_
 refine ai.val rfl (ae rfl) rfl ?_
 refine ai.weak (aa.cons (t:=37) rfl (EN H10 (i:=0) rfl) (.refl _)) ?_
 refine ai.val rfl (kL (l:=x11) rfl jK Fe) rfl ?_
 refine ai.val rfl (ah rfl) rfl ?_
 refine ai.nil ?_
 have hr:=Option.some.inj h
 subst hr
 exact aj.ret ⟨_,rfl,rfl,eG (av.eq .nil)⟩
set_option maxRecDepth 20000 in
set_option maxHeartbeats 4000000 in
theorem o5 (n:Nat) (a1:(List Seg)) (a2:(List Str)) (r:((List aD) × Bool)) (h:gQ n a1 a2=some r):aY R cfg.P 9 [(.sl ((a1).map aJ) false),(.sl ((a2).map D.str) false)] (.tup [.d (.sl ((r.1).map az) false),.d (.bool r.2)]):=by
 unfold gQ at h
 refine aY.of_wp E.obj.toObjOk (C:=cfg) Tryd.func9 rfl Iq rfl ?_
 have H0:Has ay ay []:=Has.pure
 refine aj.seq ?_
 refine aj.region E.obj rfl ?_
 refine ai.val rfl (ah rfl) rfl ?_
 refine ai.val rfl (ah rfl) rfl ?_
 refine ai.nil ?_
 refine aj.seq ?_
 refine aj.region E.obj rfl ?_
 refine ai.val rfl (ah rfl) rfl ?_
 refine ai.nil ?_
 refine aj.seq ?_
 refine aj.seq ?_
 refine aj.region E.obj rfl ?_
 refine ai.val rfl (ae rfl) rfl ?_
 obtain ⟨z3,hzz3,h⟩:=bind_some h
 refine ai.ret rfl (aA rfl rfl) (fV E _ _ _ hzz3 _ _ (av.eq .nil)) rfl ?_
 refine ai.val rfl (bY rfl) rfl ?_
 refine ai.nil ?_
 refine aj.cond rfl (fun hb4=>?_) (fun hb4=>?_)
 ·
  replace h:=bg hb4 h
  refine aj.seq ?_
  refine aj.region E.obj rfl ?_
  refine ai.val rfl (ah rfl) rfl ?_
  refine ai.val rfl (ah rfl) rfl ?_
  refine ai.nil ?_
  have hr:=Option.some.inj h
  subst hr
  exact aj.ret ⟨_,rfl,rfl,fT (vs:=[(.d .bJ),(.d (.bool false))]) (ds:=[(.sl (([]).map az) false),(.bool false)]) (av.fw rfl (.bJ false) (av.eq .nil))⟩
 replace h:=aZ hb4 h
 refine aj.skip ?_
 refine aj.seq ?_
 refine aj.seq ?_
 refine aj.region E.obj rfl ?_
 refine ai.val rfl (ae rfl) rfl ?_
 refine ai.val rfl (aI rfl qM) rfl ?_
 refine ai.val rfl (ae rfl) rfl ?_
 refine ai.nil ?_
 refine aj.block ?_
 have H76:=H0.rQ
 refine kS.start (B:=ay) (α:=(List aD) × AV × Int) (fun k a=>aV n a1 a2 k a.1 a.2.2=some r) (fun a=>[(0,(.d (.sl ((a1).map aJ) false))),(1,(.d (.sl ((a2).map D.str) false))),(6,a.2.1),(14,(.d (.sl ((a1).map aJ) false))),(15,(.d (.int .i64 ((a1).length:Int)))),(16,(.d (.int .i64 a.2.2)))]) (fun a=>[.grow a.2.1 ((a.1).map az)]) ?_ ?_ n ⟨⟨[],(.d .bJ),0⟩,_,_,ay,.refl _ _,.refl _,(aa.r rfl (aa.r rfl (aa.r rfl (aa.r rfl (aa.r rfl (aa.r rfl aa.nil)))))),H76.sl [0] rfl rfl,h⟩
 ·
  intro a h; simp [aV] at h
 intro k17 a S12 H13 h
 obtain ⟨x14,v15,x16⟩:=a
 replace h:aV n a1 a2 (k17 + 1) x14 x16=some r:=h
 replace H13:Has ay S12 [.grow v15 ((x14).map az)]:=H13
 unfold aV at h
 refine aj.seq ?_
 refine aj.region E.obj rfl ?_
 refine ai.val rfl (ak rfl rfl bE) rfl ?_
 refine ai.nil ?_
 refine aj.seq ?_
 refine aj.cond rfl (fun hb18=>?_) (fun hb18=>?_)
 ·
  replace h:=bg hb18 h
  refine aj.skip ?_
  refine aj.join (B:=ay) (α:=(List aD) × AV) (fun a=>dP x16 (aV n a1 a2 k17) a.1=some r) (fun a=>[(0,(.d (.sl ((a1).map aJ) false))),(1,(.d (.sl ((a2).map D.str) false))),(6,a.2),(14,(.d (.sl ((a1).map aJ) false))),(15,(.d (.int .i64 ((a1).length:Int)))),(16,(.d (.int .i64 x16)))]) (fun a=>[.grow a.2 ((a.1).map az)]) ?_ ?_
  ·
   intro a S19 H20 h
   obtain ⟨x21,v22⟩:=a
   replace h:dP x16 (aV n a1 a2 k17) x21=some r:=h
   replace H20:Has ay S19 [.grow v22 ((x21).map az)]:=H20
   unfold dP at h
   refine aj.region E.obj rfl ?_
   refine ai.val rfl (ak rfl rfl bf) rfl ?_
   refine ai.val rfl (ae rfl) rfl ?_
   refine ai.nil ?_
   exact ⟨⟨x21,v22,(IntKind.wrap .i64 (x16 + 1))⟩,_,_,S19,.refl _ _,.refl _,(aa.r rfl (aa.r rfl (aa.r rfl (aa.r rfl (aa.r rfl (aa.r rfl aa.nil)))))),H20.sl [0] rfl rfl,h⟩
  refine aj.block ?_
  refine aj.seq ?_
  refine aj.region E.obj rfl ?_
  refine ai.val rfl (ae rfl) rfl ?_
  obtain ⟨z24,hzz24,h⟩:=bind_some h
  refine ai.val rfl (bO rfl rfl (df (enc:=aJ) hzz24 qm om ((Seg.len _).trans iD.symm))) rfl ?_
  refine ai.val rfl (aX rfl (Seg.lX ql iD)) rfl ?_
  refine ai.alloc H13 rfl zF nZ rfl rfl (fun b25 S26 H27=>?_)
  refine ai.val rfl (ah rfl) rfl ?_
  refine ai.store H27 (i:=0) rfl rfl rfl rfl (Seg.eO _) rfl iD rfl om rfl rfl rfl (fun S28 H29=>?_)
  refine ai.nil ?_
  refine aj.block ?_
  refine aj.seq ?_
  refine aj.region E.obj rfl ?_
  refine ai.val rfl (ax rfl fU uf rfl) rfl ?_
  refine ai.val rfl (aB H29 (i:=0) rfl rfl (aG qF rfl)) rfl ?_
  refine ai.val rfl (ak rfl rfl cZ) rfl ?_
  refine ai.val rfl (ah rfl) rfl ?_
  refine ai.nil ?_
  refine aj.cond rfl (fun hb30=>?_) (fun hb30=>?_)
  ·
   replace h:=bg hb30 h
   refine aj.seq ?_
   refine aj.region E.obj rfl ?_
   refine ai.val rfl (ah rfl) rfl ?_
   refine ai.nil ?_
   refine aj.seq ?_
   refine aj.seq ?_
   refine aj.region E.obj rfl ?_
   refine ai.val rfl (ae rfl) rfl ?_
   refine ai.val rfl (ah rfl) rfl ?_
   refine ai.nil ?_
   refine aj.block ?_
   refine kS.start (B:=ay) (α:=Str × Int) (fun k a=>bC n a2 x14 x16 z24 k a.1 a.2=some r) (fun a=>[(1,(.d (.sl ((a2).map D.str) false))),(6,v15),(7,(.d (.int .i64 x16))),(8,(.ptr b25 0 0)),(9,(.d (.str a.1))),(10,(.d (.int .i64 a.2)))]) (fun a=>[.box b25 [(.d (.int .i64 z24.Kind)),(.d (.str z24.Text))],.grow v15 ((x14).map az)]) ?_ ?_ n ⟨⟨[],x16⟩,_,_,S28,.refl _ _,.refl _,(aa.r rfl (aa.r rfl (aa.r rfl (aa.r rfl (aa.r rfl (aa.r rfl aa.nil)))))),H29.sl [0,1] rfl rfl,h⟩
   ·
    intro a h; simp [bC] at h
   intro k41 a S37 H38 h
   obtain ⟨x39,x40⟩:=a
   replace h:bC n a2 x14 x16 z24 (k41 + 1) x39 x40=some r:=h
   replace H38:Has ay S37 [.box b25 [(.d (.int .i64 z24.Kind)),(.d (.str z24.Text))],.grow v15 ((x14).map az)]:=H38
   unfold bC at h
   refine aj.seq ?_
   refine aj.seq ?_
   refine aj.region E.obj rfl ?_
   refine ai.val rfl (ae rfl) rfl ?_
   refine ai.val rfl (ae rfl) rfl ?_
   refine ai.val rfl (aI rfl kI) rfl ?_
   refine ai.val rfl (ak rfl rfl bE) rfl ?_
   refine ai.nil ?_
   refine aj.cond rfl (fun hb42=>?_) (fun hb42=>?_)
   ·
    replace h:=bg hb42 h
    refine aj.skip ?_
    refine aj.seq ?_
    refine aj.block ?_
    refine aj.join (B:=ay) (α:=Str) (fun a=>dO n a2 x40 (bC n a2 x14 x16 z24 k41) a=some r) (fun a=>[(1,(.d (.sl ((a2).map D.str) false))),(6,v15),(7,(.d (.int .i64 x16))),(8,(.ptr b25 0 0)),(9,(.d (.str a))),(10,(.d (.int .i64 x40)))]) (fun a=>[.box b25 [(.d (.int .i64 z24.Kind)),(.d (.str z24.Text))],.grow v15 ((x14).map az)]) ?_ ?_
    ·
     intro x45 S43 H44 h
     replace h:dO n a2 x40 (bC n a2 x14 x16 z24 k41) x45=some r:=h
     replace H44:Has ay S43 [.box b25 [(.d (.int .i64 z24.Kind)),(.d (.str z24.Text))],.grow v15 ((x14).map az)]:=H44
     unfold dO at h
     refine aj.region E.obj rfl ?_
     refine ai.val rfl (ae rfl) rfl ?_
     refine ai.val rfl (ae rfl) rfl ?_
     refine ai.val rfl (ae rfl) rfl ?_
     obtain ⟨z47,hzz47,h⟩:=bind_some h
     refine ai.val rfl (bO rfl rfl (df (enc:=D.str) hzz47 gV yS (((fun _=>rfl) _).trans kg.symm))) rfl ?_
     refine ai.val rfl (aX rfl (dB j5 rfl)) rfl ?_
     obtain ⟨z48,hzz48,h⟩:=bind_some h
     refine ai.ret rfl (aA rfl rfl) (ko E _ _ _ hzz48 _ _ (av.eq .nil)) rfl ?_
     obtain ⟨z49,hzz49,h⟩:=bind_some h
     refine ai.val rfl (ak rfl rfl (sJ hzz49)) rfl ?_
     refine ai.val rfl (ah rfl) rfl ?_
     refine ai.nil ?_
     refine aj.region E.obj rfl ?_
     refine ai.val rfl (ae rfl) rfl ?_
     refine ai.val rfl (ak rfl rfl bf) rfl ?_
     refine ai.val rfl (ah rfl) rfl ?_
     refine ai.nil ?_
     exact ⟨⟨z49,(IntKind.wrap .i64 (x40 + 1))⟩,_,_,S43,.refl _ _,.refl _,(aa.r rfl (aa.r rfl (aa.r rfl (aa.r rfl (aa.r rfl (aa.r rfl aa.nil)))))),H44.sl [0,1] rfl rfl,h⟩
    refine aj.seq ?_
    refine aj.region E.obj rfl ?_
    refine ai.val rfl (ae rfl) rfl ?_
    refine ai.val rfl (ae rfl) rfl ?_
    refine ai.val rfl (ak rfl rfl fO) rfl ?_
    refine ai.nil ?_
    refine aj.cond rfl (fun hb50=>?_) (fun hb50=>?_)
    ·
     replace h:=bg hb50 h
     refine aj.region E.obj rfl ?_
     refine ai.val rfl (ae rfl) rfl ?_
     obtain ⟨z51,hzz51,h⟩:=bind_some h
     refine ai.val rfl (ak rfl rfl (sJ hzz51)) rfl ?_
     refine ai.val rfl (ah rfl) rfl ?_
     refine ai.nil ?_
     exact ⟨z51,_,_,S37,.refl _ _,.refl _,(aa.r rfl (aa.r rfl (aa.r rfl (aa.r rfl (aa.r rfl (aa.r rfl aa.nil)))))),H38.sl [0,1] rfl rfl,h⟩
    replace h:=aZ hb50 h
    refine aj.skip ?_
    exact ⟨x39,_,_,S37,.refl _ _,.refl _,(aa.r rfl (aa.r rfl (aa.r rfl (aa.r rfl (aa.r rfl (aa.r rfl aa.nil)))))),H38.sl [0,1] rfl rfl,h⟩
   replace h:=aZ hb42 h
   refine aj.exit ?_
   refine aj.seq ?_
   refine aj.region E.obj rfl ?_
   refine ai.val rfl (ae rfl) rfl ?_
   refine ai.val rfl (ax rfl jb rH rfl) rfl ?_
   refine ai.val rfl (aB H38 (i:=0) rfl rfl (aG j5 rfl)) rfl ?_
   refine ai.val rfl (ae rfl) rfl ?_
   refine ai.val rfl (dw (cs:=[(.d (.str z24.Text)),(.d (.str x39))]) lg rfl (dX) (fA rfl rfl rfl rfl (fA rfl rfl rfl rfl rfl))) rfl ?_
   refine ai.less (Less.agg' (d:=az (aD.mk z24.Text x39)) (aU.eq rfl (aU.eq rfl .nil)) ((aD.eq _).trans rfl)) ?_
   refine ai.val rfl (aK (vs:=[(.d (az (aD.mk z24.Text x39)))]) (ds:=[(az (aD.mk z24.Text x39))]) rU mI qg lg iL rfl (by decide) (.cons rfl (aD.len _) .nil) rfl (by intro d hd; simp only [List.mem_cons,List.not_mem_nil,or_false] at hd; rcases hd with rfl <;> exact aD.agg _) rfl) rfl ?_
   obtain ⟨z52,hzz52,h⟩:=bind_some h
   refine ai.append (xs:=(x14).map az) (ys:=([(aD.mk z24.Text x39)]).map az) (zs:=(z52).map az) H38 rfl rfl rfl (i:=1) rfl rfl rU Dw mI (dC hzz52) DF rfl (aQ (enc:=az) (fun z=>(aD.len z).trans iL.symm) _) (aQ (enc:=az) (fun z=>(aD.len z).trans iL.symm) _) DN rfl (gB hzz52) (fun v53 S54 H55=>?_)
   refine ai.val rfl (ah rfl) rfl ?_
   refine ai.val rfl (ah rfl) rfl ?_
   refine ai.nil ?_
   have hr:=Option.some.inj h
   subst hr
   exact aj.ret ⟨_,rfl,rfl,fT (vs:=[v53,(.d (.bool true))]) (ds:=[(.sl ((z52).map az) false),(.bool true)]) (av.grow H55 (i:=1) rfl (av.eq .nil))⟩
  replace h:=aZ hb30 h
  refine aj.seq ?_
  refine aj.region E.obj rfl ?_
  refine ai.val rfl (ax rfl fU uf rfl) rfl ?_
  refine ai.val rfl (aB H29 (i:=0) rfl rfl (aG qF rfl)) rfl ?_
  refine ai.val rfl (ak rfl rfl cZ) rfl ?_
  refine ai.val rfl (ae rfl) rfl ?_
  refine ai.aT 5 60 (.d (.bool ((z24.Kind == 2) && (x16 == ((a2).length:Int))))) ?_ ?_
  ·
   rcases Bool.eq_false_or_eq_true ((z24.Kind == 2)) with hB56 | hB56
   ·
    refine ai.bool hB56 ?_
    refine ai.val rfl (ae rfl) rfl ?_
    refine ai.val rfl (ae rfl) rfl ?_
    refine ai.val rfl (aI rfl kI) rfl ?_
    refine ai.val rfl (ak rfl rfl cZ) rfl ?_
    refine ai.val rfl (au (b:=true) rfl rfl) rfl ?_
    exact ai.nil ⟨_,rfl,(aa.put (aa.push rfl (aa.push rfl (aa.push rfl (aa.push rfl (aa.put (.refl _) (Less.eq (by rw [hB56]))))))) (Less.eq (by rw [hB56]; rw [Bool.true_and])))⟩
   refine ai.bool hB56 ?_
   refine ai.no rfl rfl ?_
   refine ai.no rfl rfl ?_
   refine ai.no rfl rfl ?_
   refine ai.no rfl rfl ?_
   refine ai.val rfl (au (b:=false) rfl rfl) rfl ?_
   exact ai.nil ⟨_,rfl,(aa.put (aa.push rfl (aa.push rfl (aa.push rfl (aa.push rfl (aa.put (.refl _) (Less.eq (by rw [hB56]))))))) (Less.eq (by rw [hB56]; rw [Bool.false_and])))⟩
  refine ai.val rfl (ah rfl) rfl ?_
  refine ai.nil ?_
  refine aj.cond rfl (fun hb57=>?_) (fun hb57=>?_)
  ·
   replace h:=bg hb57 h
   refine aj.seq ?_
   refine aj.region E.obj rfl ?_
   refine ai.val rfl (ae rfl) rfl ?_
   refine ai.val rfl (ah rfl) rfl ?_
   refine ai.val rfl (ah rfl) rfl ?_
   refine ai.nil ?_
   have hr:=Option.some.inj h
   subst hr
   exact aj.ret ⟨_,rfl,rfl,fT (vs:=[v15,(.d (.bool true))]) (ds:=[(.sl ((x14).map az) false),(.bool true)]) (av.grow H29 (i:=1) rfl (av.eq .nil))⟩
  replace h:=aZ hb57 h
  refine aj.join (B:=ay) (α:=Bool) (fun a=>cK a2 x14 x16 (aV n a1 a2 k17) z24 a=some r) (fun a=>[(0,(.d (.sl ((a1).map aJ) false))),(1,(.d (.sl ((a2).map D.str) false))),(6,v15),(7,(.d (.int .i64 x16))),(8,(.ptr b25 0 0)),(14,(.d (.sl ((a1).map aJ) false))),(15,(.d (.int .i64 ((a1).length:Int)))),(16,(.d (.int .i64 x16))),(62,(.d (.bool a)))]) (fun a=>[.box b25 [(.d (.int .i64 z24.Kind)),(.d (.str z24.Text))],.grow v15 ((x14).map az)]) ?_ ?_
  ·
   intro x60 S58 H59 h
   replace h:cK a2 x14 x16 (aV n a1 a2 k17) z24 x60=some r:=h
   replace H59:Has ay S58 [.box b25 [(.d (.int .i64 z24.Kind)),(.d (.str z24.Text))],.grow v15 ((x14).map az)]:=H59
   unfold cK at h
   refine aj.cond rfl (fun hb62=>?_) (fun hb62=>?_)
   ·
    replace h:=bg hb62 h
    refine aj.seq ?_
    refine aj.region E.obj rfl ?_
    refine ai.val rfl (ah rfl) rfl ?_
    refine ai.val rfl (ah rfl) rfl ?_
    refine ai.nil ?_
    have hr:=Option.some.inj h
    subst hr
    exact aj.ret ⟨_,rfl,rfl,fT (vs:=[(.d .bJ),(.d (.bool false))]) (ds:=[(.sl (([]).map az) false),(.bool false)]) (av.fw rfl (.bJ false) (av.eq .nil))⟩
   replace h:=aZ hb62 h
   refine aj.seq ?_
   refine aj.region E.obj rfl ?_
   refine ai.val rfl (ax rfl fU uf rfl) rfl ?_
   refine ai.val rfl (aB H59 (i:=0) rfl rfl (aG qF rfl)) rfl ?_
   refine ai.val rfl (ak rfl rfl iA) rfl ?_
   refine ai.val rfl (ah rfl) rfl ?_
   refine ai.nil ?_
   refine aj.cond rfl (fun hb63=>?_) (fun hb63=>?_)
   ·
    replace h:=bg hb63 h
    obtain ⟨z64,hzz64,h⟩:=bind_some h
    obtain ⟨z65,hzz65,h⟩:=bind_some h
    refine aj.l6 E.obj qH Ir [(0,none),(1,none),(6,some 10),(14,none),(15,none),(16,none)] (by kernel_rfl) [9] (by decide) [some v15,some (.ptr b25 0 1),some (.d (.str z24.Text)),some (.d (.sl ((a2).map D.str) false)),some (.d (.int .i64 x16)),some (.eptr (.str z64) 0),some (.d (.str z64)),some (.d (az (aD.mk z24.Text z64))),some (.d (.sl (([(aD.mk z24.Text z64)]).map az) true)),none,none] ?_
    refine ⟨[0,1,2,3,4,5,6,7,8],by kernel_rfl,?_,_,_,rfl,rfl,.step ?_⟩
    ·
     refine .v rfl rfl rfl rfl (ae rfl) ?_
     refine .v rfl rfl rfl rfl (ax rfl jb rH rfl) ?_
     refine .v rfl rfl rfl rfl (aB H59 (i:=0) rfl rfl (aG j5 rfl)) ?_
     refine .v rfl rfl rfl rfl (ae rfl) ?_
     refine .v rfl rfl rfl rfl (ae rfl) ?_
     refine .v rfl rfl rfl rfl (bO rfl rfl (df (enc:=D.str) hzz64 gV yS (((fun _=>rfl) _).trans kg.symm))) ?_
     refine .v rfl rfl rfl rfl (aX rfl (dB j5 rfl)) ?_
     refine .cons rfl rfl rfl (.step ?_) ?_
     ·
      refine ai.val rfl (dw (cs:=[(.d (.str z24.Text)),(.d (.str z64))]) lg rfl (dX) (fA rfl rfl rfl rfl (fA rfl rfl rfl rfl rfl))) rfl ?_
      refine ai.less (Less.agg' (d:=az (aD.mk z24.Text z64)) (aU.eq rfl (aU.eq rfl .nil)) ((aD.eq _).trans rfl)) ?_
      exact ai.nil ⟨_,_,rfl,fun _ ht=>by cases ht; exact ⟨rfl,.refl _⟩⟩
     refine .v rfl rfl rfl rfl (aK (vs:=[(.d (az (aD.mk z24.Text z64)))]) (ds:=[(az (aD.mk z24.Text z64))]) rU mI qg lg iL rfl (by decide) (.cons rfl (aD.len _) .nil) rfl (by intro d hd; simp only [List.mem_cons,List.not_mem_nil,or_false] at hd; rcases hd with rfl <;> exact aD.agg _) rfl) ?_
     exact .nil
    refine ai.append (xs:=(x14).map az) (ys:=([(aD.mk z24.Text z64)]).map az) (zs:=(z65).map az) H59 rfl rfl rfl (i:=1) rfl rfl rU Dw mI (dC hzz65) DF rfl (aQ (enc:=az) (fun z=>(aD.len z).trans iL.symm) _) (aQ (enc:=az) (fun z=>(aD.len z).trans iL.symm) _) DN rfl (gB hzz65) (fun v69 S70 H71=>?_)
    refine ai.nil ⟨_,_,_,rfl,(fun _ ht=>by cases ht; rfl),_,(.q (.q (.o (.w v69 (.w v69 .nil))))),(fun _ ht=>by cases ht; exact ⟨_,rfl,.refl _⟩),?_⟩
    refine ⟨[10],by kernel_rfl,?_,_,rfl,?_⟩
    ·
     refine .v rfl rfl rfl rfl (ah rfl) ?_
     exact .nil
    exact ⟨⟨z65,v69⟩,_,_,S70,.refl _ _,.refl _,(aa.r rfl (aa.r rfl (aa.r rfl (aa.r rfl (aa.r rfl (aa.r rfl aa.nil)))))),H71.sl [1] rfl rfl,h⟩
   replace h:=aZ hb63 h
   refine aj.skip ?_
   exact ⟨⟨x14,v15⟩,_,_,S58,.refl _ _,.refl _,(aa.r rfl (aa.r rfl (aa.r rfl (aa.r rfl (aa.r rfl (aa.r rfl aa.nil)))))),H59.sl [1] rfl rfl,h⟩
  rcases Bool.eq_false_or_eq_true ((decide (((a2).length:Int) ≤ x16))) with hb72 | hb72
  ·
   replace h:=bg hb72 h
   refine aj.l6 E.obj qH Ho [(0,none),(1,none),(6,none),(7,none),(8,none),(14,none),(15,none),(16,none),(62,some 18)] (by kernel_rfl) [] (by decide) [some (.d (.int .i64 x16)),some (.d (.sl ((a2).map D.str) false)),some (.d (.int .i64 ((a2).length:Int))),some (.d (.bool (decide (((a2).length:Int) ≤ x16)))),some (.d (.bool true)),some (.tup []),some (.tup []),some (.tup []),some (.tup []),some (.tup []),some (.tup []),some (.tup []),some (.tup []),some (.tup []),some (.tup []),some (.tup []),some (.tup []),some (.d (.bool true)),some (.d (.bool true))] ?_
   refine ⟨[0,1,2,3,4,5,6,7,8,9,10,11,12,13,14,15,16,17,18],by kernel_rfl,?_,_,rfl,?_⟩
   ·
    refine .v rfl rfl rfl rfl (ae rfl) ?_
    refine .v rfl rfl rfl rfl (ae rfl) ?_
    refine .v rfl rfl rfl rfl (aI rfl kI) ?_
    refine .v rfl rfl rfl rfl (ak rfl rfl dN) ?_
    refine .cons rfl rfl rfl (.val rfl (ae rfl) (.eq (by rw [hb72]))) ?_
    refine .cons rfl rfl rfl (.no rfl (.refl _)) ?_
    refine .cons rfl rfl rfl (.no rfl (.refl _)) ?_
    refine .cons rfl rfl rfl (.no rfl (.refl _)) ?_
    refine .cons rfl rfl rfl (.no rfl (.refl _)) ?_
    refine .cons rfl rfl rfl (.no rfl (.refl _)) ?_
    refine .cons rfl rfl rfl (.no rfl (.refl _)) ?_
    refine .cons rfl rfl rfl (.no rfl (.refl _)) ?_
    refine .cons rfl rfl rfl (.no rfl (.refl _)) ?_
    refine .cons rfl rfl rfl (.no rfl (.refl _)) ?_
    refine .cons rfl rfl rfl (.no rfl (.refl _)) ?_
    refine .cons rfl rfl rfl (.no rfl (.refl _)) ?_
    refine .cons rfl rfl rfl (.no rfl (.refl _)) ?_
    refine .v rfl rfl rfl rfl (au (b:=true) rfl rfl) ?_
    refine .v rfl rfl rfl rfl (ah rfl) ?_
    exact .nil
   exact ⟨true,_,_,S28,.refl _ _,.refl _,(aa.r rfl (aa.r rfl (aa.r rfl (aa.r rfl (aa.r rfl (aa.r rfl (aa.r rfl (aa.r rfl (aa.r rfl aa.nil))))))))),H29.sl [0,1] rfl rfl,h⟩
  replace h:=aZ hb72 h
  rcases (Bool.eq_false_or_eq_true ((z24.Kind == 0))).symm with hb73 | hb73
  ·
   replace h:=aZ hb73 h
   refine aj.l6 E.obj qH Ho [(0,none),(1,none),(6,none),(7,none),(8,none),(14,none),(15,none),(16,none),(62,some 18)] (by kernel_rfl) [] (by decide) [some (.d (.int .i64 x16)),some (.d (.sl ((a2).map D.str) false)),some (.d (.int .i64 ((a2).length:Int))),some (.d (.bool (decide (((a2).length:Int) ≤ x16)))),some (.d (.bool false)),some (.ptr b25 0 0),some (.d (.int .i64 z24.Kind)),some (.d (.bool (z24.Kind == 0))),some (.d (.bool false)),some (.tup []),some (.tup []),some (.tup []),some (.tup []),some (.tup []),some (.tup []),some (.tup []),some (.d (.bool false)),some (.d (.bool false)),some (.d (.bool false))] ?_
   refine ⟨[0,1,2,3,4,5,6,7,8,9,10,11,12,13,14,15,16,17,18],by kernel_rfl,?_,_,rfl,?_⟩
   ·
    refine .v rfl rfl rfl rfl (ae rfl) ?_
    refine .v rfl rfl rfl rfl (ae rfl) ?_
    refine .v rfl rfl rfl rfl (aI rfl kI) ?_
    refine .v rfl rfl rfl rfl (ak rfl rfl dN) ?_
    refine .cons rfl rfl rfl (.val rfl (ae rfl) (.eq (by rw [hb72]))) ?_
    refine .v rfl rfl rfl rfl (ax rfl fU uf rfl) ?_
    refine .v rfl rfl rfl rfl (aB H29 (i:=0) rfl rfl (aG qF rfl)) ?_
    refine .v rfl rfl rfl rfl (ak rfl rfl cZ) ?_
    refine .cons rfl rfl rfl (.val rfl (ae rfl) (.eq (by rw [hb73]))) ?_
    refine .cons rfl rfl rfl (.no rfl (.refl _)) ?_
    refine .cons rfl rfl rfl (.no rfl (.refl _)) ?_
    refine .cons rfl rfl rfl (.no rfl (.refl _)) ?_
    refine .cons rfl rfl rfl (.no rfl (.refl _)) ?_
    refine .cons rfl rfl rfl (.no rfl (.refl _)) ?_
    refine .cons rfl rfl rfl (.no rfl (.refl _)) ?_
    refine .cons rfl rfl rfl (.no rfl (.refl _)) ?_
    refine .v rfl rfl rfl rfl (au (b:=false) rfl rfl) ?_
    refine .v rfl rfl rfl rfl (au (b:=false) rfl rfl) ?_
    refine .v rfl rfl rfl rfl (ah rfl) ?_
    exact .nil
   exact ⟨false,_,_,S28,.refl _ _,.refl _,(aa.r rfl (aa.r rfl (aa.r rfl (aa.r rfl (aa.r rfl (aa.r rfl (aa.r rfl (aa.r rfl (aa.r rfl aa.nil))))))))),H29.sl [0,1] rfl rfl,h⟩
  replace h:=bg hb73 h
  obtain ⟨z74,hzz74,h⟩:=bind_some h
  refine aj.l6 E.obj qH Ho [(0,none),(1,none),(6,none),(7,none),(8,none),(14,none),(15,none),(16,none),(62,some 18)] (by kernel_rfl) [] (by decide) [some (.d (.int .i64 x16)),some (.d (.sl ((a2).map D.str) false)),some (.d (.int .i64 ((a2).length:Int))),some (.d (.bool (decide (((a2).length:Int) ≤ x16)))),some (.d (.bool false)),some (.ptr b25 0 0),some (.d (.int .i64 z24.Kind)),some (.d (.bool (z24.Kind == 0))),some (.d (.bool true)),some (.d (.sl ((a2).map D.str) false)),some (.d (.int .i64 x16)),some (.eptr (.str z74) 0),some (.d (.str z74)),some (.ptr b25 0 1),some (.d (.str z24.Text)),some (.d (.bool (!(z74 == z24.Text)))),some (.d (.bool (!(z74 == z24.Text)))),some (.d (.bool (!(z74 == z24.Text)))),some (.d (.bool (!(z74 == z24.Text))))] ?_
  refine ⟨[0,1,2,3,4,5,6,7,8,9,10,11,12,13,14,15,16,17,18],by kernel_rfl,?_,_,rfl,?_⟩
  ·
   refine .v rfl rfl rfl rfl (ae rfl) ?_
   refine .v rfl rfl rfl rfl (ae rfl) ?_
   refine .v rfl rfl rfl rfl (aI rfl kI) ?_
   refine .v rfl rfl rfl rfl (ak rfl rfl dN) ?_
   refine .cons rfl rfl rfl (.val rfl (ae rfl) (.eq (by rw [hb72]))) ?_
   refine .v rfl rfl rfl rfl (ax rfl fU uf rfl) ?_
   refine .v rfl rfl rfl rfl (aB H29 (i:=0) rfl rfl (aG qF rfl)) ?_
   refine .v rfl rfl rfl rfl (ak rfl rfl cZ) ?_
   refine .cons rfl rfl rfl (.val rfl (ae rfl) (.eq (by rw [hb73]))) ?_
   refine .v rfl rfl rfl rfl (ae rfl) ?_
   refine .v rfl rfl rfl rfl (ae rfl) ?_
   refine .v rfl rfl rfl rfl (bO rfl rfl (df (enc:=D.str) hzz74 gV yS (((fun _=>rfl) _).trans kg.symm))) ?_
   refine .v rfl rfl rfl rfl (aX rfl (dB j5 rfl)) ?_
   refine .v rfl rfl rfl rfl (ax rfl jb rH rfl) ?_
   refine .v rfl rfl rfl rfl (aB H29 (i:=0) rfl rfl (aG j5 rfl)) ?_
   refine .v rfl rfl rfl rfl (ak rfl rfl jJ) ?_
   refine .v rfl rfl rfl rfl (au (b:=true) rfl rfl) ?_
   refine .v rfl rfl rfl rfl (au (b:=false) rfl rfl) ?_
   refine .v rfl rfl rfl rfl (ah rfl) ?_
   exact .nil
  exact ⟨(!(z74 == z24.Text)),_,_,S28,.refl _ _,.refl _,(aa.r rfl (aa.r rfl (aa.r rfl (aa.r rfl (aa.r rfl (aa.r rfl (aa.r rfl (aa.r rfl (aa.r rfl aa.nil))))))))),H29.sl [0,1] rfl rfl,h⟩
 replace h:=aZ hb18 h
 refine aj.exit ?_
 refine aj.seq ?_
 refine aj.seq ?_
 refine aj.region E.obj rfl ?_
 refine ai.val rfl (ae rfl) rfl ?_
 refine ai.val rfl (aI rfl kI) rfl ?_
 refine ai.val rfl (ae rfl) rfl ?_
 refine ai.val rfl (aI rfl qM) rfl ?_
 refine ai.val rfl (ak rfl rfl iA) rfl ?_
 refine ai.nil ?_
 refine aj.cond rfl (fun hb75=>?_) (fun hb75=>?_)
 ·
  replace h:=bg hb75 h
  refine aj.seq ?_
  refine aj.region E.obj rfl ?_
  refine ai.val rfl (ah rfl) rfl ?_
  refine ai.val rfl (ah rfl) rfl ?_
  refine ai.nil ?_
  have hr:=Option.some.inj h
  subst hr
  exact aj.ret ⟨_,rfl,rfl,fT (vs:=[(.d .bJ),(.d (.bool false))]) (ds:=[(.sl (([]).map az) false),(.bool false)]) (av.fw rfl (.bJ false) (av.eq .nil))⟩
 replace h:=aZ hb75 h
 refine aj.skip ?_
 refine aj.seq ?_
 refine aj.region E.obj rfl ?_
 refine ai.val rfl (ae rfl) rfl ?_
 refine ai.val rfl (ah rfl) rfl ?_
 refine ai.val rfl (ah rfl) rfl ?_
 refine ai.nil ?_
 have hr:=Option.some.inj h
 subst hr
 exact aj.ret ⟨_,rfl,rfl,fT (vs:=[v15,(.d (.bool true))]) (ds:=[(.sl ((x14).map az) false),(.bool true)]) (av.grow H13 (i:=0) rfl (av.eq .nil))⟩
set_option maxRecDepth 20000 in
set_option maxHeartbeats 4000000 in
theorem Ar (n:Nat) (a1:kK) (a2:Str) (r:(Str × Bool)) (h:uz n a1 a2=some r):aY R cfg.P 57 [(kQ a1),(.str a2)] (.tup [.d (.str r.1),.d (.bool r.2)]):=by
 unfold uz at h
 refine aY.of_wp E.obj.toObjOk (C:=cfg) Tryd.func57 rfl G5 rfl ?_
 have H0:Has ay ay []:=Has.pure
 refine aj.seq ?_
 refine aj.region E.obj rfl ?_
 refine ai.box H0 rfl rfl rfl (kK.eO _) rfl (fun b3 S4 H5=>?_)
 refine ai.val rfl (ah rfl) rfl ?_
 refine ai.val rfl (ah rfl) rfl ?_
 refine ai.nil ?_
 refine aj.seq ?_
 refine aj.seq ?_
 refine aj.region E.obj rfl ?_
 refine ai.val rfl (ax rfl qy Bb rfl) rfl ?_
 refine ai.val rfl (aB H5 (i:=0) rfl rfl (aG BS rfl)) rfl ?_
 refine ai.val rfl (aI rfl pR) rfl ?_
 refine ai.val rfl (ae rfl) rfl ?_
 refine ai.nil ?_
 refine aj.block ?_
 refine kS.start (B:=ay) (α:=Int) (fun k a=>gq a1 a2 k a=some r) (fun a=>[(1,(.d (.str a2))),(9,(.d (.sl ((a1.Query).map az) false))),(10,(.d (.int .i64 ((a1.Query).length:Int)))),(11,(.d (.int .i64 a)))]) (fun a=>[]) ?_ ?_ n ⟨0,_,_,S4,.refl _ _,.refl _,(aa.r rfl (aa.r rfl (aa.r rfl (aa.r rfl aa.nil)))),H5.sl [] rfl rfl,h⟩
 ·
  intro a h; simp [gq] at h
 intro k14 x13 S11 H12 h
 replace h:gq a1 a2 (k14 + 1) x13=some r:=h
 replace H12:Has ay S11 []:=H12
 unfold gq at h
 refine aj.seq ?_
 refine aj.region E.obj rfl ?_
 refine ai.val rfl (ak rfl rfl bE) rfl ?_
 refine ai.nil ?_
 refine aj.seq ?_
 refine aj.cond rfl (fun hb15=>?_) (fun hb15=>?_)
 ·
  replace h:=bg hb15 h
  refine aj.skip ?_
  refine aj.seq ?_
  refine aj.block ?_
  refine aj.seq ?_
  refine aj.region E.obj rfl ?_
  obtain ⟨z16,hzz16,h⟩:=bind_some h
  refine ai.val rfl (bO rfl rfl (df (enc:=az) hzz16 mI uq ((aD.len _).trans iL.symm))) rfl ?_
  refine ai.val rfl (aX rfl (aD.lX qg iL)) rfl ?_
  refine ai.alloc H12 rfl Dx lg rfl rfl (fun b17 S18 H19=>?_)
  refine ai.store H19 (i:=0) rfl rfl rfl rfl (aD.eO _) rfl iL rfl uq rfl rfl rfl (fun S20 H21=>?_)
  refine ai.nil ?_
  refine aj.seq ?_
  refine aj.region E.obj rfl ?_
  refine ai.val rfl (ax rfl sG rH rfl) rfl ?_
  refine ai.val rfl (aB H21 (i:=0) rfl rfl (aG j5 rfl)) rfl ?_
  refine ai.val rfl (ae rfl) rfl ?_
  refine ai.val rfl (ak rfl rfl jf) rfl ?_
  refine ai.nil ?_
  refine aj.cond rfl (fun hb22=>?_) (fun hb22=>?_)
  ·
   replace h:=bg hb22 h
   refine aj.seq ?_
   refine aj.region E.obj rfl ?_
   refine ai.val rfl (ax rfl wm rH rfl) rfl ?_
   refine ai.val rfl (aB H21 (i:=0) rfl rfl (aG j5 rfl)) rfl ?_
   refine ai.val rfl (ah rfl) rfl ?_
   refine ai.val rfl (ah rfl) rfl ?_
   refine ai.nil ?_
   have hr:=Option.some.inj h
   subst hr
   exact aj.ret ⟨_,rfl,rfl,fT (vs:=[(.d (.str z16.Value)),(.d (.bool true))]) (ds:=[(.str z16.Value),(.bool true)]) (av.eq (av.eq .nil))⟩
  replace h:=aZ hb22 h
  refine aj.skip ?_
  refine aj.region E.obj rfl ?_
  refine ai.val rfl (ak rfl rfl bf) rfl ?_
  refine ai.val rfl (ae rfl) rfl ?_
  refine ai.nil ?_
  exact ⟨(IntKind.wrap .i64 (x13 + 1)),_,_,S20,.refl _ _,.refl _,(aa.r rfl (aa.r rfl (aa.r rfl (aa.r rfl aa.nil)))),H21.sl [] rfl rfl,h⟩
 replace h:=aZ hb15 h
 refine aj.exit ?_
 refine aj.seq ?_
 refine aj.region E.obj rfl ?_
 refine ai.val rfl (ah rfl) rfl ?_
 refine ai.val rfl (ah rfl) rfl ?_
 refine ai.nil ?_
 have hr:=Option.some.inj h
 subst hr
 exact aj.ret ⟨_,rfl,rfl,fT (vs:=[(.d (.str [])),(.d (.bool false))]) (ds:=[(.str []),(.bool false)]) (av.eq (av.eq .nil))⟩
set_option maxRecDepth 20000 in
set_option maxHeartbeats 4000000 in
theorem ng (n:Nat) (a1:(List aD)) (a2:Str) (r:(Str × Bool)) (h:iP n a1 a2=some r):aY R cfg.P 45 [(.sl ((a1).map az) false),(.str a2)] (.tup [.d (.str r.1),.d (.bool r.2)]):=by
 unfold iP at h
 refine aY.of_wp E.obj.toObjOk (C:=cfg) Tryd.func45 rfl Gi rfl ?_
 have H0:Has ay ay []:=Has.pure
 refine aj.seq ?_
 refine aj.region E.obj rfl ?_
 refine ai.val rfl (ah rfl) rfl ?_
 refine ai.val rfl (ah rfl) rfl ?_
 refine ai.nil ?_
 refine aj.seq ?_
 refine aj.region E.obj rfl ?_
 refine ai.val rfl (ae rfl) rfl ?_
 refine ai.val rfl (dw (cs:=[(.d .bJ),(.d (.sl ((a1).map az) false))]) CY rfl (lK) (fA rfl rfl rfl rfl rfl)) rfl ?_
 refine ai.less (Less.agg' (d:=kQ (kK.mk [] a1)) (aU.fw rfl (.bJ false) rfl rfl (aU.eq rfl .nil)) ((kK.eq _).trans rfl)) ?_
 refine ai.val rfl (ae rfl) rfl ?_
 obtain ⟨z3,hzz3,h⟩:=bind_some h
 refine ai.ret rfl (aA rfl rfl) (Ar E _ _ _ _ hzz3 _ _ (av.eq (av.eq .nil))) rfl ?_
 refine ai.val rfl (aC rfl rfl) rfl ?_
 refine ai.val rfl (aC rfl rfl) rfl ?_
 refine ai.val rfl (ah rfl) rfl ?_
 refine ai.val rfl (ah rfl) rfl ?_
 refine ai.nil ?_
 have hr:=Option.some.inj h
 subst hr
 exact aj.ret ⟨_,rfl,rfl,fT (vs:=[(.d (.str z3.1)),(.d (.bool z3.2))]) (ds:=[(.str z3.1),(.bool z3.2)]) (av.eq (av.eq .nil))⟩
set_option maxRecDepth 20000 in
set_option maxHeartbeats 4000000 in
theorem qN (n:Nat) (a1:Int) (r:Int) (h:jF n a1=some r):aY R cfg.P 74 [(.int .u8 a1)] (.d (.int .i64 r)):=by
 unfold jF at h
 refine aY.of_wp E.obj.toObjOk (C:=cfg) Tryd.func74 rfl GV rfl ?_
 have H0:Has ay ay []:=Has.pure
 refine aj.seq ?_
 refine aj.region E.obj rfl ?_
 refine ai.val rfl (ah rfl) rfl ?_
 refine ai.nil ?_
 refine aj.seq ?_
 refine aj.block ?_
 refine aj.seq ?_
 refine aj.region E.obj rfl ?_
 refine ai.val rfl (ae rfl) rfl ?_
 refine ai.val rfl (ak rfl rfl dN) rfl ?_
 refine ai.val rfl (ae rfl) rfl ?_
 refine ai.aT 3 9 (.d (.bool ((decide (48 ≤ a1)) && (decide (a1 ≤ 57))))) ?_ ?_
 ·
  rcases Bool.eq_false_or_eq_true ((decide (48 ≤ a1))) with hB2 | hB2
  ·
   refine ai.bool hB2 ?_
   refine ai.val rfl (ae rfl) rfl ?_
   refine ai.val rfl (ak rfl rfl fQ) rfl ?_
   refine ai.val rfl (au (b:=true) rfl rfl) rfl ?_
   exact ai.nil ⟨_,rfl,(aa.put (aa.push rfl (aa.push rfl (aa.put (.refl _) (Less.eq (by rw [hB2]))))) (Less.eq (by rw [hB2]; rw [Bool.true_and])))⟩
  refine ai.bool hB2 ?_
  refine ai.no rfl rfl ?_
  refine ai.no rfl rfl ?_
  refine ai.val rfl (au (b:=false) rfl rfl) rfl ?_
  exact ai.nil ⟨_,rfl,(aa.put (aa.push rfl (aa.push rfl (aa.put (.refl _) (Less.eq (by rw [hB2]))))) (Less.eq (by rw [hB2]; rw [Bool.false_and])))⟩
 refine ai.val rfl (ah rfl) rfl ?_
 refine ai.nil ?_
 refine aj.cond rfl (fun hb3=>?_) (fun hb3=>?_)
 ·
  replace h:=bg hb3 h
  refine aj.seq ?_
  refine aj.region E.obj rfl ?_
  refine ai.val rfl (ae rfl) rfl ?_
  refine ai.val rfl (ak rfl rfl fM) rfl ?_
  refine ai.val rfl (fD rfl FB FC) rfl ?_
  refine ai.val rfl (ah rfl) rfl ?_
  refine ai.nil ?_
  have hr:=Option.some.inj h
  subst hr
  exact aj.ret ⟨_,rfl,rfl,eG (av.eq .nil)⟩
 replace h:=aZ hb3 h
 refine aj.seq ?_
 refine aj.region E.obj rfl ?_
 refine ai.val rfl (ae rfl) rfl ?_
 refine ai.val rfl (ak rfl rfl dN) rfl ?_
 refine ai.val rfl (ae rfl) rfl ?_
 refine ai.aT 3 19 (.d (.bool ((decide (97 ≤ a1)) && (decide (a1 ≤ 102))))) ?_ ?_
 ·
  rcases Bool.eq_false_or_eq_true ((decide (97 ≤ a1))) with hB4 | hB4
  ·
   refine ai.bool hB4 ?_
   refine ai.val rfl (ae rfl) rfl ?_
   refine ai.val rfl (ak rfl rfl fQ) rfl ?_
   refine ai.val rfl (au (b:=true) rfl rfl) rfl ?_
   exact ai.nil ⟨_,rfl,(aa.put (aa.push rfl (aa.push rfl (aa.put (.refl _) (Less.eq (by rw [hB4]))))) (Less.eq (by rw [hB4]; rw [Bool.true_and])))⟩
  refine ai.bool hB4 ?_
  refine ai.no rfl rfl ?_
  refine ai.no rfl rfl ?_
  refine ai.val rfl (au (b:=false) rfl rfl) rfl ?_
  exact ai.nil ⟨_,rfl,(aa.put (aa.push rfl (aa.push rfl (aa.put (.refl _) (Less.eq (by rw [hB4]))))) (Less.eq (by rw [hB4]; rw [Bool.false_and])))⟩
 refine ai.val rfl (ah rfl) rfl ?_
 refine ai.nil ?_
 refine aj.cond rfl (fun hb5=>?_) (fun hb5=>?_)
 ·
  replace h:=bg hb5 h
  refine aj.seq ?_
  refine aj.region E.obj rfl ?_
  refine ai.val rfl (ae rfl) rfl ?_
  refine ai.val rfl (ak rfl rfl fM) rfl ?_
  refine ai.val rfl (fD rfl FB FC) rfl ?_
  refine ai.val rfl (ak rfl rfl bf) rfl ?_
  refine ai.val rfl (ah rfl) rfl ?_
  refine ai.nil ?_
  have hr:=Option.some.inj h
  subst hr
  exact aj.ret ⟨_,rfl,rfl,eG (av.eq .nil)⟩
 replace h:=aZ hb5 h
 refine aj.seq ?_
 refine aj.region E.obj rfl ?_
 refine ai.val rfl (ae rfl) rfl ?_
 refine ai.val rfl (ak rfl rfl dN) rfl ?_
 refine ai.val rfl (ae rfl) rfl ?_
 refine ai.aT 3 30 (.d (.bool ((decide (65 ≤ a1)) && (decide (a1 ≤ 70))))) ?_ ?_
 ·
  rcases Bool.eq_false_or_eq_true ((decide (65 ≤ a1))) with hB6 | hB6
  ·
   refine ai.bool hB6 ?_
   refine ai.val rfl (ae rfl) rfl ?_
   refine ai.val rfl (ak rfl rfl fQ) rfl ?_
   refine ai.val rfl (au (b:=true) rfl rfl) rfl ?_
   exact ai.nil ⟨_,rfl,(aa.put (aa.push rfl (aa.push rfl (aa.put (.refl _) (Less.eq (by rw [hB6]))))) (Less.eq (by rw [hB6]; rw [Bool.true_and])))⟩
  refine ai.bool hB6 ?_
  refine ai.no rfl rfl ?_
  refine ai.no rfl rfl ?_
  refine ai.val rfl (au (b:=false) rfl rfl) rfl ?_
  exact ai.nil ⟨_,rfl,(aa.put (aa.push rfl (aa.push rfl (aa.put (.refl _) (Less.eq (by rw [hB6]))))) (Less.eq (by rw [hB6]; rw [Bool.false_and])))⟩
 refine ai.val rfl (ah rfl) rfl ?_
 refine ai.nil ?_
 refine aj.cond rfl (fun hb7=>?_) (fun hb7=>?_)
 ·
  replace h:=bg hb7 h
  refine aj.seq ?_
  refine aj.region E.obj rfl ?_
  refine ai.val rfl (ae rfl) rfl ?_
  refine ai.val rfl (ak rfl rfl fM) rfl ?_
  refine ai.val rfl (fD rfl FB FC) rfl ?_
  refine ai.val rfl (ak rfl rfl bf) rfl ?_
  refine ai.val rfl (ah rfl) rfl ?_
  refine ai.nil ?_
  have hr:=Option.some.inj h
  subst hr
  exact aj.ret ⟨_,rfl,rfl,eG (av.eq .nil)⟩
 replace h:=aZ hb7 h
 refine aj.skip ?_
 refine aj.seq ?_
 refine aj.region E.obj rfl ?_
 refine ai.val rfl (ah rfl) rfl ?_
 refine ai.nil ?_
 have hr:=Option.some.inj h
 subst hr
 exact aj.ret ⟨_,rfl,rfl,eG (av.eq .nil)⟩
set_option maxRecDepth 20000 in
set_option maxHeartbeats 4000000 in
theorem wJ (n:Nat) (a1:Str) (r:(Str × Bool)) (h:l5 n a1=some r):aY R cfg.P 58 [(.str a1)] (.tup [.d (.str r.1),.d (.bool r.2)]):=by
 unfold l5 at h
 refine aY.of_wp E.obj.toObjOk (C:=cfg) Tryd.func58 rfl Hu rfl ?_
 have H0:Has ay ay []:=Has.pure
 refine aj.seq ?_
 refine aj.region E.obj rfl ?_
 refine ai.val rfl (ah rfl) rfl ?_
 refine ai.val rfl (ah rfl) rfl ?_
 refine ai.nil ?_
 refine aj.seq ?_
 refine aj.region E.obj rfl ?_
 refine ai.zo H0 rfl FH rfl (fun b2 S3 H4=>?_)
 refine ai.nil ?_
 refine aj.seq ?_
 refine aj.block ?_
 refine kS.start (B:=ay) (α:=Str × Str) (fun k a=>dM n k a.1 a.2=some r) (fun a=>[(0,(.d (.str a.2))),(4,(.ptr b2 0 0))]) (fun a=>[.obj b2 1 (.str a.1)]) ?_ ?_ n ⟨⟨[],a1⟩,_,_,S3,.refl _ _,.refl _,(aa.r rfl (aa.r rfl aa.nil)),H4.sl [0] rfl rfl,h⟩
 ·
  intro a h; simp [dM] at h
 intro k15 a S11 H12 h
 obtain ⟨x13,x14⟩:=a
 replace h:dM n (k15 + 1) x13 x14=some r:=h
 replace H12:Has ay S11 [.obj b2 1 (.str x13)]:=H12
 unfold dM at h
 refine aj.seq ?_
 refine aj.seq ?_
 refine aj.region E.obj rfl ?_
 refine ai.val rfl (ae rfl) rfl ?_
 refine ai.val rfl (ak rfl rfl jJ) rfl ?_
 refine ai.nil ?_
 refine aj.cond rfl (fun hb16=>?_) (fun hb16=>?_)
 ·
  replace h:=bg hb16 h
  refine aj.skip ?_
  refine aj.block ?_
  refine aj.seq ?_
  refine aj.region E.obj rfl ?_
  refine ai.val rfl (ae rfl) rfl ?_
  obtain ⟨z17,hzz17,h⟩:=bind_some h
  refine ai.val rfl (bM rfl rfl (aW hzz17).1 jK (aW hzz17).2) rfl ?_
  refine ai.val rfl (ah rfl) rfl ?_
  refine ai.val rfl (ah rfl) rfl ?_
  refine ai.nil ?_
  refine aj.join (B:=ay) (α:=Int × Int) (fun a=>gz x13 x14 (dM n k15) a.1 a.2=some r) (fun a=>[(0,(.d (.str x14))),(4,(.ptr b2 0 0)),(5,(.d (.int .u8 a.1))),(6,(.d (.int .i64 a.2)))]) (fun a=>[.obj b2 1 (.str x13)]) ?_ ?_
  ·
   intro a S18 H19 h
   obtain ⟨x20,x21⟩:=a
   replace h:gz x13 x14 (dM n k15) x20 x21=some r:=h
   replace H19:Has ay S18 [.obj b2 1 (.str x13)]:=H19
   unfold gz at h
   refine aj.seq ?_
   refine aj.region E.obj rfl ?_
   refine ai.val rfl (ae rfl) rfl ?_
   obtain ⟨z25,hzz25,h⟩:=bind_some h
   refine ai.wb E.bld H19 rfl rfl (i:=0) rfl hzz25 rfl (fun S23 H24=>?_)
   refine ai.nil ?_
   refine aj.region E.obj rfl ?_
   refine ai.val rfl (ae rfl) rfl ?_
   refine ai.val rfl (ae rfl) rfl ?_
   obtain ⟨z26,hzz26,h⟩:=bind_some h
   refine ai.val rfl (pE rfl rfl jK hzz26) rfl ?_
   refine ai.val rfl (ah rfl) rfl ?_
   refine ai.nil ?_
   exact ⟨⟨z25,z26⟩,_,_,S23,.refl _ _,.refl _,(aa.r rfl (aa.r rfl aa.nil)),H24.sl [0] rfl rfl,h⟩
  refine aj.seq ?_
  refine aj.region E.obj rfl ?_
  refine ai.val rfl (ae rfl) rfl ?_
  refine ai.val rfl (ak rfl rfl cZ) rfl ?_
  refine ai.nil ?_
  refine aj.cond rfl (fun hb27=>?_) (fun hb27=>?_)
  ·
   replace h:=bg hb27 h
   refine aj.seq ?_
   refine aj.seq ?_
   refine aj.region E.obj rfl ?_
   refine ai.val rfl (ae rfl) rfl ?_
   refine ai.val rfl (cz rfl (bQ jK) rfl) rfl ?_
   refine ai.val rfl (ak rfl rfl bE) rfl ?_
   refine ai.nil ?_
   refine aj.cond rfl (fun hb28=>?_) (fun hb28=>?_)
   ·
    replace h:=bg hb28 h
    refine aj.seq ?_
    refine aj.region E.obj rfl ?_
    refine ai.val rfl (ah rfl) rfl ?_
    refine ai.val rfl (ah rfl) rfl ?_
    refine ai.nil ?_
    have hr:=Option.some.inj h
    subst hr
    exact aj.ret ⟨_,rfl,rfl,fT (vs:=[(.d (.str [])),(.d (.bool false))]) (ds:=[(.str []),(.bool false)]) (av.eq (av.eq .nil))⟩
   replace h:=aZ hb28 h
   refine aj.skip ?_
   refine aj.seq ?_
   obtain ⟨z29,hzz29,h⟩:=bind_some h
   obtain ⟨z30,hzz30,h⟩:=bind_some h
   obtain ⟨z31,hzz31,h⟩:=bind_some h
   obtain ⟨z32,hzz32,h⟩:=bind_some h
   refine aj.l6 E.obj qH Iy [(0,none),(4,none),(7,some 6),(8,some 7)] (by kernel_rfl) [] (by decide) [some (.d (.str x14)),some (.d (.int .u8 (z29.toNat:Int))),some (.d (.int .i64 z30)),some (.d (.str x14)),some (.d (.int .u8 (z31.toNat:Int))),some (.d (.int .i64 z32)),some (.d (.int .i64 z30)),some (.d (.int .i64 z32))] ?_
   refine ⟨[0,1,2,3,4,5,6,7],by kernel_rfl,?_,_,rfl,?_⟩
   ·
    refine .v rfl rfl rfl rfl (ae rfl) ?_
    refine .v rfl rfl rfl rfl (bM rfl rfl (aW hzz29).1 jK (aW hzz29).2) ?_
    refine .cons rfl rfl rfl (.step ?_) ?_
    ·
     refine ai.ret rfl (aA rfl rfl) (qN E _ _ _ hzz30 _ _ (av.eq .nil)) rfl ?_
     exact ai.nil ⟨_,_,rfl,fun _ ht=>by cases ht; exact ⟨rfl,.refl _⟩⟩
    refine .v rfl rfl rfl rfl (ae rfl) ?_
    refine .v rfl rfl rfl rfl (bM rfl rfl (aW hzz31).1 jK (aW hzz31).2) ?_
    refine .cons rfl rfl rfl (.step ?_) ?_
    ·
     refine ai.ret rfl (aA rfl rfl) (qN E _ _ _ hzz32 _ _ (av.eq .nil)) rfl ?_
     exact ai.nil ⟨_,_,rfl,fun _ ht=>by cases ht; exact ⟨rfl,.refl _⟩⟩
    refine .v rfl rfl rfl rfl (ah rfl) ?_
    refine .v rfl rfl rfl rfl (ah rfl) ?_
    exact .nil
   refine aj.seq ?_
   refine aj.seq ?_
   refine aj.region E.obj rfl ?_
   refine ai.val rfl (ae rfl) rfl ?_
   refine ai.val rfl (ak rfl rfl bE) rfl ?_
   refine ai.val rfl (ae rfl) rfl ?_
   refine ai.aT 3 29 (.d (.bool ((decide (z30 < 0)) || (decide (z32 < 0))))) ?_ ?_
   ·
    rcases Bool.eq_false_or_eq_true ((decide (z30 < 0))) with hB33 | hB33
    ·
     refine ai.bool hB33 ?_
     refine ai.no rfl rfl ?_
     refine ai.no rfl rfl ?_
     refine ai.val rfl (au (b:=true) rfl rfl) rfl ?_
     exact ai.nil ⟨_,rfl,(aa.put (aa.push rfl (aa.push rfl (aa.put (.refl _) (Less.eq (by rw [hB33]))))) (Less.eq (by rw [hB33]; rw [Bool.true_or])))⟩
    refine ai.bool hB33 ?_
    refine ai.val rfl (ae rfl) rfl ?_
    refine ai.val rfl (ak rfl rfl bE) rfl ?_
    refine ai.val rfl (au (b:=false) rfl rfl) rfl ?_
    exact ai.nil ⟨_,rfl,(aa.put (aa.push rfl (aa.push rfl (aa.put (.refl _) (Less.eq (by rw [hB33]))))) (Less.eq (by rw [hB33]; rw [Bool.false_or])))⟩
   refine ai.nil ?_
   refine aj.cond rfl (fun hb34=>?_) (fun hb34=>?_)
   ·
    replace h:=bg hb34 h
    refine aj.seq ?_
    refine aj.region E.obj rfl ?_
    refine ai.val rfl (ah rfl) rfl ?_
    refine ai.val rfl (ah rfl) rfl ?_
    refine ai.nil ?_
    have hr:=Option.some.inj h
    subst hr
    exact aj.ret ⟨_,rfl,rfl,fT (vs:=[(.d (.str [])),(.d (.bool false))]) (ds:=[(.str []),(.bool false)]) (av.eq (av.eq .nil))⟩
   replace h:=aZ hb34 h
   refine aj.skip ?_
   refine aj.region E.obj rfl ?_
   refine ai.val rfl (ae rfl) rfl ?_
   obtain ⟨z35,hzz35,h⟩:=bind_some h
   refine ai.val rfl (ak rfl rfl (xg hzz35)) rfl ?_
   refine ai.val rfl (ae rfl) rfl ?_
   refine ai.val rfl (ak rfl rfl BI) rfl ?_
   refine ai.val rfl (fD rfl Hf GL) rfl ?_
   refine ai.val rfl (ah rfl) rfl ?_
   refine ai.val rfl (ah rfl) rfl ?_
   refine ai.nil ?_
   exact ⟨⟨(IntKind.wrap .u8 (Bv .i64 z35 z32)),3⟩,_,_,S11,.refl _ _,.refl _,(aa.r rfl (aa.r rfl (aa.r rfl (aa.r rfl aa.nil)))),H12.sl [0] rfl rfl,h⟩
  replace h:=aZ hb27 h
  refine aj.seq ?_
  refine aj.region E.obj rfl ?_
  refine ai.val rfl (ae rfl) rfl ?_
  obtain ⟨z36,hzz36,h⟩:=bind_some h
  refine ai.ret rfl (aA rfl rfl) (rq E _ _ _ hzz36 _ _ (av.eq .nil)) rfl ?_
  refine ai.val rfl (bY rfl) rfl ?_
  refine ai.nil ?_
  refine aj.cond rfl (fun hb37=>?_) (fun hb37=>?_)
  ·
   replace h:=bg hb37 h
   refine aj.seq ?_
   refine aj.region E.obj rfl ?_
   refine ai.val rfl (ah rfl) rfl ?_
   refine ai.val rfl (ah rfl) rfl ?_
   refine ai.nil ?_
   have hr:=Option.some.inj h
   subst hr
   exact aj.ret ⟨_,rfl,rfl,fT (vs:=[(.d (.str [])),(.d (.bool false))]) (ds:=[(.str []),(.bool false)]) (av.eq (av.eq .nil))⟩
  replace h:=aZ hb37 h
  refine aj.skip ?_
  exact ⟨⟨(z17.toNat:Int),1⟩,_,_,S11,.refl _ _,.refl _,(aa.r rfl (aa.r rfl (aa.r rfl (aa.r rfl aa.nil)))),H12.sl [0] rfl rfl,h⟩
 replace h:=aZ hb16 h
 refine aj.exit ?_
 refine aj.seq ?_
 refine aj.region E.obj rfl ?_
 refine ai.st E.bld H12 rfl rfl (i:=0) rfl rfl (fun S38 H39=>?_)
 refine ai.val rfl (ah rfl) rfl ?_
 refine ai.val rfl (ah rfl) rfl ?_
 refine ai.nil ?_
 have hr:=Option.some.inj h
 subst hr
 exact aj.ret ⟨_,rfl,rfl,fT (vs:=[(.d (.str x13)),(.d (.bool true))]) (ds:=[(.str x13),(.bool true)]) (av.eq (av.eq .nil))⟩
set_option maxRecDepth 20000 in
set_option maxHeartbeats 4000000 in
theorem rG (n:Nat) (a1:Str) (r:((List Str) × Bool)) (h:eQ n a1=some r):aY R cfg.P 46 [(.str a1)] (.tup [.d (.sl ((r.1).map D.str) false),.d (.bool r.2)]):=by
 unfold eQ at h
 refine aY.of_wp E.obj.toObjOk (C:=cfg) Tryd.func46 rfl Gy rfl ?_
 have H0:Has ay ay []:=Has.pure
 refine aj.seq ?_
 refine aj.region E.obj rfl ?_
 refine ai.val rfl (ah rfl) rfl ?_
 refine ai.val rfl (ah rfl) rfl ?_
 refine ai.nil ?_
 refine aj.seq ?_
 refine aj.seq ?_
 refine aj.region E.obj rfl ?_
 refine ai.val rfl (ae rfl) rfl ?_
 refine ai.val rfl (ak rfl rfl jf) rfl ?_
 refine ai.nil ?_
 refine aj.cond rfl (fun hb2=>?_) (fun hb2=>?_)
 ·
  replace h:=bg hb2 h
  refine aj.seq ?_
  refine aj.region E.obj rfl ?_
  refine ai.val rfl (ah rfl) rfl ?_
  refine ai.val rfl (ah rfl) rfl ?_
  refine ai.nil ?_
  have hr:=Option.some.inj h
  subst hr
  exact aj.ret ⟨_,rfl,rfl,fT (vs:=[(.d .bJ),(.d (.bool true))]) (ds:=[(.sl (([]).map D.str) false),(.bool true)]) (av.fw rfl (.bJ false) (av.eq .nil))⟩
 replace h:=aZ hb2 h
 refine aj.skip ?_
 refine aj.seq ?_
 refine aj.region E.obj rfl ?_
 refine ai.val rfl (ah rfl) rfl ?_
 refine ai.nil ?_
 refine aj.seq ?_
 refine aj.seq ?_
 refine aj.region E.obj rfl ?_
 refine ai.val rfl (ae rfl) rfl ?_
 obtain ⟨z3,hzz3,h⟩:=bind_some h
 refine ai.ret rfl (aA rfl rfl) (E.strings_Split_ok _ _ _ _ hzz3 _ _ (av.eq (av.eq .nil))) rfl ?_
 refine ai.val rfl (aI rfl kI) rfl ?_
 refine ai.val rfl (ae rfl) rfl ?_
 refine ai.nil ?_
 refine aj.block ?_
 have H26:=H0.rQ
 refine kS.start (B:=ay) (α:=(List Str) × AV × Int) (fun k a=>dK n z3 k a.1 a.2.2=some r) (fun a=>[(4,a.2.1),(12,(.d (.sl ((z3).map D.str) false))),(13,(.d (.int .i64 ((z3).length:Int)))),(14,(.d (.int .i64 a.2.2)))]) (fun a=>[.grow a.2.1 ((a.1).map D.str)]) ?_ ?_ n ⟨⟨[],(.d .bJ),0⟩,_,_,ay,.refl _ _,.refl _,(aa.r rfl (aa.r rfl (aa.r rfl (aa.r rfl aa.nil)))),H26.sl [0] rfl rfl,h⟩
 ·
  intro a h; simp [dK] at h
 intro k16 a S11 H12 h
 obtain ⟨x13,v14,x15⟩:=a
 replace h:dK n z3 (k16 + 1) x13 x15=some r:=h
 replace H12:Has ay S11 [.grow v14 ((x13).map D.str)]:=H12
 unfold dK at h
 refine aj.seq ?_
 refine aj.region E.obj rfl ?_
 refine ai.val rfl (ak rfl rfl bE) rfl ?_
 refine ai.nil ?_
 refine aj.seq ?_
 refine aj.cond rfl (fun hb17=>?_) (fun hb17=>?_)
 ·
  replace h:=bg hb17 h
  refine aj.skip ?_
  refine aj.seq ?_
  refine aj.block ?_
  refine aj.seq ?_
  refine aj.region E.obj rfl ?_
  obtain ⟨z18,hzz18,h⟩:=bind_some h
  refine ai.val rfl (bO rfl rfl (df (enc:=D.str) hzz18 gV yS (((fun _=>rfl) _).trans kg.symm))) rfl ?_
  refine ai.val rfl (aX rfl (dB j5 rfl)) rfl ?_
  refine ai.val rfl (ah rfl) rfl ?_
  refine ai.nil ?_
  refine aj.seq ?_
  refine aj.region E.obj rfl ?_
  refine ai.val rfl (ae rfl) rfl ?_
  obtain ⟨z19,hzz19,h⟩:=bind_some h
  refine ai.ret rfl (aA rfl rfl) (wJ E _ _ _ hzz19 _ _ (av.eq .nil)) rfl ?_
  refine ai.val rfl (ae rfl) rfl ?_
  refine ai.val rfl (aC rfl rfl) rfl ?_
  refine ai.val rfl (aC rfl rfl) rfl ?_
  refine ai.val rfl (ah rfl) rfl ?_
  refine ai.val rfl (ah rfl) rfl ?_
  refine ai.nil ?_
  refine aj.seq ?_
  refine aj.seq ?_
  refine aj.region E.obj rfl ?_
  refine ai.val rfl (ae rfl) rfl ?_
  refine ai.val rfl (bY rfl) rfl ?_
  refine ai.val rfl (ae rfl) rfl ?_
  refine ai.aT 4 29 (.d (.bool ((!z19.2) || (((x13).length:Int) == 8)))) ?_ ?_
  ·
   rcases Bool.eq_false_or_eq_true ((!z19.2)) with hB20 | hB20
   ·
    refine ai.bool hB20 ?_
    refine ai.no rfl rfl ?_
    refine ai.no rfl rfl ?_
    refine ai.no rfl rfl ?_
    refine ai.val rfl (au (b:=true) rfl rfl) rfl ?_
    exact ai.nil ⟨_,rfl,(aa.put (aa.push rfl (aa.push rfl (aa.push rfl (aa.put (.refl _) (Less.eq (by rw [hB20])))))) (Less.eq (by rw [hB20]; rw [Bool.true_or])))⟩
   refine ai.bool hB20 ?_
   refine ai.val rfl (ae rfl) rfl ?_
   refine ai.val rfl (xq H12 (i:=0) rfl rfl kI) rfl ?_
   refine ai.val rfl (ak rfl rfl cZ) rfl ?_
   refine ai.val rfl (au (b:=false) rfl rfl) rfl ?_
   exact ai.nil ⟨_,rfl,(aa.put (aa.push rfl (aa.push rfl (aa.push rfl (aa.put (.refl _) (Less.eq (by rw [hB20])))))) (Less.eq (by rw [hB20]; rw [Bool.false_or])))⟩
  refine ai.nil ?_
  refine aj.cond rfl (fun hb21=>?_) (fun hb21=>?_)
  ·
   replace h:=bg hb21 h
   refine aj.seq ?_
   refine aj.region E.obj rfl ?_
   refine ai.val rfl (ah rfl) rfl ?_
   refine ai.val rfl (ah rfl) rfl ?_
   refine ai.nil ?_
   have hr:=Option.some.inj h
   subst hr
   exact aj.ret ⟨_,rfl,rfl,fT (vs:=[(.d .bJ),(.d (.bool false))]) (ds:=[(.sl (([]).map D.str) false),(.bool false)]) (av.fw rfl (.bJ false) (av.eq .nil))⟩
  replace h:=aZ hb21 h
  refine aj.skip ?_
  refine aj.region E.obj rfl ?_
  refine ai.val rfl (ae rfl) rfl ?_
  refine ai.val rfl (ae rfl) rfl ?_
  refine ai.val rfl (aK (vs:=[(.d (.str z19.1))]) (ds:=[(.str z19.1)]) kM gV j5 BP kg rfl (by decide) (.cons rfl rfl .nil) rfl (by intro d hd; simp only [List.mem_cons,List.not_mem_nil,or_false] at hd; rcases hd with rfl <;> rfl) rfl) rfl ?_
  obtain ⟨z22,hzz22,h⟩:=bind_some h
  refine ai.append (xs:=(x13).map D.str) (ys:=([z19.1]).map D.str) (zs:=(z22).map D.str) H12 rfl rfl rfl (i:=0) rfl rfl kM u7 gV (dC hzz22) DJ rfl (aQ (enc:=D.str) (fun _=>kg.symm) _) (aQ (enc:=D.str) (fun _=>kg.symm) _) DL rfl (gB hzz22) (fun v23 S24 H25=>?_)
  refine ai.val rfl (ah rfl) rfl ?_
  refine ai.nil ?_
  refine aj.region E.obj rfl ?_
  refine ai.val rfl (ak rfl rfl bf) rfl ?_
  refine ai.val rfl (ae rfl) rfl ?_
  refine ai.nil ?_
  exact ⟨⟨z22,v23,(IntKind.wrap .i64 (x15 + 1))⟩,_,_,S24,.refl _ _,.refl _,(aa.r rfl (aa.r rfl (aa.r rfl (aa.r rfl aa.nil)))),H25.sl [0] rfl rfl,h⟩
 replace h:=aZ hb17 h
 refine aj.exit ?_
 refine aj.seq ?_
 refine aj.region E.obj rfl ?_
 refine ai.val rfl (ae rfl) rfl ?_
 refine ai.val rfl (ah rfl) rfl ?_
 refine ai.val rfl (ah rfl) rfl ?_
 refine ai.nil ?_
 have hr:=Option.some.inj h
 subst hr
 exact aj.ret ⟨_,rfl,rfl,fT (vs:=[v14,(.d (.bool true))]) (ds:=[(.sl ((x13).map D.str) false),(.bool true)]) (av.grow H12 (i:=0) rfl (av.eq .nil))⟩
set_option maxRecDepth 20000 in
set_option maxHeartbeats 4000000 in
theorem uj (n:Nat) (a1:(List Seg)) (a2:(List aD)) (r:((List Str) × Bool)) (h:jX n a1 a2=some r):aY R cfg.P 25 [(.sl ((a1).map aJ) false),(.sl ((a2).map az) false)] (.tup [.d (.sl ((r.1).map D.str) false),.d (.bool r.2)]):=by
 unfold jX at h
 refine aY.of_wp E.obj.toObjOk (C:=cfg) Tryd.func25 rfl Gq rfl ?_
 have H0:Has ay ay []:=Has.pure
 refine aj.seq ?_
 refine aj.region E.obj rfl ?_
 refine ai.val rfl (ah rfl) rfl ?_
 refine ai.val rfl (ah rfl) rfl ?_
 refine ai.nil ?_
 refine aj.seq ?_
 refine aj.region E.obj rfl ?_
 refine ai.val rfl (ah rfl) rfl ?_
 refine ai.nil ?_
 refine aj.seq ?_
 refine aj.seq ?_
 refine aj.region E.obj rfl ?_
 refine ai.val rfl (ae rfl) rfl ?_
 refine ai.val rfl (aI rfl qM) rfl ?_
 refine ai.val rfl (ae rfl) rfl ?_
 refine ai.nil ?_
 refine aj.block ?_
 have H53:=H0.rQ
 refine kS.start (B:=ay) (α:=(List Str) × AV × Int) (fun k a=>bF n a1 a2 k a.1 a.2.2=some r) (fun a=>[(1,(.d (.sl ((a2).map az) false))),(6,a.2.1),(13,(.d (.sl ((a1).map aJ) false))),(14,(.d (.int .i64 ((a1).length:Int)))),(15,(.d (.int .i64 a.2.2)))]) (fun a=>[.grow a.2.1 ((a.1).map D.str)]) ?_ ?_ n ⟨⟨[],(.d .bJ),0⟩,_,_,ay,.refl _ _,.refl _,(aa.r rfl (aa.r rfl (aa.r rfl (aa.r rfl (aa.r rfl aa.nil))))),H53.sl [0] rfl rfl,h⟩
 ·
  intro a h; simp [bF] at h
 intro k15 a S10 H11 h
 obtain ⟨x12,v13,x14⟩:=a
 replace h:bF n a1 a2 (k15 + 1) x12 x14=some r:=h
 replace H11:Has ay S10 [.grow v13 ((x12).map D.str)]:=H11
 unfold bF at h
 refine aj.seq ?_
 refine aj.region E.obj rfl ?_
 refine ai.val rfl (ak rfl rfl bE) rfl ?_
 refine ai.nil ?_
 refine aj.seq ?_
 refine aj.cond rfl (fun hb16=>?_) (fun hb16=>?_)
 ·
  replace h:=bg hb16 h
  refine aj.skip ?_
  refine aj.join (B:=ay) (α:=(List Str) × AV) (fun a=>dE x14 (bF n a1 a2 k15) a.1=some r) (fun a=>[(1,(.d (.sl ((a2).map az) false))),(6,a.2),(13,(.d (.sl ((a1).map aJ) false))),(14,(.d (.int .i64 ((a1).length:Int)))),(15,(.d (.int .i64 x14)))]) (fun a=>[.grow a.2 ((a.1).map D.str)]) ?_ ?_
  ·
   intro a S17 H18 h
   obtain ⟨x19,v20⟩:=a
   replace h:dE x14 (bF n a1 a2 k15) x19=some r:=h
   replace H18:Has ay S17 [.grow v20 ((x19).map D.str)]:=H18
   unfold dE at h
   refine aj.region E.obj rfl ?_
   refine ai.val rfl (ak rfl rfl bf) rfl ?_
   refine ai.val rfl (ae rfl) rfl ?_
   refine ai.nil ?_
   exact ⟨⟨x19,v20,(IntKind.wrap .i64 (x14 + 1))⟩,_,_,S17,.refl _ _,.refl _,(aa.r rfl (aa.r rfl (aa.r rfl (aa.r rfl (aa.r rfl aa.nil))))),H18.sl [0] rfl rfl,h⟩
  refine aj.block ?_
  refine aj.seq ?_
  refine aj.region E.obj rfl ?_
  obtain ⟨z22,hzz22,h⟩:=bind_some h
  refine ai.val rfl (bO rfl rfl (df (enc:=aJ) hzz22 qm om ((Seg.len _).trans iD.symm))) rfl ?_
  refine ai.val rfl (aX rfl (Seg.lX ql iD)) rfl ?_
  refine ai.alloc H11 rfl zF nZ rfl rfl (fun b23 S24 H25=>?_)
  refine ai.store H25 (i:=0) rfl rfl rfl rfl (Seg.eO _) rfl iD rfl om rfl rfl rfl (fun S26 H27=>?_)
  refine ai.nil ?_
  refine aj.seq ?_
  refine aj.region E.obj rfl ?_
  refine ai.val rfl (ae rfl) rfl ?_
  refine ai.val rfl (ax rfl jb rH rfl) rfl ?_
  refine ai.val rfl (aB H27 (i:=0) rfl rfl (aG j5 rfl)) rfl ?_
  obtain ⟨z28,hzz28,h⟩:=bind_some h
  refine ai.ret rfl (aA rfl rfl) (ng E _ _ _ _ hzz28 _ _ (av.eq (av.eq .nil))) rfl ?_
  refine ai.val rfl (ae rfl) rfl ?_
  refine ai.val rfl (aC rfl rfl) rfl ?_
  refine ai.val rfl (aC rfl rfl) rfl ?_
  refine ai.val rfl (ah rfl) rfl ?_
  refine ai.val rfl (ah rfl) rfl ?_
  refine ai.nil ?_
  refine aj.seq ?_
  refine aj.region E.obj rfl ?_
  refine ai.val rfl (ax rfl fU uf rfl) rfl ?_
  refine ai.val rfl (aB H27 (i:=0) rfl rfl (aG qF rfl)) rfl ?_
  refine ai.nil ?_
  refine aj.block ?_
  refine aj.seq ?_
  refine aj.region E.obj rfl ?_
  refine ai.val rfl (ak rfl rfl cZ) rfl ?_
  refine ai.val rfl (ah rfl) rfl ?_
  refine ai.nil ?_
  refine aj.cond rfl (fun hb29=>?_) (fun hb29=>?_)
  ·
   replace h:=bg hb29 h
   refine aj.region E.obj rfl ?_
   refine ai.val rfl (ae rfl) rfl ?_
   refine ai.val rfl (ax rfl jb rH rfl) rfl ?_
   refine ai.val rfl (aB H27 (i:=0) rfl rfl (aG j5 rfl)) rfl ?_
   refine ai.val rfl (aK (vs:=[(.d (.str z22.Text))]) (ds:=[(.str z22.Text)]) kM gV j5 BP kg rfl (by decide) (.cons rfl rfl .nil) rfl (by intro d hd; simp only [List.mem_cons,List.not_mem_nil,or_false] at hd; rcases hd with rfl <;> rfl) rfl) rfl ?_
   obtain ⟨z30,hzz30,h⟩:=bind_some h
   refine ai.append (xs:=(x12).map D.str) (ys:=([z22.Text]).map D.str) (zs:=(z30).map D.str) H27 rfl rfl rfl (i:=1) rfl rfl kM u7 gV (dC hzz30) DJ rfl (aQ (enc:=D.str) (fun _=>kg.symm) _) (aQ (enc:=D.str) (fun _=>kg.symm) _) DL rfl (gB hzz30) (fun v31 S32 H33=>?_)
   refine ai.val rfl (ah rfl) rfl ?_
   refine ai.nil ?_
   exact ⟨⟨z30,v31⟩,_,_,S32,.refl _ _,.refl _,(aa.r rfl (aa.r rfl (aa.r rfl (aa.r rfl (aa.r rfl aa.nil))))),H33.sl [1] rfl rfl,h⟩
  replace h:=aZ hb29 h
  refine aj.seq ?_
  refine aj.region E.obj rfl ?_
  refine ai.val rfl (ak rfl rfl cZ) rfl ?_
  refine ai.val rfl (ah rfl) rfl ?_
  refine ai.nil ?_
  refine aj.cond rfl (fun hb34=>?_) (fun hb34=>?_)
  ·
   replace h:=bg hb34 h
   refine aj.seq ?_
   refine aj.seq ?_
   refine aj.region E.obj rfl ?_
   refine ai.val rfl (ae rfl) rfl ?_
   refine ai.val rfl (bY rfl) rfl ?_
   refine ai.nil ?_
   refine aj.cond rfl (fun hb35=>?_) (fun hb35=>?_)
   ·
    replace h:=bg hb35 h
    refine aj.seq ?_
    refine aj.region E.obj rfl ?_
    refine ai.val rfl (ah rfl) rfl ?_
    refine ai.val rfl (ah rfl) rfl ?_
    refine ai.nil ?_
    have hr:=Option.some.inj h
    subst hr
    exact aj.ret ⟨_,rfl,rfl,fT (vs:=[(.d .bJ),(.d (.bool false))]) (ds:=[(.sl (([]).map D.str) false),(.bool false)]) (av.fw rfl (.bJ false) (av.eq .nil))⟩
   replace h:=aZ hb35 h
   refine aj.skip ?_
   refine aj.region E.obj rfl ?_
   refine ai.val rfl (ae rfl) rfl ?_
   refine ai.val rfl (ae rfl) rfl ?_
   refine ai.val rfl (aK (vs:=[(.d (.str z28.1))]) (ds:=[(.str z28.1)]) kM gV j5 BP kg rfl (by decide) (.cons rfl rfl .nil) rfl (by intro d hd; simp only [List.mem_cons,List.not_mem_nil,or_false] at hd; rcases hd with rfl <;> rfl) rfl) rfl ?_
   obtain ⟨z36,hzz36,h⟩:=bind_some h
   refine ai.append (xs:=(x12).map D.str) (ys:=([z28.1]).map D.str) (zs:=(z36).map D.str) H27 rfl rfl rfl (i:=1) rfl rfl kM u7 gV (dC hzz36) DJ rfl (aQ (enc:=D.str) (fun _=>kg.symm) _) (aQ (enc:=D.str) (fun _=>kg.symm) _) DL rfl (gB hzz36) (fun v37 S38 H39=>?_)
   refine ai.val rfl (ah rfl) rfl ?_
   refine ai.nil ?_
   exact ⟨⟨z36,v37⟩,_,_,S38,.refl _ _,.refl _,(aa.r rfl (aa.r rfl (aa.r rfl (aa.r rfl (aa.r rfl aa.nil))))),H39.sl [1] rfl rfl,h⟩
  replace h:=aZ hb34 h
  refine aj.seq ?_
  refine aj.region E.obj rfl ?_
  refine ai.val rfl (ak rfl rfl cZ) rfl ?_
  refine ai.val rfl (ah rfl) rfl ?_
  refine ai.nil ?_
  refine aj.cond rfl (fun hb40=>?_) (fun hb40=>?_)
  ·
   replace h:=bg hb40 h
   refine aj.seq ?_
   refine aj.region E.obj rfl ?_
   refine ai.val rfl (ae rfl) rfl ?_
   refine ai.nil ?_
   refine aj.cond rfl (fun hb41=>?_) (fun hb41=>?_)
   ·
    replace h:=bg hb41 h
    refine aj.region E.obj rfl ?_
    refine ai.val rfl (ae rfl) rfl ?_
    refine ai.val rfl (ae rfl) rfl ?_
    refine ai.val rfl (aK (vs:=[(.d (.str z28.1))]) (ds:=[(.str z28.1)]) kM gV j5 BP kg rfl (by decide) (.cons rfl rfl .nil) rfl (by intro d hd; simp only [List.mem_cons,List.not_mem_nil,or_false] at hd; rcases hd with rfl <;> rfl) rfl) rfl ?_
    obtain ⟨z42,hzz42,h⟩:=bind_some h
    refine ai.append (xs:=(x12).map D.str) (ys:=([z28.1]).map D.str) (zs:=(z42).map D.str) H27 rfl rfl rfl (i:=1) rfl rfl kM u7 gV (dC hzz42) DJ rfl (aQ (enc:=D.str) (fun _=>kg.symm) _) (aQ (enc:=D.str) (fun _=>kg.symm) _) DL rfl (gB hzz42) (fun v43 S44 H45=>?_)
    refine ai.val rfl (ah rfl) rfl ?_
    refine ai.nil ?_
    exact ⟨⟨z42,v43⟩,_,_,S44,.refl _ _,.refl _,(aa.r rfl (aa.r rfl (aa.r rfl (aa.r rfl (aa.r rfl aa.nil))))),H45.sl [1] rfl rfl,h⟩
   replace h:=aZ hb41 h
   refine aj.skip ?_
   exact ⟨⟨x12,v13⟩,_,_,S26,.refl _ _,.refl _,(aa.r rfl (aa.r rfl (aa.r rfl (aa.r rfl (aa.r rfl aa.nil))))),H27.sl [1] rfl rfl,h⟩
  replace h:=aZ hb40 h
  refine aj.seq ?_
  refine aj.region E.obj rfl ?_
  refine ai.val rfl (ae rfl) rfl ?_
  obtain ⟨z46,hzz46,h⟩:=bind_some h
  refine ai.ret rfl (aA rfl rfl) (rG E _ _ _ hzz46 _ _ (av.eq .nil)) rfl ?_
  refine ai.val rfl (ae rfl) rfl ?_
  refine ai.val rfl (aC rfl rfl) rfl ?_
  refine ai.val rfl (aC rfl rfl) rfl ?_
  refine ai.val rfl (ah rfl) rfl ?_
  refine ai.val rfl (ah rfl) rfl ?_
  refine ai.nil ?_
  refine aj.seq ?_
  refine aj.seq ?_
  refine aj.region E.obj rfl ?_
  refine ai.val rfl (ae rfl) rfl ?_
  refine ai.val rfl (bY rfl) rfl ?_
  refine ai.val rfl (ae rfl) rfl ?_
  refine ai.aT 3 38 (.d (.bool ((!z28.2) || (!z46.2)))) ?_ ?_
  ·
   rcases Bool.eq_false_or_eq_true ((!z28.2)) with hB47 | hB47
   ·
    refine ai.bool hB47 ?_
    refine ai.no rfl rfl ?_
    refine ai.no rfl rfl ?_
    refine ai.val rfl (au (b:=true) rfl rfl) rfl ?_
    exact ai.nil ⟨_,rfl,(aa.put (aa.push rfl (aa.push rfl (aa.put (.refl _) (Less.eq (by rw [hB47]))))) (Less.eq (by rw [hB47]; rw [Bool.true_or])))⟩
   refine ai.bool hB47 ?_
   refine ai.val rfl (ae rfl) rfl ?_
   refine ai.val rfl (bY rfl) rfl ?_
   refine ai.val rfl (au (b:=false) rfl rfl) rfl ?_
   exact ai.nil ⟨_,rfl,(aa.put (aa.push rfl (aa.push rfl (aa.put (.refl _) (Less.eq (by rw [hB47]))))) (Less.eq (by rw [hB47]; rw [Bool.false_or])))⟩
  refine ai.nil ?_
  refine aj.cond rfl (fun hb48=>?_) (fun hb48=>?_)
  ·
   replace h:=bg hb48 h
   refine aj.seq ?_
   refine aj.region E.obj rfl ?_
   refine ai.val rfl (ah rfl) rfl ?_
   refine ai.val rfl (ah rfl) rfl ?_
   refine ai.nil ?_
   have hr:=Option.some.inj h
   subst hr
   exact aj.ret ⟨_,rfl,rfl,fT (vs:=[(.d .bJ),(.d (.bool false))]) (ds:=[(.sl (([]).map D.str) false),(.bool false)]) (av.fw rfl (.bJ false) (av.eq .nil))⟩
  replace h:=aZ hb48 h
  refine aj.skip ?_
  refine aj.region E.obj rfl ?_
  refine ai.val rfl (ae rfl) rfl ?_
  refine ai.val rfl (ae rfl) rfl ?_
  obtain ⟨z49,hzz49,h⟩:=bind_some h
  refine ai.append (xs:=(x12).map D.str) (ys:=(z46.1).map D.str) (zs:=(z49).map D.str) H27 rfl rfl rfl (i:=1) rfl rfl kM u7 gV (dC hzz49) DJ rfl (aQ (enc:=D.str) (fun _=>kg.symm) _) (aQ (enc:=D.str) (fun _=>kg.symm) _) DL rfl (gB hzz49) (fun v50 S51 H52=>?_)
  refine ai.val rfl (ah rfl) rfl ?_
  refine ai.nil ?_
  exact ⟨⟨z49,v50⟩,_,_,S51,.refl _ _,.refl _,(aa.r rfl (aa.r rfl (aa.r rfl (aa.r rfl (aa.r rfl aa.nil))))),H52.sl [1] rfl rfl,h⟩
 replace h:=aZ hb16 h
 refine aj.exit ?_
 refine aj.seq ?_
 refine aj.region E.obj rfl ?_
 refine ai.val rfl (ae rfl) rfl ?_
 refine ai.val rfl (ah rfl) rfl ?_
 refine ai.val rfl (ah rfl) rfl ?_
 refine ai.nil ?_
 have hr:=Option.some.inj h
 subst hr
 exact aj.ret ⟨_,rfl,rfl,fT (vs:=[v13,(.d (.bool true))]) (ds:=[(.sl ((x12).map D.str) false),(.bool true)]) (av.grow H11 (i:=0) rfl (av.eq .nil))⟩
set_option maxRecDepth 20000 in
set_option maxHeartbeats 4000000 in
theorem o6 (n:Nat) (a1:Str) (a2:Int) (r:Bool) (h:mO n a1 a2=some r):aY R cfg.P 47 [(.str a1),(.int .i64 a2)] (.d (.bool r)):=by
 unfold mO at h
 refine aY.of_wp E.obj.toObjOk (C:=cfg) Tryd.func47 rfl Gv rfl ?_
 have H0:Has ay ay []:=Has.pure
 refine aj.seq ?_
 refine aj.region E.obj rfl ?_
 refine ai.val rfl (ah rfl) rfl ?_
 refine ai.nil ?_
 refine aj.seq ?_
 refine aj.region E.obj rfl ?_
 refine ai.val rfl (ae rfl) rfl ?_
 refine ai.val rfl (cz rfl (bQ jK) rfl) rfl ?_
 refine ai.val rfl (ae rfl) rfl ?_
 refine ai.val rfl (ak rfl rfl dN) rfl ?_
 refine ai.val rfl (ae rfl) rfl ?_
 refine ai.aT 4 13 (.d (.bool ((decide (a2 ≤ ((a1).length:Int))) && (decide (((a1).length:Int) ≤ 64))))) ?_ ?_
 ·
  rcases Bool.eq_false_or_eq_true ((decide (a2 ≤ ((a1).length:Int)))) with hB3 | hB3
  ·
   refine ai.bool hB3 ?_
   refine ai.val rfl (ae rfl) rfl ?_
   refine ai.val rfl (cz rfl (bQ jK) rfl) rfl ?_
   refine ai.val rfl (ak rfl rfl fQ) rfl ?_
   refine ai.val rfl (au (b:=true) rfl rfl) rfl ?_
   exact ai.nil ⟨_,rfl,(aa.put (aa.push rfl (aa.push rfl (aa.push rfl (aa.put (.refl _) (Less.eq (by rw [hB3])))))) (Less.eq (by rw [hB3]; rw [Bool.true_and])))⟩
  refine ai.bool hB3 ?_
  refine ai.no rfl rfl ?_
  refine ai.no rfl rfl ?_
  refine ai.no rfl rfl ?_
  refine ai.val rfl (au (b:=false) rfl rfl) rfl ?_
  exact ai.nil ⟨_,rfl,(aa.put (aa.push rfl (aa.push rfl (aa.push rfl (aa.put (.refl _) (Less.eq (by rw [hB3])))))) (Less.eq (by rw [hB3]; rw [Bool.false_and])))⟩
 refine ai.val rfl (ah rfl) rfl ?_
 refine ai.nil ?_
 have hr:=Option.some.inj h
 subst hr
 exact aj.ret ⟨_,rfl,rfl,eG (av.eq .nil)⟩
set_option maxRecDepth 20000 in
set_option maxHeartbeats 4000000 in
theorem xZ (n:Nat) (a1:kK) (r:Bool) (h:mW n a1=some r):aY R cfg.P 26 [(kQ a1)] (.d (.bool r)):=by
 unfold mW at h
 refine aY.of_wp E.obj.toObjOk (C:=cfg) Tryd.func26 rfl G6 rfl ?_
 have H0:Has ay ay []:=Has.pure
 refine aj.seq ?_
 refine aj.region E.obj rfl ?_
 refine ai.box H0 rfl rfl rfl (kK.eO _) rfl (fun b2 S3 H4=>?_)
 refine ai.val rfl (ah rfl) rfl ?_
 refine ai.nil ?_
 refine aj.seq ?_
 refine aj.seq ?_
 refine aj.region E.obj rfl ?_
 refine ai.val rfl (ax rfl qC Ce rfl) rfl ?_
 refine ai.val rfl (aB H4 (i:=0) rfl rfl (aG Cy rfl)) rfl ?_
 refine ai.val rfl (aI rfl kI) rfl ?_
 refine ai.val rfl (ak rfl rfl fO) rfl ?_
 refine ai.val rfl (ae rfl) rfl ?_
 refine ai.aT 5 16 (.d (.bool ((decide (8 < ((a1.Path).length:Int))) || (decide (8 < ((a1.Query).length:Int)))))) ?_ ?_
 ·
  rcases Bool.eq_false_or_eq_true ((decide (8 < ((a1.Path).length:Int)))) with hB5 | hB5
  ·
   refine ai.bool hB5 ?_
   refine ai.no rfl rfl ?_
   refine ai.no rfl rfl ?_
   refine ai.no rfl rfl ?_
   refine ai.no rfl rfl ?_
   refine ai.val rfl (au (b:=true) rfl rfl) rfl ?_
   exact ai.nil ⟨_,rfl,(aa.put (aa.push rfl (aa.push rfl (aa.push rfl (aa.push rfl (aa.put (.refl _) (Less.eq (by rw [hB5]))))))) (Less.eq (by rw [hB5]; rw [Bool.true_or])))⟩
  refine ai.bool hB5 ?_
  refine ai.val rfl (ax rfl qy Bb rfl) rfl ?_
  refine ai.val rfl (aB H4 (i:=0) rfl rfl (aG BS rfl)) rfl ?_
  refine ai.val rfl (aI rfl pR) rfl ?_
  refine ai.val rfl (ak rfl rfl fO) rfl ?_
  refine ai.val rfl (au (b:=false) rfl rfl) rfl ?_
  exact ai.nil ⟨_,rfl,(aa.put (aa.push rfl (aa.push rfl (aa.push rfl (aa.push rfl (aa.put (.refl _) (Less.eq (by rw [hB5]))))))) (Less.eq (by rw [hB5]; rw [Bool.false_or])))⟩
 refine ai.nil ?_
 refine aj.cond rfl (fun hb6=>?_) (fun hb6=>?_)
 ·
  replace h:=bg hb6 h
  refine aj.seq ?_
  refine aj.region E.obj rfl ?_
  refine ai.val rfl (ah rfl) rfl ?_
  refine ai.nil ?_
  have hr:=Option.some.inj h
  subst hr
  exact aj.ret ⟨_,rfl,rfl,eG (av.eq .nil)⟩
 replace h:=aZ hb6 h
 refine aj.skip ?_
 refine aj.seq ?_
 refine aj.seq ?_
 refine aj.region E.obj rfl ?_
 refine ai.val rfl (ax rfl qC Ce rfl) rfl ?_
 refine ai.val rfl (aB H4 (i:=0) rfl rfl (aG Cy rfl)) rfl ?_
 refine ai.val rfl (aI rfl kI) rfl ?_
 refine ai.val rfl (ae rfl) rfl ?_
 refine ai.nil ?_
 refine aj.block ?_
 refine kS.start (B:=ay) (α:=Int) (fun k a=>fB n a1 k a=some r) (fun a=>[(1,(.ptr b2 0 0)),(18,(.d (.sl ((a1.Path).map D.str) false))),(19,(.d (.int .i64 ((a1.Path).length:Int)))),(20,(.d (.int .i64 a)))]) (fun a=>[.box b2 [(.d (.sl ((a1.Path).map D.str) false)),(.d (.sl ((a1.Query).map az) false))]]) ?_ ?_ n ⟨0,_,_,S3,.refl _ _,.refl _,(aa.r rfl (aa.r rfl (aa.r rfl (aa.r rfl aa.nil)))),H4.sl [0] rfl rfl,h⟩
 ·
  intro a h; simp [fB] at h
 intro k15 x14 S12 H13 h
 replace h:fB n a1 (k15 + 1) x14=some r:=h
 replace H13:Has ay S12 [.box b2 [(.d (.sl ((a1.Path).map D.str) false)),(.d (.sl ((a1.Query).map az) false))]]:=H13
 unfold fB at h
 refine aj.seq ?_
 refine aj.region E.obj rfl ?_
 refine ai.val rfl (ak rfl rfl bE) rfl ?_
 refine ai.nil ?_
 refine aj.seq ?_
 refine aj.cond rfl (fun hb16=>?_) (fun hb16=>?_)
 ·
  replace h:=bg hb16 h
  refine aj.skip ?_
  refine aj.seq ?_
  refine aj.block ?_
  refine aj.seq ?_
  refine aj.region E.obj rfl ?_
  obtain ⟨z17,hzz17,h⟩:=bind_some h
  refine ai.val rfl (bO rfl rfl (df (enc:=D.str) hzz17 gV yS (((fun _=>rfl) _).trans kg.symm))) rfl ?_
  refine ai.val rfl (aX rfl (dB j5 rfl)) rfl ?_
  refine ai.val rfl (ah rfl) rfl ?_
  refine ai.nil ?_
  refine aj.seq ?_
  refine aj.region E.obj rfl ?_
  refine ai.val rfl (ae rfl) rfl ?_
  obtain ⟨z18,hzz18,h⟩:=bind_some h
  refine ai.ret rfl (aA rfl rfl) (o6 E _ _ _ _ hzz18 _ _ (av.eq (av.eq .nil))) rfl ?_
  refine ai.val rfl (bY rfl) rfl ?_
  refine ai.nil ?_
  refine aj.cond rfl (fun hb19=>?_) (fun hb19=>?_)
  ·
   replace h:=bg hb19 h
   refine aj.seq ?_
   refine aj.region E.obj rfl ?_
   refine ai.val rfl (ah rfl) rfl ?_
   refine ai.nil ?_
   have hr:=Option.some.inj h
   subst hr
   exact aj.ret ⟨_,rfl,rfl,eG (av.eq .nil)⟩
  replace h:=aZ hb19 h
  refine aj.skip ?_
  refine aj.region E.obj rfl ?_
  refine ai.val rfl (ak rfl rfl bf) rfl ?_
  refine ai.val rfl (ae rfl) rfl ?_
  refine ai.nil ?_
  exact ⟨(IntKind.wrap .i64 (x14 + 1)),_,_,S12,.refl _ _,.refl _,(aa.r rfl (aa.r rfl (aa.r rfl (aa.r rfl aa.nil)))),H13.sl [0] rfl rfl,h⟩
 replace h:=aZ hb16 h
 refine aj.exit ?_
 refine aj.seq ?_
 refine aj.seq ?_
 refine aj.region E.obj rfl ?_
 refine ai.val rfl (ax rfl qy Bb rfl) rfl ?_
 refine ai.val rfl (aB H13 (i:=0) rfl rfl (aG BS rfl)) rfl ?_
 refine ai.val rfl (aI rfl pR) rfl ?_
 refine ai.val rfl (ae rfl) rfl ?_
 refine ai.nil ?_
 refine aj.block ?_
 refine kS.start (B:=ay) (α:=Int) (fun k a=>gX n a1 k a=some r) (fun a=>[(29,(.d (.sl ((a1.Query).map az) false))),(30,(.d (.int .i64 ((a1.Query).length:Int)))),(31,(.d (.int .i64 a)))]) (fun a=>[]) ?_ ?_ n ⟨0,_,_,S12,.refl _ _,.refl _,(aa.r rfl (aa.r rfl (aa.r rfl aa.nil))),H13.sl [] rfl rfl,h⟩
 ·
  intro a h; simp [gX] at h
 intro k28 x27 S25 H26 h
 replace h:gX n a1 (k28 + 1) x27=some r:=h
 replace H26:Has ay S25 []:=H26
 unfold gX at h
 refine aj.seq ?_
 refine aj.region E.obj rfl ?_
 refine ai.val rfl (ak rfl rfl bE) rfl ?_
 refine ai.nil ?_
 refine aj.seq ?_
 refine aj.cond rfl (fun hb29=>?_) (fun hb29=>?_)
 ·
  replace h:=bg hb29 h
  refine aj.skip ?_
  refine aj.seq ?_
  refine aj.block ?_
  refine aj.seq ?_
  refine aj.region E.obj rfl ?_
  obtain ⟨z30,hzz30,h⟩:=bind_some h
  refine ai.val rfl (bO rfl rfl (df (enc:=az) hzz30 mI uq ((aD.len _).trans iL.symm))) rfl ?_
  refine ai.val rfl (aX rfl (aD.lX qg iL)) rfl ?_
  refine ai.alloc H26 rfl Dx lg rfl rfl (fun b31 S32 H33=>?_)
  refine ai.store H33 (i:=0) rfl rfl rfl rfl (aD.eO _) rfl iL rfl uq rfl rfl rfl (fun S34 H35=>?_)
  refine ai.nil ?_
  refine aj.seq ?_
  refine aj.region E.obj rfl ?_
  refine ai.val rfl (ax rfl sG rH rfl) rfl ?_
  refine ai.val rfl (aB H35 (i:=0) rfl rfl (aG j5 rfl)) rfl ?_
  obtain ⟨z36,hzz36,h⟩:=bind_some h
  refine ai.ret rfl (aA rfl rfl) (o6 E _ _ _ _ hzz36 _ _ (av.eq (av.eq .nil))) rfl ?_
  refine ai.val rfl (bY rfl) rfl ?_
  refine ai.val rfl (ae rfl) rfl ?_
  obtain ⟨z38,hzz38,h⟩:=bind_some h
  refine ai.aT 5 44 (.d (.bool z38)) ?_ ?_
  ·
   rcases Bool.eq_false_or_eq_true ((!z36)) with hB37 | hB37
   ·
    refine ai.bool hB37 ?_
    refine ai.no rfl rfl ?_
    refine ai.no rfl rfl ?_
    refine ai.no rfl rfl ?_
    refine ai.no rfl rfl ?_
    refine ai.val rfl (au (b:=true) rfl rfl) rfl ?_
    replace hzz38:=bg hB37 hzz38
    cases hzz38
    exact ai.nil ⟨_,rfl,(aa.put (aa.push rfl (aa.push rfl (aa.push rfl (aa.push rfl (aa.put (.refl _) (Less.eq (by rw [hB37]))))))) (.refl _))⟩
   refine ai.bool hB37 ?_
   replace hzz38:=aZ hB37 hzz38
   refine ai.val rfl (ax rfl wm rH rfl) rfl ?_
   refine ai.val rfl (aB H35 (i:=0) rfl rfl (aG j5 rfl)) rfl ?_
   obtain ⟨z39,hzz39,hzz38⟩:=bind_some hzz38
   refine ai.ret rfl (aA rfl rfl) (o6 E _ _ _ _ hzz39 _ _ (av.eq (av.eq .nil))) rfl ?_
   refine ai.val rfl (bY rfl) rfl ?_
   refine ai.val rfl (au (b:=false) rfl rfl) rfl ?_
   cases hzz38
   exact ai.nil ⟨_,rfl,(aa.put (aa.push rfl (aa.push rfl (aa.push rfl (aa.push rfl (aa.put (.refl _) (Less.eq (by rw [hB37]))))))) (.refl _))⟩
  refine ai.nil ?_
  refine aj.cond rfl (fun hb40=>?_) (fun hb40=>?_)
  ·
   replace h:=bg hb40 h
   refine aj.seq ?_
   refine aj.region E.obj rfl ?_
   refine ai.val rfl (ah rfl) rfl ?_
   refine ai.nil ?_
   have hr:=Option.some.inj h
   subst hr
   exact aj.ret ⟨_,rfl,rfl,eG (av.eq .nil)⟩
  replace h:=aZ hb40 h
  refine aj.skip ?_
  refine aj.region E.obj rfl ?_
  refine ai.val rfl (ak rfl rfl bf) rfl ?_
  refine ai.val rfl (ae rfl) rfl ?_
  refine ai.nil ?_
  exact ⟨(IntKind.wrap .i64 (x27 + 1)),_,_,S34,.refl _ _,.refl _,(aa.r rfl (aa.r rfl (aa.r rfl aa.nil))),H35.sl [] rfl rfl,h⟩
 replace h:=aZ hb29 h
 refine aj.exit ?_
 refine aj.seq ?_
 refine aj.region E.obj rfl ?_
 refine ai.val rfl (ah rfl) rfl ?_
 refine ai.nil ?_
 have hr:=Option.some.inj h
 subst hr
 exact aj.ret ⟨_,rfl,rfl,eG (av.eq .nil)⟩
set_option maxRecDepth 20000 in
set_option maxHeartbeats 4000000 in
theorem sI (n:Nat) (a1:(List aD)) (a2:(List aD)) (r:Bool) (h:jw n a1 a2=some r):aY R cfg.P 27 [(.sl ((a1).map az) false),(.sl ((a2).map az) false)] (.d (.bool r)):=by
 unfold jw at h
 refine aY.of_wp E.obj.toObjOk (C:=cfg) Tryd.func27 rfl GQ rfl ?_
 have H0:Has ay ay []:=Has.pure
 refine aj.seq ?_
 refine aj.region E.obj rfl ?_
 refine ai.val rfl (ah rfl) rfl ?_
 refine ai.nil ?_
 refine aj.seq ?_
 refine aj.seq ?_
 refine aj.region E.obj rfl ?_
 refine ai.val rfl (ae rfl) rfl ?_
 refine ai.val rfl (aI rfl pR) rfl ?_
 refine ai.val rfl (ae rfl) rfl ?_
 refine ai.val rfl (aI rfl pR) rfl ?_
 refine ai.val rfl (ak rfl rfl iA) rfl ?_
 refine ai.nil ?_
 refine aj.cond rfl (fun hb3=>?_) (fun hb3=>?_)
 ·
  replace h:=bg hb3 h
  refine aj.seq ?_
  refine aj.region E.obj rfl ?_
  refine ai.val rfl (ah rfl) rfl ?_
  refine ai.nil ?_
  have hr:=Option.some.inj h
  subst hr
  exact aj.ret ⟨_,rfl,rfl,eG (av.eq .nil)⟩
 replace h:=aZ hb3 h
 refine aj.skip ?_
 refine aj.seq ?_
 refine aj.seq ?_
 refine aj.region E.obj rfl ?_
 refine ai.val rfl (ae rfl) rfl ?_
 refine ai.val rfl (aI rfl pR) rfl ?_
 refine ai.val rfl (ae rfl) rfl ?_
 refine ai.nil ?_
 refine aj.block ?_
 refine kS.start (B:=ay) (α:=Int) (fun k a=>dV n a1 a2 k a=some r) (fun a=>[(1,(.d (.sl ((a2).map az) false))),(14,(.d (.sl ((a1).map az) false))),(15,(.d (.int .i64 ((a1).length:Int)))),(16,(.d (.int .i64 a)))]) (fun a=>[]) ?_ ?_ n ⟨0,_,_,ay,.refl _ _,.refl _,(aa.r rfl (aa.r rfl (aa.r rfl (aa.r rfl aa.nil)))),H0.sl [] rfl rfl,h⟩
 ·
  intro a h; simp [dV] at h
 intro k12 x11 S9 H10 h
 replace h:dV n a1 a2 (k12 + 1) x11=some r:=h
 replace H10:Has ay S9 []:=H10
 unfold dV at h
 refine aj.seq ?_
 refine aj.region E.obj rfl ?_
 refine ai.val rfl (ak rfl rfl bE) rfl ?_
 refine ai.nil ?_
 refine aj.seq ?_
 refine aj.cond rfl (fun hb13=>?_) (fun hb13=>?_)
 ·
  replace h:=bg hb13 h
  refine aj.skip ?_
  refine aj.seq ?_
  refine aj.block ?_
  refine aj.seq ?_
  refine aj.region E.obj rfl ?_
  obtain ⟨z14,hzz14,h⟩:=bind_some h
  refine ai.val rfl (bO rfl rfl (df (enc:=az) hzz14 mI uq ((aD.len _).trans iL.symm))) rfl ?_
  refine ai.val rfl (aX rfl (aD.lX qg iL)) rfl ?_
  refine ai.alloc H10 rfl Dx lg rfl rfl (fun b15 S16 H17=>?_)
  refine ai.store H17 (i:=0) rfl rfl rfl rfl (aD.eO _) rfl iL rfl uq rfl rfl rfl (fun S18 H19=>?_)
  refine ai.nil ?_
  refine aj.seq ?_
  refine aj.region E.obj rfl ?_
  refine ai.val rfl (ae rfl) rfl ?_
  refine ai.val rfl (ax rfl sG rH rfl) rfl ?_
  refine ai.val rfl (aB H19 (i:=0) rfl rfl (aG j5 rfl)) rfl ?_
  obtain ⟨z20,hzz20,h⟩:=bind_some h
  refine ai.ret rfl (aA rfl rfl) (ng E _ _ _ _ hzz20 _ _ (av.eq (av.eq .nil))) rfl ?_
  refine ai.val rfl (ae rfl) rfl ?_
  refine ai.val rfl (aC rfl rfl) rfl ?_
  refine ai.val rfl (aC rfl rfl) rfl ?_
  refine ai.val rfl (ah rfl) rfl ?_
  refine ai.val rfl (ah rfl) rfl ?_
  refine ai.nil ?_
  refine aj.seq ?_
  refine aj.region E.obj rfl ?_
  refine ai.val rfl (ae rfl) rfl ?_
  refine ai.val rfl (bY rfl) rfl ?_
  refine ai.val rfl (ae rfl) rfl ?_
  refine ai.aT 5 34 (.d (.bool ((!z20.2) || (!(z20.1 == z14.Value))))) ?_ ?_
  ·
   rcases Bool.eq_false_or_eq_true ((!z20.2)) with hB21 | hB21
   ·
    refine ai.bool hB21 ?_
    refine ai.no rfl rfl ?_
    refine ai.no rfl rfl ?_
    refine ai.no rfl rfl ?_
    refine ai.no rfl rfl ?_
    refine ai.val rfl (au (b:=true) rfl rfl) rfl ?_
    exact ai.nil ⟨_,rfl,(aa.put (aa.push rfl (aa.push rfl (aa.push rfl (aa.push rfl (aa.put (.refl _) (Less.eq (by rw [hB21]))))))) (Less.eq (by rw [hB21]; rw [Bool.true_or])))⟩
   refine ai.bool hB21 ?_
   refine ai.val rfl (ae rfl) rfl ?_
   refine ai.val rfl (ax rfl wm rH rfl) rfl ?_
   refine ai.val rfl (aB H19 (i:=0) rfl rfl (aG j5 rfl)) rfl ?_
   refine ai.val rfl (ak rfl rfl jJ) rfl ?_
   refine ai.val rfl (au (b:=false) rfl rfl) rfl ?_
   exact ai.nil ⟨_,rfl,(aa.put (aa.push rfl (aa.push rfl (aa.push rfl (aa.push rfl (aa.put (.refl _) (Less.eq (by rw [hB21]))))))) (Less.eq (by rw [hB21]; rw [Bool.false_or])))⟩
  refine ai.nil ?_
  refine aj.cond rfl (fun hb22=>?_) (fun hb22=>?_)
  ·
   replace h:=bg hb22 h
   refine aj.seq ?_
   refine aj.region E.obj rfl ?_
   refine ai.val rfl (ah rfl) rfl ?_
   refine ai.nil ?_
   have hr:=Option.some.inj h
   subst hr
   exact aj.ret ⟨_,rfl,rfl,eG (av.eq .nil)⟩
  replace h:=aZ hb22 h
  refine aj.skip ?_
  refine aj.region E.obj rfl ?_
  refine ai.val rfl (ak rfl rfl bf) rfl ?_
  refine ai.val rfl (ae rfl) rfl ?_
  refine ai.nil ?_
  exact ⟨(IntKind.wrap .i64 (x11 + 1)),_,_,S18,.refl _ _,.refl _,(aa.r rfl (aa.r rfl (aa.r rfl (aa.r rfl aa.nil)))),H19.sl [] rfl rfl,h⟩
 replace h:=aZ hb13 h
 refine aj.exit ?_
 refine aj.seq ?_
 refine aj.region E.obj rfl ?_
 refine ai.val rfl (ah rfl) rfl ?_
 refine ai.nil ?_
 have hr:=Option.some.inj h
 subst hr
 exact aj.ret ⟨_,rfl,rfl,eG (av.eq .nil)⟩
set_option maxRecDepth 20000 in
set_option maxHeartbeats 4000000 in
theorem jh (n:Nat) (a1:(List Seg)) (a2:(List aD)) (r:((List Str) × Bool)) (h:gu n a1 a2=some r):aY R cfg.P 10 [(.sl ((a1).map aJ) false),(.sl ((a2).map az) false)] (.tup [.d (.sl ((r.1).map D.str) false),.d (.bool r.2)]):=by
 unfold gu at h
 refine aY.of_wp E.obj.toObjOk (C:=cfg) Tryd.func10 rfl Gj rfl ?_
 have H0:Has ay ay []:=Has.pure
 refine aj.seq ?_
 refine aj.region E.obj rfl ?_
 refine ai.val rfl (ah rfl) rfl ?_
 refine ai.val rfl (ah rfl) rfl ?_
 refine ai.nil ?_
 refine aj.seq ?_
 refine aj.seq ?_
 refine aj.region E.obj rfl ?_
 refine ai.val rfl (ae rfl) rfl ?_
 obtain ⟨z3,hzz3,h⟩:=bind_some h
 refine ai.ret rfl (aA rfl rfl) (jk E _ _ _ hzz3 _ _ (av.eq .nil)) rfl ?_
 refine ai.val rfl (bY rfl) rfl ?_
 refine ai.nil ?_
 refine aj.cond rfl (fun hb4=>?_) (fun hb4=>?_)
 ·
  replace h:=bg hb4 h
  refine aj.seq ?_
  refine aj.region E.obj rfl ?_
  refine ai.val rfl (ah rfl) rfl ?_
  refine ai.val rfl (ah rfl) rfl ?_
  refine ai.nil ?_
  have hr:=Option.some.inj h
  subst hr
  exact aj.ret ⟨_,rfl,rfl,fT (vs:=[(.d .bJ),(.d (.bool false))]) (ds:=[(.sl (([]).map D.str) false),(.bool false)]) (av.fw rfl (.bJ false) (av.eq .nil))⟩
 replace h:=aZ hb4 h
 refine aj.skip ?_
 refine aj.seq ?_
 refine aj.region E.obj rfl ?_
 refine ai.val rfl (ae rfl) rfl ?_
 refine ai.val rfl (ae rfl) rfl ?_
 obtain ⟨z5,hzz5,h⟩:=bind_some h
 refine ai.ret rfl (aA rfl rfl) (uj E _ _ _ _ hzz5 _ _ (av.eq (av.eq .nil))) rfl ?_
 refine ai.val rfl (ae rfl) rfl ?_
 refine ai.val rfl (aC rfl rfl) rfl ?_
 refine ai.val rfl (aC rfl rfl) rfl ?_
 refine ai.val rfl (ah rfl) rfl ?_
 refine ai.val rfl (ah rfl) rfl ?_
 refine ai.nil ?_
 refine aj.seq ?_
 refine aj.seq ?_
 refine aj.region E.obj rfl ?_
 refine ai.val rfl (ae rfl) rfl ?_
 refine ai.val rfl (bY rfl) rfl ?_
 refine ai.val rfl (ae rfl) rfl ?_
 obtain ⟨z7,hzz7,h⟩:=bind_some h
 refine ai.aT 5 25 (.d (.bool z7)) ?_ ?_
 ·
  rcases Bool.eq_false_or_eq_true ((!z5.2)) with hB6 | hB6
  ·
   refine ai.bool hB6 ?_
   refine ai.no rfl rfl ?_
   refine ai.no rfl rfl ?_
   refine ai.no rfl rfl ?_
   refine ai.no rfl rfl ?_
   refine ai.val rfl (au (b:=true) rfl rfl) rfl ?_
   replace hzz7:=bg hB6 hzz7
   cases hzz7
   exact ai.nil ⟨_,rfl,(aa.put (aa.push rfl (aa.push rfl (aa.push rfl (aa.push rfl (aa.put (.refl _) (Less.eq (by rw [hB6]))))))) (.refl _))⟩
  refine ai.bool hB6 ?_
  replace hzz7:=aZ hB6 hzz7
  refine ai.val rfl (ae rfl) rfl ?_
  refine ai.val rfl (dw (cs:=[(.d (.sl ((z5.1).map D.str) false)),(.d .bJ)]) CY rfl (lK) (fA rfl rfl rfl rfl rfl)) rfl ?_
  refine ai.less (Less.agg' (d:=kQ (kK.mk z5.1 [])) (aU.eq rfl (aU.fw rfl (.bJ false) rfl rfl .nil)) ((kK.eq _).trans rfl)) ?_
  obtain ⟨z8,hzz8,hzz7⟩:=bind_some hzz7
  refine ai.ret rfl (aA rfl rfl) (xZ E _ _ _ hzz8 _ _ (av.eq .nil)) rfl ?_
  refine ai.val rfl (bY rfl) rfl ?_
  refine ai.val rfl (au (b:=false) rfl rfl) rfl ?_
  cases hzz7
  exact ai.nil ⟨_,rfl,(aa.put (aa.push rfl (aa.push rfl (aa.push rfl (aa.push rfl (aa.put (.refl _) (Less.eq (by rw [hB6]))))))) (.refl _))⟩
 refine ai.nil ?_
 refine aj.cond rfl (fun hb9=>?_) (fun hb9=>?_)
 ·
  replace h:=bg hb9 h
  refine aj.seq ?_
  refine aj.region E.obj rfl ?_
  refine ai.val rfl (ah rfl) rfl ?_
  refine ai.val rfl (ah rfl) rfl ?_
  refine ai.nil ?_
  have hr:=Option.some.inj h
  subst hr
  exact aj.ret ⟨_,rfl,rfl,fT (vs:=[(.d .bJ),(.d (.bool false))]) (ds:=[(.sl (([]).map D.str) false),(.bool false)]) (av.fw rfl (.bJ false) (av.eq .nil))⟩
 replace h:=aZ hb9 h
 refine aj.skip ?_
 refine aj.seq ?_
 refine aj.region E.obj rfl ?_
 refine ai.val rfl (ae rfl) rfl ?_
 refine ai.val rfl (ae rfl) rfl ?_
 obtain ⟨z10,hzz10,h⟩:=bind_some h
 refine ai.ret rfl (aA rfl rfl) (kr E _ _ _ _ hzz10 _ _ (av.eq (av.eq .nil))) rfl ?_
 refine ai.val rfl (ae rfl) rfl ?_
 refine ai.val rfl (aC rfl rfl) rfl ?_
 refine ai.val rfl (aC rfl rfl) rfl ?_
 refine ai.val rfl (ah rfl) rfl ?_
 refine ai.val rfl (ah rfl) rfl ?_
 refine ai.nil ?_
 refine aj.seq ?_
 refine aj.seq ?_
 refine aj.region E.obj rfl ?_
 refine ai.val rfl (ae rfl) rfl ?_
 refine ai.val rfl (bY rfl) rfl ?_
 refine ai.val rfl (ae rfl) rfl ?_
 obtain ⟨z12,hzz12,h⟩:=bind_some h
 refine ai.aT 5 39 (.d (.bool z12)) ?_ ?_
 ·
  rcases Bool.eq_false_or_eq_true ((!z10.2)) with hB11 | hB11
  ·
   refine ai.bool hB11 ?_
   refine ai.no rfl rfl ?_
   refine ai.no rfl rfl ?_
   refine ai.no rfl rfl ?_
   refine ai.no rfl rfl ?_
   refine ai.val rfl (au (b:=true) rfl rfl) rfl ?_
   replace hzz12:=bg hB11 hzz12
   cases hzz12
   exact ai.nil ⟨_,rfl,(aa.put (aa.push rfl (aa.push rfl (aa.push rfl (aa.push rfl (aa.put (.refl _) (Less.eq (by rw [hB11]))))))) (.refl _))⟩
  refine ai.bool hB11 ?_
  replace hzz12:=aZ hB11 hzz12
  refine ai.val rfl (ae rfl) rfl ?_
  refine ai.val rfl (ae rfl) rfl ?_
  obtain ⟨z13,hzz13,hzz12⟩:=bind_some hzz12
  refine ai.ret rfl (aA rfl rfl) (sI E _ _ _ _ hzz13 _ _ (av.eq (av.eq .nil))) rfl ?_
  refine ai.val rfl (bY rfl) rfl ?_
  refine ai.val rfl (au (b:=false) rfl rfl) rfl ?_
  cases hzz12
  exact ai.nil ⟨_,rfl,(aa.put (aa.push rfl (aa.push rfl (aa.push rfl (aa.push rfl (aa.put (.refl _) (Less.eq (by rw [hB11]))))))) (.refl _))⟩
 refine ai.nil ?_
 refine aj.cond rfl (fun hb14=>?_) (fun hb14=>?_)
 ·
  replace h:=bg hb14 h
  refine aj.seq ?_
  refine aj.region E.obj rfl ?_
  refine ai.val rfl (ah rfl) rfl ?_
  refine ai.val rfl (ah rfl) rfl ?_
  refine ai.nil ?_
  have hr:=Option.some.inj h
  subst hr
  exact aj.ret ⟨_,rfl,rfl,fT (vs:=[(.d .bJ),(.d (.bool false))]) (ds:=[(.sl (([]).map D.str) false),(.bool false)]) (av.fw rfl (.bJ false) (av.eq .nil))⟩
 replace h:=aZ hb14 h
 refine aj.skip ?_
 refine aj.seq ?_
 refine aj.region E.obj rfl ?_
 refine ai.val rfl (ae rfl) rfl ?_
 refine ai.val rfl (ah rfl) rfl ?_
 refine ai.val rfl (ah rfl) rfl ?_
 refine ai.nil ?_
 have hr:=Option.some.inj h
 subst hr
 exact aj.ret ⟨_,rfl,rfl,fT (vs:=[(.d (.sl ((z5.1).map D.str) false)),(.d (.bool true))]) (ds:=[(.sl ((z5.1).map D.str) false),(.bool true)]) (av.eq (av.eq .nil))⟩
set_option maxRecDepth 20000 in
set_option maxHeartbeats 4000000 in
theorem oL (n:Nat) (a1:(List aD)) (a2:Str) (r:(Str × Bool)) (h:iR n a1 a2=some r):aY R cfg.P 28 [(.sl ((a1).map az) false),(.str a2)] (.tup [.d (.str r.1),.d (.bool r.2)]):=by
 unfold iR at h
 refine aY.of_wp E.obj.toObjOk (C:=cfg) Tryd.func28 rfl He rfl ?_
 have H0:Has ay ay []:=Has.pure
 refine aj.seq ?_
 refine aj.region E.obj rfl ?_
 refine ai.val rfl (ah rfl) rfl ?_
 refine ai.val rfl (ah rfl) rfl ?_
 refine ai.nil ?_
 refine aj.seq ?_
 refine aj.seq ?_
 refine aj.region E.obj rfl ?_
 refine ai.val rfl (ae rfl) rfl ?_
 refine ai.val rfl (aI rfl pR) rfl ?_
 refine ai.val rfl (ae rfl) rfl ?_
 refine ai.nil ?_
 refine aj.block ?_
 refine kS.start (B:=ay) (α:=Int) (fun k a=>cO a1 a2 k a=some r) (fun a=>[(1,(.d (.str a2))),(8,(.d (.sl ((a1).map az) false))),(9,(.d (.int .i64 ((a1).length:Int)))),(10,(.d (.int .i64 a)))]) (fun a=>[]) ?_ ?_ n ⟨0,_,_,ay,.refl _ _,.refl _,(aa.r rfl (aa.r rfl (aa.r rfl (aa.r rfl aa.nil)))),H0.sl [] rfl rfl,h⟩
 ·
  intro a h; simp [cO] at h
 intro k11 x10 S8 H9 h
 replace h:cO a1 a2 (k11 + 1) x10=some r:=h
 replace H9:Has ay S8 []:=H9
 unfold cO at h
 refine aj.seq ?_
 refine aj.region E.obj rfl ?_
 refine ai.val rfl (ak rfl rfl bE) rfl ?_
 refine ai.nil ?_
 refine aj.seq ?_
 refine aj.cond rfl (fun hb12=>?_) (fun hb12=>?_)
 ·
  replace h:=bg hb12 h
  refine aj.skip ?_
  refine aj.seq ?_
  refine aj.block ?_
  refine aj.seq ?_
  refine aj.region E.obj rfl ?_
  obtain ⟨z13,hzz13,h⟩:=bind_some h
  refine ai.val rfl (bO rfl rfl (df (enc:=az) hzz13 mI uq ((aD.len _).trans iL.symm))) rfl ?_
  refine ai.val rfl (aX rfl (aD.lX qg iL)) rfl ?_
  refine ai.alloc H9 rfl Dx lg rfl rfl (fun b14 S15 H16=>?_)
  refine ai.store H16 (i:=0) rfl rfl rfl rfl (aD.eO _) rfl iL rfl uq rfl rfl rfl (fun S17 H18=>?_)
  refine ai.nil ?_
  refine aj.seq ?_
  refine aj.region E.obj rfl ?_
  refine ai.val rfl (ax rfl sG rH rfl) rfl ?_
  refine ai.val rfl (aB H18 (i:=0) rfl rfl (aG j5 rfl)) rfl ?_
  refine ai.val rfl (ae rfl) rfl ?_
  refine ai.val rfl (ak rfl rfl jf) rfl ?_
  refine ai.nil ?_
  refine aj.cond rfl (fun hb19=>?_) (fun hb19=>?_)
  ·
   replace h:=bg hb19 h
   refine aj.seq ?_
   refine aj.region E.obj rfl ?_
   refine ai.val rfl (ax rfl wm rH rfl) rfl ?_
   refine ai.val rfl (aB H18 (i:=0) rfl rfl (aG j5 rfl)) rfl ?_
   refine ai.val rfl (ah rfl) rfl ?_
   refine ai.val rfl (ah rfl) rfl ?_
   refine ai.nil ?_
   have hr:=Option.some.inj h
   subst hr
   exact aj.ret ⟨_,rfl,rfl,fT (vs:=[(.d (.str z13.Value)),(.d (.bool true))]) (ds:=[(.str z13.Value),(.bool true)]) (av.eq (av.eq .nil))⟩
  replace h:=aZ hb19 h
  refine aj.skip ?_
  refine aj.region E.obj rfl ?_
  refine ai.val rfl (ak rfl rfl bf) rfl ?_
  refine ai.val rfl (ae rfl) rfl ?_
  refine ai.nil ?_
  exact ⟨(IntKind.wrap .i64 (x10 + 1)),_,_,S17,.refl _ _,.refl _,(aa.r rfl (aa.r rfl (aa.r rfl (aa.r rfl aa.nil)))),H18.sl [] rfl rfl,h⟩
 replace h:=aZ hb12 h
 refine aj.exit ?_
 refine aj.seq ?_
 refine aj.region E.obj rfl ?_
 refine ai.val rfl (ah rfl) rfl ?_
 refine ai.val rfl (ah rfl) rfl ?_
 refine ai.nil ?_
 have hr:=Option.some.inj h
 subst hr
 exact aj.ret ⟨_,rfl,rfl,fT (vs:=[(.d (.str [])),(.d (.bool false))]) (ds:=[(.str []),(.bool false)]) (av.eq (av.eq .nil))⟩
set_option maxRecDepth 20000 in
set_option maxHeartbeats 4000000 in
theorem oQ (n:Nat) (a1:Str) (a2:Int) (r:(List Str)) (h:gN n a1 a2=some r):aY R cfg.P 29 [(.str a1),(.int .u8 a2)] (.d (.sl ((r).map D.str) false)):=by
 unfold gN at h
 refine aY.of_wp E.obj.toObjOk (C:=cfg) Tryd.func29 rfl Gz rfl ?_
 have H0:Has ay ay []:=Has.pure
 refine aj.seq ?_
 refine aj.region E.obj rfl ?_
 refine ai.val rfl (ah rfl) rfl ?_
 refine ai.nil ?_
 refine aj.seq ?_
 refine aj.region E.obj rfl ?_
 refine ai.val rfl (ah rfl) rfl ?_
 refine ai.nil ?_
 refine aj.seq ?_
 refine aj.region E.obj rfl ?_
 refine ai.val rfl (ah rfl) rfl ?_
 refine ai.nil ?_
 refine aj.seq ?_
 refine aj.seq ?_
 refine aj.region E.obj rfl ?_
 refine ai.val rfl (ah rfl) rfl ?_
 refine ai.nil ?_
 refine aj.block ?_
 have H34:=H0.rQ
 refine kS.start (B:=ay) (α:=(List Str) × AV × Int × Int) (fun k a=>bB a1 a2 k a.1 a.2.2.1 a.2.2.2=some r) (fun a=>[(0,(.d (.str a1))),(1,(.d (.int .u8 a2))),(5,a.2.1),(6,(.d (.int .i64 a.2.2.1))),(7,(.d (.int .i64 a.2.2.2)))]) (fun a=>[.grow a.2.1 ((a.1).map D.str)]) ?_ ?_ n ⟨⟨[],(.d .bJ),0,0⟩,_,_,ay,.refl _ _,.refl _,(aa.r rfl (aa.r rfl (aa.r rfl (aa.r rfl (aa.r rfl aa.nil))))),H34.sl [0] rfl rfl,h⟩
 ·
  intro a h; simp [bB] at h
 intro k17 a S11 H12 h
 obtain ⟨x13,v14,x15,x16⟩:=a
 replace h:bB a1 a2 (k17 + 1) x13 x15 x16=some r:=h
 replace H12:Has ay S11 [.grow v14 ((x13).map D.str)]:=H12
 unfold bB at h
 refine aj.seq ?_
 refine aj.seq ?_
 refine aj.region E.obj rfl ?_
 refine ai.val rfl (ae rfl) rfl ?_
 refine ai.val rfl (ae rfl) rfl ?_
 refine ai.val rfl (cz rfl (bQ jK) rfl) rfl ?_
 refine ai.val rfl (ak rfl rfl fQ) rfl ?_
 refine ai.nil ?_
 refine aj.cond rfl (fun hb18=>?_) (fun hb18=>?_)
 ·
  replace h:=bg hb18 h
  refine aj.skip ?_
  refine aj.join (B:=ay) (α:=(List Str) × AV × Int) (fun a=>dz x16 (bB a1 a2 k17) a.1 a.2.2=some r) (fun a=>[(0,(.d (.str a1))),(1,(.d (.int .u8 a2))),(5,a.2.1),(6,(.d (.int .i64 a.2.2))),(7,(.d (.int .i64 x16)))]) (fun a=>[.grow a.2.1 ((a.1).map D.str)]) ?_ ?_
  ·
   intro a S19 H20 h
   obtain ⟨x21,v22,x23⟩:=a
   replace h:dz x16 (bB a1 a2 k17) x21 x23=some r:=h
   replace H20:Has ay S19 [.grow v22 ((x21).map D.str)]:=H20
   unfold dz at h
   refine aj.region E.obj rfl ?_
   refine ai.val rfl (ae rfl) rfl ?_
   refine ai.val rfl (ak rfl rfl bf) rfl ?_
   refine ai.val rfl (ah rfl) rfl ?_
   refine ai.nil ?_
   exact ⟨⟨x21,v22,x23,(IntKind.wrap .i64 (x16 + 1))⟩,_,_,S19,.refl _ _,.refl _,(aa.r rfl (aa.r rfl (aa.r rfl (aa.r rfl (aa.r rfl aa.nil))))),H20.sl [0] rfl rfl,h⟩
  refine aj.block ?_
  refine aj.seq ?_
  refine aj.region E.obj rfl ?_
  refine ai.val rfl (ae rfl) rfl ?_
  refine ai.val rfl (ae rfl) rfl ?_
  refine ai.val rfl (cz rfl (bQ jK) rfl) rfl ?_
  refine ai.val rfl (ak rfl rfl cZ) rfl ?_
  refine ai.val rfl (ae rfl) rfl ?_
  obtain ⟨z26,hzz26,h⟩:=bind_some h
  refine ai.aT 6 24 (.d (.bool z26)) ?_ ?_
  ·
   rcases Bool.eq_false_or_eq_true ((x16 == ((a1).length:Int))) with hB25 | hB25
   ·
    refine ai.bool hB25 ?_
    refine ai.no rfl rfl ?_
    refine ai.no rfl rfl ?_
    refine ai.no rfl rfl ?_
    refine ai.no rfl rfl ?_
    refine ai.no rfl rfl ?_
    refine ai.val rfl (au (b:=true) rfl rfl) rfl ?_
    replace hzz26:=bg hB25 hzz26
    cases hzz26
    exact ai.nil ⟨_,rfl,(aa.put (aa.push rfl (aa.push rfl (aa.push rfl (aa.push rfl (aa.push rfl (aa.put (.refl _) (Less.eq (by rw [hB25])))))))) (.refl _))⟩
   refine ai.bool hB25 ?_
   replace hzz26:=aZ hB25 hzz26
   refine ai.val rfl (ae rfl) rfl ?_
   refine ai.val rfl (ae rfl) rfl ?_
   obtain ⟨z27,hzz27,hzz26⟩:=bind_some hzz26
   refine ai.val rfl (bM rfl rfl (aW hzz27).1 jK (aW hzz27).2) rfl ?_
   refine ai.val rfl (ae rfl) rfl ?_
   refine ai.val rfl (ak rfl rfl cZ) rfl ?_
   refine ai.val rfl (au (b:=false) rfl rfl) rfl ?_
   cases hzz26
   exact ai.nil ⟨_,rfl,(aa.put (aa.push rfl (aa.push rfl (aa.push rfl (aa.push rfl (aa.push rfl (aa.put (.refl _) (Less.eq (by rw [hB25])))))))) (.refl _))⟩
  refine ai.nil ?_
  refine aj.cond rfl (fun hb28=>?_) (fun hb28=>?_)
  ·
   replace h:=bg hb28 h
   refine aj.seq ?_
   refine aj.region E.obj rfl ?_
   refine ai.val rfl (ae rfl) rfl ?_
   refine ai.val rfl (ae rfl) rfl ?_
   refine ai.val rfl (ae rfl) rfl ?_
   refine ai.val rfl (ae rfl) rfl ?_
   obtain ⟨z29,hzz29,h⟩:=bind_some h
   refine ai.val rfl (zI rfl rfl rfl jK hzz29) rfl ?_
   refine ai.val rfl (aK (vs:=[(.d (.str z29))]) (ds:=[(.str z29)]) kM gV j5 BP kg rfl (by decide) (.cons rfl rfl .nil) rfl (by intro d hd; simp only [List.mem_cons,List.not_mem_nil,or_false] at hd; rcases hd with rfl <;> rfl) rfl) rfl ?_
   obtain ⟨z30,hzz30,h⟩:=bind_some h
   refine ai.append (xs:=(x13).map D.str) (ys:=([z29]).map D.str) (zs:=(z30).map D.str) H12 rfl rfl rfl (i:=0) rfl rfl kM u7 gV (dC hzz30) DJ rfl (aQ (enc:=D.str) (fun _=>kg.symm) _) (aQ (enc:=D.str) (fun _=>kg.symm) _) DL rfl (gB hzz30) (fun v31 S32 H33=>?_)
   refine ai.val rfl (ah rfl) rfl ?_
   refine ai.nil ?_
   refine aj.region E.obj rfl ?_
   refine ai.val rfl (ae rfl) rfl ?_
   refine ai.val rfl (ak rfl rfl bf) rfl ?_
   refine ai.val rfl (ah rfl) rfl ?_
   refine ai.nil ?_
   exact ⟨⟨z30,v31,(IntKind.wrap .i64 (x16 + 1))⟩,_,_,S32,.refl _ _,.refl _,(aa.r rfl (aa.r rfl (aa.r rfl (aa.r rfl (aa.r rfl aa.nil))))),H33.sl [0] rfl rfl,h⟩
  replace h:=aZ hb28 h
  refine aj.skip ?_
  exact ⟨⟨x13,v14,x15⟩,_,_,S11,.refl _ _,.refl _,(aa.r rfl (aa.r rfl (aa.r rfl (aa.r rfl (aa.r rfl aa.nil))))),H12.sl [0] rfl rfl,h⟩
 replace h:=aZ hb18 h
 refine aj.exit ?_
 refine aj.seq ?_
 refine aj.region E.obj rfl ?_
 refine ai.val rfl (ae rfl) rfl ?_
 refine ai.val rfl (ah rfl) rfl ?_
 refine ai.nil ?_
 have hr:=Option.some.inj h
 subst hr
 exact aj.ret ⟨_,rfl,rfl,eG (av.grow H12 (i:=0) rfl .nil)⟩
set_option maxRecDepth 20000 in
set_option maxHeartbeats 4000000 in
theorem iH (n:Nat) (a1:Int) (r:Int) (h:eF n a1=some r):aY R cfg.P 48 [(.int .u8 a1)] (.d (.int .i64 r)):=by
 unfold eF at h
 refine aY.of_wp E.obj.toObjOk (C:=cfg) Tryd.func48 rfl Gw rfl ?_
 have H0:Has ay ay []:=Has.pure
 refine aj.seq ?_
 refine aj.region E.obj rfl ?_
 refine ai.val rfl (ah rfl) rfl ?_
 refine ai.nil ?_
 refine aj.seq ?_
 refine aj.block ?_
 refine aj.seq ?_
 refine aj.region E.obj rfl ?_
 refine ai.val rfl (ae rfl) rfl ?_
 refine ai.val rfl (ak rfl rfl dN) rfl ?_
 refine ai.val rfl (ae rfl) rfl ?_
 refine ai.aT 3 9 (.d (.bool ((decide (48 ≤ a1)) && (decide (a1 ≤ 57))))) ?_ ?_
 ·
  rcases Bool.eq_false_or_eq_true ((decide (48 ≤ a1))) with hB2 | hB2
  ·
   refine ai.bool hB2 ?_
   refine ai.val rfl (ae rfl) rfl ?_
   refine ai.val rfl (ak rfl rfl fQ) rfl ?_
   refine ai.val rfl (au (b:=true) rfl rfl) rfl ?_
   exact ai.nil ⟨_,rfl,(aa.put (aa.push rfl (aa.push rfl (aa.put (.refl _) (Less.eq (by rw [hB2]))))) (Less.eq (by rw [hB2]; rw [Bool.true_and])))⟩
  refine ai.bool hB2 ?_
  refine ai.no rfl rfl ?_
  refine ai.no rfl rfl ?_
  refine ai.val rfl (au (b:=false) rfl rfl) rfl ?_
  exact ai.nil ⟨_,rfl,(aa.put (aa.push rfl (aa.push rfl (aa.put (.refl _) (Less.eq (by rw [hB2]))))) (Less.eq (by rw [hB2]; rw [Bool.false_and])))⟩
 refine ai.val rfl (ah rfl) rfl ?_
 refine ai.nil ?_
 refine aj.cond rfl (fun hb3=>?_) (fun hb3=>?_)
 ·
  replace h:=bg hb3 h
  refine aj.seq ?_
  refine aj.region E.obj rfl ?_
  refine ai.val rfl (ae rfl) rfl ?_
  refine ai.val rfl (ak rfl rfl fM) rfl ?_
  refine ai.val rfl (fD rfl FB FC) rfl ?_
  refine ai.val rfl (ah rfl) rfl ?_
  refine ai.nil ?_
  have hr:=Option.some.inj h
  subst hr
  exact aj.ret ⟨_,rfl,rfl,eG (av.eq .nil)⟩
 replace h:=aZ hb3 h
 refine aj.seq ?_
 refine aj.region E.obj rfl ?_
 refine ai.val rfl (ae rfl) rfl ?_
 refine ai.val rfl (ak rfl rfl dN) rfl ?_
 refine ai.val rfl (ae rfl) rfl ?_
 refine ai.aT 3 19 (.d (.bool ((decide (97 ≤ a1)) && (decide (a1 ≤ 102))))) ?_ ?_
 ·
  rcases Bool.eq_false_or_eq_true ((decide (97 ≤ a1))) with hB4 | hB4
  ·
   refine ai.bool hB4 ?_
   refine ai.val rfl (ae rfl) rfl ?_
   refine ai.val rfl (ak rfl rfl fQ) rfl ?_
   refine ai.val rfl (au (b:=true) rfl rfl) rfl ?_
   exact ai.nil ⟨_,rfl,(aa.put (aa.push rfl (aa.push rfl (aa.put (.refl _) (Less.eq (by rw [hB4]))))) (Less.eq (by rw [hB4]; rw [Bool.true_and])))⟩
  refine ai.bool hB4 ?_
  refine ai.no rfl rfl ?_
  refine ai.no rfl rfl ?_
  refine ai.val rfl (au (b:=false) rfl rfl) rfl ?_
  exact ai.nil ⟨_,rfl,(aa.put (aa.push rfl (aa.push rfl (aa.put (.refl _) (Less.eq (by rw [hB4]))))) (Less.eq (by rw [hB4]; rw [Bool.false_and])))⟩
 refine ai.val rfl (ah rfl) rfl ?_
 refine ai.nil ?_
 refine aj.cond rfl (fun hb5=>?_) (fun hb5=>?_)
 ·
  replace h:=bg hb5 h
  refine aj.seq ?_
  refine aj.region E.obj rfl ?_
  refine ai.val rfl (ae rfl) rfl ?_
  refine ai.val rfl (ak rfl rfl fM) rfl ?_
  refine ai.val rfl (fD rfl FB FC) rfl ?_
  refine ai.val rfl (ak rfl rfl bf) rfl ?_
  refine ai.val rfl (ah rfl) rfl ?_
  refine ai.nil ?_
  have hr:=Option.some.inj h
  subst hr
  exact aj.ret ⟨_,rfl,rfl,eG (av.eq .nil)⟩
 replace h:=aZ hb5 h
 refine aj.seq ?_
 refine aj.region E.obj rfl ?_
 refine ai.val rfl (ae rfl) rfl ?_
 refine ai.val rfl (ak rfl rfl dN) rfl ?_
 refine ai.val rfl (ae rfl) rfl ?_
 refine ai.aT 3 30 (.d (.bool ((decide (65 ≤ a1)) && (decide (a1 ≤ 70))))) ?_ ?_
 ·
  rcases Bool.eq_false_or_eq_true ((decide (65 ≤ a1))) with hB6 | hB6
  ·
   refine ai.bool hB6 ?_
   refine ai.val rfl (ae rfl) rfl ?_
   refine ai.val rfl (ak rfl rfl fQ) rfl ?_
   refine ai.val rfl (au (b:=true) rfl rfl) rfl ?_
   exact ai.nil ⟨_,rfl,(aa.put (aa.push rfl (aa.push rfl (aa.put (.refl _) (Less.eq (by rw [hB6]))))) (Less.eq (by rw [hB6]; rw [Bool.true_and])))⟩
  refine ai.bool hB6 ?_
  refine ai.no rfl rfl ?_
  refine ai.no rfl rfl ?_
  refine ai.val rfl (au (b:=false) rfl rfl) rfl ?_
  exact ai.nil ⟨_,rfl,(aa.put (aa.push rfl (aa.push rfl (aa.put (.refl _) (Less.eq (by rw [hB6]))))) (Less.eq (by rw [hB6]; rw [Bool.false_and])))⟩
 refine ai.val rfl (ah rfl) rfl ?_
 refine ai.nil ?_
 refine aj.cond rfl (fun hb7=>?_) (fun hb7=>?_)
 ·
  replace h:=bg hb7 h
  refine aj.seq ?_
  refine aj.region E.obj rfl ?_
  refine ai.val rfl (ae rfl) rfl ?_
  refine ai.val rfl (ak rfl rfl fM) rfl ?_
  refine ai.val rfl (fD rfl FB FC) rfl ?_
  refine ai.val rfl (ak rfl rfl bf) rfl ?_
  refine ai.val rfl (ah rfl) rfl ?_
  refine ai.nil ?_
  have hr:=Option.some.inj h
  subst hr
  exact aj.ret ⟨_,rfl,rfl,eG (av.eq .nil)⟩
 replace h:=aZ hb7 h
 refine aj.skip ?_
 refine aj.seq ?_
 refine aj.region E.obj rfl ?_
 refine ai.val rfl (ah rfl) rfl ?_
 refine ai.nil ?_
 have hr:=Option.some.inj h
 subst hr
 exact aj.ret ⟨_,rfl,rfl,eG (av.eq .nil)⟩
end
end Pr
end Go.Ev

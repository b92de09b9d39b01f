import Derived.Test.YtbjneeknddapfaaPartE
import Derived.IntWalk
namespace Go.Ev
namespace Pr
set_option linter.unusedVariables false
set_option linter.unusedSimpArgs false
open Go.Proofs
section
variable {R:bU} (E:Lh R)
include E
set_option maxRecDepth 20000 in
set_option maxHeartbeats 4000000 in
theorem zS (n:Nat) (a1:fA) (a2:Int) (r:Bool) (h:iD n a1 a2=some r):fE R cfg.P 11 [(dL a1),(.int .i64 a2)] (.d (.bool r)):=by
 unfold iD at h
 refine fE.of_wp E.obj.toObjOk (C:=cfg) Try.func11 rfl NL rfl ?_
 have H0:Has aL aL []:=Has.pure
 refine aD.seq ?_
 refine aD.region E.obj rfl ?_
 refine aj.box H0 rfl rfl rfl (fA.dx _) rfl (fun b3 S4 H5=>?_)
 refine aj.val rfl (ak rfl) rfl ?_
 refine aj.nil ?_
 refine aD.seq ?_
 refine aD.region E.obj rfl ?_
 obtain ⟨z6,hzz6,h⟩:=bind_some h
 refine aj.bR (ins:=[]) (more:=[.box b3 [(.d (.sl ((a1.Under).map (D.int .i64)) false)),(.d (.sl ((a1.Kinds).map (D.int .i64)) false)),(.d (.sl ((a1.Keys).map (D.int .i64)) false)),(.d (.sl ((a1.Texts).map (D.int .i64)) false))]]) (H5.sl [0] rfl rfl) rfl (az rfl rfl) (zG E n  _ hzz6 ) .nil rfl ?_
 rintro v7 S8 l9 hr10 H11
 rcases z6 with _ | x12
 ·
  obtain ⟨rfl,rfl⟩:=hr10
  replace h:=LV h
  replace H11:Has aL S8 [.box b3 [(.d (.sl ((a1.Under).map (D.int .i64)) false)),(.d (.sl ((a1.Kinds).map (D.int .i64)) false)),(.d (.sl ((a1.Keys).map (D.int .i64)) false)),(.d (.sl ((a1.Texts).map (D.int .i64)) false))]]:=H11
  refine aj.val rfl (ak rfl) rfl ?_
  refine aj.nil ?_
  refine aD.seq ?_
  refine aD.seq ?_
  refine aD.region E.obj rfl ?_
  refine aj.val rfl (aa rfl) rfl ?_
  refine aj.val rfl (aH rfl rfl (lq JH)) rfl ?_
  refine aj.nil ?_
  refine aD.cond rfl (fun hb=>?_) (fun hb=>?_)
  ·
   refine aD.seq ?_
   refine aD.region E.obj rfl ?_
   refine aj.val rfl (ak rfl) rfl ?_
   refine aj.nil ?_
   have hr:=Option.some.inj h
   subst hr
   exact aD.ret ⟨_,rfl,rfl,kR (aN.eq .nil)⟩
  cases hb
 obtain ⟨b13,v14,ws15,w16,rfl,rfl⟩:=hr10
 replace h:=Mm h
 have H17:Has aL S8 [.box b3 [(.d (.sl ((a1.Under).map (D.int .i64)) false)),(.d (.sl ((a1.Kinds).map (D.int .i64)) false)),(.d (.sl ((a1.Keys).map (D.int .i64)) false)),(.d (.sl ((a1.Texts).map (D.int .i64)) false))],.box b13 [v14,w16],aA ae ah.kids 7 5 v14 ws15 x12.l none,aG w16 x12.freed]:=H11.sl [3,0,1,2] rfl rfl
 refine aj.val rfl (ak rfl) rfl ?_
 refine aj.nil ?_
 refine aD.seq ?_
 refine aD.seq ?_
 refine aD.region E.obj rfl ?_
 refine aj.val rfl (aa rfl) rfl ?_
 refine aj.val rfl (aH rfl rfl (Cr JH)) rfl ?_
 refine aj.nil ?_
 refine aD.cond rfl (fun hb=>?_) (fun hb=>?_)
 ·
  cases hb
 refine aD.skip ?_
 refine aD.seq ?_
 refine aD.region E.obj rfl ?_
 refine aj.val rfl (aa rfl) rfl ?_
 refine aj.val rfl (bM (cs:=[(.d (.str [111,117,116,108,101,116])),(.d (.str [])),(.d (.str [])),(.d .aO),(.d .aO)]) fO rfl (bq) (fV rfl rfl rfl rfl rfl)) rfl ?_
 refine aj.less (Less.agg' (d:=ai (Tree.mk [111,117,116,108,101,116] [] [] [] [])) (ax.eq rfl (ax.eq rfl (ax.eq rfl (ax.dE rfl (.aO false) rfl rfl (ax.dE rfl (.aO false) rfl rfl .nil))))) ((Tree.eq _).trans rfl)) ?_
 refine aj.val rfl (aR (vs:=[(.d (ai (Tree.mk [111,117,116,108,101,116] [] [] [] [])))]) (ds:=[(ai (Tree.mk [111,117,116,108,101,116] [] [] [] []))]) tu kJ dX fO bE rfl (by decide) (.cons rfl (Tree.len _) .nil) rfl (by intro d hd; simp only [List.mem_cons,List.not_mem_nil,or_false] at hd; rcases hd with rfl <;> exact Tree.agg _) rfl) rfl ?_
 refine aj.val rfl (bM (cs:=[(.d (.str [109,97,105,110])),(.d (.str [])),(.d (.str [])),(.d .aO),(.d (.sl (([(Tree.mk [111,117,116,108,101,116] [] [] [] [])]).map ai) true))]) fO rfl (bq) (fV rfl rfl rfl rfl (fV rfl rfl rfl rfl rfl))) rfl ?_
 refine aj.less (Less.agg' (d:=ai (Tree.mk [109,97,105,110] [] [] [] [(Tree.mk [111,117,116,108,101,116] [] [] [] [])])) (ax.eq rfl (ax.eq rfl (ax.eq rfl (ax.dE rfl (.aO false) rfl rfl (ax.dE rfl (.iL _ _) rfl rfl .nil))))) ((Tree.eq _).trans rfl)) ?_
 obtain ⟨z18,hzz18,h⟩:=bind_some h
 refine aj.bR (ins:=[.box b13 [v14,w16],aA ae ah.kids 7 5 v14 ws15 x12.l none,aG w16 x12.freed]) (more:=[.box b3 [(.d (.sl ((a1.Under).map (D.int .i64)) false)),(.d (.sl ((a1.Kinds).map (D.int .i64)) false)),(.d (.sl ((a1.Keys).map (D.int .i64)) false)),(.d (.sl ((a1.Texts).map (D.int .i64)) false))]]) (H17.sl [1,2,3,0] rfl rfl) rfl (az rfl rfl) (jU E n _ _ _ hzz18 b13 v14 ws15 w16) (.cons (.refl _) (.cons (.refl _) .nil)) rfl ?_
 rintro _ S22 _ ⟨rfl,v19,ws20,w21,rfl⟩ H23
 have H24:Has aL S22 [.box b3 [(.d (.sl ((a1.Under).map (D.int .i64)) false)),(.d (.sl ((a1.Kinds).map (D.int .i64)) false)),(.d (.sl ((a1.Keys).map (D.int .i64)) false)),(.d (.sl ((a1.Texts).map (D.int .i64)) false))],.box b13 [v19,w21],aA ae ah.kids 7 5 v19 ws20 z18.2.l none,aG w21 z18.2.freed]:=H23.sl [3,0,1,2] rfl rfl
 refine aj.val rfl (ak rfl) rfl ?_
 refine aj.nil ?_
 refine aD.seq ?_
 refine aD.region E.obj rfl ?_
 refine aj.val rfl (aa rfl) rfl ?_
 refine aj.val rfl (aJ H24 (i:=0) rfl rfl (aW zU zI rfl)) rfl ?_
 refine aj.less (Less.agg' (d:=dL a1) (ax.eq rfl (ax.eq rfl (ax.eq rfl (ax.eq rfl .nil)))) ((fA.eq _).trans rfl)) ?_
 obtain ⟨z25,hzz25,h⟩:=bind_some h
 refine aj.ret rfl (az rfl rfl) (bK E _ _ _ hzz25 _ _ (aN.eq .nil)) rfl ?_
 obtain ⟨z26,hzz26,h⟩:=bind_some h
 refine aj.bR (ins:=[.box b13 [v19,w21],aA ae ah.kids 7 5 v19 ws20 z18.2.l none,aG w21 z18.2.freed]) (more:=[.box b3 [(.d (.sl ((a1.Under).map (D.int .i64)) false)),(.d (.sl ((a1.Kinds).map (D.int .i64)) false)),(.d (.sl ((a1.Keys).map (D.int .i64)) false)),(.d (.sl ((a1.Texts).map (D.int .i64)) false))]]) (H24.sl [1,2,3,0] rfl rfl) rfl (az rfl rfl) (jU E n _ _ _ hzz26 b13 v19 ws20 w21) (.cons (.refl _) (.cons (.refl _) .nil)) rfl ?_
 rintro _ S30 _ ⟨rfl,v27,ws28,w29,rfl⟩ H31
 have H32:Has aL S30 [.box b3 [(.d (.sl ((a1.Under).map (D.int .i64)) false)),(.d (.sl ((a1.Kinds).map (D.int .i64)) false)),(.d (.sl ((a1.Keys).map (D.int .i64)) false)),(.d (.sl ((a1.Texts).map (D.int .i64)) false))],.box b13 [v27,w29],aA ae ah.kids 7 5 v27 ws28 z26.2.l none,aG w29 z26.2.freed]:=H31.sl [3,0,1,2] rfl rfl
 refine aj.val rfl (ak rfl) rfl ?_
 refine aj.nil ?_
 refine aD.seq ?_
 refine aD.seq ?_
 refine aD.region E.obj rfl ?_
 refine aj.val rfl (aa rfl) rfl ?_
 refine aj.val rfl (aa rfl) rfl ?_
 refine aj.val rfl (aa rfl) rfl ?_
 obtain ⟨z33,hzz33,h⟩:=bind_some h
 refine aj.bR (ins:=[.box b13 [v27,w29],aA ae ah.kids 7 5 v27 ws28 z26.2.l none,aG w29 z26.2.freed]) (more:=[.box b3 [(.d (.sl ((a1.Under).map (D.int .i64)) false)),(.d (.sl ((a1.Kinds).map (D.int .i64)) false)),(.d (.sl ((a1.Keys).map (D.int .i64)) false)),(.d (.sl ((a1.Texts).map (D.int .i64)) false))]]) (H32.sl [1,2,3,0] rfl rfl) rfl (az rfl rfl) (gT E n _ _ _ _ hzz33 b13 v27 ws28 w29) (.cons (.refl _) (.cons (.refl _) (.cons (.refl _) .nil))) rfl ?_
 rintro _ S36 _ ⟨rfl,ws34,w35,rfl⟩ H37
 have H38:Has aL S36 [.box b3 [(.d (.sl ((a1.Under).map (D.int .i64)) false)),(.d (.sl ((a1.Kinds).map (D.int .i64)) false)),(.d (.sl ((a1.Keys).map (D.int .i64)) false)),(.d (.sl ((a1.Texts).map (D.int .i64)) false))],.box b13 [v27,w35],aA ae ah.kids 7 5 v27 ws34 z33.2.l none,aG w35 z33.2.freed]:=H37.sl [3,0,1,2] rfl rfl
 refine aj.val rfl (gW rfl) rfl ?_
 refine aj.val rfl (aa rfl) rfl ?_
 rcases Bool.eq_false_or_eq_true ((!z33.1)) with hB39 | hB39
 ·
  replace h:=dH hB39 h
  refine aj.bool hB39 ?_
  refine aj.no rfl rfl ?_
  refine aj.no rfl rfl ?_
  refine aj.no rfl rfl ?_
  refine aj.no rfl rfl ?_
  refine aj.no rfl rfl ?_
  refine aj.val rfl (aC (b:=true) rfl rfl) rfl ?_
  refine aj.nil ?_
  refine aD.cond rfl (fun hb=>?_) (fun hb=>?_)
  ·
   refine aD.seq ?_
   refine aD.region E.obj rfl ?_
   refine aj.val rfl (ak rfl) rfl ?_
   refine aj.nil ?_
   have hr:=Option.some.inj h
   subst hr
   exact aD.ret ⟨_,rfl,rfl,kR (aN.eq .nil)⟩
  cases hb
 replace h:=dI hB39 h
 refine aj.bool hB39 ?_
 refine aj.val rfl (aa rfl) rfl ?_
 refine aj.val rfl (aa rfl) rfl ?_
 refine aj.val rfl (bM (cs:=[(.d (.str [109,97,105,110])),(.d (.str [])),(.d (.str [])),(.d .aO),(.d .aO)]) fO rfl (bq) (fV rfl rfl rfl rfl rfl)) rfl ?_
 refine aj.less (Less.agg' (d:=ai (Tree.mk [109,97,105,110] [] [] [] [])) (ax.eq rfl (ax.eq rfl (ax.eq rfl (ax.dE rfl (.aO false) rfl rfl (ax.dE rfl (.aO false) rfl rfl .nil))))) ((Tree.eq _).trans rfl)) ?_
 obtain ⟨z40,hzz40,h⟩:=bind_some h
 refine aj.bR (ins:=[.box b13 [v27,w35],aA ae ah.kids 7 5 v27 ws34 z33.2.l none,aG w35 z33.2.freed]) (more:=[.box b3 [(.d (.sl ((a1.Under).map (D.int .i64)) false)),(.d (.sl ((a1.Kinds).map (D.int .i64)) false)),(.d (.sl ((a1.Keys).map (D.int .i64)) false)),(.d (.sl ((a1.Texts).map (D.int .i64)) false))]]) (H38.sl [1,2,3,0] rfl rfl) rfl (az rfl rfl) (jH E n _ _ _ _ hzz40 b13 v27 ws34 w35) (.cons (.refl _) (.cons (.refl _) (.cons (.refl _) .nil))) rfl ?_
 rintro _ S44 _ ⟨rfl,v41,ws42,w43,rfl⟩ H45
 have H46:Has aL S44 [.box b3 [(.d (.sl ((a1.Under).map (D.int .i64)) false)),(.d (.sl ((a1.Kinds).map (D.int .i64)) false)),(.d (.sl ((a1.Keys).map (D.int .i64)) false)),(.d (.sl ((a1.Texts).map (D.int .i64)) false))],.box b13 [v41,w43],aA ae ah.kids 7 5 v41 ws42 z40.2.l none,aG w43 z40.2.freed]:=H45.sl [3,0,1,2] rfl rfl
 refine aj.val rfl (gW rfl) rfl ?_
 refine aj.val rfl (aC (b:=false) rfl rfl) rfl ?_
 refine aj.nil ?_
 refine aD.cond rfl (fun hb47=>?_) (fun hb47=>?_)
 ·
  replace h:=dH hb47 h
  refine aD.seq ?_
  refine aD.region E.obj rfl ?_
  refine aj.val rfl (ak rfl) rfl ?_
  refine aj.nil ?_
  have hr:=Option.some.inj h
  subst hr
  exact aD.ret ⟨_,rfl,rfl,kR (aN.eq .nil)⟩
 replace h:=dI hb47 h
 refine aD.skip ?_
 refine aD.seq ?_
 refine aD.region E.obj rfl ?_
 refine aj.val rfl (aa rfl) rfl ?_
 refine aj.val rfl (aa rfl) rfl ?_
 obtain ⟨z48,hzz48,h⟩:=bind_some h
 refine aj.bR (ins:=[.box b13 [v41,w43],aA ae ah.kids 7 5 v41 ws42 z40.2.l none,aG w43 z40.2.freed]) (more:=[.box b3 [(.d (.sl ((a1.Under).map (D.int .i64)) false)),(.d (.sl ((a1.Kinds).map (D.int .i64)) false)),(.d (.sl ((a1.Keys).map (D.int .i64)) false)),(.d (.sl ((a1.Texts).map (D.int .i64)) false))]]) (H46.sl [1,2,3,0] rfl rfl) rfl (az rfl rfl) (jY E n _ _ _ hzz48 b13 v41 ws42 w43) (.cons (.refl _) (.cons (.refl _) .nil)) rfl ?_
 rintro _ S49 _ ⟨rfl,rfl⟩ H50
 have H51:Has aL S49 [.box b3 [(.d (.sl ((a1.Under).map (D.int .i64)) false)),(.d (.sl ((a1.Kinds).map (D.int .i64)) false)),(.d (.sl ((a1.Keys).map (D.int .i64)) false)),(.d (.sl ((a1.Texts).map (D.int .i64)) false))],.box b13 [v41,w43],aA ae ah.kids 7 5 v41 ws42 z40.2.l none,aG w43 z40.2.freed]:=H50.sl [3,0,1,2] rfl rfl
 refine aj.val rfl (aa rfl) rfl ?_
 refine aj.val rfl (eu rfl rfl) rfl ?_
 refine aj.val rfl (eu rfl rfl) rfl ?_
 refine aj.alloc H51 rfl rV fO rfl rfl (fun b52 S53 H54=>?_)
 refine aj.store H54 (i:=0) rfl rfl rfl rfl (Tree.dx _) rfl bE rfl jc rfl rfl rfl (fun S55 H56=>?_)
 refine aj.val rfl (ak rfl) rfl ?_
 refine aj.nil ?_
 refine aD.seq ?_
 refine aD.region E.obj rfl ?_
 refine aj.val rfl (aa rfl) rfl ?_
 refine aj.val rfl (bM (cs:=[(.d (.str [])),(.d (.str [])),(.d (.str [120])),(.d .aO),(.d .aO)]) fO rfl (bq) (fV rfl rfl rfl rfl rfl)) rfl ?_
 refine aj.less (Less.agg' (d:=ai (Tree.mk [] [] [120] [] [])) (ax.eq rfl (ax.eq rfl (ax.eq rfl (ax.dE rfl (.aO false) rfl rfl (ax.dE rfl (.aO false) rfl rfl .nil))))) ((Tree.eq _).trans rfl)) ?_
 refine aj.val rfl (aR (vs:=[(.d (ai (Tree.mk [] [] [120] [] [])))]) (ds:=[(ai (Tree.mk [] [] [120] [] []))]) tu kJ dX fO bE rfl (by decide) (.cons rfl (Tree.len _) .nil) rfl (by intro d hd; simp only [List.mem_cons,List.not_mem_nil,or_false] at hd; rcases hd with rfl <;> exact Tree.agg _) rfl) rfl ?_
 refine aj.val rfl (bM (cs:=[(.d (.str [98])),(.d (.str [])),(.d (.str [])),(.d .aO),(.d (.sl (([(Tree.mk [] [] [120] [] [])]).map ai) true))]) fO rfl (bq) (fV rfl rfl rfl rfl (fV rfl rfl rfl rfl rfl))) rfl ?_
 refine aj.less (Less.agg' (d:=ai (Tree.mk [98] [] [] [] [(Tree.mk [] [] [120] [] [])])) (ax.eq rfl (ax.eq rfl (ax.eq rfl (ax.dE rfl (.aO false) rfl rfl (ax.dE rfl (.iL _ _) rfl rfl .nil))))) ((Tree.eq _).trans rfl)) ?_
 obtain ⟨z57,hzz57,h⟩:=bind_some h
 refine aj.bR (ins:=[.box b13 [v41,w43],aA ae ah.kids 7 5 v41 ws42 z40.2.l none,aG w43 z40.2.freed]) (more:=[.box b52 [(.d (.str z48.1.Tag)),(.d (.str z48.1.Key)),(.d (.str z48.1.Text)),(.d (.sl ((z48.1.aI).map ay) false)),(.d (.sl ((z48.1.Kids).map ai) false))],.box b3 [(.d (.sl ((a1.Under).map (D.int .i64)) false)),(.d (.sl ((a1.Kinds).map (D.int .i64)) false)),(.d (.sl ((a1.Keys).map (D.int .i64)) false)),(.d (.sl ((a1.Texts).map (D.int .i64)) false))]]) (H56.sl [2,3,4,0,1] rfl rfl) rfl (az rfl rfl) (jU E n _ _ _ hzz57 b13 v41 ws42 w43) (.cons (.refl _) (.cons (.refl _) .nil)) rfl ?_
 rintro _ S61 _ ⟨rfl,v58,ws59,w60,rfl⟩ H62
 have H63:Has aL S61 [.box b52 [(.d (.str z48.1.Tag)),(.d (.str z48.1.Key)),(.d (.str z48.1.Text)),(.d (.sl ((z48.1.aI).map ay) false)),(.d (.sl ((z48.1.Kids).map ai) false))],.box b3 [(.d (.sl ((a1.Under).map (D.int .i64)) false)),(.d (.sl ((a1.Kinds).map (D.int .i64)) false)),(.d (.sl ((a1.Keys).map (D.int .i64)) false)),(.d (.sl ((a1.Texts).map (D.int .i64)) false))],.box b13 [v58,w60],aA ae ah.kids 7 5 v58 ws59 z57.2.l none,aG w60 z57.2.freed]:=H62.sl [3,4,0,1,2] rfl rfl
 refine aj.val rfl (ak rfl) rfl ?_
 refine aj.nil ?_
 refine aD.seq ?_
 refine aD.region E.obj rfl ?_
 refine aj.val rfl (aa rfl) rfl ?_
 obtain ⟨z64,hzz64,h⟩:=bind_some h
 refine aj.ret rfl (az rfl rfl) (fI E _ _ _ _ _ hzz64 _ _ (aN.eq (aN.eq (aN.eq .nil)))) rfl ?_
 refine aj.val rfl (aH rfl rfl dF) rfl ?_
 refine aj.val rfl (ak rfl) rfl ?_
 refine aj.nil ?_
 refine aD.seq ?_
 refine aD.region E.obj rfl ?_
 refine aj.val rfl (bM (cs:=[(.d (.str [98])),(.d (.str [])),(.d (.str [])),(.d .aO),(.d .aO)]) fO rfl (bq) (fV rfl rfl rfl rfl rfl)) rfl ?_
 refine aj.less (Less.agg' (d:=ai (Tree.mk [98] [] [] [] [])) (ax.eq rfl (ax.eq rfl (ax.eq rfl (ax.dE rfl (.aO false) rfl rfl (ax.dE rfl (.aO false) rfl rfl .nil))))) ((Tree.eq _).trans rfl)) ?_
 refine aj.alloc H63 rfl rV fO rfl rfl (fun b65 S66 H67=>?_)
 refine aj.store H67 (i:=0) rfl rfl rfl rfl (Tree.dx _) rfl bE rfl jc rfl rfl rfl (fun S68 H69=>?_)
 refine aj.nil ?_
 refine aD.join (B:=aL) (α:=aB × AV × (List (List AV)) × AV × Bool) (fun a=>aY a.1 a.2.2.2.2=some r) (fun a=>[(4,(.d (.bool a.2.2.2.2)))]) (fun a=>[]) ?_ ?_
 ·
  intro a S70 H71 h
  obtain ⟨x72,v75,ws73,w74,x76⟩:=a
  replace h:aY x72 x76=some r:=h
  replace H71:Has aL S70 []:=H71
  unfold aY at h
  have hr:=Option.some.inj h
  subst hr
  exact aD.ret ⟨_,rfl,rfl,kR (aN.eq .nil)⟩
 rcases (Bool.eq_false_or_eq_true (z48.2)).symm with hb78 | hb78
 ·
  replace h:=dI hb78 h
  refine aD.jf E.obj lQ yD [(4,some 65)] (by kernel_rfl) [10,15,25,32,38,44,51] (by decide) [some (.d (.bool z48.2)),some (.d (.bool false)),some (.tup []),some (.tup []),some (.tup []),some (.tup []),some (.d (.bool false)),some (.d (.bool false)),some (.tup []),some (.tup []),none,none,none,none,none,none,none,none,none,none,none,none,none,none,none,none,none,none,none,none,none,none,none,none,none,none,none,none,none,none,none,none,none,none,none,none,none,none,none,none,none,none,none,none,none,none,none,none,none,none,none,none,none,none,none,none] ?_
  refine ⟨[0,1,2,3,4,5,6,7,8,9],by kernel_rfl,?_,_,_,rfl,rfl,.no rfl ?_⟩
  ·
   refine .v rfl rfl rfl rfl (aa rfl) ?_
   refine .cons rfl rfl rfl (.val rfl (aa rfl) (.eq (by rw [hb78]))) ?_
   refine .cons rfl rfl rfl (.no rfl (.refl _)) ?_
   refine .cons rfl rfl rfl (.no rfl (.refl _)) ?_
   refine .cons rfl rfl rfl (.no rfl (.refl _)) ?_
   refine .cons rfl rfl rfl (.no rfl (.refl _)) ?_
   refine .v rfl rfl rfl rfl (aC (b:=false) rfl rfl) ?_
   refine .v rfl rfl rfl rfl (aa rfl) ?_
   refine .cons rfl rfl rfl (.no rfl (.refl _)) ?_
   refine .cons rfl rfl rfl (.no rfl (.refl _)) ?_
   exact .nil
  refine ⟨_,(.q (.q (.o (.o (.z (.z (.f (.f (.z (.n (.z (.z (.z (.z (.m (.m (.m (.m (.m (.m (.m (.m (.m (.m (.m (.n (.n .nil))))))))))))))))))))))))))),(fun _ ht=>by cases ht; exact ⟨_,rfl,.refl _⟩),?_⟩
  refine ⟨[11,12,13,14,16,17,18,19],by kernel_rfl,?_,_,_,rfl,rfl,.no rfl ?_⟩
  ·
   refine .cons rfl rfl rfl (.no rfl (.refl _)) ?_
   refine .v rfl rfl rfl rfl (aC (b:=false) rfl rfl) ?_
   refine .v rfl rfl rfl rfl (aa rfl) ?_
   refine .cons rfl rfl rfl (.no rfl (.refl _)) ?_
   refine .cons rfl rfl rfl (.no rfl (.refl _)) ?_
   refine .cons rfl rfl rfl (.no rfl (.refl _)) ?_
   refine .cons rfl rfl rfl (.no rfl (.refl _)) ?_
   refine .cons rfl rfl rfl (.no rfl (.refl _)) ?_
   exact .nil
  refine ⟨_,(.q (.q (.q (.o (.o (.o (.z (.q (.z (.f (.f (.z (.z (.m (.m (.m (.m (.m (.m (.m (.m (.m (.m (.n .nil)))))))))))))))))))))))),(fun _ ht=>by cases ht; exact ⟨_,rfl,.refl _⟩),?_⟩
  refine ⟨[16,17,18,19,20,21,22,23,24],by kernel_rfl,?_,_,_,rfl,rfl,.no rfl ?_⟩
  ·
   refine .cons rfl rfl rfl (.no rfl (.refl _)) ?_
   refine .cons rfl rfl rfl (.no rfl (.refl _)) ?_
   refine .cons rfl rfl rfl (.no rfl (.refl _)) ?_
   refine .cons rfl rfl rfl (.no rfl (.refl _)) ?_
   refine .cons rfl rfl rfl (.no rfl (.refl _)) ?_
   refine .v rfl rfl rfl rfl (aC (b:=false) rfl rfl) ?_
   refine .v rfl rfl rfl rfl (aa rfl) ?_
   refine .cons rfl rfl rfl (.no rfl (.refl _)) ?_
   refine .cons rfl rfl rfl (.no rfl (.refl _)) ?_
   exact .nil
  refine ⟨_,(.q (.q (.q (.q (.q (.q (.o (.z (.z (.f (.f (.z (.z (.z (.m (.m (.m (.m (.m (.m (.m (.m (.n (.n .nil)))))))))))))))))))))))),(fun _ ht=>by cases ht; exact ⟨_,rfl,.refl _⟩),?_⟩
  refine ⟨[26,27,28,29,30,31],by kernel_rfl,?_,_,_,rfl,rfl,.no rfl ?_⟩
  ·
   refine .cons rfl rfl rfl (.no rfl (.refl _)) ?_
   refine .v rfl rfl rfl rfl (aC (b:=false) rfl rfl) ?_
   refine .v rfl rfl rfl rfl (aa rfl) ?_
   refine .cons rfl rfl rfl (.no rfl (.refl _)) ?_
   refine .cons rfl rfl rfl (.no rfl (.refl _)) ?_
   refine .cons rfl rfl rfl (.no rfl (.refl _)) ?_
   exact .nil
  refine ⟨_,(.q (.q (.q (.q (.q (.q (.q (.q (.z (.z (.f (.f (.z (.z (.m (.m (.m (.m (.m (.m (.m .nil))))))))))))))))))))),(fun _ ht=>by cases ht; exact ⟨_,rfl,.refl _⟩),?_⟩
  refine ⟨[33,34,35,36,37],by kernel_rfl,?_,_,_,rfl,rfl,.no rfl ?_⟩
  ·
   refine .cons rfl rfl rfl (.no rfl (.refl _)) ?_
   refine .v rfl rfl rfl rfl (aC (b:=false) rfl rfl) ?_
   refine .v rfl rfl rfl rfl (aa rfl) ?_
   refine .cons rfl rfl rfl (.no rfl (.refl _)) ?_
   refine .cons rfl rfl rfl (.no rfl (.refl _)) ?_
   exact .nil
  refine ⟨_,(.q (.q (.q (.q (.q (.q (.q (.q (.q (.o (.o (.z (.z (.f (.f (.z (.z (.m (.m (.m (.m (.m (.n (.n .nil)))))))))))))))))))))))),(fun _ ht=>by cases ht; exact ⟨_,rfl,.refl _⟩),?_⟩
  refine ⟨[39,40,41,42,43],by kernel_rfl,?_,_,_,rfl,rfl,.no rfl ?_⟩
  ·
   refine .cons rfl rfl rfl (.no rfl (.refl _)) ?_
   refine .v rfl rfl rfl rfl (aC (b:=false) rfl rfl) ?_
   refine .v rfl rfl rfl rfl (aa rfl) ?_
   refine .cons rfl rfl rfl (.no rfl (.refl _)) ?_
   refine .cons rfl rfl rfl (.no rfl (.refl _)) ?_
   exact .nil
  refine ⟨_,(.q (.q (.q (.q (.q (.q (.q (.q (.q (.q (.q (.z (.z (.f (.f (.z (.z (.z (.m (.m (.m (.n (.n (.n .nil)))))))))))))))))))))))),(fun _ ht=>by cases ht; exact ⟨_,rfl,.refl _⟩),?_⟩
  refine ⟨[45,46,47,48,49,50],by kernel_rfl,?_,_,_,rfl,rfl,.no rfl ?_⟩
  ·
   refine .cons rfl rfl rfl (.no rfl (.refl _)) ?_
   refine .v rfl rfl rfl rfl (aC (b:=false) rfl rfl) ?_
   refine .v rfl rfl rfl rfl (aa rfl) ?_
   refine .cons rfl rfl rfl (.no rfl (.refl _)) ?_
   refine .cons rfl rfl rfl (.no rfl (.refl _)) ?_
   refine .cons rfl rfl rfl (.no rfl (.refl _)) ?_
   exact .nil
  refine ⟨_,(.q (.q (.q (.q (.q (.q (.q (.q (.q (.q (.q (.q (.o (.o (.o (.z (.z (.f (.f (.z (.z (.z (.z (.z (.z (.f (.f (.z (.f (.f .nil)))))))))))))))))))))))))))))),(fun _ ht=>by cases ht; exact ⟨_,rfl,.refl _⟩),?_⟩
  refine ⟨[52,53,54,55,56,57,58,59,60,61,62,63,64,65],by kernel_rfl,?_,_,rfl,?_⟩
  ·
   refine .cons rfl rfl rfl (.no rfl (.refl _)) ?_
   refine .v rfl rfl rfl rfl (aC (b:=false) rfl rfl) ?_
   refine .v rfl rfl rfl rfl (aa rfl) ?_
   refine .cons rfl rfl rfl (.no rfl (.refl _)) ?_
   refine .cons rfl rfl rfl (.no rfl (.refl _)) ?_
   refine .cons rfl rfl rfl (.no rfl (.refl _)) ?_
   refine .cons rfl rfl rfl (.no rfl (.refl _)) ?_
   refine .cons rfl rfl rfl (.no rfl (.refl _)) ?_
   refine .cons rfl rfl rfl (.no rfl (.refl _)) ?_
   refine .v rfl rfl rfl rfl (aC (b:=false) rfl rfl) ?_
   refine .v rfl rfl rfl rfl (aa rfl) ?_
   refine .cons rfl rfl rfl (.no rfl (.refl _)) ?_
   refine .v rfl rfl rfl rfl (aC (b:=false) rfl rfl) ?_
   refine .v rfl rfl rfl rfl (ak rfl) ?_
   exact .nil
  exact ⟨⟨z57.2,v58,ws59,w60,false⟩,_,_,S68,.refl _ _,.refl _,(au.r rfl au.nil),H69.sl [] rfl rfl,h⟩
 replace h:=dH hb78 h
 obtain ⟨z79,hzz79,h⟩:=bind_some h
 obtain ⟨z80,hzz80,h⟩:=bind_some h
 rcases (Bool.eq_false_or_eq_true (z80)).symm with hb81 | hb81
 ·
  replace h:=dI hb81 h
  refine aD.jf E.obj lQ yD [(4,some 65)] (by kernel_rfl) [10,15,25,32,38,44,51] (by decide) [some (.d (.bool z48.2)),some (.d (.bool true)),some (.d (ai z48.1)),some (.d (dL a1)),some (.d (ai z79)),some (.d (.bool z80)),some (.d (.bool z80)),some (.d (.bool false)),some (.tup []),some (.tup []),none,none,none,none,none,none,none,none,none,none,none,none,none,none,none,none,none,none,none,none,none,none,none,none,none,none,none,none,none,none,none,none,none,none,none,none,none,none,none,none,none,none,none,none,none,none,none,none,none,none,none,none,none,none,none,none] ?_
  refine ⟨[0,1,2,3,4,5,6,7,8,9],by kernel_rfl,?_,_,_,rfl,rfl,.no rfl ?_⟩
  ·
   refine .v rfl rfl rfl rfl (aa rfl) ?_
   refine .cons rfl rfl rfl (.val rfl (aa rfl) (.eq (by rw [hb78]))) ?_
   refine .cons rfl rfl rfl (.step ?_) ?_
   ·
    refine aj.val rfl (aJ H69 (i:=1) rfl rfl (aW dX bE rfl)) rfl ?_
    refine aj.less (Less.agg' (d:=ai z48.1) (ax.eq rfl (ax.eq rfl (ax.eq rfl (ax.eq rfl (ax.eq rfl .nil))))) ((Tree.eq _).trans rfl)) ?_
    exact aj.nil ⟨_,_,rfl,fun _ ht=>by cases ht; exact ⟨rfl,.refl _⟩⟩
   refine .cons rfl rfl rfl (.step ?_) ?_
   ·
    refine aj.val rfl (aJ H69 (i:=2) rfl rfl (aW zU zI rfl)) rfl ?_
    refine aj.less (Less.agg' (d:=dL a1) (ax.eq rfl (ax.eq rfl (ax.eq rfl (ax.eq rfl .nil)))) ((fA.eq _).trans rfl)) ?_
    exact aj.nil ⟨_,_,rfl,fun _ ht=>by cases ht; exact ⟨rfl,.refl _⟩⟩
   refine .cons rfl rfl rfl (.step ?_) ?_
   ·
    refine aj.ret rfl (az rfl rfl) (bK E _ _ _ hzz79 _ _ (aN.eq .nil)) rfl ?_
    exact aj.nil ⟨_,_,rfl,fun _ ht=>by cases ht; exact ⟨rfl,.refl _⟩⟩
   refine .cons rfl rfl rfl (.step ?_) ?_
   ·
    refine aj.ret rfl (az rfl rfl) (bH E _ _ _ _ hzz80 _ _ (aN.eq (aN.eq .nil))) rfl ?_
    exact aj.nil ⟨_,_,rfl,fun _ ht=>by cases ht; exact ⟨rfl,.refl _⟩⟩
   refine .v rfl rfl rfl rfl (aC (b:=true) rfl rfl) ?_
   refine .cons rfl rfl rfl (.val rfl (aa rfl) (.eq (by rw [hb81]))) ?_
   refine .cons rfl rfl rfl (.no rfl (.refl _)) ?_
   refine .cons rfl rfl rfl (.no rfl (.refl _)) ?_
   exact .nil
  refine ⟨_,(.q (.q (.o (.o (.z (.z (.f (.f (.z (.n (.z (.z (.z (.z (.m (.m (.m (.m (.m (.m (.m (.m (.m (.m (.m (.n (.n .nil))))))))))))))))))))))))))),(fun _ ht=>by cases ht; exact ⟨_,rfl,.refl _⟩),?_⟩
  refine ⟨[11,12,13,14,16,17,18,19],by kernel_rfl,?_,_,_,rfl,rfl,.no rfl ?_⟩
  ·
   refine .cons rfl rfl rfl (.no rfl (.refl _)) ?_
   refine .v rfl rfl rfl rfl (aC (b:=false) rfl rfl) ?_
   refine .v rfl rfl rfl rfl (aa rfl) ?_
   refine .cons rfl rfl rfl (.no rfl (.refl _)) ?_
   refine .cons rfl rfl rfl (.no rfl (.refl _)) ?_
   refine .cons rfl rfl rfl (.no rfl (.refl _)) ?_
   refine .cons rfl rfl rfl (.no rfl (.refl _)) ?_
   refine .cons rfl rfl rfl (.no rfl (.refl _)) ?_
   exact .nil
  refine ⟨_,(.q (.q (.q (.o (.o (.o (.z (.q (.z (.f (.f (.z (.z (.m (.m (.m (.m (.m (.m (.m (.m (.m (.m (.n .nil)))))))))))))))))))))))),(fun _ ht=>by cases ht; exact ⟨_,rfl,.refl _⟩),?_⟩
  refine ⟨[16,17,18,19,20,21,22,23,24],by kernel_rfl,?_,_,_,rfl,rfl,.no rfl ?_⟩
  ·
   refine .cons rfl rfl rfl (.no rfl (.refl _)) ?_
   refine .cons rfl rfl rfl (.no rfl (.refl _)) ?_
   refine .cons rfl rfl rfl (.no rfl (.refl _)) ?_
   refine .cons rfl rfl rfl (.no rfl (.refl _)) ?_
   refine .cons rfl rfl rfl (.no rfl (.refl _)) ?_
   refine .v rfl rfl rfl rfl (aC (b:=false) rfl rfl) ?_
   refine .v rfl rfl rfl rfl (aa rfl) ?_
   refine .cons rfl rfl rfl (.no rfl (.refl _)) ?_
   refine .cons rfl rfl rfl (.no rfl (.refl _)) ?_
   exact .nil
  refine ⟨_,(.q (.q (.q (.q (.q (.q (.o (.z (.z (.f (.f (.z (.z (.z (.m (.m (.m (.m (.m (.m (.m (.m (.n (.n .nil)))))))))))))))))))))))),(fun _ ht=>by cases ht; exact ⟨_,rfl,.refl _⟩),?_⟩
  refine ⟨[26,27,28,29,30,31],by kernel_rfl,?_,_,_,rfl,rfl,.no rfl ?_⟩
  ·
   refine .cons rfl rfl rfl (.no rfl (.refl _)) ?_
   refine .v rfl rfl rfl rfl (aC (b:=false) rfl rfl) ?_
   refine .v rfl rfl rfl rfl (aa rfl) ?_
   refine .cons rfl rfl rfl (.no rfl (.refl _)) ?_
   refine .cons rfl rfl rfl (.no rfl (.refl _)) ?_
   refine .cons rfl rfl rfl (.no rfl (.refl _)) ?_
   exact .nil
  refine ⟨_,(.q (.q (.q (.q (.q (.q (.q (.q (.z (.z (.f (.f (.z (.z (.m (.m (.m (.m (.m (.m (.m .nil))))))))))))))))))))),(fun _ ht=>by cases ht; exact ⟨_,rfl,.refl _⟩),?_⟩
  refine ⟨[33,34,35,36,37],by kernel_rfl,?_,_,_,rfl,rfl,.no rfl ?_⟩
  ·
   refine .cons rfl rfl rfl (.no rfl (.refl _)) ?_
   refine .v rfl rfl rfl rfl (aC (b:=false) rfl rfl) ?_
   refine .v rfl rfl rfl rfl (aa rfl) ?_
   refine .cons rfl rfl rfl (.no rfl (.refl _)) ?_
   refine .cons rfl rfl rfl (.no rfl (.refl _)) ?_
   exact .nil
  refine ⟨_,(.q (.q (.q (.q (.q (.q (.q (.q (.q (.o (.o (.z (.z (.f (.f (.z (.z (.m (.m (.m (.m (.m (.n (.n .nil)))))))))))))))))))))))),(fun _ ht=>by cases ht; exact ⟨_,rfl,.refl _⟩),?_⟩
  refine ⟨[39,40,41,42,43],by kernel_rfl,?_,_,_,rfl,rfl,.no rfl ?_⟩
  ·
   refine .cons rfl rfl rfl (.no rfl (.refl _)) ?_
   refine .v rfl rfl rfl rfl (aC (b:=false) rfl rfl) ?_
   refine .v rfl rfl rfl rfl (aa rfl) ?_
   refine .cons rfl rfl rfl (.no rfl (.refl _)) ?_
   refine .cons rfl rfl rfl (.no rfl (.refl _)) ?_
   exact .nil
  refine ⟨_,(.q (.q (.q (.q (.q (.q (.q (.q (.q (.q (.q (.z (.z (.f (.f (.z (.z (.z (.m (.m (.m (.n (.n (.n .nil)))))))))))))))))))))))),(fun _ ht=>by cases ht; exact ⟨_,rfl,.refl _⟩),?_⟩
  refine ⟨[45,46,47,48,49,50],by kernel_rfl,?_,_,_,rfl,rfl,.no rfl ?_⟩
  ·
   refine .cons rfl rfl rfl (.no rfl (.refl _)) ?_
   refine .v rfl rfl rfl rfl (aC (b:=false) rfl rfl) ?_
   refine .v rfl rfl rfl rfl (aa rfl) ?_
   refine .cons rfl rfl rfl (.no rfl (.refl _)) ?_
   refine .cons rfl rfl rfl (.no rfl (.refl _)) ?_
   refine .cons rfl rfl rfl (.no rfl (.refl _)) ?_
   exact .nil
  refine ⟨_,(.q (.q (.q (.q (.q (.q (.q (.q (.q (.q (.q (.q (.o (.o (.o (.z (.z (.f (.f (.z (.z (.z (.z (.z (.z (.f (.f (.z (.f (.f .nil)))))))))))))))))))))))))))))),(fun _ ht=>by cases ht; exact ⟨_,rfl,.refl _⟩),?_⟩
  refine ⟨[52,53,54,55,56,57,58,59,60,61,62,63,64,65],by kernel_rfl,?_,_,rfl,?_⟩
  ·
   refine .cons rfl rfl rfl (.no rfl (.refl _)) ?_
   refine .v rfl rfl rfl rfl (aC (b:=false) rfl rfl) ?_
   refine .v rfl rfl rfl rfl (aa rfl) ?_
   refine .cons rfl rfl rfl (.no rfl (.refl _)) ?_
   refine .cons rfl rfl rfl (.no rfl (.refl _)) ?_
   refine .cons rfl rfl rfl (.no rfl (.refl _)) ?_
   refine .cons rfl rfl rfl (.no rfl (.refl _)) ?_
   refine .cons rfl rfl rfl (.no rfl (.refl _)) ?_
   refine .cons rfl rfl rfl (.no rfl (.refl _)) ?_
   refine .v rfl rfl rfl rfl (aC (b:=false) rfl rfl) ?_
   refine .v rfl rfl rfl rfl (aa rfl) ?_
   refine .cons rfl rfl rfl (.no rfl (.refl _)) ?_
   refine .v rfl rfl rfl rfl (aC (b:=false) rfl rfl) ?_
   refine .v rfl rfl rfl rfl (ak rfl) ?_
   exact .nil
  exact ⟨⟨z57.2,v58,ws59,w60,false⟩,_,_,S68,.refl _ _,.refl _,(au.r rfl au.nil),H69.sl [] rfl rfl,h⟩
 replace h:=dH hb81 h
 obtain ⟨z82,hzz82,h⟩:=bind_some h
 rcases (Bool.eq_false_or_eq_true ((z82 == 0))).symm with hb86 | hb86
 ·
  replace h:=dI hb86 h
  refine aD.jf E.obj lQ yD [(4,some 65)] (by kernel_rfl) [10,15,25,32,38,44,51] (by decide) [some (.d (.bool z48.2)),some (.d (.bool true)),some (.d (ai z48.1)),some (.d (dL a1)),some (.d (ai z79)),some (.d (.bool z80)),some (.d (.bool z80)),some (.d (.bool true)),some (.ptr b13 0 0),some (.d (.int .i64 z26.1)),none,none,none,none,none,none,none,none,none,none,none,none,none,none,none,none,none,none,none,none,none,none,none,none,none,none,none,none,none,none,none,none,none,none,none,none,none,none,none,none,none,none,none,none,none,none,none,none,none,none,none,none,none,none,none,none] ?_
  refine ⟨[0,1,2,3,4,5,6,7,8,9],by kernel_rfl,?_,_,_,rfl,rfl,.step ?_⟩
  ·
   refine .v rfl rfl rfl rfl (aa rfl) ?_
   refine .cons rfl rfl rfl (.val rfl (aa rfl) (.eq (by rw [hb78]))) ?_
   refine .cons rfl rfl rfl (.step ?_) ?_
   ·
    refine aj.val rfl (aJ H69 (i:=1) rfl rfl (aW dX bE rfl)) rfl ?_
    refine aj.less (Less.agg' (d:=ai z48.1) (ax.eq rfl (ax.eq rfl (ax.eq rfl (ax.eq rfl (ax.eq rfl .nil))))) ((Tree.eq _).trans rfl)) ?_
    exact aj.nil ⟨_,_,rfl,fun _ ht=>by cases ht; exact ⟨rfl,.refl _⟩⟩
   refine .cons rfl rfl rfl (.step ?_) ?_
   ·
    refine aj.val rfl (aJ H69 (i:=2) rfl rfl (aW zU zI rfl)) rfl ?_
    refine aj.less (Less.agg' (d:=dL a1) (ax.eq rfl (ax.eq rfl (ax.eq rfl (ax.eq rfl .nil)))) ((fA.eq _).trans rfl)) ?_
    exact aj.nil ⟨_,_,rfl,fun _ ht=>by cases ht; exact ⟨rfl,.refl _⟩⟩
   refine .cons rfl rfl rfl (.step ?_) ?_
   ·
    refine aj.ret rfl (az rfl rfl) (bK E _ _ _ hzz79 _ _ (aN.eq .nil)) rfl ?_
    exact aj.nil ⟨_,_,rfl,fun _ ht=>by cases ht; exact ⟨rfl,.refl _⟩⟩
   refine .cons rfl rfl rfl (.step ?_) ?_
   ·
    refine aj.ret rfl (az rfl rfl) (bH E _ _ _ _ hzz80 _ _ (aN.eq (aN.eq .nil))) rfl ?_
    exact aj.nil ⟨_,_,rfl,fun _ ht=>by cases ht; exact ⟨rfl,.refl _⟩⟩
   refine .v rfl rfl rfl rfl (aC (b:=true) rfl rfl) ?_
   refine .cons rfl rfl rfl (.val rfl (aa rfl) (.eq (by rw [hb81]))) ?_
   refine .v rfl rfl rfl rfl (aa rfl) ?_
   refine .v rfl rfl rfl rfl (aa rfl) ?_
   exact .nil
  refine aj.bR (ins:=[.box b13 [v58,w60],aA ae ah.kids 7 5 v58 ws59 z57.2.l none,aG w60 z57.2.freed]) (more:=[.box b65 [(.d (.str (Tree.mk [98] [] [] [] []).Tag)),(.d (.str (Tree.mk [98] [] [] [] []).Key)),(.d (.str (Tree.mk [98] [] [] [] []).Text)),(.d (.sl (((Tree.mk [98] [] [] [] []).aI).map ay) false)),(.d (.sl (((Tree.mk [98] [] [] [] []).Kids).map ai) false))],.box b52 [(.d (.str z48.1.Tag)),(.d (.str z48.1.Key)),(.d (.str z48.1.Text)),(.d (.sl ((z48.1.aI).map ay) false)),(.d (.sl ((z48.1.Kids).map ai) false))],.box b3 [(.d (.sl ((a1.Under).map (D.int .i64)) false)),(.d (.sl ((a1.Kinds).map (D.int .i64)) false)),(.d (.sl ((a1.Keys).map (D.int .i64)) false)),(.d (.sl ((a1.Texts).map (D.int .i64)) false))]]) (H69.sl [3,4,5,0,1,2] rfl rfl) rfl (az rfl rfl) (eT E n _ _ _ hzz82 b13 v58 ws59 w60) (.cons (.refl _) (.cons (.refl _) .nil)) rfl ?_
  rintro _ S87 _ ⟨rfl,rfl⟩ H88
  have H89:Has aL S87 [.box b65 [(.d (.str (Tree.mk [98] [] [] [] []).Tag)),(.d (.str (Tree.mk [98] [] [] [] []).Key)),(.d (.str (Tree.mk [98] [] [] [] []).Text)),(.d (.sl (((Tree.mk [98] [] [] [] []).aI).map ay) false)),(.d (.sl (((Tree.mk [98] [] [] [] []).Kids).map ai) false))],.box b52 [(.d (.str z48.1.Tag)),(.d (.str z48.1.Key)),(.d (.str z48.1.Text)),(.d (.sl ((z48.1.aI).map ay) false)),(.d (.sl ((z48.1.Kids).map ai) false))],.box b3 [(.d (.sl ((a1.Under).map (D.int .i64)) false)),(.d (.sl ((a1.Kinds).map (D.int .i64)) false)),(.d (.sl ((a1.Keys).map (D.int .i64)) false)),(.d (.sl ((a1.Texts).map (D.int .i64)) false))],.box b13 [v58,w60],aA ae ah.kids 7 5 v58 ws59 z57.2.l none,aG w60 z57.2.freed]:=H88.sl [3,4,5,0,1,2] rfl rfl
  refine aj.nil ⟨_,_,_,rfl,(fun _ ht=>by cases ht; rfl),_,(.q (.q (.o (.o (.w (.d (.int .i64 z82)) (.w (.d (.bool (z82 == 0))) (.w (.d (.bool (z82 == 0))) (.f (.z (.n (.z (.z (.z (.z (.m (.m (.m (.m (.m (.m (.m (.m (.m (.m (.m (.n (.n .nil))))))))))))))))))))))))))),(fun _ ht=>by cases ht; exact ⟨_,rfl,.refl _⟩),?_⟩
  refine ⟨[11,12,13,14,16,17,18,19],by kernel_rfl,?_,_,_,rfl,rfl,.no rfl ?_⟩
  ·
   refine .v rfl rfl rfl rfl (aH rfl rfl bD) ?_
   refine .v rfl rfl rfl rfl (aC (b:=true) rfl rfl) ?_
   refine .cons rfl rfl rfl (.val rfl (aa rfl) (.eq (by rw [hb86]))) ?_
   refine .cons rfl rfl rfl (.no rfl (.refl _)) ?_
   refine .cons rfl rfl rfl (.no rfl (.refl _)) ?_
   refine .cons rfl rfl rfl (.no rfl (.refl _)) ?_
   refine .cons rfl rfl rfl (.no rfl (.refl _)) ?_
   refine .cons rfl rfl rfl (.no rfl (.refl _)) ?_
   exact .nil
  refine ⟨_,(.q (.q (.q (.o (.o (.o (.z (.q (.z (.f (.f (.z (.z (.m (.m (.m (.m (.m (.m (.m (.m (.m (.m (.n .nil)))))))))))))))))))))))),(fun _ ht=>by cases ht; exact ⟨_,rfl,.refl _⟩),?_⟩
  refine ⟨[16,17,18,19,20,21,22,23,24],by kernel_rfl,?_,_,_,rfl,rfl,.no rfl ?_⟩
  ·
   refine .cons rfl rfl rfl (.no rfl (.refl _)) ?_
   refine .cons rfl rfl rfl (.no rfl (.refl _)) ?_
   refine .cons rfl rfl rfl (.no rfl (.refl _)) ?_
   refine .cons rfl rfl rfl (.no rfl (.refl _)) ?_
   refine .cons rfl rfl rfl (.no rfl (.refl _)) ?_
   refine .v rfl rfl rfl rfl (aC (b:=false) rfl rfl) ?_
   refine .v rfl rfl rfl rfl (aa rfl) ?_
   refine .cons rfl rfl rfl (.no rfl (.refl _)) ?_
   refine .cons rfl rfl rfl (.no rfl (.refl _)) ?_
   exact .nil
  refine ⟨_,(.q (.q (.q (.q (.q (.q (.o (.z (.z (.f (.f (.z (.z (.z (.m (.m (.m (.m (.m (.m (.m (.m (.n (.n .nil)))))))))))))))))))))))),(fun _ ht=>by cases ht; exact ⟨_,rfl,.refl _⟩),?_⟩
  refine ⟨[26,27,28,29,30,31],by kernel_rfl,?_,_,_,rfl,rfl,.no rfl ?_⟩
  ·
   refine .cons rfl rfl rfl (.no rfl (.refl _)) ?_
   refine .v rfl rfl rfl rfl (aC (b:=false) rfl rfl) ?_
   refine .v rfl rfl rfl rfl (aa rfl) ?_
   refine .cons rfl rfl rfl (.no rfl (.refl _)) ?_
   refine .cons rfl rfl rfl (.no rfl (.refl _)) ?_
   refine .cons rfl rfl rfl (.no rfl (.refl _)) ?_
   exact .nil
  refine ⟨_,(.q (.q (.q (.q (.q (.q (.q (.q (.z (.z (.f (.f (.z (.z (.m (.m (.m (.m (.m (.m (.m .nil))))))))))))))))))))),(fun _ ht=>by cases ht; exact ⟨_,rfl,.refl _⟩),?_⟩
  refine ⟨[33,34,35,36,37],by kernel_rfl,?_,_,_,rfl,rfl,.no rfl ?_⟩
  ·
   refine .cons rfl rfl rfl (.no rfl (.refl _)) ?_
   refine .v rfl rfl rfl rfl (aC (b:=false) rfl rfl) ?_
   refine .v rfl rfl rfl rfl (aa rfl) ?_
   refine .cons rfl rfl rfl (.no rfl (.refl _)) ?_
   refine .cons rfl rfl rfl (.no rfl (.refl _)) ?_
   exact .nil
  refine ⟨_,(.q (.q (.q (.q (.q (.q (.q (.q (.q (.o (.o (.z (.z (.f (.f (.z (.z (.m (.m (.m (.m (.m (.n (.n .nil)))))))))))))))))))))))),(fun _ ht=>by cases ht; exact ⟨_,rfl,.refl _⟩),?_⟩
  refine ⟨[39,40,41,42,43],by kernel_rfl,?_,_,_,rfl,rfl,.no rfl ?_⟩
  ·
   refine .cons rfl rfl rfl (.no rfl (.refl _)) ?_
   refine .v rfl rfl rfl rfl (aC (b:=false) rfl rfl) ?_
   refine .v rfl rfl rfl rfl (aa rfl) ?_
   refine .cons rfl rfl rfl (.no rfl (.refl _)) ?_
   refine .cons rfl rfl rfl (.no rfl (.refl _)) ?_
   exact .nil
  refine ⟨_,(.q (.q (.q (.q (.q (.q (.q (.q (.q (.q (.q (.z (.z (.f (.f (.z (.z (.z (.m (.m (.m (.n (.n (.n .nil)))))))))))))))))))))))),(fun _ ht=>by cases ht; exact ⟨_,rfl,.refl _⟩),?_⟩
  refine ⟨[45,46,47,48,49,50],by kernel_rfl,?_,_,_,rfl,rfl,.no rfl ?_⟩
  ·
   refine .cons rfl rfl rfl (.no rfl (.refl _)) ?_
   refine .v rfl rfl rfl rfl (aC (b:=false) rfl rfl) ?_
   refine .v rfl rfl rfl rfl (aa rfl) ?_
   refine .cons rfl rfl rfl (.no rfl (.refl _)) ?_
   refine .cons rfl rfl rfl (.no rfl (.refl _)) ?_
   refine .cons rfl rfl rfl (.no rfl (.refl _)) ?_
   exact .nil
  refine ⟨_,(.q (.q (.q (.q (.q (.q (.q (.q (.q (.q (.q (.q (.o (.o (.o (.z (.z (.f (.f (.z (.z (.z (.z (.z (.z (.f (.f (.z (.f (.f .nil)))))))))))))))))))))))))))))),(fun _ ht=>by cases ht; exact ⟨_,rfl,.refl _⟩),?_⟩
  refine ⟨[52,53,54,55,56,57,58,59,60,61,62,63,64,65],by kernel_rfl,?_,_,rfl,?_⟩
  ·
   refine .cons rfl rfl rfl (.no rfl (.refl _)) ?_
   refine .v rfl rfl rfl rfl (aC (b:=false) rfl rfl) ?_
   refine .v rfl rfl rfl rfl (aa rfl) ?_
   refine .cons rfl rfl rfl (.no rfl (.refl _)) ?_
   refine .cons rfl rfl rfl (.no rfl (.refl _)) ?_
   refine .cons rfl rfl rfl (.no rfl (.refl _)) ?_
   refine .cons rfl rfl rfl (.no rfl (.refl _)) ?_
   refine .cons rfl rfl rfl (.no rfl (.refl _)) ?_
   refine .cons rfl rfl rfl (.no rfl (.refl _)) ?_
   refine .v rfl rfl rfl rfl (aC (b:=false) rfl rfl) ?_
   refine .v rfl rfl rfl rfl (aa rfl) ?_
   refine .cons rfl rfl rfl (.no rfl (.refl _)) ?_
   refine .v rfl rfl rfl rfl (aC (b:=false) rfl rfl) ?_
   refine .v rfl rfl rfl rfl (ak rfl) ?_
   exact .nil
  exact ⟨⟨z57.2,v58,ws59,w60,false⟩,_,_,S87,.refl _ _,.refl _,(au.r rfl au.nil),H89.sl [] rfl rfl,h⟩
 replace h:=dH hb86 h
 obtain ⟨z90,hzz90,h⟩:=bind_some h
 obtain ⟨z94,hzz94,h⟩:=bind_some h
 rcases (Bool.eq_false_or_eq_true (z94)).symm with hb95 | hb95
 ·
  replace h:=dI hb95 h
  refine aD.jf E.obj lQ yD [(4,some 65)] (by kernel_rfl) [10,15,25,32,38,44,51] (by decide) [some (.d (.bool z48.2)),some (.d (.bool true)),some (.d (ai z48.1)),some (.d (dL a1)),some (.d (ai z79)),some (.d (.bool z80)),some (.d (.bool z80)),some (.d (.bool true)),some (.ptr b13 0 0),some (.d (.int .i64 z26.1)),none,none,none,none,none,none,none,none,none,none,none,none,none,none,none,none,none,none,none,none,none,none,none,none,none,none,none,none,none,none,none,none,none,none,none,none,none,none,none,none,none,none,none,none,none,none,none,none,none,none,none,none,none,none,none,none] ?_
  refine ⟨[0,1,2,3,4,5,6,7,8,9],by kernel_rfl,?_,_,_,rfl,rfl,.step ?_⟩
  ·
   refine .v rfl rfl rfl rfl (aa rfl) ?_
   refine .cons rfl rfl rfl (.val rfl (aa rfl) (.eq (by rw [hb78]))) ?_
   refine .cons rfl rfl rfl (.step ?_) ?_
   ·
    refine aj.val rfl (aJ H69 (i:=1) rfl rfl (aW dX bE rfl)) rfl ?_
    refine aj.less (Less.agg' (d:=ai z48.1) (ax.eq rfl (ax.eq rfl (ax.eq rfl (ax.eq rfl (ax.eq rfl .nil))))) ((Tree.eq _).trans rfl)) ?_
    exact aj.nil ⟨_,_,rfl,fun _ ht=>by cases ht; exact ⟨rfl,.refl _⟩⟩
   refine .cons rfl rfl rfl (.step ?_) ?_
   ·
    refine aj.val rfl (aJ H69 (i:=2) rfl rfl (aW zU zI rfl)) rfl ?_
    refine aj.less (Less.agg' (d:=dL a1) (ax.eq rfl (ax.eq rfl (ax.eq rfl (ax.eq rfl .nil)))) ((fA.eq _).trans rfl)) ?_
    exact aj.nil ⟨_,_,rfl,fun _ ht=>by cases ht; exact ⟨rfl,.refl _⟩⟩
   refine .cons rfl rfl rfl (.step ?_) ?_
   ·
    refine aj.ret rfl (az rfl rfl) (bK E _ _ _ hzz79 _ _ (aN.eq .nil)) rfl ?_
    exact aj.nil ⟨_,_,rfl,fun _ ht=>by cases ht; exact ⟨rfl,.refl _⟩⟩
   refine .cons rfl rfl rfl (.step ?_) ?_
   ·
    refine aj.ret rfl (az rfl rfl) (bH E _ _ _ _ hzz80 _ _ (aN.eq (aN.eq .nil))) rfl ?_
    exact aj.nil ⟨_,_,rfl,fun _ ht=>by cases ht; exact ⟨rfl,.refl _⟩⟩
   refine .v rfl rfl rfl rfl (aC (b:=true) rfl rfl) ?_
   refine .cons rfl rfl rfl (.val rfl (aa rfl) (.eq (by rw [hb81]))) ?_
   refine .v rfl rfl rfl rfl (aa rfl) ?_
   refine .v rfl rfl rfl rfl (aa rfl) ?_
   exact .nil
  refine aj.bR (ins:=[.box b13 [v58,w60],aA ae ah.kids 7 5 v58 ws59 z57.2.l none,aG w60 z57.2.freed]) (more:=[.box b65 [(.d (.str (Tree.mk [98] [] [] [] []).Tag)),(.d (.str (Tree.mk [98] [] [] [] []).Key)),(.d (.str (Tree.mk [98] [] [] [] []).Text)),(.d (.sl (((Tree.mk [98] [] [] [] []).aI).map ay) false)),(.d (.sl (((Tree.mk [98] [] [] [] []).Kids).map ai) false))],.box b52 [(.d (.str z48.1.Tag)),(.d (.str z48.1.Key)),(.d (.str z48.1.Text)),(.d (.sl ((z48.1.aI).map ay) false)),(.d (.sl ((z48.1.Kids).map ai) false))],.box b3 [(.d (.sl ((a1.Under).map (D.int .i64)) false)),(.d (.sl ((a1.Kinds).map (D.int .i64)) false)),(.d (.sl ((a1.Keys).map (D.int .i64)) false)),(.d (.sl ((a1.Texts).map (D.int .i64)) false))]]) (H69.sl [3,4,5,0,1,2] rfl rfl) rfl (az rfl rfl) (eT E n _ _ _ hzz82 b13 v58 ws59 w60) (.cons (.refl _) (.cons (.refl _) .nil)) rfl ?_
  rintro _ S96 _ ⟨rfl,rfl⟩ H97
  have H98:Has aL S96 [.box b65 [(.d (.str (Tree.mk [98] [] [] [] []).Tag)),(.d (.str (Tree.mk [98] [] [] [] []).Key)),(.d (.str (Tree.mk [98] [] [] [] []).Text)),(.d (.sl (((Tree.mk [98] [] [] [] []).aI).map ay) false)),(.d (.sl (((Tree.mk [98] [] [] [] []).Kids).map ai) false))],.box b52 [(.d (.str z48.1.Tag)),(.d (.str z48.1.Key)),(.d (.str z48.1.Text)),(.d (.sl ((z48.1.aI).map ay) false)),(.d (.sl ((z48.1.Kids).map ai) false))],.box b3 [(.d (.sl ((a1.Under).map (D.int .i64)) false)),(.d (.sl ((a1.Kinds).map (D.int .i64)) false)),(.d (.sl ((a1.Keys).map (D.int .i64)) false)),(.d (.sl ((a1.Texts).map (D.int .i64)) false))],.box b13 [v58,w60],aA ae ah.kids 7 5 v58 ws59 z57.2.l none,aG w60 z57.2.freed]:=H97.sl [3,4,5,0,1,2] rfl rfl
  refine aj.nil ⟨_,_,_,rfl,(fun _ ht=>by cases ht; rfl),_,(.q (.q (.o (.o (.w (.d (.int .i64 z82)) (.w (.d (.bool (z82 == 0))) (.w (.d (.bool (z82 == 0))) (.w (.d (.bool true)) (.w (.ptr b13 0 0) (.n (.w (.d (.int .i64 z18.1)) (.w (.d (.int .i64 z57.1)) (.w (.d (.int .i64 z26.1)) (.w (.d (.sl (([z18.1,z57.1,z26.1]).map (D.int .i64)) true)) (.m (.m (.m (.m (.m (.m (.m (.m (.m (.m (.m (.n (.n .nil))))))))))))))))))))))))))),(fun _ ht=>by cases ht; exact ⟨_,rfl,.refl _⟩),?_⟩
  refine ⟨[11,12,13,14,16,17,18,19],by kernel_rfl,?_,_,_,rfl,rfl,.step ?_⟩
  ·
   refine .v rfl rfl rfl rfl (aH rfl rfl bD) ?_
   refine .v rfl rfl rfl rfl (aC (b:=true) rfl rfl) ?_
   refine .cons rfl rfl rfl (.val rfl (aa rfl) (.eq (by rw [hb86]))) ?_
   refine .v rfl rfl rfl rfl (aa rfl) ?_
   refine .v rfl rfl rfl rfl (aa rfl) ?_
   refine .v rfl rfl rfl rfl (aa rfl) ?_
   refine .v rfl rfl rfl rfl (aa rfl) ?_
   refine .v rfl rfl rfl rfl (aR (vs:=[(.d (.int .i64 z18.1)),(.d (.int .i64 z57.1)),(.d (.int .i64 z26.1))]) (ds:=[(.int .i64 z18.1),(.int .i64 z57.1),(.int .i64 z26.1)]) o7 fQ nV wD kV rfl (by decide) (.cons rfl rfl (.cons rfl rfl (.cons rfl rfl .nil))) rfl (by intro d hd; simp only [List.mem_cons,List.not_mem_nil,or_false] at hd; rcases hd with rfl | rfl | rfl <;> rfl) rfl) ?_
   exact .nil
  refine aj.bR (ins:=[.box b13 [v58,w60],aA ae ah.kids 7 5 v58 ws59 z57.2.l none,aG w60 z57.2.freed]) (more:=[.box b65 [(.d (.str (Tree.mk [98] [] [] [] []).Tag)),(.d (.str (Tree.mk [98] [] [] [] []).Key)),(.d (.str (Tree.mk [98] [] [] [] []).Text)),(.d (.sl (((Tree.mk [98] [] [] [] []).aI).map ay) false)),(.d (.sl (((Tree.mk [98] [] [] [] []).Kids).map ai) false))],.box b52 [(.d (.str z48.1.Tag)),(.d (.str z48.1.Key)),(.d (.str z48.1.Text)),(.d (.sl ((z48.1.aI).map ay) false)),(.d (.sl ((z48.1.Kids).map ai) false))],.box b3 [(.d (.sl ((a1.Under).map (D.int .i64)) false)),(.d (.sl ((a1.Kinds).map (D.int .i64)) false)),(.d (.sl ((a1.Keys).map (D.int .i64)) false)),(.d (.sl ((a1.Texts).map (D.int .i64)) false))]]) (H98.sl [3,4,5,0,1,2] rfl rfl) rfl (az rfl rfl) (gu E n _ _ hzz90 b13 v58 ws59 w60) (.cons (.refl _) .nil) rfl ?_
  rintro _ S99 _ ⟨rfl,rfl⟩ H100
  have H101:Has aL S99 [.box b65 [(.d (.str (Tree.mk [98] [] [] [] []).Tag)),(.d (.str (Tree.mk [98] [] [] [] []).Key)),(.d (.str (Tree.mk [98] [] [] [] []).Text)),(.d (.sl (((Tree.mk [98] [] [] [] []).aI).map ay) false)),(.d (.sl (((Tree.mk [98] [] [] [] []).Kids).map ai) false))],.box b52 [(.d (.str z48.1.Tag)),(.d (.str z48.1.Key)),(.d (.str z48.1.Text)),(.d (.sl ((z48.1.aI).map ay) false)),(.d (.sl ((z48.1.Kids).map ai) false))],.box b3 [(.d (.sl ((a1.Under).map (D.int .i64)) false)),(.d (.sl ((a1.Kinds).map (D.int .i64)) false)),(.d (.sl ((a1.Keys).map (D.int .i64)) false)),(.d (.sl ((a1.Texts).map (D.int .i64)) false))],.box b13 [v58,w60],aA ae ah.kids 7 5 v58 ws59 z57.2.l none,aG w60 z57.2.freed]:=H100.sl [3,4,5,0,1,2] rfl rfl
  refine aj.nil ⟨_,_,_,rfl,(fun _ ht=>by cases ht; rfl),_,(.q (.q (.q (.o (.o (.o (.w (.d (.sl ((z90).map (D.int .i64)) false)) (.q (.w (.d (.bool z94)) (.w (.d (.bool z94)) (.f (.z (.z (.m (.m (.m (.m (.m (.m (.m (.m (.m (.m (.n .nil)))))))))))))))))))))))),(fun _ ht=>by cases ht; exact ⟨_,rfl,.refl _⟩),?_⟩
  refine ⟨[16,17,18,19,20,21,22,23,24],by kernel_rfl,?_,_,_,rfl,rfl,.no rfl ?_⟩
  ·
   refine .v rfl rfl rfl rfl (aa rfl) ?_
   refine .v rfl rfl rfl rfl (aa rfl) ?_
   refine .v rfl rfl rfl rfl (aa rfl) ?_
   refine .v rfl rfl rfl rfl (aR (vs:=[(.d (.int .i64 z18.1)),(.d (.int .i64 z57.1)),(.d (.int .i64 z26.1))]) (ds:=[(.int .i64 z18.1),(.int .i64 z57.1),(.int .i64 z26.1)]) o7 fQ nV wD kV rfl (by decide) (.cons rfl rfl (.cons rfl rfl (.cons rfl rfl .nil))) rfl (by intro d hd; simp only [List.mem_cons,List.not_mem_nil,or_false] at hd; rcases hd with rfl | rfl | rfl <;> rfl) rfl) ?_
   refine .cons rfl rfl rfl (.step ?_) ?_
   ·
    refine aj.ret rfl (az rfl rfl) (dK E _ _ _ _ hzz94 _ _ (aN.eq (aN.dE rfl (.iL _ _) .nil))) rfl ?_
    exact aj.nil ⟨_,_,rfl,fun _ ht=>by cases ht; exact ⟨rfl,.refl _⟩⟩
   refine .v rfl rfl rfl rfl (aC (b:=true) rfl rfl) ?_
   refine .cons rfl rfl rfl (.val rfl (aa rfl) (.eq (by rw [hb95]))) ?_
   refine .cons rfl rfl rfl (.no rfl (.refl _)) ?_
   refine .cons rfl rfl rfl (.no rfl (.refl _)) ?_
   exact .nil
  refine ⟨_,(.q (.q (.q (.q (.q (.q (.o (.z (.z (.f (.f (.z (.z (.z (.m (.m (.m (.m (.m (.m (.m (.m (.n (.n .nil)))))))))))))))))))))))),(fun _ ht=>by cases ht; exact ⟨_,rfl,.refl _⟩),?_⟩
  refine ⟨[26,27,28,29,30,31],by kernel_rfl,?_,_,_,rfl,rfl,.no rfl ?_⟩
  ·
   refine .cons rfl rfl rfl (.no rfl (.refl _)) ?_
   refine .v rfl rfl rfl rfl (aC (b:=false) rfl rfl) ?_
   refine .v rfl rfl rfl rfl (aa rfl) ?_
   refine .cons rfl rfl rfl (.no rfl (.refl _)) ?_
   refine .cons rfl rfl rfl (.no rfl (.refl _)) ?_
   refine .cons rfl rfl rfl (.no rfl (.refl _)) ?_
   exact .nil
  refine ⟨_,(.q (.q (.q (.q (.q (.q (.q (.q (.z (.z (.f (.f (.z (.z (.m (.m (.m (.m (.m (.m (.m .nil))))))))))))))))))))),(fun _ ht=>by cases ht; exact ⟨_,rfl,.refl _⟩),?_⟩
  refine ⟨[33,34,35,36,37],by kernel_rfl,?_,_,_,rfl,rfl,.no rfl ?_⟩
  ·
   refine .cons rfl rfl rfl (.no rfl (.refl _)) ?_
   refine .v rfl rfl rfl rfl (aC (b:=false) rfl rfl) ?_
   refine .v rfl rfl rfl rfl (aa rfl) ?_
   refine .cons rfl rfl rfl (.no rfl (.refl _)) ?_
   refine .cons rfl rfl rfl (.no rfl (.refl _)) ?_
   exact .nil
  refine ⟨_,(.q (.q (.q (.q (.q (.q (.q (.q (.q (.o (.o (.z (.z (.f (.f (.z (.z (.m (.m (.m (.m (.m (.n (.n .nil)))))))))))))))))))))))),(fun _ ht=>by cases ht; exact ⟨_,rfl,.refl _⟩),?_⟩
  refine ⟨[39,40,41,42,43],by kernel_rfl,?_,_,_,rfl,rfl,.no rfl ?_⟩
  ·
   refine .cons rfl rfl rfl (.no rfl (.refl _)) ?_
   refine .v rfl rfl rfl rfl (aC (b:=false) rfl rfl) ?_
   refine .v rfl rfl rfl rfl (aa rfl) ?_
   refine .cons rfl rfl rfl (.no rfl (.refl _)) ?_
   refine .cons rfl rfl rfl (.no rfl (.refl _)) ?_
   exact .nil
  refine ⟨_,(.q (.q (.q (.q (.q (.q (.q (.q (.q (.q (.q (.z (.z (.f (.f (.z (.z (.z (.m (.m (.m (.n (.n (.n .nil)))))))))))))))))))))))),(fun _ ht=>by cases ht; exact ⟨_,rfl,.refl _⟩),?_⟩
  refine ⟨[45,46,47,48,49,50],by kernel_rfl,?_,_,_,rfl,rfl,.no rfl ?_⟩
  ·
   refine .cons rfl rfl rfl (.no rfl (.refl _)) ?_
   refine .v rfl rfl rfl rfl (aC (b:=false) rfl rfl) ?_
   refine .v rfl rfl rfl rfl (aa rfl) ?_
   refine .cons rfl rfl rfl (.no rfl (.refl _)) ?_
   refine .cons rfl rfl rfl (.no rfl (.refl _)) ?_
   refine .cons rfl rfl rfl (.no rfl (.refl _)) ?_
   exact .nil
  refine ⟨_,(.q (.q (.q (.q (.q (.q (.q (.q (.q (.q (.q (.q (.o (.o (.o (.z (.z (.f (.f (.z (.z (.z (.z (.z (.z (.f (.f (.z (.f (.f .nil)))))))))))))))))))))))))))))),(fun _ ht=>by cases ht; exact ⟨_,rfl,.refl _⟩),?_⟩
  refine ⟨[52,53,54,55,56,57,58,59,60,61,62,63,64,65],by kernel_rfl,?_,_,rfl,?_⟩
  ·
   refine .cons rfl rfl rfl (.no rfl (.refl _)) ?_
   refine .v rfl rfl rfl rfl (aC (b:=false) rfl rfl) ?_
   refine .v rfl rfl rfl rfl (aa rfl) ?_
   refine .cons rfl rfl rfl (.no rfl (.refl _)) ?_
   refine .cons rfl rfl rfl (.no rfl (.refl _)) ?_
   refine .cons rfl rfl rfl (.no rfl (.refl _)) ?_
   refine .cons rfl rfl rfl (.no rfl (.refl _)) ?_
   refine .cons rfl rfl rfl (.no rfl (.refl _)) ?_
   refine .cons rfl rfl rfl (.no rfl (.refl _)) ?_
   refine .v rfl rfl rfl rfl (aC (b:=false) rfl rfl) ?_
   refine .v rfl rfl rfl rfl (aa rfl) ?_
   refine .cons rfl rfl rfl (.no rfl (.refl _)) ?_
   refine .v rfl rfl rfl rfl (aC (b:=false) rfl rfl) ?_
   refine .v rfl rfl rfl rfl (ak rfl) ?_
   exact .nil
  exact ⟨⟨z57.2,v58,ws59,w60,false⟩,_,_,S99,.refl _ _,.refl _,(au.r rfl au.nil),H101.sl [] rfl rfl,h⟩
 replace h:=dH hb95 h
 obtain ⟨z102,hzz102,h⟩:=bind_some h
 rcases (Bool.eq_false_or_eq_true ((z102 == 0))).symm with hb106 | hb106
 ·
  replace h:=dI hb106 h
  refine aD.jf E.obj lQ yD [(4,some 65)] (by kernel_rfl) [10,15,25,32,38,44,51] (by decide) [some (.d (.bool z48.2)),some (.d (.bool true)),some (.d (ai z48.1)),some (.d (dL a1)),some (.d (ai z79)),some (.d (.bool z80)),some (.d (.bool z80)),some (.d (.bool true)),some (.ptr b13 0 0),some (.d (.int .i64 z26.1)),none,none,none,none,none,none,none,none,none,none,none,none,none,none,none,none,none,none,none,none,none,none,none,none,none,none,none,none,none,none,none,none,none,none,none,none,none,none,none,none,none,none,none,none,none,none,none,none,none,none,none,none,none,none,none,none] ?_
  refine ⟨[0,1,2,3,4,5,6,7,8,9],by kernel_rfl,?_,_,_,rfl,rfl,.step ?_⟩
  ·
   refine .v rfl rfl rfl rfl (aa rfl) ?_
   refine .cons rfl rfl rfl (.val rfl (aa rfl) (.eq (by rw [hb78]))) ?_
   refine .cons rfl rfl rfl (.step ?_) ?_
   ·
    refine aj.val rfl (aJ H69 (i:=1) rfl rfl (aW dX bE rfl)) rfl ?_
    refine aj.less (Less.agg' (d:=ai z48.1) (ax.eq rfl (ax.eq rfl (ax.eq rfl (ax.eq rfl (ax.eq rfl .nil))))) ((Tree.eq _).trans rfl)) ?_
    exact aj.nil ⟨_,_,rfl,fun _ ht=>by cases ht; exact ⟨rfl,.refl _⟩⟩
   refine .cons rfl rfl rfl (.step ?_) ?_
   ·
    refine aj.val rfl (aJ H69 (i:=2) rfl rfl (aW zU zI rfl)) rfl ?_
    refine aj.less (Less.agg' (d:=dL a1) (ax.eq rfl (ax.eq rfl (ax.eq rfl (ax.eq rfl .nil)))) ((fA.eq _).trans rfl)) ?_
    exact aj.nil ⟨_,_,rfl,fun _ ht=>by cases ht; exact ⟨rfl,.refl _⟩⟩
   refine .cons rfl rfl rfl (.step ?_) ?_
   ·
    refine aj.ret rfl (az rfl rfl) (bK E _ _ _ hzz79 _ _ (aN.eq .nil)) rfl ?_
    exact aj.nil ⟨_,_,rfl,fun _ ht=>by cases ht; exact ⟨rfl,.refl _⟩⟩
   refine .cons rfl rfl rfl (.step ?_) ?_
   ·
    refine aj.ret rfl (az rfl rfl) (bH E _ _ _ _ hzz80 _ _ (aN.eq (aN.eq .nil))) rfl ?_
    exact aj.nil ⟨_,_,rfl,fun _ ht=>by cases ht; exact ⟨rfl,.refl _⟩⟩
   refine .v rfl rfl rfl rfl (aC (b:=true) rfl rfl) ?_
   refine .cons rfl rfl rfl (.val rfl (aa rfl) (.eq (by rw [hb81]))) ?_
   refine .v rfl rfl rfl rfl (aa rfl) ?_
   refine .v rfl rfl rfl rfl (aa rfl) ?_
   exact .nil
  refine aj.bR (ins:=[.box b13 [v58,w60],aA ae ah.kids 7 5 v58 ws59 z57.2.l none,aG w60 z57.2.freed]) (more:=[.box b65 [(.d (.str (Tree.mk [98] [] [] [] []).Tag)),(.d (.str (Tree.mk [98] [] [] [] []).Key)),(.d (.str (Tree.mk [98] [] [] [] []).Text)),(.d (.sl (((Tree.mk [98] [] [] [] []).aI).map ay) false)),(.d (.sl (((Tree.mk [98] [] [] [] []).Kids).map ai) false))],.box b52 [(.d (.str z48.1.Tag)),(.d (.str z48.1.Key)),(.d (.str z48.1.Text)),(.d (.sl ((z48.1.aI).map ay) false)),(.d (.sl ((z48.1.Kids).map ai) false))],.box b3 [(.d (.sl ((a1.Under).map (D.int .i64)) false)),(.d (.sl ((a1.Kinds).map (D.int .i64)) false)),(.d (.sl ((a1.Keys).map (D.int .i64)) false)),(.d (.sl ((a1.Texts).map (D.int .i64)) false))]]) (H69.sl [3,4,5,0,1,2] rfl rfl) rfl (az rfl rfl) (eT E n _ _ _ hzz82 b13 v58 ws59 w60) (.cons (.refl _) (.cons (.refl _) .nil)) rfl ?_
  rintro _ S107 _ ⟨rfl,rfl⟩ H108
  have H109:Has aL S107 [.box b65 [(.d (.str (Tree.mk [98] [] [] [] []).Tag)),(.d (.str (Tree.mk [98] [] [] [] []).Key)),(.d (.str (Tree.mk [98] [] [] [] []).Text)),(.d (.sl (((Tree.mk [98] [] [] [] []).aI).map ay) false)),(.d (.sl (((Tree.mk [98] [] [] [] []).Kids).map ai) false))],.box b52 [(.d (.str z48.1.Tag)),(.d (.str z48.1.Key)),(.d (.str z48.1.Text)),(.d (.sl ((z48.1.aI).map ay) false)),(.d (.sl ((z48.1.Kids).map ai) false))],.box b3 [(.d (.sl ((a1.Under).map (D.int .i64)) false)),(.d (.sl ((a1.Kinds).map (D.int .i64)) false)),(.d (.sl ((a1.Keys).map (D.int .i64)) false)),(.d (.sl ((a1.Texts).map (D.int .i64)) false))],.box b13 [v58,w60],aA ae ah.kids 7 5 v58 ws59 z57.2.l none,aG w60 z57.2.freed]:=H108.sl [3,4,5,0,1,2] rfl rfl
  refine aj.nil ⟨_,_,_,rfl,(fun _ ht=>by cases ht; rfl),_,(.q (.q (.o (.o (.w (.d (.int .i64 z82)) (.w (.d (.bool (z82 == 0))) (.w (.d (.bool (z82 == 0))) (.w (.d (.bool true)) (.w (.ptr b13 0 0) (.n (.w (.d (.int .i64 z18.1)) (.w (.d (.int .i64 z57.1)) (.w (.d (.int .i64 z26.1)) (.w (.d (.sl (([z18.1,z57.1,z26.1]).map (D.int .i64)) true)) (.m (.m (.m (.m (.m (.m (.m (.m (.m (.m (.m (.n (.n .nil))))))))))))))))))))))))))),(fun _ ht=>by cases ht; exact ⟨_,rfl,.refl _⟩),?_⟩
  refine ⟨[11,12,13,14,16,17,18,19],by kernel_rfl,?_,_,_,rfl,rfl,.step ?_⟩
  ·
   refine .v rfl rfl rfl rfl (aH rfl rfl bD) ?_
   refine .v rfl rfl rfl rfl (aC (b:=true) rfl rfl) ?_
   refine .cons rfl rfl rfl (.val rfl (aa rfl) (.eq (by rw [hb86]))) ?_
   refine .v rfl rfl rfl rfl (aa rfl) ?_
   refine .v rfl rfl rfl rfl (aa rfl) ?_
   refine .v rfl rfl rfl rfl (aa rfl) ?_
   refine .v rfl rfl rfl rfl (aa rfl) ?_
   refine .v rfl rfl rfl rfl (aR (vs:=[(.d (.int .i64 z18.1)),(.d (.int .i64 z57.1)),(.d (.int .i64 z26.1))]) (ds:=[(.int .i64 z18.1),(.int .i64 z57.1),(.int .i64 z26.1)]) o7 fQ nV wD kV rfl (by decide) (.cons rfl rfl (.cons rfl rfl (.cons rfl rfl .nil))) rfl (by intro d hd; simp only [List.mem_cons,List.not_mem_nil,or_false] at hd; rcases hd with rfl | rfl | rfl <;> rfl) rfl) ?_
   exact .nil
  refine aj.bR (ins:=[.box b13 [v58,w60],aA ae ah.kids 7 5 v58 ws59 z57.2.l none,aG w60 z57.2.freed]) (more:=[.box b65 [(.d (.str (Tree.mk [98] [] [] [] []).Tag)),(.d (.str (Tree.mk [98] [] [] [] []).Key)),(.d (.str (Tree.mk [98] [] [] [] []).Text)),(.d (.sl (((Tree.mk [98] [] [] [] []).aI).map ay) false)),(.d (.sl (((Tree.mk [98] [] [] [] []).Kids).map ai) false))],.box b52 [(.d (.str z48.1.Tag)),(.d (.str z48.1.Key)),(.d (.str z48.1.Text)),(.d (.sl ((z48.1.aI).map ay) false)),(.d (.sl ((z48.1.Kids).map ai) false))],.box b3 [(.d (.sl ((a1.Under).map (D.int .i64)) false)),(.d (.sl ((a1.Kinds).map (D.int .i64)) false)),(.d (.sl ((a1.Keys).map (D.int .i64)) false)),(.d (.sl ((a1.Texts).map (D.int .i64)) false))]]) (H109.sl [3,4,5,0,1,2] rfl rfl) rfl (az rfl rfl) (gu E n _ _ hzz90 b13 v58 ws59 w60) (.cons (.refl _) .nil) rfl ?_
  rintro _ S110 _ ⟨rfl,rfl⟩ H111
  have H112:Has aL S110 [.box b65 [(.d (.str (Tree.mk [98] [] [] [] []).Tag)),(.d (.str (Tree.mk [98] [] [] [] []).Key)),(.d (.str (Tree.mk [98] [] [] [] []).Text)),(.d (.sl (((Tree.mk [98] [] [] [] []).aI).map ay) false)),(.d (.sl (((Tree.mk [98] [] [] [] []).Kids).map ai) false))],.box b52 [(.d (.str z48.1.Tag)),(.d (.str z48.1.Key)),(.d (.str z48.1.Text)),(.d (.sl ((z48.1.aI).map ay) false)),(.d (.sl ((z48.1.Kids).map ai) false))],.box b3 [(.d (.sl ((a1.Under).map (D.int .i64)) false)),(.d (.sl ((a1.Kinds).map (D.int .i64)) false)),(.d (.sl ((a1.Keys).map (D.int .i64)) false)),(.d (.sl ((a1.Texts).map (D.int .i64)) false))],.box b13 [v58,w60],aA ae ah.kids 7 5 v58 ws59 z57.2.l none,aG w60 z57.2.freed]:=H111.sl [3,4,5,0,1,2] rfl rfl
  refine aj.nil ⟨_,_,_,rfl,(fun _ ht=>by cases ht; rfl),_,(.q (.q (.q (.o (.o (.o (.w (.d (.sl ((z90).map (D.int .i64)) false)) (.q (.w (.d (.bool z94)) (.w (.d (.bool z94)) (.w (.d (.bool true)) (.w (.ptr b13 0 0) (.w (.d (.int .i64 z57.1)) (.m (.m (.m (.m (.m (.m (.m (.m (.m (.m (.n .nil)))))))))))))))))))))))),(fun _ ht=>by cases ht; exact ⟨_,rfl,.refl _⟩),?_⟩
  refine ⟨[16,17,18,19,20,21,22,23,24],by kernel_rfl,?_,_,_,rfl,rfl,.step ?_⟩
  ·
   refine .v rfl rfl rfl rfl (aa rfl) ?_
   refine .v rfl rfl rfl rfl (aa rfl) ?_
   refine .v rfl rfl rfl rfl (aa rfl) ?_
   refine .v rfl rfl rfl rfl (aR (vs:=[(.d (.int .i64 z18.1)),(.d (.int .i64 z57.1)),(.d (.int .i64 z26.1))]) (ds:=[(.int .i64 z18.1),(.int .i64 z57.1),(.int .i64 z26.1)]) o7 fQ nV wD kV rfl (by decide) (.cons rfl rfl (.cons rfl rfl (.cons rfl rfl .nil))) rfl (by intro d hd; simp only [List.mem_cons,List.not_mem_nil,or_false] at hd; rcases hd with rfl | rfl | rfl <;> rfl) rfl) ?_
   refine .cons rfl rfl rfl (.step ?_) ?_
   ·
    refine aj.ret rfl (az rfl rfl) (dK E _ _ _ _ hzz94 _ _ (aN.eq (aN.dE rfl (.iL _ _) .nil))) rfl ?_
    exact aj.nil ⟨_,_,rfl,fun _ ht=>by cases ht; exact ⟨rfl,.refl _⟩⟩
   refine .v rfl rfl rfl rfl (aC (b:=true) rfl rfl) ?_
   refine .cons rfl rfl rfl (.val rfl (aa rfl) (.eq (by rw [hb95]))) ?_
   refine .v rfl rfl rfl rfl (aa rfl) ?_
   refine .v rfl rfl rfl rfl (aa rfl) ?_
   exact .nil
  refine aj.bR (ins:=[.box b13 [v58,w60],aA ae ah.kids 7 5 v58 ws59 z57.2.l none,aG w60 z57.2.freed]) (more:=[.box b65 [(.d (.str (Tree.mk [98] [] [] [] []).Tag)),(.d (.str (Tree.mk [98] [] [] [] []).Key)),(.d (.str (Tree.mk [98] [] [] [] []).Text)),(.d (.sl (((Tree.mk [98] [] [] [] []).aI).map ay) false)),(.d (.sl (((Tree.mk [98] [] [] [] []).Kids).map ai) false))],.box b52 [(.d (.str z48.1.Tag)),(.d (.str z48.1.Key)),(.d (.str z48.1.Text)),(.d (.sl ((z48.1.aI).map ay) false)),(.d (.sl ((z48.1.Kids).map ai) false))],.box b3 [(.d (.sl ((a1.Under).map (D.int .i64)) false)),(.d (.sl ((a1.Kinds).map (D.int .i64)) false)),(.d (.sl ((a1.Keys).map (D.int .i64)) false)),(.d (.sl ((a1.Texts).map (D.int .i64)) false))]]) (H112.sl [3,4,5,0,1,2] rfl rfl) rfl (az rfl rfl) (cK E n _ _ _ hzz102 b13 v58 ws59 w60) (.cons (.refl _) (.cons (.refl _) .nil)) rfl ?_
  rintro _ S113 _ ⟨rfl,rfl⟩ H114
  have H115:Has aL S113 [.box b65 [(.d (.str (Tree.mk [98] [] [] [] []).Tag)),(.d (.str (Tree.mk [98] [] [] [] []).Key)),(.d (.str (Tree.mk [98] [] [] [] []).Text)),(.d (.sl (((Tree.mk [98] [] [] [] []).aI).map ay) false)),(.d (.sl (((Tree.mk [98] [] [] [] []).Kids).map ai) false))],.box b52 [(.d (.str z48.1.Tag)),(.d (.str z48.1.Key)),(.d (.str z48.1.Text)),(.d (.sl ((z48.1.aI).map ay) false)),(.d (.sl ((z48.1.Kids).map ai) false))],.box b3 [(.d (.sl ((a1.Under).map (D.int .i64)) false)),(.d (.sl ((a1.Kinds).map (D.int .i64)) false)),(.d (.sl ((a1.Keys).map (D.int .i64)) false)),(.d (.sl ((a1.Texts).map (D.int .i64)) false))],.box b13 [v58,w60],aA ae ah.kids 7 5 v58 ws59 z57.2.l none,aG w60 z57.2.freed]:=H114.sl [3,4,5,0,1,2] rfl rfl
  refine aj.nil ⟨_,_,_,rfl,(fun _ ht=>by cases ht; rfl),_,(.q (.q (.q (.q (.q (.q (.o (.w (.d (.int .i64 z102)) (.w (.d (.bool (z102 == 0))) (.w (.d (.bool (z102 == 0))) (.f (.z (.z (.z (.m (.m (.m (.m (.m (.m (.m (.m (.n (.n .nil)))))))))))))))))))))))),(fun _ ht=>by cases ht; exact ⟨_,rfl,.refl _⟩),?_⟩
  refine ⟨[26,27,28,29,30,31],by kernel_rfl,?_,_,_,rfl,rfl,.no rfl ?_⟩
  ·
   refine .v rfl rfl rfl rfl (aH rfl rfl bD) ?_
   refine .v rfl rfl rfl rfl (aC (b:=true) rfl rfl) ?_
   refine .cons rfl rfl rfl (.val rfl (aa rfl) (.eq (by rw [hb106]))) ?_
   refine .cons rfl rfl rfl (.no rfl (.refl _)) ?_
   refine .cons rfl rfl rfl (.no rfl (.refl _)) ?_
   refine .cons rfl rfl rfl (.no rfl (.refl _)) ?_
   exact .nil
  refine ⟨_,(.q (.q (.q (.q (.q (.q (.q (.q (.z (.z (.f (.f (.z (.z (.m (.m (.m (.m (.m (.m (.m .nil))))))))))))))))))))),(fun _ ht=>by cases ht; exact ⟨_,rfl,.refl _⟩),?_⟩
  refine ⟨[33,34,35,36,37],by kernel_rfl,?_,_,_,rfl,rfl,.no rfl ?_⟩
  ·
   refine .cons rfl rfl rfl (.no rfl (.refl _)) ?_
   refine .v rfl rfl rfl rfl (aC (b:=false) rfl rfl) ?_
   refine .v rfl rfl rfl rfl (aa rfl) ?_
   refine .cons rfl rfl rfl (.no rfl (.refl _)) ?_
   refine .cons rfl rfl rfl (.no rfl (.refl _)) ?_
   exact .nil
  refine ⟨_,(.q (.q (.q (.q (.q (.q (.q (.q (.q (.o (.o (.z (.z (.f (.f (.z (.z (.m (.m (.m (.m (.m (.n (.n .nil)))))))))))))))))))))))),(fun _ ht=>by cases ht; exact ⟨_,rfl,.refl _⟩),?_⟩
  refine ⟨[39,40,41,42,43],by kernel_rfl,?_,_,_,rfl,rfl,.no rfl ?_⟩
  ·
   refine .cons rfl rfl rfl (.no rfl (.refl _)) ?_
   refine .v rfl rfl rfl rfl (aC (b:=false) rfl rfl) ?_
   refine .v rfl rfl rfl rfl (aa rfl) ?_
   refine .cons rfl rfl rfl (.no rfl (.refl _)) ?_
   refine .cons rfl rfl rfl (.no rfl (.refl _)) ?_
   exact .nil
  refine ⟨_,(.q (.q (.q (.q (.q (.q (.q (.q (.q (.q (.q (.z (.z (.f (.f (.z (.z (.z (.m (.m (.m (.n (.n (.n .nil)))))))))))))))))))))))),(fun _ ht=>by cases ht; exact ⟨_,rfl,.refl _⟩),?_⟩
  refine ⟨[45,46,47,48,49,50],by kernel_rfl,?_,_,_,rfl,rfl,.no rfl ?_⟩
  ·
   refine .cons rfl rfl rfl (.no rfl (.refl _)) ?_
   refine .v rfl rfl rfl rfl (aC (b:=false) rfl rfl) ?_
   refine .v rfl rfl rfl rfl (aa rfl) ?_
   refine .cons rfl rfl rfl (.no rfl (.refl _)) ?_
   refine .cons rfl rfl rfl (.no rfl (.refl _)) ?_
   refine .cons rfl rfl rfl (.no rfl (.refl _)) ?_
   exact .nil
  refine ⟨_,(.q (.q (.q (.q (.q (.q (.q (.q (.q (.q (.q (.q (.o (.o (.o (.z (.z (.f (.f (.z (.z (.z (.z (.z (.z (.f (.f (.z (.f (.f .nil)))))))))))))))))))))))))))))),(fun _ ht=>by cases ht; exact ⟨_,rfl,.refl _⟩),?_⟩
  refine ⟨[52,53,54,55,56,57,58,59,60,61,62,63,64,65],by kernel_rfl,?_,_,rfl,?_⟩
  ·
   refine .cons rfl rfl rfl (.no rfl (.refl _)) ?_
   refine .v rfl rfl rfl rfl (aC (b:=false) rfl rfl) ?_
   refine .v rfl rfl rfl rfl (aa rfl) ?_
   refine .cons rfl rfl rfl (.no rfl (.refl _)) ?_
   refine .cons rfl rfl rfl (.no rfl (.refl _)) ?_
   refine .cons rfl rfl rfl (.no rfl (.refl _)) ?_
   refine .cons rfl rfl rfl (.no rfl (.refl _)) ?_
   refine .cons rfl rfl rfl (.no rfl (.refl _)) ?_
   refine .cons rfl rfl rfl (.no rfl (.refl _)) ?_
   refine .v rfl rfl rfl rfl (aC (b:=false) rfl rfl) ?_
   refine .v rfl rfl rfl rfl (aa rfl) ?_
   refine .cons rfl rfl rfl (.no rfl (.refl _)) ?_
   refine .v rfl rfl rfl rfl (aC (b:=false) rfl rfl) ?_
   refine .v rfl rfl rfl rfl (ak rfl) ?_
   exact .nil
  exact ⟨⟨z57.2,v58,ws59,w60,false⟩,_,_,S113,.refl _ _,.refl _,(au.r rfl au.nil),H115.sl [] rfl rfl,h⟩
 replace h:=dH hb106 h
 obtain ⟨z116,hzz116,h⟩:=bind_some h
 rcases (Bool.eq_false_or_eq_true ((!z116.1))).symm with hb122 | hb122
 ·
  replace h:=dI hb122 h
  refine aD.jf E.obj lQ yD [(4,some 65)] (by kernel_rfl) [10,15,25,32,38,44,51] (by decide) [some (.d (.bool z48.2)),some (.d (.bool true)),some (.d (ai z48.1)),some (.d (dL a1)),some (.d (ai z79)),some (.d (.bool z80)),some (.d (.bool z80)),some (.d (.bool true)),some (.ptr b13 0 0),some (.d (.int .i64 z26.1)),none,none,none,none,none,none,none,none,none,none,none,none,none,none,none,none,none,none,none,none,none,none,none,none,none,none,none,none,none,none,none,none,none,none,none,none,none,none,none,none,none,none,none,none,none,none,none,none,none,none,none,none,none,none,none,none] ?_
  refine ⟨[0,1,2,3,4,5,6,7,8,9],by kernel_rfl,?_,_,_,rfl,rfl,.step ?_⟩
  ·
   refine .v rfl rfl rfl rfl (aa rfl) ?_
   refine .cons rfl rfl rfl (.val rfl (aa rfl) (.eq (by rw [hb78]))) ?_
   refine .cons rfl rfl rfl (.step ?_) ?_
   ·
    refine aj.val rfl (aJ H69 (i:=1) rfl rfl (aW dX bE rfl)) rfl ?_
    refine aj.less (Less.agg' (d:=ai z48.1) (ax.eq rfl (ax.eq rfl (ax.eq rfl (ax.eq rfl (ax.eq rfl .nil))))) ((Tree.eq _).trans rfl)) ?_
    exact aj.nil ⟨_,_,rfl,fun _ ht=>by cases ht; exact ⟨rfl,.refl _⟩⟩
   refine .cons rfl rfl rfl (.step ?_) ?_
   ·
    refine aj.val rfl (aJ H69 (i:=2) rfl rfl (aW zU zI rfl)) rfl ?_
    refine aj.less (Less.agg' (d:=dL a1) (ax.eq rfl (ax.eq rfl (ax.eq rfl (ax.eq rfl .nil)))) ((fA.eq _).trans rfl)) ?_
    exact aj.nil ⟨_,_,rfl,fun _ ht=>by cases ht; exact ⟨rfl,.refl _⟩⟩
   refine .cons rfl rfl rfl (.step ?_) ?_
   ·
    refine aj.ret rfl (az rfl rfl) (bK E _ _ _ hzz79 _ _ (aN.eq .nil)) rfl ?_
    exact aj.nil ⟨_,_,rfl,fun _ ht=>by cases ht; exact ⟨rfl,.refl _⟩⟩
   refine .cons rfl rfl rfl (.step ?_) ?_
   ·
    refine aj.ret rfl (az rfl rfl) (bH E _ _ _ _ hzz80 _ _ (aN.eq (aN.eq .nil))) rfl ?_
    exact aj.nil ⟨_,_,rfl,fun _ ht=>by cases ht; exact ⟨rfl,.refl _⟩⟩
   refine .v rfl rfl rfl rfl (aC (b:=true) rfl rfl) ?_
   refine .cons rfl rfl rfl (.val rfl (aa rfl) (.eq (by rw [hb81]))) ?_
   refine .v rfl rfl rfl rfl (aa rfl) ?_
   refine .v rfl rfl rfl rfl (aa rfl) ?_
   exact .nil
  refine aj.bR (ins:=[.box b13 [v58,w60],aA ae ah.kids 7 5 v58 ws59 z57.2.l none,aG w60 z57.2.freed]) (more:=[.box b65 [(.d (.str (Tree.mk [98] [] [] [] []).Tag)),(.d (.str (Tree.mk [98] [] [] [] []).Key)),(.d (.str (Tree.mk [98] [] [] [] []).Text)),(.d (.sl (((Tree.mk [98] [] [] [] []).aI).map ay) false)),(.d (.sl (((Tree.mk [98] [] [] [] []).Kids).map ai) false))],.box b52 [(.d (.str z48.1.Tag)),(.d (.str z48.1.Key)),(.d (.str z48.1.Text)),(.d (.sl ((z48.1.aI).map ay) false)),(.d (.sl ((z48.1.Kids).map ai) false))],.box b3 [(.d (.sl ((a1.Under).map (D.int .i64)) false)),(.d (.sl ((a1.Kinds).map (D.int .i64)) false)),(.d (.sl ((a1.Keys).map (D.int .i64)) false)),(.d (.sl ((a1.Texts).map (D.int .i64)) false))]]) (H69.sl [3,4,5,0,1,2] rfl rfl) rfl (az rfl rfl) (eT E n _ _ _ hzz82 b13 v58 ws59 w60) (.cons (.refl _) (.cons (.refl _) .nil)) rfl ?_
  rintro _ S123 _ ⟨rfl,rfl⟩ H124
  have H125:Has aL S123 [.box b65 [(.d (.str (Tree.mk [98] [] [] [] []).Tag)),(.d (.str (Tree.mk [98] [] [] [] []).Key)),(.d (.str (Tree.mk [98] [] [] [] []).Text)),(.d (.sl (((Tree.mk [98] [] [] [] []).aI).map ay) false)),(.d (.sl (((Tree.mk [98] [] [] [] []).Kids).map ai) false))],.box b52 [(.d (.str z48.1.Tag)),(.d (.str z48.1.Key)),(.d (.str z48.1.Text)),(.d (.sl ((z48.1.aI).map ay) false)),(.d (.sl ((z48.1.Kids).map ai) false))],.box b3 [(.d (.sl ((a1.Under).map (D.int .i64)) false)),(.d (.sl ((a1.Kinds).map (D.int .i64)) false)),(.d (.sl ((a1.Keys).map (D.int .i64)) false)),(.d (.sl ((a1.Texts).map (D.int .i64)) false))],.box b13 [v58,w60],aA ae ah.kids 7 5 v58 ws59 z57.2.l none,aG w60 z57.2.freed]:=H124.sl [3,4,5,0,1,2] rfl rfl
  refine aj.nil ⟨_,_,_,rfl,(fun _ ht=>by cases ht; rfl),_,(.q (.q (.o (.o (.w (.d (.int .i64 z82)) (.w (.d (.bool (z82 == 0))) (.w (.d (.bool (z82 == 0))) (.w (.d (.bool true)) (.w (.ptr b13 0 0) (.n (.w (.d (.int .i64 z18.1)) (.w (.d (.int .i64 z57.1)) (.w (.d (.int .i64 z26.1)) (.w (.d (.sl (([z18.1,z57.1,z26.1]).map (D.int .i64)) true)) (.m (.m (.m (.m (.m (.m (.m (.m (.m (.m (.m (.n (.n .nil))))))))))))))))))))))))))),(fun _ ht=>by cases ht; exact ⟨_,rfl,.refl _⟩),?_⟩
  refine ⟨[11,12,13,14,16,17,18,19],by kernel_rfl,?_,_,_,rfl,rfl,.step ?_⟩
  ·
   refine .v rfl rfl rfl rfl (aH rfl rfl bD) ?_
   refine .v rfl rfl rfl rfl (aC (b:=true) rfl rfl) ?_
   refine .cons rfl rfl rfl (.val rfl (aa rfl) (.eq (by rw [hb86]))) ?_
   refine .v rfl rfl rfl rfl (aa rfl) ?_
   refine .v rfl rfl rfl rfl (aa rfl) ?_
   refine .v rfl rfl rfl rfl (aa rfl) ?_
   refine .v rfl rfl rfl rfl (aa rfl) ?_
   refine .v rfl rfl rfl rfl (aR (vs:=[(.d (.int .i64 z18.1)),(.d (.int .i64 z57.1)),(.d (.int .i64 z26.1))]) (ds:=[(.int .i64 z18.1),(.int .i64 z57.1),(.int .i64 z26.1)]) o7 fQ nV wD kV rfl (by decide) (.cons rfl rfl (.cons rfl rfl (.cons rfl rfl .nil))) rfl (by intro d hd; simp only [List.mem_cons,List.not_mem_nil,or_false] at hd; rcases hd with rfl | rfl | rfl <;> rfl) rfl) ?_
   exact .nil
  refine aj.bR (ins:=[.box b13 [v58,w60],aA ae ah.kids 7 5 v58 ws59 z57.2.l none,aG w60 z57.2.freed]) (more:=[.box b65 [(.d (.str (Tree.mk [98] [] [] [] []).Tag)),(.d (.str (Tree.mk [98] [] [] [] []).Key)),(.d (.str (Tree.mk [98] [] [] [] []).Text)),(.d (.sl (((Tree.mk [98] [] [] [] []).aI).map ay) false)),(.d (.sl (((Tree.mk [98] [] [] [] []).Kids).map ai) false))],.box b52 [(.d (.str z48.1.Tag)),(.d (.str z48.1.Key)),(.d (.str z48.1.Text)),(.d (.sl ((z48.1.aI).map ay) false)),(.d (.sl ((z48.1.Kids).map ai) false))],.box b3 [(.d (.sl ((a1.Under).map (D.int .i64)) false)),(.d (.sl ((a1.Kinds).map (D.int .i64)) false)),(.d (.sl ((a1.Keys).map (D.int .i64)) false)),(.d (.sl ((a1.Texts).map (D.int .i64)) false))]]) (H125.sl [3,4,5,0,1,2] rfl rfl) rfl (az rfl rfl) (gu E n _ _ hzz90 b13 v58 ws59 w60) (.cons (.refl _) .nil) rfl ?_
  rintro _ S126 _ ⟨rfl,rfl⟩ H127
  have H128:Has aL S126 [.box b65 [(.d (.str (Tree.mk [98] [] [] [] []).Tag)),(.d (.str (Tree.mk [98] [] [] [] []).Key)),(.d (.str (Tree.mk [98] [] [] [] []).Text)),(.d (.sl (((Tree.mk [98] [] [] [] []).aI).map ay) false)),(.d (.sl (((Tree.mk [98] [] [] [] []).Kids).map ai) false))],.box b52 [(.d (.str z48.1.Tag)),(.d (.str z48.1.Key)),(.d (.str z48.1.Text)),(.d (.sl ((z48.1.aI).map ay) false)),(.d (.sl ((z48.1.Kids).map ai) false))],.box b3 [(.d (.sl ((a1.Under).map (D.int .i64)) false)),(.d (.sl ((a1.Kinds).map (D.int .i64)) false)),(.d (.sl ((a1.Keys).map (D.int .i64)) false)),(.d (.sl ((a1.Texts).map (D.int .i64)) false))],.box b13 [v58,w60],aA ae ah.kids 7 5 v58 ws59 z57.2.l none,aG w60 z57.2.freed]:=H127.sl [3,4,5,0,1,2] rfl rfl
  refine aj.nil ⟨_,_,_,rfl,(fun _ ht=>by cases ht; rfl),_,(.q (.q (.q (.o (.o (.o (.w (.d (.sl ((z90).map (D.int .i64)) false)) (.q (.w (.d (.bool z94)) (.w (.d (.bool z94)) (.w (.d (.bool true)) (.w (.ptr b13 0 0) (.w (.d (.int .i64 z57.1)) (.m (.m (.m (.m (.m (.m (.m (.m (.m (.m (.n .nil)))))))))))))))))))))))),(fun _ ht=>by cases ht; exact ⟨_,rfl,.refl _⟩),?_⟩
  refine ⟨[16,17,18,19,20,21,22,23,24],by kernel_rfl,?_,_,_,rfl,rfl,.step ?_⟩
  ·
   refine .v rfl rfl rfl rfl (aa rfl) ?_
   refine .v rfl rfl rfl rfl (aa rfl) ?_
   refine .v rfl rfl rfl rfl (aa rfl) ?_
   refine .v rfl rfl rfl rfl (aR (vs:=[(.d (.int .i64 z18.1)),(.d (.int .i64 z57.1)),(.d (.int .i64 z26.1))]) (ds:=[(.int .i64 z18.1),(.int .i64 z57.1),(.int .i64 z26.1)]) o7 fQ nV wD kV rfl (by decide) (.cons rfl rfl (.cons rfl rfl (.cons rfl rfl .nil))) rfl (by intro d hd; simp only [List.mem_cons,List.not_mem_nil,or_false] at hd; rcases hd with rfl | rfl | rfl <;> rfl) rfl) ?_
   refine .cons rfl rfl rfl (.step ?_) ?_
   ·
    refine aj.ret rfl (az rfl rfl) (dK E _ _ _ _ hzz94 _ _ (aN.eq (aN.dE rfl (.iL _ _) .nil))) rfl ?_
    exact aj.nil ⟨_,_,rfl,fun _ ht=>by cases ht; exact ⟨rfl,.refl _⟩⟩
   refine .v rfl rfl rfl rfl (aC (b:=true) rfl rfl) ?_
   refine .cons rfl rfl rfl (.val rfl (aa rfl) (.eq (by rw [hb95]))) ?_
   refine .v rfl rfl rfl rfl (aa rfl) ?_
   refine .v rfl rfl rfl rfl (aa rfl) ?_
   exact .nil
  refine aj.bR (ins:=[.box b13 [v58,w60],aA ae ah.kids 7 5 v58 ws59 z57.2.l none,aG w60 z57.2.freed]) (more:=[.box b65 [(.d (.str (Tree.mk [98] [] [] [] []).Tag)),(.d (.str (Tree.mk [98] [] [] [] []).Key)),(.d (.str (Tree.mk [98] [] [] [] []).Text)),(.d (.sl (((Tree.mk [98] [] [] [] []).aI).map ay) false)),(.d (.sl (((Tree.mk [98] [] [] [] []).Kids).map ai) false))],.box b52 [(.d (.str z48.1.Tag)),(.d (.str z48.1.Key)),(.d (.str z48.1.Text)),(.d (.sl ((z48.1.aI).map ay) false)),(.d (.sl ((z48.1.Kids).map ai) false))],.box b3 [(.d (.sl ((a1.Under).map (D.int .i64)) false)),(.d (.sl ((a1.Kinds).map (D.int .i64)) false)),(.d (.sl ((a1.Keys).map (D.int .i64)) false)),(.d (.sl ((a1.Texts).map (D.int .i64)) false))]]) (H128.sl [3,4,5,0,1,2] rfl rfl) rfl (az rfl rfl) (cK E n _ _ _ hzz102 b13 v58 ws59 w60) (.cons (.refl _) (.cons (.refl _) .nil)) rfl ?_
  rintro _ S129 _ ⟨rfl,rfl⟩ H130
  have H131:Has aL S129 [.box b65 [(.d (.str (Tree.mk [98] [] [] [] []).Tag)),(.d (.str (Tree.mk [98] [] [] [] []).Key)),(.d (.str (Tree.mk [98] [] [] [] []).Text)),(.d (.sl (((Tree.mk [98] [] [] [] []).aI).map ay) false)),(.d (.sl (((Tree.mk [98] [] [] [] []).Kids).map ai) false))],.box b52 [(.d (.str z48.1.Tag)),(.d (.str z48.1.Key)),(.d (.str z48.1.Text)),(.d (.sl ((z48.1.aI).map ay) false)),(.d (.sl ((z48.1.Kids).map ai) false))],.box b3 [(.d (.sl ((a1.Under).map (D.int .i64)) false)),(.d (.sl ((a1.Kinds).map (D.int .i64)) false)),(.d (.sl ((a1.Keys).map (D.int .i64)) false)),(.d (.sl ((a1.Texts).map (D.int .i64)) false))],.box b13 [v58,w60],aA ae ah.kids 7 5 v58 ws59 z57.2.l none,aG w60 z57.2.freed]:=H130.sl [3,4,5,0,1,2] rfl rfl
  refine aj.nil ⟨_,_,_,rfl,(fun _ ht=>by cases ht; rfl),_,(.q (.q (.q (.q (.q (.q (.o (.w (.d (.int .i64 z102)) (.w (.d (.bool (z102 == 0))) (.w (.d (.bool (z102 == 0))) (.w (.d (.bool true)) (.w (.ptr b13 0 0) (.w (.d (.int .i64 z57.1)) (.w (.d (.int .i64 z26.1)) (.m (.m (.m (.m (.m (.m (.m (.m (.n (.n .nil)))))))))))))))))))))))),(fun _ ht=>by cases ht; exact ⟨_,rfl,.refl _⟩),?_⟩
  refine ⟨[26,27,28,29,30,31],by kernel_rfl,?_,_,_,rfl,rfl,.step ?_⟩
  ·
   refine .v rfl rfl rfl rfl (aH rfl rfl bD) ?_
   refine .v rfl rfl rfl rfl (aC (b:=true) rfl rfl) ?_
   refine .cons rfl rfl rfl (.val rfl (aa rfl) (.eq (by rw [hb106]))) ?_
   refine .v rfl rfl rfl rfl (aa rfl) ?_
   refine .v rfl rfl rfl rfl (aa rfl) ?_
   refine .v rfl rfl rfl rfl (aa rfl) ?_
   exact .nil
  refine aj.bR (ins:=[.box b13 [v58,w60],aA ae ah.kids 7 5 v58 ws59 z57.2.l none,aG w60 z57.2.freed]) (more:=[.box b65 [(.d (.str (Tree.mk [98] [] [] [] []).Tag)),(.d (.str (Tree.mk [98] [] [] [] []).Key)),(.d (.str (Tree.mk [98] [] [] [] []).Text)),(.d (.sl (((Tree.mk [98] [] [] [] []).aI).map ay) false)),(.d (.sl (((Tree.mk [98] [] [] [] []).Kids).map ai) false))],.box b52 [(.d (.str z48.1.Tag)),(.d (.str z48.1.Key)),(.d (.str z48.1.Text)),(.d (.sl ((z48.1.aI).map ay) false)),(.d (.sl ((z48.1.Kids).map ai) false))],.box b3 [(.d (.sl ((a1.Under).map (D.int .i64)) false)),(.d (.sl ((a1.Kinds).map (D.int .i64)) false)),(.d (.sl ((a1.Keys).map (D.int .i64)) false)),(.d (.sl ((a1.Texts).map (D.int .i64)) false))]]) (H131.sl [3,4,5,0,1,2] rfl rfl) rfl (az rfl rfl) (gT E n _ _ _ _ hzz116 b13 v58 ws59 w60) (.cons (.refl _) (.cons (.refl _) (.cons (.refl _) .nil))) rfl ?_
  rintro _ S134 _ ⟨rfl,ws132,w133,rfl⟩ H135
  have H136:Has aL S134 [.box b65 [(.d (.str (Tree.mk [98] [] [] [] []).Tag)),(.d (.str (Tree.mk [98] [] [] [] []).Key)),(.d (.str (Tree.mk [98] [] [] [] []).Text)),(.d (.sl (((Tree.mk [98] [] [] [] []).aI).map ay) false)),(.d (.sl (((Tree.mk [98] [] [] [] []).Kids).map ai) false))],.box b52 [(.d (.str z48.1.Tag)),(.d (.str z48.1.Key)),(.d (.str z48.1.Text)),(.d (.sl ((z48.1.aI).map ay) false)),(.d (.sl ((z48.1.Kids).map ai) false))],.box b3 [(.d (.sl ((a1.Under).map (D.int .i64)) false)),(.d (.sl ((a1.Kinds).map (D.int .i64)) false)),(.d (.sl ((a1.Keys).map (D.int .i64)) false)),(.d (.sl ((a1.Texts).map (D.int .i64)) false))],.box b13 [v58,w133],aA ae ah.kids 7 5 v58 ws132 z116.2.l none,aG w133 z116.2.freed]:=H135.sl [3,4,5,0,1,2] rfl rfl
  refine aj.nil ⟨_,_,_,rfl,(fun _ ht=>by cases ht; rfl),_,(.q (.q (.q (.q (.q (.q (.q (.q (.w (.d (.bool z116.1)) (.w (.d (.bool (!z116.1))) (.w (.d (.bool (!z116.1))) (.f (.z (.z (.m (.m (.m (.m (.m (.m (.m .nil))))))))))))))))))))),(fun _ ht=>by cases ht; exact ⟨_,rfl,.refl _⟩),?_⟩
  refine ⟨[33,34,35,36,37],by kernel_rfl,?_,_,_,rfl,rfl,.no rfl ?_⟩
  ·
   refine .v rfl rfl rfl rfl (gW rfl) ?_
   refine .v rfl rfl rfl rfl (aC (b:=true) rfl rfl) ?_
   refine .cons rfl rfl rfl (.val rfl (aa rfl) (.eq (by rw [hb122]))) ?_
   refine .cons rfl rfl rfl (.no rfl (.refl _)) ?_
   refine .cons rfl rfl rfl (.no rfl (.refl _)) ?_
   exact .nil
  refine ⟨_,(.q (.q (.q (.q (.q (.q (.q (.q (.q (.o (.o (.z (.z (.f (.f (.z (.z (.m (.m (.m (.m (.m (.n (.n .nil)))))))))))))))))))))))),(fun _ ht=>by cases ht; exact ⟨_,rfl,.refl _⟩),?_⟩
  refine ⟨[39,40,41,42,43],by kernel_rfl,?_,_,_,rfl,rfl,.no rfl ?_⟩
  ·
   refine .cons rfl rfl rfl (.no rfl (.refl _)) ?_
   refine .v rfl rfl rfl rfl (aC (b:=false) rfl rfl) ?_
   refine .v rfl rfl rfl rfl (aa rfl) ?_
   refine .cons rfl rfl rfl (.no rfl (.refl _)) ?_
   refine .cons rfl rfl rfl (.no rfl (.refl _)) ?_
   exact .nil
  refine ⟨_,(.q (.q (.q (.q (.q (.q (.q (.q (.q (.q (.q (.z (.z (.f (.f (.z (.z (.z (.m (.m (.m (.n (.n (.n .nil)))))))))))))))))))))))),(fun _ ht=>by cases ht; exact ⟨_,rfl,.refl _⟩),?_⟩
  refine ⟨[45,46,47,48,49,50],by kernel_rfl,?_,_,_,rfl,rfl,.no rfl ?_⟩
  ·
   refine .cons rfl rfl rfl (.no rfl (.refl _)) ?_
   refine .v rfl rfl rfl rfl (aC (b:=false) rfl rfl) ?_
   refine .v rfl rfl rfl rfl (aa rfl) ?_
   refine .cons rfl rfl rfl (.no rfl (.refl _)) ?_
   refine .cons rfl rfl rfl (.no rfl (.refl _)) ?_
   refine .cons rfl rfl rfl (.no rfl (.refl _)) ?_
   exact .nil
  refine ⟨_,(.q (.q (.q (.q (.q (.q (.q (.q (.q (.q (.q (.q (.o (.o (.o (.z (.z (.f (.f (.z (.z (.z (.z (.z (.z (.f (.f (.z (.f (.f .nil)))))))))))))))))))))))))))))),(fun _ ht=>by cases ht; exact ⟨_,rfl,.refl _⟩),?_⟩
  refine ⟨[52,53,54,55,56,57,58,59,60,61,62,63,64,65],by kernel_rfl,?_,_,rfl,?_⟩
  ·
   refine .cons rfl rfl rfl (.no rfl (.refl _)) ?_
   refine .v rfl rfl rfl rfl (aC (b:=false) rfl rfl) ?_
   refine .v rfl rfl rfl rfl (aa rfl) ?_
   refine .cons rfl rfl rfl (.no rfl (.refl _)) ?_
   refine .cons rfl rfl rfl (.no rfl (.refl _)) ?_
   refine .cons rfl rfl rfl (.no rfl (.refl _)) ?_
   refine .cons rfl rfl rfl (.no rfl (.refl _)) ?_
   refine .cons rfl rfl rfl (.no rfl (.refl _)) ?_
   refine .cons rfl rfl rfl (.no rfl (.refl _)) ?_
   refine .v rfl rfl rfl rfl (aC (b:=false) rfl rfl) ?_
   refine .v rfl rfl rfl rfl (aa rfl) ?_
   refine .cons rfl rfl rfl (.no rfl (.refl _)) ?_
   refine .v rfl rfl rfl rfl (aC (b:=false) rfl rfl) ?_
   refine .v rfl rfl rfl rfl (ak rfl) ?_
   exact .nil
  exact ⟨⟨z116.2,v58,ws132,w133,false⟩,_,_,S134,.refl _ _,.refl _,(au.r rfl au.nil),H136.sl [] rfl rfl,h⟩
 replace h:=dH hb122 h
 obtain ⟨z137,hzz137,h⟩:=bind_some h
 rcases (Bool.eq_false_or_eq_true ((z137 == 0))).symm with hb141 | hb141
 ·
  replace h:=dI hb141 h
  refine aD.jf E.obj lQ yD [(4,some 65)] (by kernel_rfl) [10,15,25,32,38,44,51] (by decide) [some (.d (.bool z48.2)),some (.d (.bool true)),some (.d (ai z48.1)),some (.d (dL a1)),some (.d (ai z79)),some (.d (.bool z80)),some (.d (.bool z80)),some (.d (.bool true)),some (.ptr b13 0 0),some (.d (.int .i64 z26.1)),none,none,none,none,none,none,none,none,none,none,none,none,none,none,none,none,none,none,none,none,none,none,none,none,none,none,none,none,none,none,none,none,none,none,none,none,none,none,none,none,none,none,none,none,none,none,none,none,none,none,none,none,none,none,none,none] ?_
  refine ⟨[0,1,2,3,4,5,6,7,8,9],by kernel_rfl,?_,_,_,rfl,rfl,.step ?_⟩
  ·
   refine .v rfl rfl rfl rfl (aa rfl) ?_
   refine .cons rfl rfl rfl (.val rfl (aa rfl) (.eq (by rw [hb78]))) ?_
   refine .cons rfl rfl rfl (.step ?_) ?_
   ·
    refine aj.val rfl (aJ H69 (i:=1) rfl rfl (aW dX bE rfl)) rfl ?_
    refine aj.less (Less.agg' (d:=ai z48.1) (ax.eq rfl (ax.eq rfl (ax.eq rfl (ax.eq rfl (ax.eq rfl .nil))))) ((Tree.eq _).trans rfl)) ?_
    exact aj.nil ⟨_,_,rfl,fun _ ht=>by cases ht; exact ⟨rfl,.refl _⟩⟩
   refine .cons rfl rfl rfl (.step ?_) ?_
   ·
    refine aj.val rfl (aJ H69 (i:=2) rfl rfl (aW zU zI rfl)) rfl ?_
    refine aj.less (Less.agg' (d:=dL a1) (ax.eq rfl (ax.eq rfl (ax.eq rfl (ax.eq rfl .nil)))) ((fA.eq _).trans rfl)) ?_
    exact aj.nil ⟨_,_,rfl,fun _ ht=>by cases ht; exact ⟨rfl,.refl _⟩⟩
   refine .cons rfl rfl rfl (.step ?_) ?_
   ·
    refine aj.ret rfl (az rfl rfl) (bK E _ _ _ hzz79 _ _ (aN.eq .nil)) rfl ?_
    exact aj.nil ⟨_,_,rfl,fun _ ht=>by cases ht; exact ⟨rfl,.refl _⟩⟩
   refine .cons rfl rfl rfl (.step ?_) ?_
   ·
    refine aj.ret rfl (az rfl rfl) (bH E _ _ _ _ hzz80 _ _ (aN.eq (aN.eq .nil))) rfl ?_
    exact aj.nil ⟨_,_,rfl,fun _ ht=>by cases ht; exact ⟨rfl,.refl _⟩⟩
   refine .v rfl rfl rfl rfl (aC (b:=true) rfl rfl) ?_
   refine .cons rfl rfl rfl (.val rfl (aa rfl) (.eq (by rw [hb81]))) ?_
   refine .v rfl rfl rfl rfl (aa rfl) ?_
   refine .v rfl rfl rfl rfl (aa rfl) ?_
   exact .nil
  refine aj.bR (ins:=[.box b13 [v58,w60],aA ae ah.kids 7 5 v58 ws59 z57.2.l none,aG w60 z57.2.freed]) (more:=[.box b65 [(.d (.str (Tree.mk [98] [] [] [] []).Tag)),(.d (.str (Tree.mk [98] [] [] [] []).Key)),(.d (.str (Tree.mk [98] [] [] [] []).Text)),(.d (.sl (((Tree.mk [98] [] [] [] []).aI).map ay) false)),(.d (.sl (((Tree.mk [98] [] [] [] []).Kids).map ai) false))],.box b52 [(.d (.str z48.1.Tag)),(.d (.str z48.1.Key)),(.d (.str z48.1.Text)),(.d (.sl ((z48.1.aI).map ay) false)),(.d (.sl ((z48.1.Kids).map ai) false))],.box b3 [(.d (.sl ((a1.Under).map (D.int .i64)) false)),(.d (.sl ((a1.Kinds).map (D.int .i64)) false)),(.d (.sl ((a1.Keys).map (D.int .i64)) false)),(.d (.sl ((a1.Texts).map (D.int .i64)) false))]]) (H69.sl [3,4,5,0,1,2] rfl rfl) rfl (az rfl rfl) (eT E n _ _ _ hzz82 b13 v58 ws59 w60) (.cons (.refl _) (.cons (.refl _) .nil)) rfl ?_
  rintro _ S142 _ ⟨rfl,rfl⟩ H143
  have H144:Has aL S142 [.box b65 [(.d (.str (Tree.mk [98] [] [] [] []).Tag)),(.d (.str (Tree.mk [98] [] [] [] []).Key)),(.d (.str (Tree.mk [98] [] [] [] []).Text)),(.d (.sl (((Tree.mk [98] [] [] [] []).aI).map ay) false)),(.d (.sl (((Tree.mk [98] [] [] [] []).Kids).map ai) false))],.box b52 [(.d (.str z48.1.Tag)),(.d (.str z48.1.Key)),(.d (.str z48.1.Text)),(.d (.sl ((z48.1.aI).map ay) false)),(.d (.sl ((z48.1.Kids).map ai) false))],.box b3 [(.d (.sl ((a1.Under).map (D.int .i64)) false)),(.d (.sl ((a1.Kinds).map (D.int .i64)) false)),(.d (.sl ((a1.Keys).map (D.int .i64)) false)),(.d (.sl ((a1.Texts).map (D.int .i64)) false))],.box b13 [v58,w60],aA ae ah.kids 7 5 v58 ws59 z57.2.l none,aG w60 z57.2.freed]:=H143.sl [3,4,5,0,1,2] rfl rfl
  refine aj.nil ⟨_,_,_,rfl,(fun _ ht=>by cases ht; rfl),_,(.q (.q (.o (.o (.w (.d (.int .i64 z82)) (.w (.d (.bool (z82 == 0))) (.w (.d (.bool (z82 == 0))) (.w (.d (.bool true)) (.w (.ptr b13 0 0) (.n (.w (.d (.int .i64 z18.1)) (.w (.d (.int .i64 z57.1)) (.w (.d (.int .i64 z26.1)) (.w (.d (.sl (([z18.1,z57.1,z26.1]).map (D.int .i64)) true)) (.m (.m (.m (.m (.m (.m (.m (.m (.m (.m (.m (.n (.n .nil))))))))))))))))))))))))))),(fun _ ht=>by cases ht; exact ⟨_,rfl,.refl _⟩),?_⟩
  refine ⟨[11,12,13,14,16,17,18,19],by kernel_rfl,?_,_,_,rfl,rfl,.step ?_⟩
  ·
   refine .v rfl rfl rfl rfl (aH rfl rfl bD) ?_
   refine .v rfl rfl rfl rfl (aC (b:=true) rfl rfl) ?_
   refine .cons rfl rfl rfl (.val rfl (aa rfl) (.eq (by rw [hb86]))) ?_
   refine .v rfl rfl rfl rfl (aa rfl) ?_
   refine .v rfl rfl rfl rfl (aa rfl) ?_
   refine .v rfl rfl rfl rfl (aa rfl) ?_
   refine .v rfl rfl rfl rfl (aa rfl) ?_
   refine .v rfl rfl rfl rfl (aR (vs:=[(.d (.int .i64 z18.1)),(.d (.int .i64 z57.1)),(.d (.int .i64 z26.1))]) (ds:=[(.int .i64 z18.1),(.int .i64 z57.1),(.int .i64 z26.1)]) o7 fQ nV wD kV rfl (by decide) (.cons rfl rfl (.cons rfl rfl (.cons rfl rfl .nil))) rfl (by intro d hd; simp only [List.mem_cons,List.not_mem_nil,or_false] at hd; rcases hd with rfl | rfl | rfl <;> rfl) rfl) ?_
   exact .nil
  refine aj.bR (ins:=[.box b13 [v58,w60],aA ae ah.kids 7 5 v58 ws59 z57.2.l none,aG w60 z57.2.freed]) (more:=[.box b65 [(.d (.str (Tree.mk [98] [] [] [] []).Tag)),(.d (.str (Tree.mk [98] [] [] [] []).Key)),(.d (.str (Tree.mk [98] [] [] [] []).Text)),(.d (.sl (((Tree.mk [98] [] [] [] []).aI).map ay) false)),(.d (.sl (((Tree.mk [98] [] [] [] []).Kids).map ai) false))],.box b52 [(.d (.str z48.1.Tag)),(.d (.str z48.1.Key)),(.d (.str z48.1.Text)),(.d (.sl ((z48.1.aI).map ay) false)),(.d (.sl ((z48.1.Kids).map ai) false))],.box b3 [(.d (.sl ((a1.Under).map (D.int .i64)) false)),(.d (.sl ((a1.Kinds).map (D.int .i64)) false)),(.d (.sl ((a1.Keys).map (D.int .i64)) false)),(.d (.sl ((a1.Texts).map (D.int .i64)) false))]]) (H144.sl [3,4,5,0,1,2] rfl rfl) rfl (az rfl rfl) (gu E n _ _ hzz90 b13 v58 ws59 w60) (.cons (.refl _) .nil) rfl ?_
  rintro _ S145 _ ⟨rfl,rfl⟩ H146
  have H147:Has aL S145 [.box b65 [(.d (.str (Tree.mk [98] [] [] [] []).Tag)),(.d (.str (Tree.mk [98] [] [] [] []).Key)),(.d (.str (Tree.mk [98] [] [] [] []).Text)),(.d (.sl (((Tree.mk [98] [] [] [] []).aI).map ay) false)),(.d (.sl (((Tree.mk [98] [] [] [] []).Kids).map ai) false))],.box b52 [(.d (.str z48.1.Tag)),(.d (.str z48.1.Key)),(.d (.str z48.1.Text)),(.d (.sl ((z48.1.aI).map ay) false)),(.d (.sl ((z48.1.Kids).map ai) false))],.box b3 [(.d (.sl ((a1.Under).map (D.int .i64)) false)),(.d (.sl ((a1.Kinds).map (D.int .i64)) false)),(.d (.sl ((a1.Keys).map (D.int .i64)) false)),(.d (.sl ((a1.Texts).map (D.int .i64)) false))],.box b13 [v58,w60],aA ae ah.kids 7 5 v58 ws59 z57.2.l none,aG w60 z57.2.freed]:=H146.sl [3,4,5,0,1,2] rfl rfl
  refine aj.nil ⟨_,_,_,rfl,(fun _ ht=>by cases ht; rfl),_,(.q (.q (.q (.o (.o (.o (.w (.d (.sl ((z90).map (D.int .i64)) false)) (.q (.w (.d (.bool z94)) (.w (.d (.bool z94)) (.w (.d (.bool true)) (.w (.ptr b13 0 0) (.w (.d (.int .i64 z57.1)) (.m (.m (.m (.m (.m (.m (.m (.m (.m (.m (.n .nil)))))))))))))))))))))))),(fun _ ht=>by cases ht; exact ⟨_,rfl,.refl _⟩),?_⟩
  refine ⟨[16,17,18,19,20,21,22,23,24],by kernel_rfl,?_,_,_,rfl,rfl,.step ?_⟩
  ·
   refine .v rfl rfl rfl rfl (aa rfl) ?_
   refine .v rfl rfl rfl rfl (aa rfl) ?_
   refine .v rfl rfl rfl rfl (aa rfl) ?_
   refine .v rfl rfl rfl rfl (aR (vs:=[(.d (.int .i64 z18.1)),(.d (.int .i64 z57.1)),(.d (.int .i64 z26.1))]) (ds:=[(.int .i64 z18.1),(.int .i64 z57.1),(.int .i64 z26.1)]) o7 fQ nV wD kV rfl (by decide) (.cons rfl rfl (.cons rfl rfl (.cons rfl rfl .nil))) rfl (by intro d hd; simp only [List.mem_cons,List.not_mem_nil,or_false] at hd; rcases hd with rfl | rfl | rfl <;> rfl) rfl) ?_
   refine .cons rfl rfl rfl (.step ?_) ?_
   ·
    refine aj.ret rfl (az rfl rfl) (dK E _ _ _ _ hzz94 _ _ (aN.eq (aN.dE rfl (.iL _ _) .nil))) rfl ?_
    exact aj.nil ⟨_,_,rfl,fun _ ht=>by cases ht; exact ⟨rfl,.refl _⟩⟩
   refine .v rfl rfl rfl rfl (aC (b:=true) rfl rfl) ?_
   refine .cons rfl rfl rfl (.val rfl (aa rfl) (.eq (by rw [hb95]))) ?_
   refine .v rfl rfl rfl rfl (aa rfl) ?_
   refine .v rfl rfl rfl rfl (aa rfl) ?_
   exact .nil
  refine aj.bR (ins:=[.box b13 [v58,w60],aA ae ah.kids 7 5 v58 ws59 z57.2.l none,aG w60 z57.2.freed]) (more:=[.box b65 [(.d (.str (Tree.mk [98] [] [] [] []).Tag)),(.d (.str (Tree.mk [98] [] [] [] []).Key)),(.d (.str (Tree.mk [98] [] [] [] []).Text)),(.d (.sl (((Tree.mk [98] [] [] [] []).aI).map ay) false)),(.d (.sl (((Tree.mk [98] [] [] [] []).Kids).map ai) false))],.box b52 [(.d (.str z48.1.Tag)),(.d (.str z48.1.Key)),(.d (.str z48.1.Text)),(.d (.sl ((z48.1.aI).map ay) false)),(.d (.sl ((z48.1.Kids).map ai) false))],.box b3 [(.d (.sl ((a1.Under).map (D.int .i64)) false)),(.d (.sl ((a1.Kinds).map (D.int .i64)) false)),(.d (.sl ((a1.Keys).map (D.int .i64)) false)),(.d (.sl ((a1.Texts).map (D.int .i64)) false))]]) (H147.sl [3,4,5,0,1,2] rfl rfl) rfl (az rfl rfl) (cK E n _ _ _ hzz102 b13 v58 ws59 w60) (.cons (.refl _) (.cons (.refl _) .nil)) rfl ?_
  rintro _ S148 _ ⟨rfl,rfl⟩ H149
  have H150:Has aL S148 [.box b65 [(.d (.str (Tree.mk [98] [] [] [] []).Tag)),(.d (.str (Tree.mk [98] [] [] [] []).Key)),(.d (.str (Tree.mk [98] [] [] [] []).Text)),(.d (.sl (((Tree.mk [98] [] [] [] []).aI).map ay) false)),(.d (.sl (((Tree.mk [98] [] [] [] []).Kids).map ai) false))],.box b52 [(.d (.str z48.1.Tag)),(.d (.str z48.1.Key)),(.d (.str z48.1.Text)),(.d (.sl ((z48.1.aI).map ay) false)),(.d (.sl ((z48.1.Kids).map ai) false))],.box b3 [(.d (.sl ((a1.Under).map (D.int .i64)) false)),(.d (.sl ((a1.Kinds).map (D.int .i64)) false)),(.d (.sl ((a1.Keys).map (D.int .i64)) false)),(.d (.sl ((a1.Texts).map (D.int .i64)) false))],.box b13 [v58,w60],aA ae ah.kids 7 5 v58 ws59 z57.2.l none,aG w60 z57.2.freed]:=H149.sl [3,4,5,0,1,2] rfl rfl
  refine aj.nil ⟨_,_,_,rfl,(fun _ ht=>by cases ht; rfl),_,(.q (.q (.q (.q (.q (.q (.o (.w (.d (.int .i64 z102)) (.w (.d (.bool (z102 == 0))) (.w (.d (.bool (z102 == 0))) (.w (.d (.bool true)) (.w (.ptr b13 0 0) (.w (.d (.int .i64 z57.1)) (.w (.d (.int .i64 z26.1)) (.m (.m (.m (.m (.m (.m (.m (.m (.n (.n .nil)))))))))))))))))))))))),(fun _ ht=>by cases ht; exact ⟨_,rfl,.refl _⟩),?_⟩
  refine ⟨[26,27,28,29,30,31],by kernel_rfl,?_,_,_,rfl,rfl,.step ?_⟩
  ·
   refine .v rfl rfl rfl rfl (aH rfl rfl bD) ?_
   refine .v rfl rfl rfl rfl (aC (b:=true) rfl rfl) ?_
   refine .cons rfl rfl rfl (.val rfl (aa rfl) (.eq (by rw [hb106]))) ?_
   refine .v rfl rfl rfl rfl (aa rfl) ?_
   refine .v rfl rfl rfl rfl (aa rfl) ?_
   refine .v rfl rfl rfl rfl (aa rfl) ?_
   exact .nil
  refine aj.bR (ins:=[.box b13 [v58,w60],aA ae ah.kids 7 5 v58 ws59 z57.2.l none,aG w60 z57.2.freed]) (more:=[.box b65 [(.d (.str (Tree.mk [98] [] [] [] []).Tag)),(.d (.str (Tree.mk [98] [] [] [] []).Key)),(.d (.str (Tree.mk [98] [] [] [] []).Text)),(.d (.sl (((Tree.mk [98] [] [] [] []).aI).map ay) false)),(.d (.sl (((Tree.mk [98] [] [] [] []).Kids).map ai) false))],.box b52 [(.d (.str z48.1.Tag)),(.d (.str z48.1.Key)),(.d (.str z48.1.Text)),(.d (.sl ((z48.1.aI).map ay) false)),(.d (.sl ((z48.1.Kids).map ai) false))],.box b3 [(.d (.sl ((a1.Under).map (D.int .i64)) false)),(.d (.sl ((a1.Kinds).map (D.int .i64)) false)),(.d (.sl ((a1.Keys).map (D.int .i64)) false)),(.d (.sl ((a1.Texts).map (D.int .i64)) false))]]) (H150.sl [3,4,5,0,1,2] rfl rfl) rfl (az rfl rfl) (gT E n _ _ _ _ hzz116 b13 v58 ws59 w60) (.cons (.refl _) (.cons (.refl _) (.cons (.refl _) .nil))) rfl ?_
  rintro _ S153 _ ⟨rfl,ws151,w152,rfl⟩ H154
  have H155:Has aL S153 [.box b65 [(.d (.str (Tree.mk [98] [] [] [] []).Tag)),(.d (.str (Tree.mk [98] [] [] [] []).Key)),(.d (.str (Tree.mk [98] [] [] [] []).Text)),(.d (.sl (((Tree.mk [98] [] [] [] []).aI).map ay) false)),(.d (.sl (((Tree.mk [98] [] [] [] []).Kids).map ai) false))],.box b52 [(.d (.str z48.1.Tag)),(.d (.str z48.1.Key)),(.d (.str z48.1.Text)),(.d (.sl ((z48.1.aI).map ay) false)),(.d (.sl ((z48.1.Kids).map ai) false))],.box b3 [(.d (.sl ((a1.Under).map (D.int .i64)) false)),(.d (.sl ((a1.Kinds).map (D.int .i64)) false)),(.d (.sl ((a1.Keys).map (D.int .i64)) false)),(.d (.sl ((a1.Texts).map (D.int .i64)) false))],.box b13 [v58,w152],aA ae ah.kids 7 5 v58 ws151 z116.2.l none,aG w152 z116.2.freed]:=H154.sl [3,4,5,0,1,2] rfl rfl
  refine aj.nil ⟨_,_,_,rfl,(fun _ ht=>by cases ht; rfl),_,(.q (.q (.q (.q (.q (.q (.q (.q (.w (.d (.bool z116.1)) (.w (.d (.bool (!z116.1))) (.w (.d (.bool (!z116.1))) (.w (.d (.bool true)) (.w (.ptr b13 0 0) (.w (.d (.int .i64 (IntKind.wrap .i64 (500 + z64)))) (.m (.m (.m (.m (.m (.m (.m .nil))))))))))))))))))))),(fun _ ht=>by cases ht; exact ⟨_,rfl,.refl _⟩),?_⟩
  refine ⟨[33,34,35,36,37],by kernel_rfl,?_,_,_,rfl,rfl,.step ?_⟩
  ·
   refine .v rfl rfl rfl rfl (gW rfl) ?_
   refine .v rfl rfl rfl rfl (aC (b:=true) rfl rfl) ?_
   refine .cons rfl rfl rfl (.val rfl (aa rfl) (.eq (by rw [hb122]))) ?_
   refine .v rfl rfl rfl rfl (aa rfl) ?_
   refine .v rfl rfl rfl rfl (aa rfl) ?_
   exact .nil
  refine aj.bR (ins:=[.box b13 [v58,w152],aA ae ah.kids 7 5 v58 ws151 z116.2.l none,aG w152 z116.2.freed]) (more:=[.box b65 [(.d (.str (Tree.mk [98] [] [] [] []).Tag)),(.d (.str (Tree.mk [98] [] [] [] []).Key)),(.d (.str (Tree.mk [98] [] [] [] []).Text)),(.d (.sl (((Tree.mk [98] [] [] [] []).aI).map ay) false)),(.d (.sl (((Tree.mk [98] [] [] [] []).Kids).map ai) false))],.box b52 [(.d (.str z48.1.Tag)),(.d (.str z48.1.Key)),(.d (.str z48.1.Text)),(.d (.sl ((z48.1.aI).map ay) false)),(.d (.sl ((z48.1.Kids).map ai) false))],.box b3 [(.d (.sl ((a1.Under).map (D.int .i64)) false)),(.d (.sl ((a1.Kinds).map (D.int .i64)) false)),(.d (.sl ((a1.Keys).map (D.int .i64)) false)),(.d (.sl ((a1.Texts).map (D.int .i64)) false))]]) (H155.sl [3,4,5,0,1,2] rfl rfl) rfl (az rfl rfl) (cK E n _ _ _ hzz137 b13 v58 ws151 w152) (.cons (.refl _) (.cons (.refl _) .nil)) rfl ?_
  rintro _ S156 _ ⟨rfl,rfl⟩ H157
  have H158:Has aL S156 [.box b65 [(.d (.str (Tree.mk [98] [] [] [] []).Tag)),(.d (.str (Tree.mk [98] [] [] [] []).Key)),(.d (.str (Tree.mk [98] [] [] [] []).Text)),(.d (.sl (((Tree.mk [98] [] [] [] []).aI).map ay) false)),(.d (.sl (((Tree.mk [98] [] [] [] []).Kids).map ai) false))],.box b52 [(.d (.str z48.1.Tag)),(.d (.str z48.1.Key)),(.d (.str z48.1.Text)),(.d (.sl ((z48.1.aI).map ay) false)),(.d (.sl ((z48.1.Kids).map ai) false))],.box b3 [(.d (.sl ((a1.Under).map (D.int .i64)) false)),(.d (.sl ((a1.Kinds).map (D.int .i64)) false)),(.d (.sl ((a1.Keys).map (D.int .i64)) false)),(.d (.sl ((a1.Texts).map (D.int .i64)) false))],.box b13 [v58,w152],aA ae ah.kids 7 5 v58 ws151 z116.2.l none,aG w152 z116.2.freed]:=H157.sl [3,4,5,0,1,2] rfl rfl
  refine aj.nil ⟨_,_,_,rfl,(fun _ ht=>by cases ht; rfl),_,(.q (.q (.q (.q (.q (.q (.q (.q (.q (.o (.o (.w (.d (.int .i64 z137)) (.w (.d (.bool (z137 == 0))) (.w (.d (.bool (z137 == 0))) (.f (.z (.z (.m (.m (.m (.m (.m (.n (.n .nil)))))))))))))))))))))))),(fun _ ht=>by cases ht; exact ⟨_,rfl,.refl _⟩),?_⟩
  refine ⟨[39,40,41,42,43],by kernel_rfl,?_,_,_,rfl,rfl,.no rfl ?_⟩
  ·
   refine .v rfl rfl rfl rfl (aH rfl rfl bD) ?_
   refine .v rfl rfl rfl rfl (aC (b:=true) rfl rfl) ?_
   refine .cons rfl rfl rfl (.val rfl (aa rfl) (.eq (by rw [hb141]))) ?_
   refine .cons rfl rfl rfl (.no rfl (.refl _)) ?_
   refine .cons rfl rfl rfl (.no rfl (.refl _)) ?_
   exact .nil
  refine ⟨_,(.q (.q (.q (.q (.q (.q (.q (.q (.q (.q (.q (.z (.z (.f (.f (.z (.z (.z (.m (.m (.m (.n (.n (.n .nil)))))))))))))))))))))))),(fun _ ht=>by cases ht; exact ⟨_,rfl,.refl _⟩),?_⟩
  refine ⟨[45,46,47,48,49,50],by kernel_rfl,?_,_,_,rfl,rfl,.no rfl ?_⟩
  ·
   refine .cons rfl rfl rfl (.no rfl (.refl _)) ?_
   refine .v rfl rfl rfl rfl (aC (b:=false) rfl rfl) ?_
   refine .v rfl rfl rfl rfl (aa rfl) ?_
   refine .cons rfl rfl rfl (.no rfl (.refl _)) ?_
   refine .cons rfl rfl rfl (.no rfl (.refl _)) ?_
   refine .cons rfl rfl rfl (.no rfl (.refl _)) ?_
   exact .nil
  refine ⟨_,(.q (.q (.q (.q (.q (.q (.q (.q (.q (.q (.q (.q (.o (.o (.o (.z (.z (.f (.f (.z (.z (.z (.z (.z (.z (.f (.f (.z (.f (.f .nil)))))))))))))))))))))))))))))),(fun _ ht=>by cases ht; exact ⟨_,rfl,.refl _⟩),?_⟩
  refine ⟨[52,53,54,55,56,57,58,59,60,61,62,63,64,65],by kernel_rfl,?_,_,rfl,?_⟩
  ·
   refine .cons rfl rfl rfl (.no rfl (.refl _)) ?_
   refine .v rfl rfl rfl rfl (aC (b:=false) rfl rfl) ?_
   refine .v rfl rfl rfl rfl (aa rfl) ?_
   refine .cons rfl rfl rfl (.no rfl (.refl _)) ?_
   refine .cons rfl rfl rfl (.no rfl (.refl _)) ?_
   refine .cons rfl rfl rfl (.no rfl (.refl _)) ?_
   refine .cons rfl rfl rfl (.no rfl (.refl _)) ?_
   refine .cons rfl rfl rfl (.no rfl (.refl _)) ?_
   refine .cons rfl rfl rfl (.no rfl (.refl _)) ?_
   refine .v rfl rfl rfl rfl (aC (b:=false) rfl rfl) ?_
   refine .v rfl rfl rfl rfl (aa rfl) ?_
   refine .cons rfl rfl rfl (.no rfl (.refl _)) ?_
   refine .v rfl rfl rfl rfl (aC (b:=false) rfl rfl) ?_
   refine .v rfl rfl rfl rfl (ak rfl) ?_
   exact .nil
  exact ⟨⟨z116.2,v58,ws151,w152,false⟩,_,_,S156,.refl _ _,.refl _,(au.r rfl au.nil),H158.sl [] rfl rfl,h⟩
 replace h:=dH hb141 h
 obtain ⟨z159,hzz159,h⟩:=bind_some h
 rcases (Bool.eq_false_or_eq_true ((z159 == 0))).symm with hb163 | hb163
 ·
  replace h:=dI hb163 h
  refine aD.jf E.obj lQ yD [(4,some 65)] (by kernel_rfl) [10,15,25,32,38,44,51] (by decide) [some (.d (.bool z48.2)),some (.d (.bool true)),some (.d (ai z48.1)),some (.d (dL a1)),some (.d (ai z79)),some (.d (.bool z80)),some (.d (.bool z80)),some (.d (.bool true)),some (.ptr b13 0 0),some (.d (.int .i64 z26.1)),none,none,none,none,none,none,none,none,none,none,none,none,none,none,none,none,none,none,none,none,none,none,none,none,none,none,none,none,none,none,none,none,none,none,none,none,none,none,none,none,none,none,none,none,none,none,none,none,none,none,none,none,none,none,none,none] ?_
  refine ⟨[0,1,2,3,4,5,6,7,8,9],by kernel_rfl,?_,_,_,rfl,rfl,.step ?_⟩
  ·
   refine .v rfl rfl rfl rfl (aa rfl) ?_
   refine .cons rfl rfl rfl (.val rfl (aa rfl) (.eq (by rw [hb78]))) ?_
   refine .cons rfl rfl rfl (.step ?_) ?_
   ·
    refine aj.val rfl (aJ H69 (i:=1) rfl rfl (aW dX bE rfl)) rfl ?_
    refine aj.less (Less.agg' (d:=ai z48.1) (ax.eq rfl (ax.eq rfl (ax.eq rfl (ax.eq rfl (ax.eq rfl .nil))))) ((Tree.eq _).trans rfl)) ?_
    exact aj.nil ⟨_,_,rfl,fun _ ht=>by cases ht; exact ⟨rfl,.refl _⟩⟩
   refine .cons rfl rfl rfl (.step ?_) ?_
   ·
    refine aj.val rfl (aJ H69 (i:=2) rfl rfl (aW zU zI rfl)) rfl ?_
    refine aj.less (Less.agg' (d:=dL a1) (ax.eq rfl (ax.eq rfl (ax.eq rfl (ax.eq rfl .nil)))) ((fA.eq _).trans rfl)) ?_
    exact aj.nil ⟨_,_,rfl,fun _ ht=>by cases ht; exact ⟨rfl,.refl _⟩⟩
   refine .cons rfl rfl rfl (.step ?_) ?_
   ·
    refine aj.ret rfl (az rfl rfl) (bK E _ _ _ hzz79 _ _ (aN.eq .nil)) rfl ?_
    exact aj.nil ⟨_,_,rfl,fun _ ht=>by cases ht; exact ⟨rfl,.refl _⟩⟩
   refine .cons rfl rfl rfl (.step ?_) ?_
   ·
    refine aj.ret rfl (az rfl rfl) (bH E _ _ _ _ hzz80 _ _ (aN.eq (aN.eq .nil))) rfl ?_
    exact aj.nil ⟨_,_,rfl,fun _ ht=>by cases ht; exact ⟨rfl,.refl _⟩⟩
   refine .v rfl rfl rfl rfl (aC (b:=true) rfl rfl) ?_
   refine .cons rfl rfl rfl (.val rfl (aa rfl) (.eq (by rw [hb81]))) ?_
   refine .v rfl rfl rfl rfl (aa rfl) ?_
   refine .v rfl rfl rfl rfl (aa rfl) ?_
   exact .nil
  refine aj.bR (ins:=[.box b13 [v58,w60],aA ae ah.kids 7 5 v58 ws59 z57.2.l none,aG w60 z57.2.freed]) (more:=[.box b65 [(.d (.str (Tree.mk [98] [] [] [] []).Tag)),(.d (.str (Tree.mk [98] [] [] [] []).Key)),(.d (.str (Tree.mk [98] [] [] [] []).Text)),(.d (.sl (((Tree.mk [98] [] [] [] []).aI).map ay) false)),(.d (.sl (((Tree.mk [98] [] [] [] []).Kids).map ai) false))],.box b52 [(.d (.str z48.1.Tag)),(.d (.str z48.1.Key)),(.d (.str z48.1.Text)),(.d (.sl ((z48.1.aI).map ay) false)),(.d (.sl ((z48.1.Kids).map ai) false))],.box b3 [(.d (.sl ((a1.Under).map (D.int .i64)) false)),(.d (.sl ((a1.Kinds).map (D.int .i64)) false)),(.d (.sl ((a1.Keys).map (D.int .i64)) false)),(.d (.sl ((a1.Texts).map (D.int .i64)) false))]]) (H69.sl [3,4,5,0,1,2] rfl rfl) rfl (az rfl rfl) (eT E n _ _ _ hzz82 b13 v58 ws59 w60) (.cons (.refl _) (.cons (.refl _) .nil)) rfl ?_
  rintro _ S164 _ ⟨rfl,rfl⟩ H165
  have H166:Has aL S164 [.box b65 [(.d (.str (Tree.mk [98] [] [] [] []).Tag)),(.d (.str (Tree.mk [98] [] [] [] []).Key)),(.d (.str (Tree.mk [98] [] [] [] []).Text)),(.d (.sl (((Tree.mk [98] [] [] [] []).aI).map ay) false)),(.d (.sl (((Tree.mk [98] [] [] [] []).Kids).map ai) false))],.box b52 [(.d (.str z48.1.Tag)),(.d (.str z48.1.Key)),(.d (.str z48.1.Text)),(.d (.sl ((z48.1.aI).map ay) false)),(.d (.sl ((z48.1.Kids).map ai) false))],.box b3 [(.d (.sl ((a1.Under).map (D.int .i64)) false)),(.d (.sl ((a1.Kinds).map (D.int .i64)) false)),(.d (.sl ((a1.Keys).map (D.int .i64)) false)),(.d (.sl ((a1.Texts).map (D.int .i64)) false))],.box b13 [v58,w60],aA ae ah.kids 7 5 v58 ws59 z57.2.l none,aG w60 z57.2.freed]:=H165.sl [3,4,5,0,1,2] rfl rfl
  refine aj.nil ⟨_,_,_,rfl,(fun _ ht=>by cases ht; rfl),_,(.q (.q (.o (.o (.w (.d (.int .i64 z82)) (.w (.d (.bool (z82 == 0))) (.w (.d (.bool (z82 == 0))) (.w (.d (.bool true)) (.w (.ptr b13 0 0) (.n (.w (.d (.int .i64 z18.1)) (.w (.d (.int .i64 z57.1)) (.w (.d (.int .i64 z26.1)) (.w (.d (.sl (([z18.1,z57.1,z26.1]).map (D.int .i64)) true)) (.m (.m (.m (.m (.m (.m (.m (.m (.m (.m (.m (.n (.n .nil))))))))))))))))))))))))))),(fun _ ht=>by cases ht; exact ⟨_,rfl,.refl _⟩),?_⟩
  refine ⟨[11,12,13,14,16,17,18,19],by kernel_rfl,?_,_,_,rfl,rfl,.step ?_⟩
  ·
   refine .v rfl rfl rfl rfl (aH rfl rfl bD) ?_
   refine .v rfl rfl rfl rfl (aC (b:=true) rfl rfl) ?_
   refine .cons rfl rfl rfl (.val rfl (aa rfl) (.eq (by rw [hb86]))) ?_
   refine .v rfl rfl rfl rfl (aa rfl) ?_
   refine .v rfl rfl rfl rfl (aa rfl) ?_
   refine .v rfl rfl rfl rfl (aa rfl) ?_
   refine .v rfl rfl rfl rfl (aa rfl) ?_
   refine .v rfl rfl rfl rfl (aR (vs:=[(.d (.int .i64 z18.1)),(.d (.int .i64 z57.1)),(.d (.int .i64 z26.1))]) (ds:=[(.int .i64 z18.1),(.int .i64 z57.1),(.int .i64 z26.1)]) o7 fQ nV wD kV rfl (by decide) (.cons rfl rfl (.cons rfl rfl (.cons rfl rfl .nil))) rfl (by intro d hd; simp only [List.mem_cons,List.not_mem_nil,or_false] at hd; rcases hd with rfl | rfl | rfl <;> rfl) rfl) ?_
   exact .nil
  refine aj.bR (ins:=[.box b13 [v58,w60],aA ae ah.kids 7 5 v58 ws59 z57.2.l none,aG w60 z57.2.freed]) (more:=[.box b65 [(.d (.str (Tree.mk [98] [] [] [] []).Tag)),(.d (.str (Tree.mk [98] [] [] [] []).Key)),(.d (.str (Tree.mk [98] [] [] [] []).Text)),(.d (.sl (((Tree.mk [98] [] [] [] []).aI).map ay) false)),(.d (.sl (((Tree.mk [98] [] [] [] []).Kids).map ai) false))],.box b52 [(.d (.str z48.1.Tag)),(.d (.str z48.1.Key)),(.d (.str z48.1.Text)),(.d (.sl ((z48.1.aI).map ay) false)),(.d (.sl ((z48.1.Kids).map ai) false))],.box b3 [(.d (.sl ((a1.Under).map (D.int .i64)) false)),(.d (.sl ((a1.Kinds).map (D.int .i64)) false)),(.d (.sl ((a1.Keys).map (D.int .i64)) false)),(.d (.sl ((a1.Texts).map (D.int .i64)) false))]]) (H166.sl [3,4,5,0,1,2] rfl rfl) rfl (az rfl rfl) (gu E n _ _ hzz90 b13 v58 ws59 w60) (.cons (.refl _) .nil) rfl ?_
  rintro _ S167 _ ⟨rfl,rfl⟩ H168
  have H169:Has aL S167 [.box b65 [(.d (.str (Tree.mk [98] [] [] [] []).Tag)),(.d (.str (Tree.mk [98] [] [] [] []).Key)),(.d (.str (Tree.mk [98] [] [] [] []).Text)),(.d (.sl (((Tree.mk [98] [] [] [] []).aI).map ay) false)),(.d (.sl (((Tree.mk [98] [] [] [] []).Kids).map ai) false))],.box b52 [(.d (.str z48.1.Tag)),(.d (.str z48.1.Key)),(.d (.str z48.1.Text)),(.d (.sl ((z48.1.aI).map ay) false)),(.d (.sl ((z48.1.Kids).map ai) false))],.box b3 [(.d (.sl ((a1.Under).map (D.int .i64)) false)),(.d (.sl ((a1.Kinds).map (D.int .i64)) false)),(.d (.sl ((a1.Keys).map (D.int .i64)) false)),(.d (.sl ((a1.Texts).map (D.int .i64)) false))],.box b13 [v58,w60],aA ae ah.kids 7 5 v58 ws59 z57.2.l none,aG w60 z57.2.freed]:=H168.sl [3,4,5,0,1,2] rfl rfl
  refine aj.nil ⟨_,_,_,rfl,(fun _ ht=>by cases ht; rfl),_,(.q (.q (.q (.o (.o (.o (.w (.d (.sl ((z90).map (D.int .i64)) false)) (.q (.w (.d (.bool z94)) (.w (.d (.bool z94)) (.w (.d (.bool true)) (.w (.ptr b13 0 0) (.w (.d (.int .i64 z57.1)) (.m (.m (.m (.m (.m (.m (.m (.m (.m (.m (.n .nil)))))))))))))))))))))))),(fun _ ht=>by cases ht; exact ⟨_,rfl,.refl _⟩),?_⟩
  refine ⟨[16,17,18,19,20,21,22,23,24],by kernel_rfl,?_,_,_,rfl,rfl,.step ?_⟩
  ·
   refine .v rfl rfl rfl rfl (aa rfl) ?_
   refine .v rfl rfl rfl rfl (aa rfl) ?_
   refine .v rfl rfl rfl rfl (aa rfl) ?_
   refine .v rfl rfl rfl rfl (aR (vs:=[(.d (.int .i64 z18.1)),(.d (.int .i64 z57.1)),(.d (.int .i64 z26.1))]) (ds:=[(.int .i64 z18.1),(.int .i64 z57.1),(.int .i64 z26.1)]) o7 fQ nV wD kV rfl (by decide) (.cons rfl rfl (.cons rfl rfl (.cons rfl rfl .nil))) rfl (by intro d hd; simp only [List.mem_cons,List.not_mem_nil,or_false] at hd; rcases hd with rfl | rfl | rfl <;> rfl) rfl) ?_
   refine .cons rfl rfl rfl (.step ?_) ?_
   ·
    refine aj.ret rfl (az rfl rfl) (dK E _ _ _ _ hzz94 _ _ (aN.eq (aN.dE rfl (.iL _ _) .nil))) rfl ?_
    exact aj.nil ⟨_,_,rfl,fun _ ht=>by cases ht; exact ⟨rfl,.refl _⟩⟩
   refine .v rfl rfl rfl rfl (aC (b:=true) rfl rfl) ?_
   refine .cons rfl rfl rfl (.val rfl (aa rfl) (.eq (by rw [hb95]))) ?_
   refine .v rfl rfl rfl rfl (aa rfl) ?_
   refine .v rfl rfl rfl rfl (aa rfl) ?_
   exact .nil
  refine aj.bR (ins:=[.box b13 [v58,w60],aA ae ah.kids 7 5 v58 ws59 z57.2.l none,aG w60 z57.2.freed]) (more:=[.box b65 [(.d (.str (Tree.mk [98] [] [] [] []).Tag)),(.d (.str (Tree.mk [98] [] [] [] []).Key)),(.d (.str (Tree.mk [98] [] [] [] []).Text)),(.d (.sl (((Tree.mk [98] [] [] [] []).aI).map ay) false)),(.d (.sl (((Tree.mk [98] [] [] [] []).Kids).map ai) false))],.box b52 [(.d (.str z48.1.Tag)),(.d (.str z48.1.Key)),(.d (.str z48.1.Text)),(.d (.sl ((z48.1.aI).map ay) false)),(.d (.sl ((z48.1.Kids).map ai) false))],.box b3 [(.d (.sl ((a1.Under).map (D.int .i64)) false)),(.d (.sl ((a1.Kinds).map (D.int .i64)) false)),(.d (.sl ((a1.Keys).map (D.int .i64)) false)),(.d (.sl ((a1.Texts).map (D.int .i64)) false))]]) (H169.sl [3,4,5,0,1,2] rfl rfl) rfl (az rfl rfl) (cK E n _ _ _ hzz102 b13 v58 ws59 w60) (.cons (.refl _) (.cons (.refl _) .nil)) rfl ?_
  rintro _ S170 _ ⟨rfl,rfl⟩ H171
  have H172:Has aL S170 [.box b65 [(.d (.str (Tree.mk [98] [] [] [] []).Tag)),(.d (.str (Tree.mk [98] [] [] [] []).Key)),(.d (.str (Tree.mk [98] [] [] [] []).Text)),(.d (.sl (((Tree.mk [98] [] [] [] []).aI).map ay) false)),(.d (.sl (((Tree.mk [98] [] [] [] []).Kids).map ai) false))],.box b52 [(.d (.str z48.1.Tag)),(.d (.str z48.1.Key)),(.d (.str z48.1.Text)),(.d (.sl ((z48.1.aI).map ay) false)),(.d (.sl ((z48.1.Kids).map ai) false))],.box b3 [(.d (.sl ((a1.Under).map (D.int .i64)) false)),(.d (.sl ((a1.Kinds).map (D.int .i64)) false)),(.d (.sl ((a1.Keys).map (D.int .i64)) false)),(.d (.sl ((a1.Texts).map (D.int .i64)) false))],.box b13 [v58,w60],aA ae ah.kids 7 5 v58 ws59 z57.2.l none,aG w60 z57.2.freed]:=H171.sl [3,4,5,0,1,2] rfl rfl
  refine aj.nil ⟨_,_,_,rfl,(fun _ ht=>by cases ht; rfl),_,(.q (.q (.q (.q (.q (.q (.o (.w (.d (.int .i64 z102)) (.w (.d (.bool (z102 == 0))) (.w (.d (.bool (z102 == 0))) (.w (.d (.bool true)) (.w (.ptr b13 0 0) (.w (.d (.int .i64 z57.1)) (.w (.d (.int .i64 z26.1)) (.m (.m (.m (.m (.m (.m (.m (.m (.n (.n .nil)))))))))))))))))))))))),(fun _ ht=>by cases ht; exact ⟨_,rfl,.refl _⟩),?_⟩
  refine ⟨[26,27,28,29,30,31],by kernel_rfl,?_,_,_,rfl,rfl,.step ?_⟩
  ·
   refine .v rfl rfl rfl rfl (aH rfl rfl bD) ?_
   refine .v rfl rfl rfl rfl (aC (b:=true) rfl rfl) ?_
   refine .cons rfl rfl rfl (.val rfl (aa rfl) (.eq (by rw [hb106]))) ?_
   refine .v rfl rfl rfl rfl (aa rfl) ?_
   refine .v rfl rfl rfl rfl (aa rfl) ?_
   refine .v rfl rfl rfl rfl (aa rfl) ?_
   exact .nil
  refine aj.bR (ins:=[.box b13 [v58,w60],aA ae ah.kids 7 5 v58 ws59 z57.2.l none,aG w60 z57.2.freed]) (more:=[.box b65 [(.d (.str (Tree.mk [98] [] [] [] []).Tag)),(.d (.str (Tree.mk [98] [] [] [] []).Key)),(.d (.str (Tree.mk [98] [] [] [] []).Text)),(.d (.sl (((Tree.mk [98] [] [] [] []).aI).map ay) false)),(.d (.sl (((Tree.mk [98] [] [] [] []).Kids).map ai) false))],.box b52 [(.d (.str z48.1.Tag)),(.d (.str z48.1.Key)),(.d (.str z48.1.Text)),(.d (.sl ((z48.1.aI).map ay) false)),(.d (.sl ((z48.1.Kids).map ai) false))],.box b3 [(.d (.sl ((a1.Under).map (D.int .i64)) false)),(.d (.sl ((a1.Kinds).map (D.int .i64)) false)),(.d (.sl ((a1.Keys).map (D.int .i64)) false)),(.d (.sl ((a1.Texts).map (D.int .i64)) false))]]) (H172.sl [3,4,5,0,1,2] rfl rfl) rfl (az rfl rfl) (gT E n _ _ _ _ hzz116 b13 v58 ws59 w60) (.cons (.refl _) (.cons (.refl _) (.cons (.refl _) .nil))) rfl ?_
  rintro _ S175 _ ⟨rfl,ws173,w174,rfl⟩ H176
  have H177:Has aL S175 [.box b65 [(.d (.str (Tree.mk [98] [] [] [] []).Tag)),(.d (.str (Tree.mk [98] [] [] [] []).Key)),(.d (.str (Tree.mk [98] [] [] [] []).Text)),(.d (.sl (((Tree.mk [98] [] [] [] []).aI).map ay) false)),(.d (.sl (((Tree.mk [98] [] [] [] []).Kids).map ai) false))],.box b52 [(.d (.str z48.1.Tag)),(.d (.str z48.1.Key)),(.d (.str z48.1.Text)),(.d (.sl ((z48.1.aI).map ay) false)),(.d (.sl ((z48.1.Kids).map ai) false))],.box b3 [(.d (.sl ((a1.Under).map (D.int .i64)) false)),(.d (.sl ((a1.Kinds).map (D.int .i64)) false)),(.d (.sl ((a1.Keys).map (D.int .i64)) false)),(.d (.sl ((a1.Texts).map (D.int .i64)) false))],.box b13 [v58,w174],aA ae ah.kids 7 5 v58 ws173 z116.2.l none,aG w174 z116.2.freed]:=H176.sl [3,4,5,0,1,2] rfl rfl
  refine aj.nil ⟨_,_,_,rfl,(fun _ ht=>by cases ht; rfl),_,(.q (.q (.q (.q (.q (.q (.q (.q (.w (.d (.bool z116.1)) (.w (.d (.bool (!z116.1))) (.w (.d (.bool (!z116.1))) (.w (.d (.bool true)) (.w (.ptr b13 0 0) (.w (.d (.int .i64 (IntKind.wrap .i64 (500 + z64)))) (.m (.m (.m (.m (.m (.m (.m .nil))))))))))))))))))))),(fun _ ht=>by cases ht; exact ⟨_,rfl,.refl _⟩),?_⟩
  refine ⟨[33,34,35,36,37],by kernel_rfl,?_,_,_,rfl,rfl,.step ?_⟩
  ·
   refine .v rfl rfl rfl rfl (gW rfl) ?_
   refine .v rfl rfl rfl rfl (aC (b:=true) rfl rfl) ?_
   refine .cons rfl rfl rfl (.val rfl (aa rfl) (.eq (by rw [hb122]))) ?_
   refine .v rfl rfl rfl rfl (aa rfl) ?_
   refine .v rfl rfl rfl rfl (aa rfl) ?_
   exact .nil
  refine aj.bR (ins:=[.box b13 [v58,w174],aA ae ah.kids 7 5 v58 ws173 z116.2.l none,aG w174 z116.2.freed]) (more:=[.box b65 [(.d (.str (Tree.mk [98] [] [] [] []).Tag)),(.d (.str (Tree.mk [98] [] [] [] []).Key)),(.d (.str (Tree.mk [98] [] [] [] []).Text)),(.d (.sl (((Tree.mk [98] [] [] [] []).aI).map ay) false)),(.d (.sl (((Tree.mk [98] [] [] [] []).Kids).map ai) false))],.box b52 [(.d (.str z48.1.Tag)),(.d (.str z48.1.Key)),(.d (.str z48.1.Text)),(.d (.sl ((z48.1.aI).map ay) false)),(.d (.sl ((z48.1.Kids).map ai) false))],.box b3 [(.d (.sl ((a1.Under).map (D.int .i64)) false)),(.d (.sl ((a1.Kinds).map (D.int .i64)) false)),(.d (.sl ((a1.Keys).map (D.int .i64)) false)),(.d (.sl ((a1.Texts).map (D.int .i64)) false))]]) (H177.sl [3,4,5,0,1,2] rfl rfl) rfl (az rfl rfl) (cK E n _ _ _ hzz137 b13 v58 ws173 w174) (.cons (.refl _) (.cons (.refl _) .nil)) rfl ?_
  rintro _ S178 _ ⟨rfl,rfl⟩ H179
  have H180:Has aL S178 [.box b65 [(.d (.str (Tree.mk [98] [] [] [] []).Tag)),(.d (.str (Tree.mk [98] [] [] [] []).Key)),(.d (.str (Tree.mk [98] [] [] [] []).Text)),(.d (.sl (((Tree.mk [98] [] [] [] []).aI).map ay) false)),(.d (.sl (((Tree.mk [98] [] [] [] []).Kids).map ai) false))],.box b52 [(.d (.str z48.1.Tag)),(.d (.str z48.1.Key)),(.d (.str z48.1.Text)),(.d (.sl ((z48.1.aI).map ay) false)),(.d (.sl ((z48.1.Kids).map ai) false))],.box b3 [(.d (.sl ((a1.Under).map (D.int .i64)) false)),(.d (.sl ((a1.Kinds).map (D.int .i64)) false)),(.d (.sl ((a1.Keys).map (D.int .i64)) false)),(.d (.sl ((a1.Texts).map (D.int .i64)) false))],.box b13 [v58,w174],aA ae ah.kids 7 5 v58 ws173 z116.2.l none,aG w174 z116.2.freed]:=H179.sl [3,4,5,0,1,2] rfl rfl
  refine aj.nil ⟨_,_,_,rfl,(fun _ ht=>by cases ht; rfl),_,(.q (.q (.q (.q (.q (.q (.q (.q (.q (.o (.o (.w (.d (.int .i64 z137)) (.w (.d (.bool (z137 == 0))) (.w (.d (.bool (z137 == 0))) (.w (.d (.bool true)) (.w (.ptr b13 0 0) (.w (.d (.int .i64 (IntKind.wrap .i64 (500 + z64)))) (.m (.m (.m (.m (.m (.n (.n .nil)))))))))))))))))))))))),(fun _ ht=>by cases ht; exact ⟨_,rfl,.refl _⟩),?_⟩
  refine ⟨[39,40,41,42,43],by kernel_rfl,?_,_,_,rfl,rfl,.step ?_⟩
  ·
   refine .v rfl rfl rfl rfl (aH rfl rfl bD) ?_
   refine .v rfl rfl rfl rfl (aC (b:=true) rfl rfl) ?_
   refine .cons rfl rfl rfl (.val rfl (aa rfl) (.eq (by rw [hb141]))) ?_
   refine .v rfl rfl rfl rfl (aa rfl) ?_
   refine .v rfl rfl rfl rfl (aa rfl) ?_
   exact .nil
  refine aj.bR (ins:=[.box b13 [v58,w174],aA ae ah.kids 7 5 v58 ws173 z116.2.l none,aG w174 z116.2.freed]) (more:=[.box b65 [(.d (.str (Tree.mk [98] [] [] [] []).Tag)),(.d (.str (Tree.mk [98] [] [] [] []).Key)),(.d (.str (Tree.mk [98] [] [] [] []).Text)),(.d (.sl (((Tree.mk [98] [] [] [] []).aI).map ay) false)),(.d (.sl (((Tree.mk [98] [] [] [] []).Kids).map ai) false))],.box b52 [(.d (.str z48.1.Tag)),(.d (.str z48.1.Key)),(.d (.str z48.1.Text)),(.d (.sl ((z48.1.aI).map ay) false)),(.d (.sl ((z48.1.Kids).map ai) false))],.box b3 [(.d (.sl ((a1.Under).map (D.int .i64)) false)),(.d (.sl ((a1.Kinds).map (D.int .i64)) false)),(.d (.sl ((a1.Keys).map (D.int .i64)) false)),(.d (.sl ((a1.Texts).map (D.int .i64)) false))]]) (H180.sl [3,4,5,0,1,2] rfl rfl) rfl (az rfl rfl) (jF E n _ _ _ hzz159 b13 v58 ws173 w174) (.cons (.refl _) (.cons (.refl _) .nil)) rfl ?_
  rintro _ S181 _ ⟨rfl,rfl⟩ H182
  have H183:Has aL S181 [.box b65 [(.d (.str (Tree.mk [98] [] [] [] []).Tag)),(.d (.str (Tree.mk [98] [] [] [] []).Key)),(.d (.str (Tree.mk [98] [] [] [] []).Text)),(.d (.sl (((Tree.mk [98] [] [] [] []).aI).map ay) false)),(.d (.sl (((Tree.mk [98] [] [] [] []).Kids).map ai) false))],.box b52 [(.d (.str z48.1.Tag)),(.d (.str z48.1.Key)),(.d (.str z48.1.Text)),(.d (.sl ((z48.1.aI).map ay) false)),(.d (.sl ((z48.1.Kids).map ai) false))],.box b3 [(.d (.sl ((a1.Under).map (D.int .i64)) false)),(.d (.sl ((a1.Kinds).map (D.int .i64)) false)),(.d (.sl ((a1.Keys).map (D.int .i64)) false)),(.d (.sl ((a1.Texts).map (D.int .i64)) false))],.box b13 [v58,w174],aA ae ah.kids 7 5 v58 ws173 z116.2.l none,aG w174 z116.2.freed]:=H182.sl [3,4,5,0,1,2] rfl rfl
  refine aj.nil ⟨_,_,_,rfl,(fun _ ht=>by cases ht; rfl),_,(.q (.q (.q (.q (.q (.q (.q (.q (.q (.q (.q (.w (.d (.int .i64 z159)) (.w (.d (.bool (z159 == 0))) (.w (.d (.bool (z159 == 0))) (.f (.z (.z (.z (.m (.m (.m (.n (.n (.n .nil)))))))))))))))))))))))),(fun _ ht=>by cases ht; exact ⟨_,rfl,.refl _⟩),?_⟩
  refine ⟨[45,46,47,48,49,50],by kernel_rfl,?_,_,_,rfl,rfl,.no rfl ?_⟩
  ·
   refine .v rfl rfl rfl rfl (aH rfl rfl bD) ?_
   refine .v rfl rfl rfl rfl (aC (b:=true) rfl rfl) ?_
   refine .cons rfl rfl rfl (.val rfl (aa rfl) (.eq (by rw [hb163]))) ?_
   refine .cons rfl rfl rfl (.no rfl (.refl _)) ?_
   refine .cons rfl rfl rfl (.no rfl (.refl _)) ?_
   refine .cons rfl rfl rfl (.no rfl (.refl _)) ?_
   exact .nil
  refine ⟨_,(.q (.q (.q (.q (.q (.q (.q (.q (.q (.q (.q (.q (.o (.o (.o (.z (.z (.f (.f (.z (.z (.z (.z (.z (.z (.f (.f (.z (.f (.f .nil)))))))))))))))))))))))))))))),(fun _ ht=>by cases ht; exact ⟨_,rfl,.refl _⟩),?_⟩
  refine ⟨[52,53,54,55,56,57,58,59,60,61,62,63,64,65],by kernel_rfl,?_,_,rfl,?_⟩
  ·
   refine .cons rfl rfl rfl (.no rfl (.refl _)) ?_
   refine .v rfl rfl rfl rfl (aC (b:=false) rfl rfl) ?_
   refine .v rfl rfl rfl rfl (aa rfl) ?_
   refine .cons rfl rfl rfl (.no rfl (.refl _)) ?_
   refine .cons rfl rfl rfl (.no rfl (.refl _)) ?_
   refine .cons rfl rfl rfl (.no rfl (.refl _)) ?_
   refine .cons rfl rfl rfl (.no rfl (.refl _)) ?_
   refine .cons rfl rfl rfl (.no rfl (.refl _)) ?_
   refine .cons rfl rfl rfl (.no rfl (.refl _)) ?_
   refine .v rfl rfl rfl rfl (aC (b:=false) rfl rfl) ?_
   refine .v rfl rfl rfl rfl (aa rfl) ?_
   refine .cons rfl rfl rfl (.no rfl (.refl _)) ?_
   refine .v rfl rfl rfl rfl (aC (b:=false) rfl rfl) ?_
   refine .v rfl rfl rfl rfl (ak rfl) ?_
   exact .nil
  exact ⟨⟨z116.2,v58,ws173,w174,false⟩,_,_,S181,.refl _ _,.refl _,(au.r rfl au.nil),H183.sl [] rfl rfl,h⟩
 replace h:=dH hb163 h
 obtain ⟨z184,hzz184,h⟩:=bind_some h
 rcases (Bool.eq_false_or_eq_true ((!z184.1))).symm with hb191 | hb191
 ·
  replace h:=dI hb191 h
  refine aD.jf E.obj lQ yD [(4,some 65)] (by kernel_rfl) [10,15,25,32,38,44,51] (by decide) [some (.d (.bool z48.2)),some (.d (.bool true)),some (.d (ai z48.1)),some (.d (dL a1)),some (.d (ai z79)),some (.d (.bool z80)),some (.d (.bool z80)),some (.d (.bool true)),some (.ptr b13 0 0),some (.d (.int .i64 z26.1)),none,none,none,none,none,none,none,none,none,none,none,none,none,none,none,none,none,none,none,none,none,none,none,none,none,none,none,none,none,none,none,none,none,none,none,none,none,none,none,none,none,none,none,none,none,none,none,none,none,none,none,none,none,none,none,none] ?_
  refine ⟨[0,1,2,3,4,5,6,7,8,9],by kernel_rfl,?_,_,_,rfl,rfl,.step ?_⟩
  ·
   refine .v rfl rfl rfl rfl (aa rfl) ?_
   refine .cons rfl rfl rfl (.val rfl (aa rfl) (.eq (by rw [hb78]))) ?_
   refine .cons rfl rfl rfl (.step ?_) ?_
   ·
    refine aj.val rfl (aJ H69 (i:=1) rfl rfl (aW dX bE rfl)) rfl ?_
    refine aj.less (Less.agg' (d:=ai z48.1) (ax.eq rfl (ax.eq rfl (ax.eq rfl (ax.eq rfl (ax.eq rfl .nil))))) ((Tree.eq _).trans rfl)) ?_
    exact aj.nil ⟨_,_,rfl,fun _ ht=>by cases ht; exact ⟨rfl,.refl _⟩⟩
   refine .cons rfl rfl rfl (.step ?_) ?_
   ·
    refine aj.val rfl (aJ H69 (i:=2) rfl rfl (aW zU zI rfl)) rfl ?_
    refine aj.less (Less.agg' (d:=dL a1) (ax.eq rfl (ax.eq rfl (ax.eq rfl (ax.eq rfl .nil)))) ((fA.eq _).trans rfl)) ?_
    exact aj.nil ⟨_,_,rfl,fun _ ht=>by cases ht; exact ⟨rfl,.refl _⟩⟩
   refine .cons rfl rfl rfl (.step ?_) ?_
   ·
    refine aj.ret rfl (az rfl rfl) (bK E _ _ _ hzz79 _ _ (aN.eq .nil)) rfl ?_
    exact aj.nil ⟨_,_,rfl,fun _ ht=>by cases ht; exact ⟨rfl,.refl _⟩⟩
   refine .cons rfl rfl rfl (.step ?_) ?_
   ·
    refine aj.ret rfl (az rfl rfl) (bH E _ _ _ _ hzz80 _ _ (aN.eq (aN.eq .nil))) rfl ?_
    exact aj.nil ⟨_,_,rfl,fun _ ht=>by cases ht; exact ⟨rfl,.refl _⟩⟩
   refine .v rfl rfl rfl rfl (aC (b:=true) rfl rfl) ?_
   refine .cons rfl rfl rfl (.val rfl (aa rfl) (.eq (by rw [hb81]))) ?_
   refine .v rfl rfl rfl rfl (aa rfl) ?_
   refine .v rfl rfl rfl rfl (aa rfl) ?_
   exact .nil
  refine aj.bR (ins:=[.box b13 [v58,w60],aA ae ah.kids 7 5 v58 ws59 z57.2.l none,aG w60 z57.2.freed]) (more:=[.box b65 [(.d (.str (Tree.mk [98] [] [] [] []).Tag)),(.d (.str (Tree.mk [98] [] [] [] []).Key)),(.d (.str (Tree.mk [98] [] [] [] []).Text)),(.d (.sl (((Tree.mk [98] [] [] [] []).aI).map ay) false)),(.d (.sl (((Tree.mk [98] [] [] [] []).Kids).map ai) false))],.box b52 [(.d (.str z48.1.Tag)),(.d (.str z48.1.Key)),(.d (.str z48.1.Text)),(.d (.sl ((z48.1.aI).map ay) false)),(.d (.sl ((z48.1.Kids).map ai) false))],.box b3 [(.d (.sl ((a1.Under).map (D.int .i64)) false)),(.d (.sl ((a1.Kinds).map (D.int .i64)) false)),(.d (.sl ((a1.Keys).map (D.int .i64)) false)),(.d (.sl ((a1.Texts).map (D.int .i64)) false))]]) (H69.sl [3,4,5,0,1,2] rfl rfl) rfl (az rfl rfl) (eT E n _ _ _ hzz82 b13 v58 ws59 w60) (.cons (.refl _) (.cons (.refl _) .nil)) rfl ?_
  rintro _ S192 _ ⟨rfl,rfl⟩ H193
  have H194:Has aL S192 [.box b65 [(.d (.str (Tree.mk [98] [] [] [] []).Tag)),(.d (.str (Tree.mk [98] [] [] [] []).Key)),(.d (.str (Tree.mk [98] [] [] [] []).Text)),(.d (.sl (((Tree.mk [98] [] [] [] []).aI).map ay) false)),(.d (.sl (((Tree.mk [98] [] [] [] []).Kids).map ai) false))],.box b52 [(.d (.str z48.1.Tag)),(.d (.str z48.1.Key)),(.d (.str z48.1.Text)),(.d (.sl ((z48.1.aI).map ay) false)),(.d (.sl ((z48.1.Kids).map ai) false))],.box b3 [(.d (.sl ((a1.Under).map (D.int .i64)) false)),(.d (.sl ((a1.Kinds).map (D.int .i64)) false)),(.d (.sl ((a1.Keys).map (D.int .i64)) false)),(.d (.sl ((a1.Texts).map (D.int .i64)) false))],.box b13 [v58,w60],aA ae ah.kids 7 5 v58 ws59 z57.2.l none,aG w60 z57.2.freed]:=H193.sl [3,4,5,0,1,2] rfl rfl
  refine aj.nil ⟨_,_,_,rfl,(fun _ ht=>by cases ht; rfl),_,(.q (.q (.o (.o (.w (.d (.int .i64 z82)) (.w (.d (.bool (z82 == 0))) (.w (.d (.bool (z82 == 0))) (.w (.d (.bool true)) (.w (.ptr b13 0 0) (.n (.w (.d (.int .i64 z18.1)) (.w (.d (.int .i64 z57.1)) (.w (.d (.int .i64 z26.1)) (.w (.d (.sl (([z18.1,z57.1,z26.1]).map (D.int .i64)) true)) (.m (.m (.m (.m (.m (.m (.m (.m (.m (.m (.m (.n (.n .nil))))))))))))))))))))))))))),(fun _ ht=>by cases ht; exact ⟨_,rfl,.refl _⟩),?_⟩
  refine ⟨[11,12,13,14,16,17,18,19],by kernel_rfl,?_,_,_,rfl,rfl,.step ?_⟩
  ·
   refine .v rfl rfl rfl rfl (aH rfl rfl bD) ?_
   refine .v rfl rfl rfl rfl (aC (b:=true) rfl rfl) ?_
   refine .cons rfl rfl rfl (.val rfl (aa rfl) (.eq (by rw [hb86]))) ?_
   refine .v rfl rfl rfl rfl (aa rfl) ?_
   refine .v rfl rfl rfl rfl (aa rfl) ?_
   refine .v rfl rfl rfl rfl (aa rfl) ?_
   refine .v rfl rfl rfl rfl (aa rfl) ?_
   refine .v rfl rfl rfl rfl (aR (vs:=[(.d (.int .i64 z18.1)),(.d (.int .i64 z57.1)),(.d (.int .i64 z26.1))]) (ds:=[(.int .i64 z18.1),(.int .i64 z57.1),(.int .i64 z26.1)]) o7 fQ nV wD kV rfl (by decide) (.cons rfl rfl (.cons rfl rfl (.cons rfl rfl .nil))) rfl (by intro d hd; simp only [List.mem_cons,List.not_mem_nil,or_false] at hd; rcases hd with rfl | rfl | rfl <;> rfl) rfl) ?_
   exact .nil
  refine aj.bR (ins:=[.box b13 [v58,w60],aA ae ah.kids 7 5 v58 ws59 z57.2.l none,aG w60 z57.2.freed]) (more:=[.box b65 [(.d (.str (Tree.mk [98] [] [] [] []).Tag)),(.d (.str (Tree.mk [98] [] [] [] []).Key)),(.d (.str (Tree.mk [98] [] [] [] []).Text)),(.d (.sl (((Tree.mk [98] [] [] [] []).aI).map ay) false)),(.d (.sl (((Tree.mk [98] [] [] [] []).Kids).map ai) false))],.box b52 [(.d (.str z48.1.Tag)),(.d (.str z48.1.Key)),(.d (.str z48.1.Text)),(.d (.sl ((z48.1.aI).map ay) false)),(.d (.sl ((z48.1.Kids).map ai) false))],.box b3 [(.d (.sl ((a1.Under).map (D.int .i64)) false)),(.d (.sl ((a1.Kinds).map (D.int .i64)) false)),(.d (.sl ((a1.Keys).map (D.int .i64)) false)),(.d (.sl ((a1.Texts).map (D.int .i64)) false))]]) (H194.sl [3,4,5,0,1,2] rfl rfl) rfl (az rfl rfl) (gu E n _ _ hzz90 b13 v58 ws59 w60) (.cons (.refl _) .nil) rfl ?_
  rintro _ S195 _ ⟨rfl,rfl⟩ H196
  have H197:Has aL S195 [.box b65 [(.d (.str (Tree.mk [98] [] [] [] []).Tag)),(.d (.str (Tree.mk [98] [] [] [] []).Key)),(.d (.str (Tree.mk [98] [] [] [] []).Text)),(.d (.sl (((Tree.mk [98] [] [] [] []).aI).map ay) false)),(.d (.sl (((Tree.mk [98] [] [] [] []).Kids).map ai) false))],.box b52 [(.d (.str z48.1.Tag)),(.d (.str z48.1.Key)),(.d (.str z48.1.Text)),(.d (.sl ((z48.1.aI).map ay) false)),(.d (.sl ((z48.1.Kids).map ai) false))],.box b3 [(.d (.sl ((a1.Under).map (D.int .i64)) false)),(.d (.sl ((a1.Kinds).map (D.int .i64)) false)),(.d (.sl ((a1.Keys).map (D.int .i64)) false)),(.d (.sl ((a1.Texts).map (D.int .i64)) false))],.box b13 [v58,w60],aA ae ah.kids 7 5 v58 ws59 z57.2.l none,aG w60 z57.2.freed]:=H196.sl [3,4,5,0,1,2] rfl rfl
  refine aj.nil ⟨_,_,_,rfl,(fun _ ht=>by cases ht; rfl),_,(.q (.q (.q (.o (.o (.o (.w (.d (.sl ((z90).map (D.int .i64)) false)) (.q (.w (.d (.bool z94)) (.w (.d (.bool z94)) (.w (.d (.bool true)) (.w (.ptr b13 0 0) (.w (.d (.int .i64 z57.1)) (.m (.m (.m (.m (.m (.m (.m (.m (.m (.m (.n .nil)))))))))))))))))))))))),(fun _ ht=>by cases ht; exact ⟨_,rfl,.refl _⟩),?_⟩
  refine ⟨[16,17,18,19,20,21,22,23,24],by kernel_rfl,?_,_,_,rfl,rfl,.step ?_⟩
  ·
   refine .v rfl rfl rfl rfl (aa rfl) ?_
   refine .v rfl rfl rfl rfl (aa rfl) ?_
   refine .v rfl rfl rfl rfl (aa rfl) ?_
   refine .v rfl rfl rfl rfl (aR (vs:=[(.d (.int .i64 z18.1)),(.d (.int .i64 z57.1)),(.d (.int .i64 z26.1))]) (ds:=[(.int .i64 z18.1),(.int .i64 z57.1),(.int .i64 z26.1)]) o7 fQ nV wD kV rfl (by decide) (.cons rfl rfl (.cons rfl rfl (.cons rfl rfl .nil))) rfl (by intro d hd; simp only [List.mem_cons,List.not_mem_nil,or_false] at hd; rcases hd with rfl | rfl | rfl <;> rfl) rfl) ?_
   refine .cons rfl rfl rfl (.step ?_) ?_
   ·
    refine aj.ret rfl (az rfl rfl) (dK E _ _ _ _ hzz94 _ _ (aN.eq (aN.dE rfl (.iL _ _) .nil))) rfl ?_
    exact aj.nil ⟨_,_,rfl,fun _ ht=>by cases ht; exact ⟨rfl,.refl _⟩⟩
   refine .v rfl rfl rfl rfl (aC (b:=true) rfl rfl) ?_
   refine .cons rfl rfl rfl (.val rfl (aa rfl) (.eq (by rw [hb95]))) ?_
   refine .v rfl rfl rfl rfl (aa rfl) ?_
   refine .v rfl rfl rfl rfl (aa rfl) ?_
   exact .nil
  refine aj.bR (ins:=[.box b13 [v58,w60],aA ae ah.kids 7 5 v58 ws59 z57.2.l none,aG w60 z57.2.freed]) (more:=[.box b65 [(.d (.str (Tree.mk [98] [] [] [] []).Tag)),(.d (.str (Tree.mk [98] [] [] [] []).Key)),(.d (.str (Tree.mk [98] [] [] [] []).Text)),(.d (.sl (((Tree.mk [98] [] [] [] []).aI).map ay) false)),(.d (.sl (((Tree.mk [98] [] [] [] []).Kids).map ai) false))],.box b52 [(.d (.str z48.1.Tag)),(.d (.str z48.1.Key)),(.d (.str z48.1.Text)),(.d (.sl ((z48.1.aI).map ay) false)),(.d (.sl ((z48.1.Kids).map ai) false))],.box b3 [(.d (.sl ((a1.Under).map (D.int .i64)) false)),(.d (.sl ((a1.Kinds).map (D.int .i64)) false)),(.d (.sl ((a1.Keys).map (D.int .i64)) false)),(.d (.sl ((a1.Texts).map (D.int .i64)) false))]]) (H197.sl [3,4,5,0,1,2] rfl rfl) rfl (az rfl rfl) (cK E n _ _ _ hzz102 b13 v58 ws59 w60) (.cons (.refl _) (.cons (.refl _) .nil)) rfl ?_
  rintro _ S198 _ ⟨rfl,rfl⟩ H199
  have H200:Has aL S198 [.box b65 [(.d (.str (Tree.mk [98] [] [] [] []).Tag)),(.d (.str (Tree.mk [98] [] [] [] []).Key)),(.d (.str (Tree.mk [98] [] [] [] []).Text)),(.d (.sl (((Tree.mk [98] [] [] [] []).aI).map ay) false)),(.d (.sl (((Tree.mk [98] [] [] [] []).Kids).map ai) false))],.box b52 [(.d (.str z48.1.Tag)),(.d (.str z48.1.Key)),(.d (.str z48.1.Text)),(.d (.sl ((z48.1.aI).map ay) false)),(.d (.sl ((z48.1.Kids).map ai) false))],.box b3 [(.d (.sl ((a1.Under).map (D.int .i64)) false)),(.d (.sl ((a1.Kinds).map (D.int .i64)) false)),(.d (.sl ((a1.Keys).map (D.int .i64)) false)),(.d (.sl ((a1.Texts).map (D.int .i64)) false))],.box b13 [v58,w60],aA ae ah.kids 7 5 v58 ws59 z57.2.l none,aG w60 z57.2.freed]:=H199.sl [3,4,5,0,1,2] rfl rfl
  refine aj.nil ⟨_,_,_,rfl,(fun _ ht=>by cases ht; rfl),_,(.q (.q (.q (.q (.q (.q (.o (.w (.d (.int .i64 z102)) (.w (.d (.bool (z102 == 0))) (.w (.d (.bool (z102 == 0))) (.w (.d (.bool true)) (.w (.ptr b13 0 0) (.w (.d (.int .i64 z57.1)) (.w (.d (.int .i64 z26.1)) (.m (.m (.m (.m (.m (.m (.m (.m (.n (.n .nil)))))))))))))))))))))))),(fun _ ht=>by cases ht; exact ⟨_,rfl,.refl _⟩),?_⟩
  refine ⟨[26,27,28,29,30,31],by kernel_rfl,?_,_,_,rfl,rfl,.step ?_⟩
  ·
   refine .v rfl rfl rfl rfl (aH rfl rfl bD) ?_
   refine .v rfl rfl rfl rfl (aC (b:=true) rfl rfl) ?_
   refine .cons rfl rfl rfl (.val rfl (aa rfl) (.eq (by rw [hb106]))) ?_
   refine .v rfl rfl rfl rfl (aa rfl) ?_
   refine .v rfl rfl rfl rfl (aa rfl) ?_
   refine .v rfl rfl rfl rfl (aa rfl) ?_
   exact .nil
  refine aj.bR (ins:=[.box b13 [v58,w60],aA ae ah.kids 7 5 v58 ws59 z57.2.l none,aG w60 z57.2.freed]) (more:=[.box b65 [(.d (.str (Tree.mk [98] [] [] [] []).Tag)),(.d (.str (Tree.mk [98] [] [] [] []).Key)),(.d (.str (Tree.mk [98] [] [] [] []).Text)),(.d (.sl (((Tree.mk [98] [] [] [] []).aI).map ay) false)),(.d (.sl (((Tree.mk [98] [] [] [] []).Kids).map ai) false))],.box b52 [(.d (.str z48.1.Tag)),(.d (.str z48.1.Key)),(.d (.str z48.1.Text)),(.d (.sl ((z48.1.aI).map ay) false)),(.d (.sl ((z48.1.Kids).map ai) false))],.box b3 [(.d (.sl ((a1.Under).map (D.int .i64)) false)),(.d (.sl ((a1.Kinds).map (D.int .i64)) false)),(.d (.sl ((a1.Keys).map (D.int .i64)) false)),(.d (.sl ((a1.Texts).map (D.int .i64)) false))]]) (H200.sl [3,4,5,0,1,2] rfl rfl) rfl (az rfl rfl) (gT E n _ _ _ _ hzz116 b13 v58 ws59 w60) (.cons (.refl _) (.cons (.refl _) (.cons (.refl _) .nil))) rfl ?_
  rintro _ S203 _ ⟨rfl,ws201,w202,rfl⟩ H204
  have H205:Has aL S203 [.box b65 [(.d (.str (Tree.mk [98] [] [] [] []).Tag)),(.d (.str (Tree.mk [98] [] [] [] []).Key)),(.d (.str (Tree.mk [98] [] [] [] []).Text)),(.d (.sl (((Tree.mk [98] [] [] [] []).aI).map ay) false)),(.d (.sl (((Tree.mk [98] [] [] [] []).Kids).map ai) false))],.box b52 [(.d (.str z48.1.Tag)),(.d (.str z48.1.Key)),(.d (.str z48.1.Text)),(.d (.sl ((z48.1.aI).map ay) false)),(.d (.sl ((z48.1.Kids).map ai) false))],.box b3 [(.d (.sl ((a1.Under).map (D.int .i64)) false)),(.d (.sl ((a1.Kinds).map (D.int .i64)) false)),(.d (.sl ((a1.Keys).map (D.int .i64)) false)),(.d (.sl ((a1.Texts).map (D.int .i64)) false))],.box b13 [v58,w202],aA ae ah.kids 7 5 v58 ws201 z116.2.l none,aG w202 z116.2.freed]:=H204.sl [3,4,5,0,1,2] rfl rfl
  refine aj.nil ⟨_,_,_,rfl,(fun _ ht=>by cases ht; rfl),_,(.q (.q (.q (.q (.q (.q (.q (.q (.w (.d (.bool z116.1)) (.w (.d (.bool (!z116.1))) (.w (.d (.bool (!z116.1))) (.w (.d (.bool true)) (.w (.ptr b13 0 0) (.w (.d (.int .i64 (IntKind.wrap .i64 (500 + z64)))) (.m (.m (.m (.m (.m (.m (.m .nil))))))))))))))))))))),(fun _ ht=>by cases ht; exact ⟨_,rfl,.refl _⟩),?_⟩
  refine ⟨[33,34,35,36,37],by kernel_rfl,?_,_,_,rfl,rfl,.step ?_⟩
  ·
   refine .v rfl rfl rfl rfl (gW rfl) ?_
   refine .v rfl rfl rfl rfl (aC (b:=true) rfl rfl) ?_
   refine .cons rfl rfl rfl (.val rfl (aa rfl) (.eq (by rw [hb122]))) ?_
   refine .v rfl rfl rfl rfl (aa rfl) ?_
   refine .v rfl rfl rfl rfl (aa rfl) ?_
   exact .nil
  refine aj.bR (ins:=[.box b13 [v58,w202],aA ae ah.kids 7 5 v58 ws201 z116.2.l none,aG w202 z116.2.freed]) (more:=[.box b65 [(.d (.str (Tree.mk [98] [] [] [] []).Tag)),(.d (.str (Tree.mk [98] [] [] [] []).Key)),(.d (.str (Tree.mk [98] [] [] [] []).Text)),(.d (.sl (((Tree.mk [98] [] [] [] []).aI).map ay) false)),(.d (.sl (((Tree.mk [98] [] [] [] []).Kids).map ai) false))],.box b52 [(.d (.str z48.1.Tag)),(.d (.str z48.1.Key)),(.d (.str z48.1.Text)),(.d (.sl ((z48.1.aI).map ay) false)),(.d (.sl ((z48.1.Kids).map ai) false))],.box b3 [(.d (.sl ((a1.Under).map (D.int .i64)) false)),(.d (.sl ((a1.Kinds).map (D.int .i64)) false)),(.d (.sl ((a1.Keys).map (D.int .i64)) false)),(.d (.sl ((a1.Texts).map (D.int .i64)) false))]]) (H205.sl [3,4,5,0,1,2] rfl rfl) rfl (az rfl rfl) (cK E n _ _ _ hzz137 b13 v58 ws201 w202) (.cons (.refl _) (.cons (.refl _) .nil)) rfl ?_
  rintro _ S206 _ ⟨rfl,rfl⟩ H207
  have H208:Has aL S206 [.box b65 [(.d (.str (Tree.mk [98] [] [] [] []).Tag)),(.d (.str (Tree.mk [98] [] [] [] []).Key)),(.d (.str (Tree.mk [98] [] [] [] []).Text)),(.d (.sl (((Tree.mk [98] [] [] [] []).aI).map ay) false)),(.d (.sl (((Tree.mk [98] [] [] [] []).Kids).map ai) false))],.box b52 [(.d (.str z48.1.Tag)),(.d (.str z48.1.Key)),(.d (.str z48.1.Text)),(.d (.sl ((z48.1.aI).map ay) false)),(.d (.sl ((z48.1.Kids).map ai) false))],.box b3 [(.d (.sl ((a1.Under).map (D.int .i64)) false)),(.d (.sl ((a1.Kinds).map (D.int .i64)) false)),(.d (.sl ((a1.Keys).map (D.int .i64)) false)),(.d (.sl ((a1.Texts).map (D.int .i64)) false))],.box b13 [v58,w202],aA ae ah.kids 7 5 v58 ws201 z116.2.l none,aG w202 z116.2.freed]:=H207.sl [3,4,5,0,1,2] rfl rfl
  refine aj.nil ⟨_,_,_,rfl,(fun _ ht=>by cases ht; rfl),_,(.q (.q (.q (.q (.q (.q (.q (.q (.q (.o (.o (.w (.d (.int .i64 z137)) (.w (.d (.bool (z137 == 0))) (.w (.d (.bool (z137 == 0))) (.w (.d (.bool true)) (.w (.ptr b13 0 0) (.w (.d (.int .i64 (IntKind.wrap .i64 (500 + z64)))) (.m (.m (.m (.m (.m (.n (.n .nil)))))))))))))))))))))))),(fun _ ht=>by cases ht; exact ⟨_,rfl,.refl _⟩),?_⟩
  refine ⟨[39,40,41,42,43],by kernel_rfl,?_,_,_,rfl,rfl,.step ?_⟩
  ·
   refine .v rfl rfl rfl rfl (aH rfl rfl bD) ?_
   refine .v rfl rfl rfl rfl (aC (b:=true) rfl rfl) ?_
   refine .cons rfl rfl rfl (.val rfl (aa rfl) (.eq (by rw [hb141]))) ?_
   refine .v rfl rfl rfl rfl (aa rfl) ?_
   refine .v rfl rfl rfl rfl (aa rfl) ?_
   exact .nil
  refine aj.bR (ins:=[.box b13 [v58,w202],aA ae ah.kids 7 5 v58 ws201 z116.2.l none,aG w202 z116.2.freed]) (more:=[.box b65 [(.d (.str (Tree.mk [98] [] [] [] []).Tag)),(.d (.str (Tree.mk [98] [] [] [] []).Key)),(.d (.str (Tree.mk [98] [] [] [] []).Text)),(.d (.sl (((Tree.mk [98] [] [] [] []).aI).map ay) false)),(.d (.sl (((Tree.mk [98] [] [] [] []).Kids).map ai) false))],.box b52 [(.d (.str z48.1.Tag)),(.d (.str z48.1.Key)),(.d (.str z48.1.Text)),(.d (.sl ((z48.1.aI).map ay) false)),(.d (.sl ((z48.1.Kids).map ai) false))],.box b3 [(.d (.sl ((a1.Under).map (D.int .i64)) false)),(.d (.sl ((a1.Kinds).map (D.int .i64)) false)),(.d (.sl ((a1.Keys).map (D.int .i64)) false)),(.d (.sl ((a1.Texts).map (D.int .i64)) false))]]) (H208.sl [3,4,5,0,1,2] rfl rfl) rfl (az rfl rfl) (jF E n _ _ _ hzz159 b13 v58 ws201 w202) (.cons (.refl _) (.cons (.refl _) .nil)) rfl ?_
  rintro _ S209 _ ⟨rfl,rfl⟩ H210
  have H211:Has aL S209 [.box b65 [(.d (.str (Tree.mk [98] [] [] [] []).Tag)),(.d (.str (Tree.mk [98] [] [] [] []).Key)),(.d (.str (Tree.mk [98] [] [] [] []).Text)),(.d (.sl (((Tree.mk [98] [] [] [] []).aI).map ay) false)),(.d (.sl (((Tree.mk [98] [] [] [] []).Kids).map ai) false))],.box b52 [(.d (.str z48.1.Tag)),(.d (.str z48.1.Key)),(.d (.str z48.1.Text)),(.d (.sl ((z48.1.aI).map ay) false)),(.d (.sl ((z48.1.Kids).map ai) false))],.box b3 [(.d (.sl ((a1.Under).map (D.int .i64)) false)),(.d (.sl ((a1.Kinds).map (D.int .i64)) false)),(.d (.sl ((a1.Keys).map (D.int .i64)) false)),(.d (.sl ((a1.Texts).map (D.int .i64)) false))],.box b13 [v58,w202],aA ae ah.kids 7 5 v58 ws201 z116.2.l none,aG w202 z116.2.freed]:=H210.sl [3,4,5,0,1,2] rfl rfl
  refine aj.nil ⟨_,_,_,rfl,(fun _ ht=>by cases ht; rfl),_,(.q (.q (.q (.q (.q (.q (.q (.q (.q (.q (.q (.w (.d (.int .i64 z159)) (.w (.d (.bool (z159 == 0))) (.w (.d (.bool (z159 == 0))) (.w (.d (.bool true)) (.w (.ptr b13 0 0) (.w (.d (.int .i64 (IntKind.wrap .i64 (500 + z64)))) (.w (.d (ai (Tree.mk [98] [] [] [] []))) (.m (.m (.m (.n (.n (.n .nil)))))))))))))))))))))))),(fun _ ht=>by cases ht; exact ⟨_,rfl,.refl _⟩),?_⟩
  refine ⟨[45,46,47,48,49,50],by kernel_rfl,?_,_,_,rfl,rfl,.step ?_⟩
  ·
   refine .v rfl rfl rfl rfl (aH rfl rfl bD) ?_
   refine .v rfl rfl rfl rfl (aC (b:=true) rfl rfl) ?_
   refine .cons rfl rfl rfl (.val rfl (aa rfl) (.eq (by rw [hb163]))) ?_
   refine .v rfl rfl rfl rfl (aa rfl) ?_
   refine .v rfl rfl rfl rfl (aa rfl) ?_
   refine .cons rfl rfl rfl (.step ?_) ?_
   ·
    refine aj.val rfl (aJ H211 (i:=0) rfl rfl (aW dX bE rfl)) rfl ?_
    refine aj.less (Less.agg' (d:=ai (Tree.mk [98] [] [] [] [])) (ax.eq rfl (ax.eq rfl (ax.eq rfl (ax.eq rfl (ax.eq rfl .nil))))) ((Tree.eq _).trans rfl)) ?_
    exact aj.nil ⟨_,_,rfl,fun _ ht=>by cases ht; exact ⟨rfl,.refl _⟩⟩
   exact .nil
  refine aj.bR (ins:=[.box b13 [v58,w202],aA ae ah.kids 7 5 v58 ws201 z116.2.l none,aG w202 z116.2.freed]) (more:=[.box b65 [(.d (.str (Tree.mk [98] [] [] [] []).Tag)),(.d (.str (Tree.mk [98] [] [] [] []).Key)),(.d (.str (Tree.mk [98] [] [] [] []).Text)),(.d (.sl (((Tree.mk [98] [] [] [] []).aI).map ay) false)),(.d (.sl (((Tree.mk [98] [] [] [] []).Kids).map ai) false))],.box b52 [(.d (.str z48.1.Tag)),(.d (.str z48.1.Key)),(.d (.str z48.1.Text)),(.d (.sl ((z48.1.aI).map ay) false)),(.d (.sl ((z48.1.Kids).map ai) false))],.box b3 [(.d (.sl ((a1.Under).map (D.int .i64)) false)),(.d (.sl ((a1.Kinds).map (D.int .i64)) false)),(.d (.sl ((a1.Keys).map (D.int .i64)) false)),(.d (.sl ((a1.Texts).map (D.int .i64)) false))]]) (H211.sl [3,4,5,0,1,2] rfl rfl) rfl (az rfl rfl) (jH E n _ _ _ _ hzz184 b13 v58 ws201 w202) (.cons (.refl _) (.cons (.refl _) (.cons (.refl _) .nil))) rfl ?_
  rintro _ S215 _ ⟨rfl,v212,ws213,w214,rfl⟩ H216
  have H217:Has aL S215 [.box b65 [(.d (.str (Tree.mk [98] [] [] [] []).Tag)),(.d (.str (Tree.mk [98] [] [] [] []).Key)),(.d (.str (Tree.mk [98] [] [] [] []).Text)),(.d (.sl (((Tree.mk [98] [] [] [] []).aI).map ay) false)),(.d (.sl (((Tree.mk [98] [] [] [] []).Kids).map ai) false))],.box b52 [(.d (.str z48.1.Tag)),(.d (.str z48.1.Key)),(.d (.str z48.1.Text)),(.d (.sl ((z48.1.aI).map ay) false)),(.d (.sl ((z48.1.Kids).map ai) false))],.box b3 [(.d (.sl ((a1.Under).map (D.int .i64)) false)),(.d (.sl ((a1.Kinds).map (D.int .i64)) false)),(.d (.sl ((a1.Keys).map (D.int .i64)) false)),(.d (.sl ((a1.Texts).map (D.int .i64)) false))],.box b13 [v212,w214],aA ae ah.kids 7 5 v212 ws213 z184.2.l none,aG w214 z184.2.freed]:=H216.sl [3,4,5,0,1,2] rfl rfl
  refine aj.nil ⟨_,_,_,rfl,(fun _ ht=>by cases ht; rfl),_,(.q (.q (.q (.q (.q (.q (.q (.q (.q (.q (.q (.q (.o (.o (.o (.w (.d (.bool z184.1)) (.w (.d (.bool (!z184.1))) (.w (.d (.bool (!z184.1))) (.f (.z (.z (.z (.z (.z (.z (.f (.f (.z (.f (.f .nil)))))))))))))))))))))))))))))),(fun _ ht=>by cases ht; exact ⟨_,rfl,.refl _⟩),?_⟩
  refine ⟨[52,53,54,55,56,57,58,59,60,61,62,63,64,65],by kernel_rfl,?_,_,rfl,?_⟩
  ·
   refine .v rfl rfl rfl rfl (gW rfl) ?_
   refine .v rfl rfl rfl rfl (aC (b:=true) rfl rfl) ?_
   refine .cons rfl rfl rfl (.val rfl (aa rfl) (.eq (by rw [hb191]))) ?_
   refine .cons rfl rfl rfl (.no rfl (.refl _)) ?_
   refine .cons rfl rfl rfl (.no rfl (.refl _)) ?_
   refine .cons rfl rfl rfl (.no rfl (.refl _)) ?_
   refine .cons rfl rfl rfl (.no rfl (.refl _)) ?_
   refine .cons rfl rfl rfl (.no rfl (.refl _)) ?_
   refine .cons rfl rfl rfl (.no rfl (.refl _)) ?_
   refine .v rfl rfl rfl rfl (aC (b:=false) rfl rfl) ?_
   refine .v rfl rfl rfl rfl (aa rfl) ?_
   refine .cons rfl rfl rfl (.no rfl (.refl _)) ?_
   refine .v rfl rfl rfl rfl (aC (b:=false) rfl rfl) ?_
   refine .v rfl rfl rfl rfl (ak rfl) ?_
   exact .nil
  exact ⟨⟨z184.2,v212,ws213,w214,false⟩,_,_,S215,.refl _ _,.refl _,(au.r rfl au.nil),H217.sl [] rfl rfl,h⟩
 replace h:=dH hb191 h
 obtain ⟨z218,hzz218,h⟩:=bind_some h
 obtain ⟨z219,hzz219,h⟩:=bind_some h
 rcases (Bool.eq_false_or_eq_true (z219)).symm with hb220 | hb220
 ·
  replace h:=dI hb220 h
  refine aD.jf E.obj lQ yD [(4,some 65)] (by kernel_rfl) [10,15,25,32,38,44,51] (by decide) [some (.d (.bool z48.2)),some (.d (.bool true)),some (.d (ai z48.1)),some (.d (dL a1)),some (.d (ai z79)),some (.d (.bool z80)),some (.d (.bool z80)),some (.d (.bool true)),some (.ptr b13 0 0),some (.d (.int .i64 z26.1)),none,none,none,none,none,none,none,none,none,none,none,none,none,none,none,none,none,none,none,none,none,none,none,none,none,none,none,none,none,none,none,none,none,none,none,none,none,none,none,none,none,none,none,none,none,none,none,none,none,none,none,none,none,none,none,none] ?_
  refine ⟨[0,1,2,3,4,5,6,7,8,9],by kernel_rfl,?_,_,_,rfl,rfl,.step ?_⟩
  ·
   refine .v rfl rfl rfl rfl (aa rfl) ?_
   refine .cons rfl rfl rfl (.val rfl (aa rfl) (.eq (by rw [hb78]))) ?_
   refine .cons rfl rfl rfl (.step ?_) ?_
   ·
    refine aj.val rfl (aJ H69 (i:=1) rfl rfl (aW dX bE rfl)) rfl ?_
    refine aj.less (Less.agg' (d:=ai z48.1) (ax.eq rfl (ax.eq rfl (ax.eq rfl (ax.eq rfl (ax.eq rfl .nil))))) ((Tree.eq _).trans rfl)) ?_
    exact aj.nil ⟨_,_,rfl,fun _ ht=>by cases ht; exact ⟨rfl,.refl _⟩⟩
   refine .cons rfl rfl rfl (.step ?_) ?_
   ·
    refine aj.val rfl (aJ H69 (i:=2) rfl rfl (aW zU zI rfl)) rfl ?_
    refine aj.less (Less.agg' (d:=dL a1) (ax.eq rfl (ax.eq rfl (ax.eq rfl (ax.eq rfl .nil)))) ((fA.eq _).trans rfl)) ?_
    exact aj.nil ⟨_,_,rfl,fun _ ht=>by cases ht; exact ⟨rfl,.refl _⟩⟩
   refine .cons rfl rfl rfl (.step ?_) ?_
   ·
    refine aj.ret rfl (az rfl rfl) (bK E _ _ _ hzz79 _ _ (aN.eq .nil)) rfl ?_
    exact aj.nil ⟨_,_,rfl,fun _ ht=>by cases ht; exact ⟨rfl,.refl _⟩⟩
   refine .cons rfl rfl rfl (.step ?_) ?_
   ·
    refine aj.ret rfl (az rfl rfl) (bH E _ _ _ _ hzz80 _ _ (aN.eq (aN.eq .nil))) rfl ?_
    exact aj.nil ⟨_,_,rfl,fun _ ht=>by cases ht; exact ⟨rfl,.refl _⟩⟩
   refine .v rfl rfl rfl rfl (aC (b:=true) rfl rfl) ?_
   refine .cons rfl rfl rfl (.val rfl (aa rfl) (.eq (by rw [hb81]))) ?_
   refine .v rfl rfl rfl rfl (aa rfl) ?_
   refine .v rfl rfl rfl rfl (aa rfl) ?_
   exact .nil
  refine aj.bR (ins:=[.box b13 [v58,w60],aA ae ah.kids 7 5 v58 ws59 z57.2.l none,aG w60 z57.2.freed]) (more:=[.box b65 [(.d (.str (Tree.mk [98] [] [] [] []).Tag)),(.d (.str (Tree.mk [98] [] [] [] []).Key)),(.d (.str (Tree.mk [98] [] [] [] []).Text)),(.d (.sl (((Tree.mk [98] [] [] [] []).aI).map ay) false)),(.d (.sl (((Tree.mk [98] [] [] [] []).Kids).map ai) false))],.box b52 [(.d (.str z48.1.Tag)),(.d (.str z48.1.Key)),(.d (.str z48.1.Text)),(.d (.sl ((z48.1.aI).map ay) false)),(.d (.sl ((z48.1.Kids).map ai) false))],.box b3 [(.d (.sl ((a1.Under).map (D.int .i64)) false)),(.d (.sl ((a1.Kinds).map (D.int .i64)) false)),(.d (.sl ((a1.Keys).map (D.int .i64)) false)),(.d (.sl ((a1.Texts).map (D.int .i64)) false))]]) (H69.sl [3,4,5,0,1,2] rfl rfl) rfl (az rfl rfl) (eT E n _ _ _ hzz82 b13 v58 ws59 w60) (.cons (.refl _) (.cons (.refl _) .nil)) rfl ?_
  rintro _ S221 _ ⟨rfl,rfl⟩ H222
  have H223:Has aL S221 [.box b65 [(.d (.str (Tree.mk [98] [] [] [] []).Tag)),(.d (.str (Tree.mk [98] [] [] [] []).Key)),(.d (.str (Tree.mk [98] [] [] [] []).Text)),(.d (.sl (((Tree.mk [98] [] [] [] []).aI).map ay) false)),(.d (.sl (((Tree.mk [98] [] [] [] []).Kids).map ai) false))],.box b52 [(.d (.str z48.1.Tag)),(.d (.str z48.1.Key)),(.d (.str z48.1.Text)),(.d (.sl ((z48.1.aI).map ay) false)),(.d (.sl ((z48.1.Kids).map ai) false))],.box b3 [(.d (.sl ((a1.Under).map (D.int .i64)) false)),(.d (.sl ((a1.Kinds).map (D.int .i64)) false)),(.d (.sl ((a1.Keys).map (D.int .i64)) false)),(.d (.sl ((a1.Texts).map (D.int .i64)) false))],.box b13 [v58,w60],aA ae ah.kids 7 5 v58 ws59 z57.2.l none,aG w60 z57.2.freed]:=H222.sl [3,4,5,0,1,2] rfl rfl
  refine aj.nil ⟨_,_,_,rfl,(fun _ ht=>by cases ht; rfl),_,(.q (.q (.o (.o (.w (.d (.int .i64 z82)) (.w (.d (.bool (z82 == 0))) (.w (.d (.bool (z82 == 0))) (.w (.d (.bool true)) (.w (.ptr b13 0 0) (.n (.w (.d (.int .i64 z18.1)) (.w (.d (.int .i64 z57.1)) (.w (.d (.int .i64 z26.1)) (.w (.d (.sl (([z18.1,z57.1,z26.1]).map (D.int .i64)) true)) (.m (.m (.m (.m (.m (.m (.m (.m (.m (.m (.m (.n (.n .nil))))))))))))))))))))))))))),(fun _ ht=>by cases ht; exact ⟨_,rfl,.refl _⟩),?_⟩
  refine ⟨[11,12,13,14,16,17,18,19],by kernel_rfl,?_,_,_,rfl,rfl,.step ?_⟩
  ·
   refine .v rfl rfl rfl rfl (aH rfl rfl bD) ?_
   refine .v rfl rfl rfl rfl (aC (b:=true) rfl rfl) ?_
   refine .cons rfl rfl rfl (.val rfl (aa rfl) (.eq (by rw [hb86]))) ?_
   refine .v rfl rfl rfl rfl (aa rfl) ?_
   refine .v rfl rfl rfl rfl (aa rfl) ?_
   refine .v rfl rfl rfl rfl (aa rfl) ?_
   refine .v rfl rfl rfl rfl (aa rfl) ?_
   refine .v rfl rfl rfl rfl (aR (vs:=[(.d (.int .i64 z18.1)),(.d (.int .i64 z57.1)),(.d (.int .i64 z26.1))]) (ds:=[(.int .i64 z18.1),(.int .i64 z57.1),(.int .i64 z26.1)]) o7 fQ nV wD kV rfl (by decide) (.cons rfl rfl (.cons rfl rfl (.cons rfl rfl .nil))) rfl (by intro d hd; simp only [List.mem_cons,List.not_mem_nil,or_false] at hd; rcases hd with rfl | rfl | rfl <;> rfl) rfl) ?_
   exact .nil
  refine aj.bR (ins:=[.box b13 [v58,w60],aA ae ah.kids 7 5 v58 ws59 z57.2.l none,aG w60 z57.2.freed]) (more:=[.box b65 [(.d (.str (Tree.mk [98] [] [] [] []).Tag)),(.d (.str (Tree.mk [98] [] [] [] []).Key)),(.d (.str (Tree.mk [98] [] [] [] []).Text)),(.d (.sl (((Tree.mk [98] [] [] [] []).aI).map ay) false)),(.d (.sl (((Tree.mk [98] [] [] [] []).Kids).map ai) false))],.box b52 [(.d (.str z48.1.Tag)),(.d (.str z48.1.Key)),(.d (.str z48.1.Text)),(.d (.sl ((z48.1.aI).map ay) false)),(.d (.sl ((z48.1.Kids).map ai) false))],.box b3 [(.d (.sl ((a1.Under).map (D.int .i64)) false)),(.d (.sl ((a1.Kinds).map (D.int .i64)) false)),(.d (.sl ((a1.Keys).map (D.int .i64)) false)),(.d (.sl ((a1.Texts).map (D.int .i64)) false))]]) (H223.sl [3,4,5,0,1,2] rfl rfl) rfl (az rfl rfl) (gu E n _ _ hzz90 b13 v58 ws59 w60) (.cons (.refl _) .nil) rfl ?_
  rintro _ S224 _ ⟨rfl,rfl⟩ H225
  have H226:Has aL S224 [.box b65 [(.d (.str (Tree.mk [98] [] [] [] []).Tag)),(.d (.str (Tree.mk [98] [] [] [] []).Key)),(.d (.str (Tree.mk [98] [] [] [] []).Text)),(.d (.sl (((Tree.mk [98] [] [] [] []).aI).map ay) false)),(.d (.sl (((Tree.mk [98] [] [] [] []).Kids).map ai) false))],.box b52 [(.d (.str z48.1.Tag)),(.d (.str z48.1.Key)),(.d (.str z48.1.Text)),(.d (.sl ((z48.1.aI).map ay) false)),(.d (.sl ((z48.1.Kids).map ai) false))],.box b3 [(.d (.sl ((a1.Under).map (D.int .i64)) false)),(.d (.sl ((a1.Kinds).map (D.int .i64)) false)),(.d (.sl ((a1.Keys).map (D.int .i64)) false)),(.d (.sl ((a1.Texts).map (D.int .i64)) false))],.box b13 [v58,w60],aA ae ah.kids 7 5 v58 ws59 z57.2.l none,aG w60 z57.2.freed]:=H225.sl [3,4,5,0,1,2] rfl rfl
  refine aj.nil ⟨_,_,_,rfl,(fun _ ht=>by cases ht; rfl),_,(.q (.q (.q (.o (.o (.o (.w (.d (.sl ((z90).map (D.int .i64)) false)) (.q (.w (.d (.bool z94)) (.w (.d (.bool z94)) (.w (.d (.bool true)) (.w (.ptr b13 0 0) (.w (.d (.int .i64 z57.1)) (.m (.m (.m (.m (.m (.m (.m (.m (.m (.m (.n .nil)))))))))))))))))))))))),(fun _ ht=>by cases ht; exact ⟨_,rfl,.refl _⟩),?_⟩
  refine ⟨[16,17,18,19,20,21,22,23,24],by kernel_rfl,?_,_,_,rfl,rfl,.step ?_⟩
  ·
   refine .v rfl rfl rfl rfl (aa rfl) ?_
   refine .v rfl rfl rfl rfl (aa rfl) ?_
   refine .v rfl rfl rfl rfl (aa rfl) ?_
   refine .v rfl rfl rfl rfl (aR (vs:=[(.d (.int .i64 z18.1)),(.d (.int .i64 z57.1)),(.d (.int .i64 z26.1))]) (ds:=[(.int .i64 z18.1),(.int .i64 z57.1),(.int .i64 z26.1)]) o7 fQ nV wD kV rfl (by decide) (.cons rfl rfl (.cons rfl rfl (.cons rfl rfl .nil))) rfl (by intro d hd; simp only [List.mem_cons,List.not_mem_nil,or_false] at hd; rcases hd with rfl | rfl | rfl <;> rfl) rfl) ?_
   refine .cons rfl rfl rfl (.step ?_) ?_
   ·
    refine aj.ret rfl (az rfl rfl) (dK E _ _ _ _ hzz94 _ _ (aN.eq (aN.dE rfl (.iL _ _) .nil))) rfl ?_
    exact aj.nil ⟨_,_,rfl,fun _ ht=>by cases ht; exact ⟨rfl,.refl _⟩⟩
   refine .v rfl rfl rfl rfl (aC (b:=true) rfl rfl) ?_
   refine .cons rfl rfl rfl (.val rfl (aa rfl) (.eq (by rw [hb95]))) ?_
   refine .v rfl rfl rfl rfl (aa rfl) ?_
   refine .v rfl rfl rfl rfl (aa rfl) ?_
   exact .nil
  refine aj.bR (ins:=[.box b13 [v58,w60],aA ae ah.kids 7 5 v58 ws59 z57.2.l none,aG w60 z57.2.freed]) (more:=[.box b65 [(.d (.str (Tree.mk [98] [] [] [] []).Tag)),(.d (.str (Tree.mk [98] [] [] [] []).Key)),(.d (.str (Tree.mk [98] [] [] [] []).Text)),(.d (.sl (((Tree.mk [98] [] [] [] []).aI).map ay) false)),(.d (.sl (((Tree.mk [98] [] [] [] []).Kids).map ai) false))],.box b52 [(.d (.str z48.1.Tag)),(.d (.str z48.1.Key)),(.d (.str z48.1.Text)),(.d (.sl ((z48.1.aI).map ay) false)),(.d (.sl ((z48.1.Kids).map ai) false))],.box b3 [(.d (.sl ((a1.Under).map (D.int .i64)) false)),(.d (.sl ((a1.Kinds).map (D.int .i64)) false)),(.d (.sl ((a1.Keys).map (D.int .i64)) false)),(.d (.sl ((a1.Texts).map (D.int .i64)) false))]]) (H226.sl [3,4,5,0,1,2] rfl rfl) rfl (az rfl rfl) (cK E n _ _ _ hzz102 b13 v58 ws59 w60) (.cons (.refl _) (.cons (.refl _) .nil)) rfl ?_
  rintro _ S227 _ ⟨rfl,rfl⟩ H228
  have H229:Has aL S227 [.box b65 [(.d (.str (Tree.mk [98] [] [] [] []).Tag)),(.d (.str (Tree.mk [98] [] [] [] []).Key)),(.d (.str (Tree.mk [98] [] [] [] []).Text)),(.d (.sl (((Tree.mk [98] [] [] [] []).aI).map ay) false)),(.d (.sl (((Tree.mk [98] [] [] [] []).Kids).map ai) false))],.box b52 [(.d (.str z48.1.Tag)),(.d (.str z48.1.Key)),(.d (.str z48.1.Text)),(.d (.sl ((z48.1.aI).map ay) false)),(.d (.sl ((z48.1.Kids).map ai) false))],.box b3 [(.d (.sl ((a1.Under).map (D.int .i64)) false)),(.d (.sl ((a1.Kinds).map (D.int .i64)) false)),(.d (.sl ((a1.Keys).map (D.int .i64)) false)),(.d (.sl ((a1.Texts).map (D.int .i64)) false))],.box b13 [v58,w60],aA ae ah.kids 7 5 v58 ws59 z57.2.l none,aG w60 z57.2.freed]:=H228.sl [3,4,5,0,1,2] rfl rfl
  refine aj.nil ⟨_,_,_,rfl,(fun _ ht=>by cases ht; rfl),_,(.q (.q (.q (.q (.q (.q (.o (.w (.d (.int .i64 z102)) (.w (.d (.bool (z102 == 0))) (.w (.d (.bool (z102 == 0))) (.w (.d (.bool true)) (.w (.ptr b13 0 0) (.w (.d (.int .i64 z57.1)) (.w (.d (.int .i64 z26.1)) (.m (.m (.m (.m (.m (.m (.m (.m (.n (.n .nil)))))))))))))))))))))))),(fun _ ht=>by cases ht; exact ⟨_,rfl,.refl _⟩),?_⟩
  refine ⟨[26,27,28,29,30,31],by kernel_rfl,?_,_,_,rfl,rfl,.step ?_⟩
  ·
   refine .v rfl rfl rfl rfl (aH rfl rfl bD) ?_
   refine .v rfl rfl rfl rfl (aC (b:=true) rfl rfl) ?_
   refine .cons rfl rfl rfl (.val rfl (aa rfl) (.eq (by rw [hb106]))) ?_
   refine .v rfl rfl rfl rfl (aa rfl) ?_
   refine .v rfl rfl rfl rfl (aa rfl) ?_
   refine .v rfl rfl rfl rfl (aa rfl) ?_
   exact .nil
  refine aj.bR (ins:=[.box b13 [v58,w60],aA ae ah.kids 7 5 v58 ws59 z57.2.l none,aG w60 z57.2.freed]) (more:=[.box b65 [(.d (.str (Tree.mk [98] [] [] [] []).Tag)),(.d (.str (Tree.mk [98] [] [] [] []).Key)),(.d (.str (Tree.mk [98] [] [] [] []).Text)),(.d (.sl (((Tree.mk [98] [] [] [] []).aI).map ay) false)),(.d (.sl (((Tree.mk [98] [] [] [] []).Kids).map ai) false))],.box b52 [(.d (.str z48.1.Tag)),(.d (.str z48.1.Key)),(.d (.str z48.1.Text)),(.d (.sl ((z48.1.aI).map ay) false)),(.d (.sl ((z48.1.Kids).map ai) false))],.box b3 [(.d (.sl ((a1.Under).map (D.int .i64)) false)),(.d (.sl ((a1.Kinds).map (D.int .i64)) false)),(.d (.sl ((a1.Keys).map (D.int .i64)) false)),(.d (.sl ((a1.Texts).map (D.int .i64)) false))]]) (H229.sl [3,4,5,0,1,2] rfl rfl) rfl (az rfl rfl) (gT E n _ _ _ _ hzz116 b13 v58 ws59 w60) (.cons (.refl _) (.cons (.refl _) (.cons (.refl _) .nil))) rfl ?_
  rintro _ S232 _ ⟨rfl,ws230,w231,rfl⟩ H233
  have H234:Has aL S232 [.box b65 [(.d (.str (Tree.mk [98] [] [] [] []).Tag)),(.d (.str (Tree.mk [98] [] [] [] []).Key)),(.d (.str (Tree.mk [98] [] [] [] []).Text)),(.d (.sl (((Tree.mk [98] [] [] [] []).aI).map ay) false)),(.d (.sl (((Tree.mk [98] [] [] [] []).Kids).map ai) false))],.box b52 [(.d (.str z48.1.Tag)),(.d (.str z48.1.Key)),(.d (.str z48.1.Text)),(.d (.sl ((z48.1.aI).map ay) false)),(.d (.sl ((z48.1.Kids).map ai) false))],.box b3 [(.d (.sl ((a1.Under).map (D.int .i64)) false)),(.d (.sl ((a1.Kinds).map (D.int .i64)) false)),(.d (.sl ((a1.Keys).map (D.int .i64)) false)),(.d (.sl ((a1.Texts).map (D.int .i64)) false))],.box b13 [v58,w231],aA ae ah.kids 7 5 v58 ws230 z116.2.l none,aG w231 z116.2.freed]:=H233.sl [3,4,5,0,1,2] rfl rfl
  refine aj.nil ⟨_,_,_,rfl,(fun _ ht=>by cases ht; rfl),_,(.q (.q (.q (.q (.q (.q (.q (.q (.w (.d (.bool z116.1)) (.w (.d (.bool (!z116.1))) (.w (.d (.bool (!z116.1))) (.w (.d (.bool true)) (.w (.ptr b13 0 0) (.w (.d (.int .i64 (IntKind.wrap .i64 (500 + z64)))) (.m (.m (.m (.m (.m (.m (.m .nil))))))))))))))))))))),(fun _ ht=>by cases ht; exact ⟨_,rfl,.refl _⟩),?_⟩
  refine ⟨[33,34,35,36,37],by kernel_rfl,?_,_,_,rfl,rfl,.step ?_⟩
  ·
   refine .v rfl rfl rfl rfl (gW rfl) ?_
   refine .v rfl rfl rfl rfl (aC (b:=true) rfl rfl) ?_
   refine .cons rfl rfl rfl (.val rfl (aa rfl) (.eq (by rw [hb122]))) ?_
   refine .v rfl rfl rfl rfl (aa rfl) ?_
   refine .v rfl rfl rfl rfl (aa rfl) ?_
   exact .nil
  refine aj.bR (ins:=[.box b13 [v58,w231],aA ae ah.kids 7 5 v58 ws230 z116.2.l none,aG w231 z116.2.freed]) (more:=[.box b65 [(.d (.str (Tree.mk [98] [] [] [] []).Tag)),(.d (.str (Tree.mk [98] [] [] [] []).Key)),(.d (.str (Tree.mk [98] [] [] [] []).Text)),(.d (.sl (((Tree.mk [98] [] [] [] []).aI).map ay) false)),(.d (.sl (((Tree.mk [98] [] [] [] []).Kids).map ai) false))],.box b52 [(.d (.str z48.1.Tag)),(.d (.str z48.1.Key)),(.d (.str z48.1.Text)),(.d (.sl ((z48.1.aI).map ay) false)),(.d (.sl ((z48.1.Kids).map ai) false))],.box b3 [(.d (.sl ((a1.Under).map (D.int .i64)) false)),(.d (.sl ((a1.Kinds).map (D.int .i64)) false)),(.d (.sl ((a1.Keys).map (D.int .i64)) false)),(.d (.sl ((a1.Texts).map (D.int .i64)) false))]]) (H234.sl [3,4,5,0,1,2] rfl rfl) rfl (az rfl rfl) (cK E n _ _ _ hzz137 b13 v58 ws230 w231) (.cons (.refl _) (.cons (.refl _) .nil)) rfl ?_
  rintro _ S235 _ ⟨rfl,rfl⟩ H236
  have H237:Has aL S235 [.box b65 [(.d (.str (Tree.mk [98] [] [] [] []).Tag)),(.d (.str (Tree.mk [98] [] [] [] []).Key)),(.d (.str (Tree.mk [98] [] [] [] []).Text)),(.d (.sl (((Tree.mk [98] [] [] [] []).aI).map ay) false)),(.d (.sl (((Tree.mk [98] [] [] [] []).Kids).map ai) false))],.box b52 [(.d (.str z48.1.Tag)),(.d (.str z48.1.Key)),(.d (.str z48.1.Text)),(.d (.sl ((z48.1.aI).map ay) false)),(.d (.sl ((z48.1.Kids).map ai) false))],.box b3 [(.d (.sl ((a1.Under).map (D.int .i64)) false)),(.d (.sl ((a1.Kinds).map (D.int .i64)) false)),(.d (.sl ((a1.Keys).map (D.int .i64)) false)),(.d (.sl ((a1.Texts).map (D.int .i64)) false))],.box b13 [v58,w231],aA ae ah.kids 7 5 v58 ws230 z116.2.l none,aG w231 z116.2.freed]:=H236.sl [3,4,5,0,1,2] rfl rfl
  refine aj.nil ⟨_,_,_,rfl,(fun _ ht=>by cases ht; rfl),_,(.q (.q (.q (.q (.q (.q (.q (.q (.q (.o (.o (.w (.d (.int .i64 z137)) (.w (.d (.bool (z137 == 0))) (.w (.d (.bool (z137 == 0))) (.w (.d (.bool true)) (.w (.ptr b13 0 0) (.w (.d (.int .i64 (IntKind.wrap .i64 (500 + z64)))) (.m (.m (.m (.m (.m (.n (.n .nil)))))))))))))))))))))))),(fun _ ht=>by cases ht; exact ⟨_,rfl,.refl _⟩),?_⟩
  refine ⟨[39,40,41,42,43],by kernel_rfl,?_,_,_,rfl,rfl,.step ?_⟩
  ·
   refine .v rfl rfl rfl rfl (aH rfl rfl bD) ?_
   refine .v rfl rfl rfl rfl (aC (b:=true) rfl rfl) ?_
   refine .cons rfl rfl rfl (.val rfl (aa rfl) (.eq (by rw [hb141]))) ?_
   refine .v rfl rfl rfl rfl (aa rfl) ?_
   refine .v rfl rfl rfl rfl (aa rfl) ?_
   exact .nil
  refine aj.bR (ins:=[.box b13 [v58,w231],aA ae ah.kids 7 5 v58 ws230 z116.2.l none,aG w231 z116.2.freed]) (more:=[.box b65 [(.d (.str (Tree.mk [98] [] [] [] []).Tag)),(.d (.str (Tree.mk [98] [] [] [] []).Key)),(.d (.str (Tree.mk [98] [] [] [] []).Text)),(.d (.sl (((Tree.mk [98] [] [] [] []).aI).map ay) false)),(.d (.sl (((Tree.mk [98] [] [] [] []).Kids).map ai) false))],.box b52 [(.d (.str z48.1.Tag)),(.d (.str z48.1.Key)),(.d (.str z48.1.Text)),(.d (.sl ((z48.1.aI).map ay) false)),(.d (.sl ((z48.1.Kids).map ai) false))],.box b3 [(.d (.sl ((a1.Under).map (D.int .i64)) false)),(.d (.sl ((a1.Kinds).map (D.int .i64)) false)),(.d (.sl ((a1.Keys).map (D.int .i64)) false)),(.d (.sl ((a1.Texts).map (D.int .i64)) false))]]) (H237.sl [3,4,5,0,1,2] rfl rfl) rfl (az rfl rfl) (jF E n _ _ _ hzz159 b13 v58 ws230 w231) (.cons (.refl _) (.cons (.refl _) .nil)) rfl ?_
  rintro _ S238 _ ⟨rfl,rfl⟩ H239
  have H240:Has aL S238 [.box b65 [(.d (.str (Tree.mk [98] [] [] [] []).Tag)),(.d (.str (Tree.mk [98] [] [] [] []).Key)),(.d (.str (Tree.mk [98] [] [] [] []).Text)),(.d (.sl (((Tree.mk [98] [] [] [] []).aI).map ay) false)),(.d (.sl (((Tree.mk [98] [] [] [] []).Kids).map ai) false))],.box b52 [(.d (.str z48.1.Tag)),(.d (.str z48.1.Key)),(.d (.str z48.1.Text)),(.d (.sl ((z48.1.aI).map ay) false)),(.d (.sl ((z48.1.Kids).map ai) false))],.box b3 [(.d (.sl ((a1.Under).map (D.int .i64)) false)),(.d (.sl ((a1.Kinds).map (D.int .i64)) false)),(.d (.sl ((a1.Keys).map (D.int .i64)) false)),(.d (.sl ((a1.Texts).map (D.int .i64)) false))],.box b13 [v58,w231],aA ae ah.kids 7 5 v58 ws230 z116.2.l none,aG w231 z116.2.freed]:=H239.sl [3,4,5,0,1,2] rfl rfl
  refine aj.nil ⟨_,_,_,rfl,(fun _ ht=>by cases ht; rfl),_,(.q (.q (.q (.q (.q (.q (.q (.q (.q (.q (.q (.w (.d (.int .i64 z159)) (.w (.d (.bool (z159 == 0))) (.w (.d (.bool (z159 == 0))) (.w (.d (.bool true)) (.w (.ptr b13 0 0) (.w (.d (.int .i64 (IntKind.wrap .i64 (500 + z64)))) (.w (.d (ai (Tree.mk [98] [] [] [] []))) (.m (.m (.m (.n (.n (.n .nil)))))))))))))))))))))))),(fun _ ht=>by cases ht; exact ⟨_,rfl,.refl _⟩),?_⟩
  refine ⟨[45,46,47,48,49,50],by kernel_rfl,?_,_,_,rfl,rfl,.step ?_⟩
  ·
   refine .v rfl rfl rfl rfl (aH rfl rfl bD) ?_
   refine .v rfl rfl rfl rfl (aC (b:=true) rfl rfl) ?_
   refine .cons rfl rfl rfl (.val rfl (aa rfl) (.eq (by rw [hb163]))) ?_
   refine .v rfl rfl rfl rfl (aa rfl) ?_
   refine .v rfl rfl rfl rfl (aa rfl) ?_
   refine .cons rfl rfl rfl (.step ?_) ?_
   ·
    refine aj.val rfl (aJ H240 (i:=0) rfl rfl (aW dX bE rfl)) rfl ?_
    refine aj.less (Less.agg' (d:=ai (Tree.mk [98] [] [] [] [])) (ax.eq rfl (ax.eq rfl (ax.eq rfl (ax.eq rfl (ax.eq rfl .nil))))) ((Tree.eq _).trans rfl)) ?_
    exact aj.nil ⟨_,_,rfl,fun _ ht=>by cases ht; exact ⟨rfl,.refl _⟩⟩
   exact .nil
  refine aj.bR (ins:=[.box b13 [v58,w231],aA ae ah.kids 7 5 v58 ws230 z116.2.l none,aG w231 z116.2.freed]) (more:=[.box b65 [(.d (.str (Tree.mk [98] [] [] [] []).Tag)),(.d (.str (Tree.mk [98] [] [] [] []).Key)),(.d (.str (Tree.mk [98] [] [] [] []).Text)),(.d (.sl (((Tree.mk [98] [] [] [] []).aI).map ay) false)),(.d (.sl (((Tree.mk [98] [] [] [] []).Kids).map ai) false))],.box b52 [(.d (.str z48.1.Tag)),(.d (.str z48.1.Key)),(.d (.str z48.1.Text)),(.d (.sl ((z48.1.aI).map ay) false)),(.d (.sl ((z48.1.Kids).map ai) false))],.box b3 [(.d (.sl ((a1.Under).map (D.int .i64)) false)),(.d (.sl ((a1.Kinds).map (D.int .i64)) false)),(.d (.sl ((a1.Keys).map (D.int .i64)) false)),(.d (.sl ((a1.Texts).map (D.int .i64)) false))]]) (H240.sl [3,4,5,0,1,2] rfl rfl) rfl (az rfl rfl) (jH E n _ _ _ _ hzz184 b13 v58 ws230 w231) (.cons (.refl _) (.cons (.refl _) (.cons (.refl _) .nil))) rfl ?_
  rintro _ S244 _ ⟨rfl,v241,ws242,w243,rfl⟩ H245
  have H246:Has aL S244 [.box b65 [(.d (.str (Tree.mk [98] [] [] [] []).Tag)),(.d (.str (Tree.mk [98] [] [] [] []).Key)),(.d (.str (Tree.mk [98] [] [] [] []).Text)),(.d (.sl (((Tree.mk [98] [] [] [] []).aI).map ay) false)),(.d (.sl (((Tree.mk [98] [] [] [] []).Kids).map ai) false))],.box b52 [(.d (.str z48.1.Tag)),(.d (.str z48.1.Key)),(.d (.str z48.1.Text)),(.d (.sl ((z48.1.aI).map ay) false)),(.d (.sl ((z48.1.Kids).map ai) false))],.box b3 [(.d (.sl ((a1.Under).map (D.int .i64)) false)),(.d (.sl ((a1.Kinds).map (D.int .i64)) false)),(.d (.sl ((a1.Keys).map (D.int .i64)) false)),(.d (.sl ((a1.Texts).map (D.int .i64)) false))],.box b13 [v241,w243],aA ae ah.kids 7 5 v241 ws242 z184.2.l none,aG w243 z184.2.freed]:=H245.sl [3,4,5,0,1,2] rfl rfl
  refine aj.nil ⟨_,_,_,rfl,(fun _ ht=>by cases ht; rfl),_,(.q (.q (.q (.q (.q (.q (.q (.q (.q (.q (.q (.q (.o (.o (.o (.w (.d (.bool z184.1)) (.w (.d (.bool (!z184.1))) (.w (.d (.bool (!z184.1))) (.w (.d (.bool true)) (.w (.d (ai (Tree.mk [98] [] [] [] []))) (.w (.d (ai (Tree.mk [99] [] [] [] []))) (.w (.d (.sl (([(Tree.mk [98] [] [] [] []),(Tree.mk [99] [] [] [] [])]).map ai) true)) (.w (.d (ai z218)) (.w (.d (ai (Tree.mk [98] [] [] [] []))) (.w (.d (.bool z219)) (.w (.d (.bool z219)) (.f (.z (.f (.f .nil)))))))))))))))))))))))))))))),(fun _ ht=>by cases ht; exact ⟨_,rfl,.refl _⟩),?_⟩
  refine ⟨[52,53,54,55,56,57,58,59,60,61,62,63,64,65],by kernel_rfl,?_,_,rfl,?_⟩
  ·
   refine .v rfl rfl rfl rfl (gW rfl) ?_
   refine .v rfl rfl rfl rfl (aC (b:=true) rfl rfl) ?_
   refine .cons rfl rfl rfl (.val rfl (aa rfl) (.eq (by rw [hb191]))) ?_
   refine .cons rfl rfl rfl (.step ?_) ?_
   ·
    refine aj.val rfl (aJ H246 (i:=0) rfl rfl (aW dX bE rfl)) rfl ?_
    refine aj.less (Less.agg' (d:=ai (Tree.mk [98] [] [] [] [])) (ax.eq rfl (ax.eq rfl (ax.eq rfl (ax.eq rfl (ax.eq rfl .nil))))) ((Tree.eq _).trans rfl)) ?_
    exact aj.nil ⟨_,_,rfl,fun _ ht=>by cases ht; exact ⟨rfl,.refl _⟩⟩
   refine .cons rfl rfl rfl (.step ?_) ?_
   ·
    refine aj.val rfl (bM (cs:=[(.d (.str [99])),(.d (.str [])),(.d (.str [])),(.d .aO),(.d .aO)]) fO rfl (bq) (fV rfl rfl rfl rfl rfl)) rfl ?_
    refine aj.less (Less.agg' (d:=ai (Tree.mk [99] [] [] [] [])) (ax.eq rfl (ax.eq rfl (ax.eq rfl (ax.dE rfl (.aO false) rfl rfl (ax.dE rfl (.aO false) rfl rfl .nil))))) ((Tree.eq _).trans rfl)) ?_
    exact aj.nil ⟨_,_,rfl,fun _ ht=>by cases ht; exact ⟨rfl,.refl _⟩⟩
   refine .v rfl rfl rfl rfl (aR (vs:=[(.d (ai (Tree.mk [98] [] [] [] []))),(.d (ai (Tree.mk [99] [] [] [] [])))]) (ds:=[(ai (Tree.mk [98] [] [] [] [])),(ai (Tree.mk [99] [] [] [] []))]) tu kJ dX fO bE rfl (by decide) (.cons rfl (Tree.len _) (.cons rfl (Tree.len _) .nil)) rfl (by intro d hd; simp only [List.mem_cons,List.not_mem_nil,or_false] at hd; rcases hd with rfl | rfl <;> exact Tree.agg _) rfl) ?_
   refine .cons rfl rfl rfl (.step ?_) ?_
   ·
    refine aj.ret rfl (az rfl rfl) (lU E _ _ _ hzz218 _ _ (aN.dE rfl (.iL _ _) .nil)) rfl ?_
    exact aj.nil ⟨_,_,rfl,fun _ ht=>by cases ht; exact ⟨rfl,.refl _⟩⟩
   refine .cons rfl rfl rfl (.step ?_) ?_
   ·
    refine aj.val rfl (aJ H246 (i:=0) rfl rfl (aW dX bE rfl)) rfl ?_
    refine aj.less (Less.agg' (d:=ai (Tree.mk [98] [] [] [] [])) (ax.eq rfl (ax.eq rfl (ax.eq rfl (ax.eq rfl (ax.eq rfl .nil))))) ((Tree.eq _).trans rfl)) ?_
    exact aj.nil ⟨_,_,rfl,fun _ ht=>by cases ht; exact ⟨rfl,.refl _⟩⟩
   refine .cons rfl rfl rfl (.step ?_) ?_
   ·
    refine aj.ret rfl (az rfl rfl) (bH E _ _ _ _ hzz219 _ _ (aN.eq (aN.eq .nil))) rfl ?_
    exact aj.nil ⟨_,_,rfl,fun _ ht=>by cases ht; exact ⟨rfl,.refl _⟩⟩
   refine .v rfl rfl rfl rfl (aC (b:=true) rfl rfl) ?_
   refine .cons rfl rfl rfl (.val rfl (aa rfl) (.eq (by rw [hb220]))) ?_
   refine .cons rfl rfl rfl (.no rfl (.refl _)) ?_
   refine .v rfl rfl rfl rfl (aC (b:=false) rfl rfl) ?_
   refine .v rfl rfl rfl rfl (ak rfl) ?_
   exact .nil
  exact ⟨⟨z184.2,v241,ws242,w243,false⟩,_,_,S244,.refl _ _,.refl _,(au.r rfl au.nil),H246.sl [] rfl rfl,h⟩
 replace h:=dH hb220 h
 obtain ⟨z247,hzz247,h⟩:=bind_some h
 refine aD.jf E.obj lQ yD [(4,some 65)] (by kernel_rfl) [10,15,25,32,38,44,51] (by decide) [some (.d (.bool z48.2)),some (.d (.bool true)),some (.d (ai z48.1)),some (.d (dL a1)),some (.d (ai z79)),some (.d (.bool z80)),some (.d (.bool z80)),some (.d (.bool true)),some (.ptr b13 0 0),some (.d (.int .i64 z26.1)),none,none,none,none,none,none,none,none,none,none,none,none,none,none,none,none,none,none,none,none,none,none,none,none,none,none,none,none,none,none,none,none,none,none,none,none,none,none,none,none,none,none,none,none,none,none,none,none,none,none,none,none,none,none,none,none] ?_
 refine ⟨[0,1,2,3,4,5,6,7,8,9],by kernel_rfl,?_,_,_,rfl,rfl,.step ?_⟩
 ·
  refine .v rfl rfl rfl rfl (aa rfl) ?_
  refine .cons rfl rfl rfl (.val rfl (aa rfl) (.eq (by rw [hb78]))) ?_
  refine .cons rfl rfl rfl (.step ?_) ?_
  ·
   refine aj.val rfl (aJ H69 (i:=1) rfl rfl (aW dX bE rfl)) rfl ?_
   refine aj.less (Less.agg' (d:=ai z48.1) (ax.eq rfl (ax.eq rfl (ax.eq rfl (ax.eq rfl (ax.eq rfl .nil))))) ((Tree.eq _).trans rfl)) ?_
   exact aj.nil ⟨_,_,rfl,fun _ ht=>by cases ht; exact ⟨rfl,.refl _⟩⟩
  refine .cons rfl rfl rfl (.step ?_) ?_
  ·
   refine aj.val rfl (aJ H69 (i:=2) rfl rfl (aW zU zI rfl)) rfl ?_
   refine aj.less (Less.agg' (d:=dL a1) (ax.eq rfl (ax.eq rfl (ax.eq rfl (ax.eq rfl .nil)))) ((fA.eq _).trans rfl)) ?_
   exact aj.nil ⟨_,_,rfl,fun _ ht=>by cases ht; exact ⟨rfl,.refl _⟩⟩
  refine .cons rfl rfl rfl (.step ?_) ?_
  ·
   refine aj.ret rfl (az rfl rfl) (bK E _ _ _ hzz79 _ _ (aN.eq .nil)) rfl ?_
   exact aj.nil ⟨_,_,rfl,fun _ ht=>by cases ht; exact ⟨rfl,.refl _⟩⟩
  refine .cons rfl rfl rfl (.step ?_) ?_
  ·
   refine aj.ret rfl (az rfl rfl) (bH E _ _ _ _ hzz80 _ _ (aN.eq (aN.eq .nil))) rfl ?_
   exact aj.nil ⟨_,_,rfl,fun _ ht=>by cases ht; exact ⟨rfl,.refl _⟩⟩
  refine .v rfl rfl rfl rfl (aC (b:=true) rfl rfl) ?_
  refine .cons rfl rfl rfl (.val rfl (aa rfl) (.eq (by rw [hb81]))) ?_
  refine .v rfl rfl rfl rfl (aa rfl) ?_
  refine .v rfl rfl rfl rfl (aa rfl) ?_
  exact .nil
 refine aj.bR (ins:=[.box b13 [v58,w60],aA ae ah.kids 7 5 v58 ws59 z57.2.l none,aG w60 z57.2.freed]) (more:=[.box b65 [(.d (.str (Tree.mk [98] [] [] [] []).Tag)),(.d (.str (Tree.mk [98] [] [] [] []).Key)),(.d (.str (Tree.mk [98] [] [] [] []).Text)),(.d (.sl (((Tree.mk [98] [] [] [] []).aI).map ay) false)),(.d (.sl (((Tree.mk [98] [] [] [] []).Kids).map ai) false))],.box b52 [(.d (.str z48.1.Tag)),(.d (.str z48.1.Key)),(.d (.str z48.1.Text)),(.d (.sl ((z48.1.aI).map ay) false)),(.d (.sl ((z48.1.Kids).map ai) false))],.box b3 [(.d (.sl ((a1.Under).map (D.int .i64)) false)),(.d (.sl ((a1.Kinds).map (D.int .i64)) false)),(.d (.sl ((a1.Keys).map (D.int .i64)) false)),(.d (.sl ((a1.Texts).map (D.int .i64)) false))]]) (H69.sl [3,4,5,0,1,2] rfl rfl) rfl (az rfl rfl) (eT E n _ _ _ hzz82 b13 v58 ws59 w60) (.cons (.refl _) (.cons (.refl _) .nil)) rfl ?_
 rintro _ S248 _ ⟨rfl,rfl⟩ H249
 have H250:Has aL S248 [.box b65 [(.d (.str (Tree.mk [98] [] [] [] []).Tag)),(.d (.str (Tree.mk [98] [] [] [] []).Key)),(.d (.str (Tree.mk [98] [] [] [] []).Text)),(.d (.sl (((Tree.mk [98] [] [] [] []).aI).map ay) false)),(.d (.sl (((Tree.mk [98] [] [] [] []).Kids).map ai) false))],.box b52 [(.d (.str z48.1.Tag)),(.d (.str z48.1.Key)),(.d (.str z48.1.Text)),(.d (.sl ((z48.1.aI).map ay) false)),(.d (.sl ((z48.1.Kids).map ai) false))],.box b3 [(.d (.sl ((a1.Under).map (D.int .i64)) false)),(.d (.sl ((a1.Kinds).map (D.int .i64)) false)),(.d (.sl ((a1.Keys).map (D.int .i64)) false)),(.d (.sl ((a1.Texts).map (D.int .i64)) false))],.box b13 [v58,w60],aA ae ah.kids 7 5 v58 ws59 z57.2.l none,aG w60 z57.2.freed]:=H249.sl [3,4,5,0,1,2] rfl rfl
 refine aj.nil ⟨_,_,_,rfl,(fun _ ht=>by cases ht; rfl),_,(.q (.q (.o (.o (.w (.d (.int .i64 z82)) (.w (.d (.bool (z82 == 0))) (.w (.d (.bool (z82 == 0))) (.w (.d (.bool true)) (.w (.ptr b13 0 0) (.n (.w (.d (.int .i64 z18.1)) (.w (.d (.int .i64 z57.1)) (.w (.d (.int .i64 z26.1)) (.w (.d (.sl (([z18.1,z57.1,z26.1]).map (D.int .i64)) true)) (.m (.m (.m (.m (.m (.m (.m (.m (.m (.m (.m (.n (.n .nil))))))))))))))))))))))))))),(fun _ ht=>by cases ht; exact ⟨_,rfl,.refl _⟩),?_⟩
 refine ⟨[11,12,13,14,16,17,18,19],by kernel_rfl,?_,_,_,rfl,rfl,.step ?_⟩
 ·
  refine .v rfl rfl rfl rfl (aH rfl rfl bD) ?_
  refine .v rfl rfl rfl rfl (aC (b:=true) rfl rfl) ?_
  refine .cons rfl rfl rfl (.val rfl (aa rfl) (.eq (by rw [hb86]))) ?_
  refine .v rfl rfl rfl rfl (aa rfl) ?_
  refine .v rfl rfl rfl rfl (aa rfl) ?_
  refine .v rfl rfl rfl rfl (aa rfl) ?_
  refine .v rfl rfl rfl rfl (aa rfl) ?_
  refine .v rfl rfl rfl rfl (aR (vs:=[(.d (.int .i64 z18.1)),(.d (.int .i64 z57.1)),(.d (.int .i64 z26.1))]) (ds:=[(.int .i64 z18.1),(.int .i64 z57.1),(.int .i64 z26.1)]) o7 fQ nV wD kV rfl (by decide) (.cons rfl rfl (.cons rfl rfl (.cons rfl rfl .nil))) rfl (by intro d hd; simp only [List.mem_cons,List.not_mem_nil,or_false] at hd; rcases hd with rfl | rfl | rfl <;> rfl) rfl) ?_
  exact .nil
 refine aj.bR (ins:=[.box b13 [v58,w60],aA ae ah.kids 7 5 v58 ws59 z57.2.l none,aG w60 z57.2.freed]) (more:=[.box b65 [(.d (.str (Tree.mk [98] [] [] [] []).Tag)),(.d (.str (Tree.mk [98] [] [] [] []).Key)),(.d (.str (Tree.mk [98] [] [] [] []).Text)),(.d (.sl (((Tree.mk [98] [] [] [] []).aI).map ay) false)),(.d (.sl (((Tree.mk [98] [] [] [] []).Kids).map ai) false))],.box b52 [(.d (.str z48.1.Tag)),(.d (.str z48.1.Key)),(.d (.str z48.1.Text)),(.d (.sl ((z48.1.aI).map ay) false)),(.d (.sl ((z48.1.Kids).map ai) false))],.box b3 [(.d (.sl ((a1.Under).map (D.int .i64)) false)),(.d (.sl ((a1.Kinds).map (D.int .i64)) false)),(.d (.sl ((a1.Keys).map (D.int .i64)) false)),(.d (.sl ((a1.Texts).map (D.int .i64)) false))]]) (H250.sl [3,4,5,0,1,2] rfl rfl) rfl (az rfl rfl) (gu E n _ _ hzz90 b13 v58 ws59 w60) (.cons (.refl _) .nil) rfl ?_
 rintro _ S251 _ ⟨rfl,rfl⟩ H252
 have H253:Has aL S251 [.box b65 [(.d (.str (Tree.mk [98] [] [] [] []).Tag)),(.d (.str (Tree.mk [98] [] [] [] []).Key)),(.d (.str (Tree.mk [98] [] [] [] []).Text)),(.d (.sl (((Tree.mk [98] [] [] [] []).aI).map ay) false)),(.d (.sl (((Tree.mk [98] [] [] [] []).Kids).map ai) false))],.box b52 [(.d (.str z48.1.Tag)),(.d (.str z48.1.Key)),(.d (.str z48.1.Text)),(.d (.sl ((z48.1.aI).map ay) false)),(.d (.sl ((z48.1.Kids).map ai) false))],.box b3 [(.d (.sl ((a1.Under).map (D.int .i64)) false)),(.d (.sl ((a1.Kinds).map (D.int .i64)) false)),(.d (.sl ((a1.Keys).map (D.int .i64)) false)),(.d (.sl ((a1.Texts).map (D.int .i64)) false))],.box b13 [v58,w60],aA ae ah.kids 7 5 v58 ws59 z57.2.l none,aG w60 z57.2.freed]:=H252.sl [3,4,5,0,1,2] rfl rfl
 refine aj.nil ⟨_,_,_,rfl,(fun _ ht=>by cases ht; rfl),_,(.q (.q (.q (.o (.o (.o (.w (.d (.sl ((z90).map (D.int .i64)) false)) (.q (.w (.d (.bool z94)) (.w (.d (.bool z94)) (.w (.d (.bool true)) (.w (.ptr b13 0 0) (.w (.d (.int .i64 z57.1)) (.m (.m (.m (.m (.m (.m (.m (.m (.m (.m (.n .nil)))))))))))))))))))))))),(fun _ ht=>by cases ht; exact ⟨_,rfl,.refl _⟩),?_⟩
 refine ⟨[16,17,18,19,20,21,22,23,24],by kernel_rfl,?_,_,_,rfl,rfl,.step ?_⟩
 ·
  refine .v rfl rfl rfl rfl (aa rfl) ?_
  refine .v rfl rfl rfl rfl (aa rfl) ?_
  refine .v rfl rfl rfl rfl (aa rfl) ?_
  refine .v rfl rfl rfl rfl (aR (vs:=[(.d (.int .i64 z18.1)),(.d (.int .i64 z57.1)),(.d (.int .i64 z26.1))]) (ds:=[(.int .i64 z18.1),(.int .i64 z57.1),(.int .i64 z26.1)]) o7 fQ nV wD kV rfl (by decide) (.cons rfl rfl (.cons rfl rfl (.cons rfl rfl .nil))) rfl (by intro d hd; simp only [List.mem_cons,List.not_mem_nil,or_false] at hd; rcases hd with rfl | rfl | rfl <;> rfl) rfl) ?_
  refine .cons rfl rfl rfl (.step ?_) ?_
  ·
   refine aj.ret rfl (az rfl rfl) (dK E _ _ _ _ hzz94 _ _ (aN.eq (aN.dE rfl (.iL _ _) .nil))) rfl ?_
   exact aj.nil ⟨_,_,rfl,fun _ ht=>by cases ht; exact ⟨rfl,.refl _⟩⟩
  refine .v rfl rfl rfl rfl (aC (b:=true) rfl rfl) ?_
  refine .cons rfl rfl rfl (.val rfl (aa rfl) (.eq (by rw [hb95]))) ?_
  refine .v rfl rfl rfl rfl (aa rfl) ?_
  refine .v rfl rfl rfl rfl (aa rfl) ?_
  exact .nil
 refine aj.bR (ins:=[.box b13 [v58,w60],aA ae ah.kids 7 5 v58 ws59 z57.2.l none,aG w60 z57.2.freed]) (more:=[.box b65 [(.d (.str (Tree.mk [98] [] [] [] []).Tag)),(.d (.str (Tree.mk [98] [] [] [] []).Key)),(.d (.str (Tree.mk [98] [] [] [] []).Text)),(.d (.sl (((Tree.mk [98] [] [] [] []).aI).map ay) false)),(.d (.sl (((Tree.mk [98] [] [] [] []).Kids).map ai) false))],.box b52 [(.d (.str z48.1.Tag)),(.d (.str z48.1.Key)),(.d (.str z48.1.Text)),(.d (.sl ((z48.1.aI).map ay) false)),(.d (.sl ((z48.1.Kids).map ai) false))],.box b3 [(.d (.sl ((a1.Under).map (D.int .i64)) false)),(.d (.sl ((a1.Kinds).map (D.int .i64)) false)),(.d (.sl ((a1.Keys).map (D.int .i64)) false)),(.d (.sl ((a1.Texts).map (D.int .i64)) false))]]) (H253.sl [3,4,5,0,1,2] rfl rfl) rfl (az rfl rfl) (cK E n _ _ _ hzz102 b13 v58 ws59 w60) (.cons (.refl _) (.cons (.refl _) .nil)) rfl ?_
 rintro _ S254 _ ⟨rfl,rfl⟩ H255
 have H256:Has aL S254 [.box b65 [(.d (.str (Tree.mk [98] [] [] [] []).Tag)),(.d (.str (Tree.mk [98] [] [] [] []).Key)),(.d (.str (Tree.mk [98] [] [] [] []).Text)),(.d (.sl (((Tree.mk [98] [] [] [] []).aI).map ay) false)),(.d (.sl (((Tree.mk [98] [] [] [] []).Kids).map ai) false))],.box b52 [(.d (.str z48.1.Tag)),(.d (.str z48.1.Key)),(.d (.str z48.1.Text)),(.d (.sl ((z48.1.aI).map ay) false)),(.d (.sl ((z48.1.Kids).map ai) false))],.box b3 [(.d (.sl ((a1.Under).map (D.int .i64)) false)),(.d (.sl ((a1.Kinds).map (D.int .i64)) false)),(.d (.sl ((a1.Keys).map (D.int .i64)) false)),(.d (.sl ((a1.Texts).map (D.int .i64)) false))],.box b13 [v58,w60],aA ae ah.kids 7 5 v58 ws59 z57.2.l none,aG w60 z57.2.freed]:=H255.sl [3,4,5,0,1,2] rfl rfl
 refine aj.nil ⟨_,_,_,rfl,(fun _ ht=>by cases ht; rfl),_,(.q (.q (.q (.q (.q (.q (.o (.w (.d (.int .i64 z102)) (.w (.d (.bool (z102 == 0))) (.w (.d (.bool (z102 == 0))) (.w (.d (.bool true)) (.w (.ptr b13 0 0) (.w (.d (.int .i64 z57.1)) (.w (.d (.int .i64 z26.1)) (.m (.m (.m (.m (.m (.m (.m (.m (.n (.n .nil)))))))))))))))))))))))),(fun _ ht=>by cases ht; exact ⟨_,rfl,.refl _⟩),?_⟩
 refine ⟨[26,27,28,29,30,31],by kernel_rfl,?_,_,_,rfl,rfl,.step ?_⟩
 ·
  refine .v rfl rfl rfl rfl (aH rfl rfl bD) ?_
  refine .v rfl rfl rfl rfl (aC (b:=true) rfl rfl) ?_
  refine .cons rfl rfl rfl (.val rfl (aa rfl) (.eq (by rw [hb106]))) ?_
  refine .v rfl rfl rfl rfl (aa rfl) ?_
  refine .v rfl rfl rfl rfl (aa rfl) ?_
  refine .v rfl rfl rfl rfl (aa rfl) ?_
  exact .nil
 refine aj.bR (ins:=[.box b13 [v58,w60],aA ae ah.kids 7 5 v58 ws59 z57.2.l none,aG w60 z57.2.freed]) (more:=[.box b65 [(.d (.str (Tree.mk [98] [] [] [] []).Tag)),(.d (.str (Tree.mk [98] [] [] [] []).Key)),(.d (.str (Tree.mk [98] [] [] [] []).Text)),(.d (.sl (((Tree.mk [98] [] [] [] []).aI).map ay) false)),(.d (.sl (((Tree.mk [98] [] [] [] []).Kids).map ai) false))],.box b52 [(.d (.str z48.1.Tag)),(.d (.str z48.1.Key)),(.d (.str z48.1.Text)),(.d (.sl ((z48.1.aI).map ay) false)),(.d (.sl ((z48.1.Kids).map ai) false))],.box b3 [(.d (.sl ((a1.Under).map (D.int .i64)) false)),(.d (.sl ((a1.Kinds).map (D.int .i64)) false)),(.d (.sl ((a1.Keys).map (D.int .i64)) false)),(.d (.sl ((a1.Texts).map (D.int .i64)) false))]]) (H256.sl [3,4,5,0,1,2] rfl rfl) rfl (az rfl rfl) (gT E n _ _ _ _ hzz116 b13 v58 ws59 w60) (.cons (.refl _) (.cons (.refl _) (.cons (.refl _) .nil))) rfl ?_
 rintro _ S259 _ ⟨rfl,ws257,w258,rfl⟩ H260
 have H261:Has aL S259 [.box b65 [(.d (.str (Tree.mk [98] [] [] [] []).Tag)),(.d (.str (Tree.mk [98] [] [] [] []).Key)),(.d (.str (Tree.mk [98] [] [] [] []).Text)),(.d (.sl (((Tree.mk [98] [] [] [] []).aI).map ay) false)),(.d (.sl (((Tree.mk [98] [] [] [] []).Kids).map ai) false))],.box b52 [(.d (.str z48.1.Tag)),(.d (.str z48.1.Key)),(.d (.str z48.1.Text)),(.d (.sl ((z48.1.aI).map ay) false)),(.d (.sl ((z48.1.Kids).map ai) false))],.box b3 [(.d (.sl ((a1.Under).map (D.int .i64)) false)),(.d (.sl ((a1.Kinds).map (D.int .i64)) false)),(.d (.sl ((a1.Keys).map (D.int .i64)) false)),(.d (.sl ((a1.Texts).map (D.int .i64)) false))],.box b13 [v58,w258],aA ae ah.kids 7 5 v58 ws257 z116.2.l none,aG w258 z116.2.freed]:=H260.sl [3,4,5,0,1,2] rfl rfl
 refine aj.nil ⟨_,_,_,rfl,(fun _ ht=>by cases ht; rfl),_,(.q (.q (.q (.q (.q (.q (.q (.q (.w (.d (.bool z116.1)) (.w (.d (.bool (!z116.1))) (.w (.d (.bool (!z116.1))) (.w (.d (.bool true)) (.w (.ptr b13 0 0) (.w (.d (.int .i64 (IntKind.wrap .i64 (500 + z64)))) (.m (.m (.m (.m (.m (.m (.m .nil))))))))))))))))))))),(fun _ ht=>by cases ht; exact ⟨_,rfl,.refl _⟩),?_⟩
 refine ⟨[33,34,35,36,37],by kernel_rfl,?_,_,_,rfl,rfl,.step ?_⟩
 ·
  refine .v rfl rfl rfl rfl (gW rfl) ?_
  refine .v rfl rfl rfl rfl (aC (b:=true) rfl rfl) ?_
  refine .cons rfl rfl rfl (.val rfl (aa rfl) (.eq (by rw [hb122]))) ?_
  refine .v rfl rfl rfl rfl (aa rfl) ?_
  refine .v rfl rfl rfl rfl (aa rfl) ?_
  exact .nil
 refine aj.bR (ins:=[.box b13 [v58,w258],aA ae ah.kids 7 5 v58 ws257 z116.2.l none,aG w258 z116.2.freed]) (more:=[.box b65 [(.d (.str (Tree.mk [98] [] [] [] []).Tag)),(.d (.str (Tree.mk [98] [] [] [] []).Key)),(.d (.str (Tree.mk [98] [] [] [] []).Text)),(.d (.sl (((Tree.mk [98] [] [] [] []).aI).map ay) false)),(.d (.sl (((Tree.mk [98] [] [] [] []).Kids).map ai) false))],.box b52 [(.d (.str z48.1.Tag)),(.d (.str z48.1.Key)),(.d (.str z48.1.Text)),(.d (.sl ((z48.1.aI).map ay) false)),(.d (.sl ((z48.1.Kids).map ai) false))],.box b3 [(.d (.sl ((a1.Under).map (D.int .i64)) false)),(.d (.sl ((a1.Kinds).map (D.int .i64)) false)),(.d (.sl ((a1.Keys).map (D.int .i64)) false)),(.d (.sl ((a1.Texts).map (D.int .i64)) false))]]) (H261.sl [3,4,5,0,1,2] rfl rfl) rfl (az rfl rfl) (cK E n _ _ _ hzz137 b13 v58 ws257 w258) (.cons (.refl _) (.cons (.refl _) .nil)) rfl ?_
 rintro _ S262 _ ⟨rfl,rfl⟩ H263
 have H264:Has aL S262 [.box b65 [(.d (.str (Tree.mk [98] [] [] [] []).Tag)),(.d (.str (Tree.mk [98] [] [] [] []).Key)),(.d (.str (Tree.mk [98] [] [] [] []).Text)),(.d (.sl (((Tree.mk [98] [] [] [] []).aI).map ay) false)),(.d (.sl (((Tree.mk [98] [] [] [] []).Kids).map ai) false))],.box b52 [(.d (.str z48.1.Tag)),(.d (.str z48.1.Key)),(.d (.str z48.1.Text)),(.d (.sl ((z48.1.aI).map ay) false)),(.d (.sl ((z48.1.Kids).map ai) false))],.box b3 [(.d (.sl ((a1.Under).map (D.int .i64)) false)),(.d (.sl ((a1.Kinds).map (D.int .i64)) false)),(.d (.sl ((a1.Keys).map (D.int .i64)) false)),(.d (.sl ((a1.Texts).map (D.int .i64)) false))],.box b13 [v58,w258],aA ae ah.kids 7 5 v58 ws257 z116.2.l none,aG w258 z116.2.freed]:=H263.sl [3,4,5,0,1,2] rfl rfl
 refine aj.nil ⟨_,_,_,rfl,(fun _ ht=>by cases ht; rfl),_,(.q (.q (.q (.q (.q (.q (.q (.q (.q (.o (.o (.w (.d (.int .i64 z137)) (.w (.d (.bool (z137 == 0))) (.w (.d (.bool (z137 == 0))) (.w (.d (.bool true)) (.w (.ptr b13 0 0) (.w (.d (.int .i64 (IntKind.wrap .i64 (500 + z64)))) (.m (.m (.m (.m (.m (.n (.n .nil)))))))))))))))))))))))),(fun _ ht=>by cases ht; exact ⟨_,rfl,.refl _⟩),?_⟩
 refine ⟨[39,40,41,42,43],by kernel_rfl,?_,_,_,rfl,rfl,.step ?_⟩
 ·
  refine .v rfl rfl rfl rfl (aH rfl rfl bD) ?_
  refine .v rfl rfl rfl rfl (aC (b:=true) rfl rfl) ?_
  refine .cons rfl rfl rfl (.val rfl (aa rfl) (.eq (by rw [hb141]))) ?_
  refine .v rfl rfl rfl rfl (aa rfl) ?_
  refine .v rfl rfl rfl rfl (aa rfl) ?_
  exact .nil
 refine aj.bR (ins:=[.box b13 [v58,w258],aA ae ah.kids 7 5 v58 ws257 z116.2.l none,aG w258 z116.2.freed]) (more:=[.box b65 [(.d (.str (Tree.mk [98] [] [] [] []).Tag)),(.d (.str (Tree.mk [98] [] [] [] []).Key)),(.d (.str (Tree.mk [98] [] [] [] []).Text)),(.d (.sl (((Tree.mk [98] [] [] [] []).aI).map ay) false)),(.d (.sl (((Tree.mk [98] [] [] [] []).Kids).map ai) false))],.box b52 [(.d (.str z48.1.Tag)),(.d (.str z48.1.Key)),(.d (.str z48.1.Text)),(.d (.sl ((z48.1.aI).map ay) false)),(.d (.sl ((z48.1.Kids).map ai) false))],.box b3 [(.d (.sl ((a1.Under).map (D.int .i64)) false)),(.d (.sl ((a1.Kinds).map (D.int .i64)) false)),(.d (.sl ((a1.Keys).map (D.int .i64)) false)),(.d (.sl ((a1.Texts).map (D.int .i64)) false))]]) (H264.sl [3,4,5,0,1,2] rfl rfl) rfl (az rfl rfl) (jF E n _ _ _ hzz159 b13 v58 ws257 w258) (.cons (.refl _) (.cons (.refl _) .nil)) rfl ?_
 rintro _ S265 _ ⟨rfl,rfl⟩ H266
 have H267:Has aL S265 [.box b65 [(.d (.str (Tree.mk [98] [] [] [] []).Tag)),(.d (.str (Tree.mk [98] [] [] [] []).Key)),(.d (.str (Tree.mk [98] [] [] [] []).Text)),(.d (.sl (((Tree.mk [98] [] [] [] []).aI).map ay) false)),(.d (.sl (((Tree.mk [98] [] [] [] []).Kids).map ai) false))],.box b52 [(.d (.str z48.1.Tag)),(.d (.str z48.1.Key)),(.d (.str z48.1.Text)),(.d (.sl ((z48.1.aI).map ay) false)),(.d (.sl ((z48.1.Kids).map ai) false))],.box b3 [(.d (.sl ((a1.Under).map (D.int .i64)) false)),(.d (.sl ((a1.Kinds).map (D.int .i64)) false)),(.d (.sl ((a1.Keys).map (D.int .i64)) false)),(.d (.sl ((a1.Texts).map (D.int .i64)) false))],.box b13 [v58,w258],aA ae ah.kids 7 5 v58 ws257 z116.2.l none,aG w258 z116.2.freed]:=H266.sl [3,4,5,0,1,2] rfl rfl
 refine aj.nil ⟨_,_,_,rfl,(fun _ ht=>by cases ht; rfl),_,(.q (.q (.q (.q (.q (.q (.q (.q (.q (.q (.q (.w (.d (.int .i64 z159)) (.w (.d (.bool (z159 == 0))) (.w (.d (.bool (z159 == 0))) (.w (.d (.bool true)) (.w (.ptr b13 0 0) (.w (.d (.int .i64 (IntKind.wrap .i64 (500 + z64)))) (.w (.d (ai (Tree.mk [98] [] [] [] []))) (.m (.m (.m (.n (.n (.n .nil)))))))))))))))))))))))),(fun _ ht=>by cases ht; exact ⟨_,rfl,.refl _⟩),?_⟩
 refine ⟨[45,46,47,48,49,50],by kernel_rfl,?_,_,_,rfl,rfl,.step ?_⟩
 ·
  refine .v rfl rfl rfl rfl (aH rfl rfl bD) ?_
  refine .v rfl rfl rfl rfl (aC (b:=true) rfl rfl) ?_
  refine .cons rfl rfl rfl (.val rfl (aa rfl) (.eq (by rw [hb163]))) ?_
  refine .v rfl rfl rfl rfl (aa rfl) ?_
  refine .v rfl rfl rfl rfl (aa rfl) ?_
  refine .cons rfl rfl rfl (.step ?_) ?_
  ·
   refine aj.val rfl (aJ H267 (i:=0) rfl rfl (aW dX bE rfl)) rfl ?_
   refine aj.less (Less.agg' (d:=ai (Tree.mk [98] [] [] [] [])) (ax.eq rfl (ax.eq rfl (ax.eq rfl (ax.eq rfl (ax.eq rfl .nil))))) ((Tree.eq _).trans rfl)) ?_
   exact aj.nil ⟨_,_,rfl,fun _ ht=>by cases ht; exact ⟨rfl,.refl _⟩⟩
  exact .nil
 refine aj.bR (ins:=[.box b13 [v58,w258],aA ae ah.kids 7 5 v58 ws257 z116.2.l none,aG w258 z116.2.freed]) (more:=[.box b65 [(.d (.str (Tree.mk [98] [] [] [] []).Tag)),(.d (.str (Tree.mk [98] [] [] [] []).Key)),(.d (.str (Tree.mk [98] [] [] [] []).Text)),(.d (.sl (((Tree.mk [98] [] [] [] []).aI).map ay) false)),(.d (.sl (((Tree.mk [98] [] [] [] []).Kids).map ai) false))],.box b52 [(.d (.str z48.1.Tag)),(.d (.str z48.1.Key)),(.d (.str z48.1.Text)),(.d (.sl ((z48.1.aI).map ay) false)),(.d (.sl ((z48.1.Kids).map ai) false))],.box b3 [(.d (.sl ((a1.Under).map (D.int .i64)) false)),(.d (.sl ((a1.Kinds).map (D.int .i64)) false)),(.d (.sl ((a1.Keys).map (D.int .i64)) false)),(.d (.sl ((a1.Texts).map (D.int .i64)) false))]]) (H267.sl [3,4,5,0,1,2] rfl rfl) rfl (az rfl rfl) (jH E n _ _ _ _ hzz184 b13 v58 ws257 w258) (.cons (.refl _) (.cons (.refl _) (.cons (.refl _) .nil))) rfl ?_
 rintro _ S271 _ ⟨rfl,v268,ws269,w270,rfl⟩ H272
 have H273:Has aL S271 [.box b65 [(.d (.str (Tree.mk [98] [] [] [] []).Tag)),(.d (.str (Tree.mk [98] [] [] [] []).Key)),(.d (.str (Tree.mk [98] [] [] [] []).Text)),(.d (.sl (((Tree.mk [98] [] [] [] []).aI).map ay) false)),(.d (.sl (((Tree.mk [98] [] [] [] []).Kids).map ai) false))],.box b52 [(.d (.str z48.1.Tag)),(.d (.str z48.1.Key)),(.d (.str z48.1.Text)),(.d (.sl ((z48.1.aI).map ay) false)),(.d (.sl ((z48.1.Kids).map ai) false))],.box b3 [(.d (.sl ((a1.Under).map (D.int .i64)) false)),(.d (.sl ((a1.Kinds).map (D.int .i64)) false)),(.d (.sl ((a1.Keys).map (D.int .i64)) false)),(.d (.sl ((a1.Texts).map (D.int .i64)) false))],.box b13 [v268,w270],aA ae ah.kids 7 5 v268 ws269 z184.2.l none,aG w270 z184.2.freed]:=H272.sl [3,4,5,0,1,2] rfl rfl
 refine aj.nil ⟨_,_,_,rfl,(fun _ ht=>by cases ht; rfl),_,(.q (.q (.q (.q (.q (.q (.q (.q (.q (.q (.q (.q (.o (.o (.o (.w (.d (.bool z184.1)) (.w (.d (.bool (!z184.1))) (.w (.d (.bool (!z184.1))) (.w (.d (.bool true)) (.w (.d (ai (Tree.mk [98] [] [] [] []))) (.w (.d (ai (Tree.mk [99] [] [] [] []))) (.w (.d (.sl (([(Tree.mk [98] [] [] [] []),(Tree.mk [99] [] [] [] [])]).map ai) true)) (.w (.d (ai z218)) (.w (.d (ai (Tree.mk [98] [] [] [] []))) (.w (.d (.bool z219)) (.w (.d (.bool z219)) (.w (.d (.bool true)) (.w (.d (.bool z247)) (.w (.d (.bool z247)) (.w (.d (.bool z247)) .nil)))))))))))))))))))))))))))))),(fun _ ht=>by cases ht; exact ⟨_,rfl,.refl _⟩),?_⟩
 refine ⟨[52,53,54,55,56,57,58,59,60,61,62,63,64,65],by kernel_rfl,?_,_,rfl,?_⟩
 ·
  refine .v rfl rfl rfl rfl (gW rfl) ?_
  refine .v rfl rfl rfl rfl (aC (b:=true) rfl rfl) ?_
  refine .cons rfl rfl rfl (.val rfl (aa rfl) (.eq (by rw [hb191]))) ?_
  refine .cons rfl rfl rfl (.step ?_) ?_
  ·
   refine aj.val rfl (aJ H273 (i:=0) rfl rfl (aW dX bE rfl)) rfl ?_
   refine aj.less (Less.agg' (d:=ai (Tree.mk [98] [] [] [] [])) (ax.eq rfl (ax.eq rfl (ax.eq rfl (ax.eq rfl (ax.eq rfl .nil))))) ((Tree.eq _).trans rfl)) ?_
   exact aj.nil ⟨_,_,rfl,fun _ ht=>by cases ht; exact ⟨rfl,.refl _⟩⟩
  refine .cons rfl rfl rfl (.step ?_) ?_
  ·
   refine aj.val rfl (bM (cs:=[(.d (.str [99])),(.d (.str [])),(.d (.str [])),(.d .aO),(.d .aO)]) fO rfl (bq) (fV rfl rfl rfl rfl rfl)) rfl ?_
   refine aj.less (Less.agg' (d:=ai (Tree.mk [99] [] [] [] [])) (ax.eq rfl (ax.eq rfl (ax.eq rfl (ax.dE rfl (.aO false) rfl rfl (ax.dE rfl (.aO false) rfl rfl .nil))))) ((Tree.eq _).trans rfl)) ?_
   exact aj.nil ⟨_,_,rfl,fun _ ht=>by cases ht; exact ⟨rfl,.refl _⟩⟩
  refine .v rfl rfl rfl rfl (aR (vs:=[(.d (ai (Tree.mk [98] [] [] [] []))),(.d (ai (Tree.mk [99] [] [] [] [])))]) (ds:=[(ai (Tree.mk [98] [] [] [] [])),(ai (Tree.mk [99] [] [] [] []))]) tu kJ dX fO bE rfl (by decide) (.cons rfl (Tree.len _) (.cons rfl (Tree.len _) .nil)) rfl (by intro d hd; simp only [List.mem_cons,List.not_mem_nil,or_false] at hd; rcases hd with rfl | rfl <;> exact Tree.agg _) rfl) ?_
  refine .cons rfl rfl rfl (.step ?_) ?_
  ·
   refine aj.ret rfl (az rfl rfl) (lU E _ _ _ hzz218 _ _ (aN.dE rfl (.iL _ _) .nil)) rfl ?_
   exact aj.nil ⟨_,_,rfl,fun _ ht=>by cases ht; exact ⟨rfl,.refl _⟩⟩
  refine .cons rfl rfl rfl (.step ?_) ?_
  ·
   refine aj.val rfl (aJ H273 (i:=0) rfl rfl (aW dX bE rfl)) rfl ?_
   refine aj.less (Less.agg' (d:=ai (Tree.mk [98] [] [] [] [])) (ax.eq rfl (ax.eq rfl (ax.eq rfl (ax.eq rfl (ax.eq rfl .nil))))) ((Tree.eq _).trans rfl)) ?_
   exact aj.nil ⟨_,_,rfl,fun _ ht=>by cases ht; exact ⟨rfl,.refl _⟩⟩
  refine .cons rfl rfl rfl (.step ?_) ?_
  ·
   refine aj.ret rfl (az rfl rfl) (bH E _ _ _ _ hzz219 _ _ (aN.eq (aN.eq .nil))) rfl ?_
   exact aj.nil ⟨_,_,rfl,fun _ ht=>by cases ht; exact ⟨rfl,.refl _⟩⟩
  refine .v rfl rfl rfl rfl (aC (b:=true) rfl rfl) ?_
  refine .cons rfl rfl rfl (.val rfl (aa rfl) (.eq (by rw [hb220]))) ?_
  refine .cons rfl rfl rfl (.step ?_) ?_
  ·
   refine aj.ret rfl (az rfl rfl) (oI E _  _ hzz247 _ _ .nil) rfl ?_
   exact aj.nil ⟨_,_,rfl,fun _ ht=>by cases ht; exact ⟨rfl,.refl _⟩⟩
  refine .v rfl rfl rfl rfl (aC (b:=true) rfl rfl) ?_
  refine .v rfl rfl rfl rfl (ak rfl) ?_
  exact .nil
 exact ⟨⟨z184.2,v268,ws269,w270,z247⟩,_,_,S271,.refl _ _,.refl _,(au.r rfl au.nil),H273.sl [] rfl rfl,h⟩
end
end Pr
end Go.Ev

namespace Go.Ev
namespace Pr
set_option linter.unusedVariables false
set_option linter.unusedSimpArgs false
theorem mE {n:Int} (h0:-9223372036854775808 ≤ n) (h1:n ≤ 9223372036854775807):IntKind.wrap .i64 n=n:=Go.IntWalk.i64_in n ⟨h0,h1⟩
theorem pU {α:Type} (l:List α) (i:Nat):idx l (i:Int)=l[i]?:=by
 unfold idx
 rw [if_pos (by omega)]
 simp
theorem jQ {α:Type} {l done rest:List α} {z:α} (h:l=done ++ z :: rest):idx l (done.length:Int)=some z:=by
 rw [pU,h]; simp
theorem yO {α:Type} (l:List α) {i:Int} (h0:0 ≤ i) (h1:i < l.length):∃ x,idx l i=some x∧x ∈ l∧l[i.toNat]? = some x:=by
 obtain ⟨j,rfl⟩:=Int.eq_ofNat_of_zero_le h0
 have hj:j < l.length:=by omega
 exact ⟨l[j],by rw [pU]; exact List.getElem?_eq_getElem hj,List.getElem_mem hj,by simp [hj]⟩
theorem lD {α:Type} {nb:Nat} {l ys:List α} (h:(l.length + ys.length) * nb ≤ bound):app nb l ys=some (l ++ ys):=by
 unfold app; rw [if_pos h]
theorem BK {k:IntKind} {a b:Int} (h:b ≠ 0):Gf k a b=some (a.tmod b):=by
 unfold Gf; rw [if_neg h]
theorem bnd:bound=70368744177664:=rfl
end Pr
end Go.Ev

namespace Go.Ev
namespace Pr
set_option linter.unusedVariables false
set_option linter.unusedSimpArgs false
def nd (d:aB) (i:Int):Option ah:=if 1 ≤ i then d.l[(i - 1).toNat]? else none
theorem bZ {d:aB} {i:Int} {z:ah} (h:nd d i=some z):1 ≤ i∧i ≤ d.l.length:=by
 unfold nd at h
 split at h
 ·
  have:=(List.getElem?_eq_some_iff.1 h).1
  omega
 ·
  cases h
theorem pM {d:aB} {i:Int} (h1:1 ≤ i) (h2:i ≤ d.l.length):∃ z,nd d i=some z:=by
 unfold nd; rw [if_pos h1]
 exact ⟨_,List.getElem?_eq_getElem (by omega)⟩
def dM:Nat:=100000
theorem jB {d:aB} (hl:d.l.length ≤ dM) {i:Int} {z:ah} (h:nd d i=some z):idx d.l (IntKind.wrap .i64 (i - 1))=some z:=by
 have hr:=bZ h
 unfold dM at hl
 rw [mE (by omega) (by omega)]
 unfold nd at h; rw [if_pos hr.1] at h
 unfold idx; rw [if_pos (by omega)]; exact h
def l8 (d:aB) (i:Int) (z:ah):aB:={ d with l:=d.l.set (i - 1).toNat z }
theorem qP {d:aB} (hl:d.l.length ≤ dM) {i:Int} {z0:ah} (h:nd d i=some z0) (z:ah):jl d.l (IntKind.wrap .i64 (i - 1)) z=(l8 d i z).l:=by
 have hr:=bZ h
 unfold dM at hl
 rw [mE (by omega) (by omega)]; rfl
theorem lh {d:aB} {i:Int} {z0:ah} (h:nd d i=some z0) (z:ah) (j:Int):nd (l8 d i z) j=if j=i then some z else nd d j:=by
 have hr:=bZ h
 unfold nd l8
 by_cases hj:1 ≤ j
 ·
  rw [if_pos hj,if_pos hj]
  by_cases hij:j=i
  ·
   subst hij; rw [if_pos rfl,List.getElem?_set_self (by omega)]
  ·
   rw [if_neg hij,List.getElem?_set_ne (by omega)]
 ·
  rw [if_neg hj,if_neg hj,if_neg (by omega)]
@[simp] theorem nE (d:aB) (i:Int) (z:ah):(l8 d i z).l.length=d.l.length:=by simp [l8]
@[simp] theorem EE (d:aB) (i:Int) (z:ah):(l8 d i z).freed=d.freed:=rfl
def kI (d:aB) (i:Int):Bool:=match nd d i with | some z=>z.lives | none=>false
theorem gX {d:aB} {i:Int} (h:kI d i=true):∃ z,nd d i=some z∧z.lives=true:=by
 unfold kI at h
 split at h
 ·
  exact ⟨_,‹_›,h⟩
 ·
  cases h
theorem vY {d:aB} (hl:d.l.length ≤ dM) (n:Nat) (i:Int):gL n d i=some (kI d i):=by
 unfold gL
 by_cases h:i < 1∨(d.l.length:Int) < i
 ·
  rw [if_pos (by simpa using h),Option.bind_some,if_pos rfl]
  have:nd d i=none:=by
   cases hn:nd d i with
   | none=>rfl
   | some z=>have:=bZ hn; omega
  unfold kI; rw [this]
 ·
  obtain ⟨z,hz⟩:=pM (d:=d) (i:=i) (by omega) (by omega)
  rw [if_neg (by simpa using h),jB hl hz]
  simp only [Option.bind_some]
  unfold kI; rw [hz]
  cases hlv:z.lives <;> simp [hlv]
inductive Path (d:aB):Int→List Int→Prop
 | top {i:Int} {z:ah} (h:nd d i=some z) (hl:z.lives=true) (hp:z.parent=0):Path d i [i]
 | up {i:Int} {z:ah} {l:List Int} (h:nd d i=some z) (hl:z.lives=true) (hp:z.parent ≠ 0) (k:Path d z.parent l):Path d i (i :: l)
structure WF (d:aB):Prop where
 len:d.l.length ≤ 5000
 root:∃ z,nd d 1=some z∧z.lives=true∧z.parent=0∧z.tag ≠ []
 freedR:∀ i ∈ d.freed,1 < i∧i ≤ d.l.length
 freedN:d.freed.Nodup
 dead:∀ i z,nd d i=some z→(z.lives=false↔i ∈ d.freed)
 kidN:∀ i z,nd d i=some z→z.lives=true→z.kids.Nodup
 kid:∀ i z k,nd d i=some z→z.lives=true→k ∈ z.kids→∃ y,nd d k=some y∧y.lives=true∧y.parent=i
 par:∀ k y,nd d k=some y→y.lives=true→y.parent ≠ 0→∃ z,nd d y.parent=some z∧z.lives=true∧k ∈ z.kids∧z.tag ≠ []
 path:∀ i,kI d i=true→∃ l,Path d i l
 attrs:∀ i z,nd d i=some z→z.attrs.length ≤ 100000
theorem WF.dm {d:aB} (h:WF d):d.l.length ≤ dM:=Nat.le_trans h.len (by decide)
theorem dZ {d:aB} {i:Int} {z:ah} (h:nd d i=some z):kI d i=z.lives:=by unfold kI; rw [h]
theorem Path.uniq {d:aB} {i:Int} {l l':List Int} (h:Path d i l) (h':Path d i l'):l=l':=by
 induction h generalizing l' with
 | top h hl hp =>
  cases h' with
  | top=>rfl
  | up h2 _ hp2 _=>rw [h] at h2; cases h2; exact absurd hp hp2
 | up h hl hp k ih =>
  cases h' with
  | top h2 _ hp2=>rw [h] at h2; cases h2; exact absurd hp2 hp
  | up h2 _ _ k2=>rw [h] at h2; cases h2; rw [ih k2]
theorem Path.head {d:aB} {i:Int} {l:List Int} (h:Path d i l):∃ t,l=i :: t:=by cases h <;> exact ⟨_,rfl⟩
theorem Path.mem {d:aB} {i:Int} {l:List Int} (h:Path d i l):∀ j ∈ l,∃ l1 l2,l=l1 ++ l2∧Path d j l2∧∃ z,nd d j=some z∧z.lives=true:=by
 induction h with
 | top h hl hp =>
  intro j hj
  simp only [List.mem_singleton] at hj
  subst hj; exact ⟨[],_,rfl,.top h hl hp,_,h,hl⟩
 | up h hl hp k ih =>
  intro j hj
  rcases List.mem_cons.1 hj with rfl | hj
  ·
   exact ⟨[],_,rfl,.up h hl hp k,_,h,hl⟩
  ·
   obtain ⟨l1,l2,e,k2,r⟩:=ih j hj
   exact ⟨_ :: l1,l2,by rw [e]; rfl,k2,r⟩
theorem Path.nodup {d:aB} {i:Int} {l:List Int} (h:Path d i l):l.Nodup:=by
 induction h with
 | top=>simp
 | up h hl hp k ih =>
  refine List.nodup_cons.2 ⟨fun hm=>?_,ih⟩
  obtain ⟨l1,l2,e,k2,_⟩:=k.mem _ hm
  have:=k2.uniq (.up h hl hp k)
  have:=congrArg List.length this
  rw [e] at this
  simp at this
  omega
theorem iW:∀ (n:Nat) (l:List Int),l.Nodup→(∀ x ∈ l,1 ≤ x∧x ≤ (n:Int))→l.length ≤ n
 | 0,l,hn,h=>by
  cases l with
  | nil=>simp
  | cons x l=>have:=h x List.mem_cons_self; omega
 | n + 1,l,hn,h=>by
  by_cases hm:((n + 1:Nat):Int) ∈ l
  ·
   have:=iW n (l.erase ((n + 1:Nat):Int)) (hn.erase _) (fun x hx=>by
    have h1:=(List.Nodup.mem_erase_iff hn).1 hx
    have h2:=h x h1.2
    have h3:=h1.1
    omega)
   rw [List.length_erase_of_mem hm] at this
   omega
  ·
   have:=iW n l hn (fun x hx=>by
    have h2:=h x hx
    have h3:x ≠ ((n + 1:Nat):Int):=fun q=>hm (q ▸ hx)
    omega)
   omega
theorem Path.length {d:aB} {i:Int} {l:List Int} (h:Path d i l):l.length ≤ d.l.length:=by
 refine iW _ _ h.nodup (fun x hx=>?_)
 obtain ⟨_,_,_,_,z,hz,_⟩:=h.mem x hx
 exact bZ hz
theorem CV {d:aB} (hm:d.l.length ≤ dM) {top:Int} (ht:top ≠ 0):∀ {i:Int} {l:List Int},Path d i l→∀ f,l.length < f→eB d top f i=some (decide (top ∈ l))
 | i,l,h,0,hf=>by omega
 | i,l,h,f + 1,hf=>by
  have hi:i ≠ 0:=by
   cases h with
   | top h=>have:=bZ h; omega
   | up h=>have:=bZ h; omega
  rw [eB]
  by_cases he:i=top
  ·
   subst he
   rw [if_neg (by simp)]
   obtain ⟨t,rfl⟩:=h.head
   simp
  ·
   rw [if_pos (by simp [he,hi])]
   cases h with
   | top h hl hp =>
    rw [jB hm h,Option.bind_some,hp]
    cases f with
    | zero=>simp at hf
    | succ f =>
     rw [eB,if_neg (by simp)]
     simp [he,Ne.symm he,Ne.symm ht]
   | up h hl hp k =>
    rw [jB hm h,Option.bind_some,CV hm ht k f (by simp at hf; omega)]
    simp [Ne.symm he]
end Pr
end Go.Ev

namespace Go.Ev
namespace Pr
set_option linter.unusedVariables false
set_option linter.unusedSimpArgs false
theorem WF.lp {d:aB} (h:WF d) {i:Int} (hi:kI d i=true):∃ z l,nd d i=some z∧z.lives=true∧Path d i l∧l.length ≤ 5000:=by
 obtain ⟨z,hz,hl⟩:=gX hi
 obtain ⟨l,hp⟩:=h.path i hi
 exact ⟨z,l,hz,hl,hp,Nat.le_trans hp.length h.len⟩
def under (d:aB) (top i:Int):Prop:=∃ l,Path d i l∧top ∈ l
theorem EX {d:aB} (h:WF d) {i:Int} {l:List Int} (hp:Path d i l) {top:Int} (ht:top ≠ 0) {n:Nat} (hn:5000 < n):kD n d i top=some (decide (top ∈ l)):=by
 unfold kD
 exact CV h.dm ht hp n (by have:=hp.length; have:=h.len; omega)
theorem Ld (d:aB) (z:ah) (i:Int):nd { d with l:=d.l ++ [z] } i=if i=(d.l.length:Int) + 1 then some z else nd d i:=by
 unfold nd
 by_cases h1:1 ≤ i
 ·
  rw [if_pos h1,if_pos h1]
  by_cases h2:i=(d.l.length:Int) + 1
  ·
   subst h2
   rw [if_pos rfl,List.getElem?_append_right (by omega)]
   have:((d.l.length:Int) + 1 - 1).toNat - d.l.length=0:=by omega
   rw [this]; rfl
  ·
   rw [if_neg h2]
   by_cases h3:(i - 1).toNat < d.l.length
   ·
    rw [List.getElem?_append_left h3]
   ·
    rw [List.getElem?_eq_none (by simp; omega),List.getElem?_eq_none (by omega)]
 ·
  rw [if_neg h1,if_neg h1,if_neg (by omega)]
theorem Path.keep {d d':aB} {i:Int} {l:List Int} (h:Path d i l) (hk:∀ j ∈ l,∀ z,nd d j=some z→∃ z',nd d' j=some z'∧z'.lives=z.lives∧z'.parent=z.parent):Path d' i l:=by
 induction h with
 | top h hl hp =>
  obtain ⟨z',h1,h2,h3⟩:=hk _ List.mem_cons_self _ h
  exact .top h1 (by rw [h2,hl]) (by rw [h3,hp])
 | up h hl hp k ih =>
  obtain ⟨z',h1,h2,h3⟩:=hk _ List.mem_cons_self _ h
  refine .up h1 (by rw [h2,hl]) (by rw [h3]; exact hp) ?_
  rw [h3]; exact ih (fun j hj=>hk j (List.mem_cons_of_mem _ hj))
structure New (d d':aB) (id:Int) (z:ah):Prop where
 dead:kI d id=false
 notroot:id ≠ 1
 pos:1 ≤ id
 get:∀ j,nd d' j=if j=id then some z else nd d j
 len:d'.l.length ≤ d.l.length + 1
 ge:d.l.length ≤ d'.l.length
theorem New.wf {d d':aB} {id:Int} {z:ah} (h:WF d) (k:New d d' id z) (hz:z.lives=true) (hk:z.kids=[]) (hp:z.parent=0) (ha:z.attrs.length ≤ 100000) (hlen:d'.l.length ≤ 5000) (hf:∀ i,i ∈ d'.freed↔(i ∈ d.freed∧i ≠ id)) (hfn:d'.freed.Nodup):WF d':=by
 have old:∀ i,kI d i=true→i ≠ id:=fun i hi q=>by rw [q,k.dead] at hi; cases hi
 refine ⟨hlen,?_,fun i hi=>?_,hfn,fun i y hy=>?_,fun i y hy hl=>?_,fun i y c hy hl hc=>?_,fun c y hy hl hyp=>?_,fun i hi=>?_,fun i y hy=>?_⟩
 ·
  obtain ⟨r,h1,h2,h3,h4⟩:=h.root
  exact ⟨r,by rw [k.get,if_neg (Ne.symm k.notroot)]; exact h1,h2,h3,h4⟩
 ·
  have:=h.freedR i ((hf i).1 hi).1
  have:=k.ge; omega
 ·
  rw [k.get] at hy
  by_cases hi:i=id
  ·
   rw [if_pos hi] at hy; cases hy
   rw [hf]; simp [hz,hi]
  ·
   rw [if_neg hi] at hy
   rw [h.dead i y hy,hf]; simp [hi]
 ·
  rw [k.get] at hy
  by_cases hi:i=id
  ·
   rw [if_pos hi] at hy; cases hy; rw [hk]; simp
  ·
   rw [if_neg hi] at hy; exact h.kidN i y hy hl
 ·
  rw [k.get] at hy
  by_cases hi:i=id
  ·
   rw [if_pos hi] at hy; cases hy; rw [hk] at hc; cases hc
  ·
   rw [if_neg hi] at hy
   obtain ⟨x,h1,h2,h3⟩:=h.kid i y c hy hl hc
   exact ⟨x,by rw [k.get,if_neg (old c (by rw [dZ h1,h2]))]; exact h1,h2,h3⟩
 ·
  rw [k.get] at hy
  by_cases hi:c=id
  ·
   rw [if_pos hi] at hy; cases hy; exact absurd hp hyp
  ·
   rw [if_neg hi] at hy
   obtain ⟨x,h1,h2,h3⟩:=h.par c y hy hl hyp
   exact ⟨x,by rw [k.get,if_neg (old _ (by rw [dZ h1,h2]))]; exact h1,h2,h3⟩
 ·
  by_cases hq:i=id
  ·
   subst hq
   exact ⟨[i],.top (by rw [k.get,if_pos rfl]) hz hp⟩
  ·
   have:kI d i=true:=by unfold kI at hi ⊢; rw [k.get,if_neg hq] at hi; exact hi
   obtain ⟨l,hl⟩:=h.path i this
   refine ⟨l,hl.keep (fun j hj y hy=>⟨y,?_,rfl,rfl⟩)⟩
   obtain ⟨_,_,_,_,x,h1,h2⟩:=hl.mem j hj
   rw [k.get,if_neg (old j (by rw [dZ h1,h2]))]; exact hy
 ·
  rw [k.get] at hy
  by_cases hi:i=id
  ·
   rw [if_pos hi] at hy; cases hy; exact ha
  ·
   rw [if_neg hi] at hy; exact h.attrs i y hy
def nextId (d:aB):Int:=match d.freed.getLast? with | some i=>i | none=>(d.l.length:Int) + 1
def qO (z:aK):ah:=ah.mk true z.tag z.key z.text z.attrs [] z.parent
theorem Im {d:aB} (h:WF d) (hl:d.l.length < 5000) (n:Nat) (z:aK) (hz:z.parent=0) (ha:z.attrs.length ≤ 100000):∃ d',kG n d z=some (nextId d,d')∧WF d'∧New d d' (nextId d) (qO z)∧d'.freed=d.freed.dropLast∧d'.l.length=(if d.freed=[] then d.l.length + 1 else d.l.length):=by
 unfold kG
 have hfl:d.freed.length ≤ d.l.length:=iW _ _ h.freedN (fun x hx=>⟨by have:=h.freedR x hx; omega,(h.freedR x hx).2⟩)
 have hw:IntKind.wrap .i64 ((d.freed.length:Int) - 1)=(d.freed.length:Int) - 1:=mE (by omega) (by omega)
 rw [hw]
 by_cases h0:d.freed=[]
 ·
  rw [if_pos (by simp [h0])]
  have happ:∀ q:ah,app 112 d.l [q]=some (d.l ++ [q]):=fun q=>lD (by rw [bnd]; simp; omega)
  rw [happ,Option.bind_some]
  have hid:nextId d=(d.l.length:Int) + 1:=by unfold nextId; rw [h0]; rfl
  have hget:=Ld d (qO z)
  have hnew:New d { d with l:=d.l ++ [qO z] } (nextId d) (qO z):=by
   refine ⟨?_,by rw [hid]; obtain ⟨r,h1,_⟩:=h.root; have:=bZ h1; omega,by rw [hid]; omega,fun j=>by rw [hget,hid],by simp,by simp⟩
   unfold kI
   cases hn:nd d (nextId d) with
   | none=>rfl
   | some y=>have:=bZ hn; omega
  refine ⟨{ d with l:=d.l ++ [qO z] },?_,?_,hnew,by rw [h0]; rfl,by simp [h0]⟩
  ·
   rw [hid]
   simp only [Option.some.injEq,Prod.mk.injEq]
   refine ⟨by simp,rfl⟩
  ·
   refine hnew.wf h rfl rfl hz ha (by simp; omega) (fun i=>?_) h.freedN
   rw [h0]; simp
 ·
  have hpos:0 < d.freed.length:=by
   cases hq:d.freed with
   | nil=>exact absurd hq h0
   | cons a l=>simp
  rw [if_neg (by simp; omega)]
  have hlast:d.freed.getLast? = some (d.freed[d.freed.length - 1]):=by rw [List.getLast?_eq_getElem?]; exact List.getElem?_eq_getElem (by omega)
  have hidx:idx d.freed ((d.freed.length:Int) - 1)=some (nextId d):=by
   unfold idx; rw [if_pos (by omega)]
   unfold nextId; rw [hlast]
   rw [show ((d.freed.length:Int) - 1).toNat=d.freed.length - 1 by omega]
   exact List.getElem?_eq_getElem (by omega)
  have hcut:cut d.freed 0 ((d.freed.length:Int) - 1)=some d.freed.dropLast:=by
   unfold cut; rw [if_pos ⟨by omega,by omega,by omega⟩]
   rw [show ((d.freed.length:Int) - 1).toNat=d.freed.length - 1 by omega,List.dropLast_eq_take]; rfl
  rw [hidx,Option.bind_some,hcut,Option.bind_some]
  have hmem:nextId d ∈ d.freed:=by
   unfold nextId; rw [hlast]; exact List.getElem_mem _
  have hr:=h.freedR _ hmem
  obtain ⟨y,hy⟩:=pM (d:=d) (i:=nextId d) (by omega) hr.2
  have hdead:y.lives=false:=(h.dead _ y hy).2 hmem
  rw [jB h.dm hy,Option.bind_some]
  have hget:=lh hy (qO z)
  have hnew:New d { l:=(l8 d (nextId d) (qO z)).l,freed:=d.freed.dropLast } (nextId d) (qO z) :=
   ⟨by rw [dZ hy,hdead],by omega,by omega,fun j=>hget j,by simp,by simp⟩
  refine ⟨{ l:=(l8 d (nextId d) (qO z)).l,freed:=d.freed.dropLast },?_,?_,hnew,rfl,by simp [h0]⟩
  ·
   rw [qP h.dm hy]; rfl
  ·
   have hsplit:d.freed=d.freed.dropLast ++ [nextId d]:=by
    have e:nextId d=d.freed.getLast h0:=by unfold nextId; rw [List.getLast?_eq_some_getLast h0]
    rw [e,List.dropLast_concat_getLast]
   have hfn:=h.freedN
   rw [hsplit,List.nodup_append] at hfn
   refine hnew.wf h rfl rfl hz ha (by simp; exact h.len) (fun i=>?_) hfn.1
   constructor
   ·
    intro hi
    exact ⟨by rw [hsplit]; exact List.mem_append_left _ hi,fun q=>hfn.2.2 i hi (nextId d) (by simp) q⟩
   ·
    rintro ⟨hi,hne⟩
    rw [hsplit] at hi
    rcases List.mem_append.1 hi with hi | hi
    ·
     exact hi
    ·
     exact absurd (List.mem_singleton.1 hi) hne
end Pr
end Go.Ev

namespace Go.Ev
namespace Pr
set_option linter.unusedVariables false
set_option linter.unusedSimpArgs false
theorem yI (l:List Int) (c:Int):∀ (rest done:List Int) (f:Nat),l=done ++ rest→rest.length < f→l.length < 1000000→bO l c f (done.length:Int)=some (if c ∈ rest then ((done.length + rest.idxOf c:Nat):Int) else -1)
 | [],done,f + 1,h,hf,hl=>by
  rw [bO,if_neg (by subst h; simp)]
  simp
 | z :: rest,done,f + 1,h,hf,hl=>by
  have hd:done.length < l.length:=by subst h; simp
  rw [bO,if_pos (by rw [decide_eq_true_eq]; omega),jQ h,Option.bind_some]
  by_cases hq:c=z
  ·
   subst hq
   rw [if_pos (by simp)]
   simp [List.idxOf_cons_self]
  ·
   rw [if_neg (by simpa using hq),mE (by omega) (by omega)]
   have:=yI l c rest (done ++ [z]) f (by rw [h]; simp) (by simpa using hf) hl
   simp only [List.length_append,List.length_singleton,Int.natCast_add] at this
   rw [show ((done.length:Int) + 1)=(done.length:Int) + ((1:Nat):Int) by omega,this]
   by_cases hm:c ∈ rest
   ·
    rw [if_pos hm,if_pos (List.mem_cons_of_mem _ hm),List.idxOf_cons]
    have hb:(z == c)=false:=by simpa using Ne.symm hq
    rw [hb]
    simp; omega
   ·
    rw [if_neg hm,if_neg (by simp [hq,hm])]
theorem Iz {l:List Int} {c:Int} (h:c ∈ l) {n:Nat} (hn:l.length < n) (hl:l.length < 1000000):gH n l c=some (l.idxOf c:Int):=by
 unfold gH
 have:=yI l c l [] n rfl hn hl
 rw [if_pos h] at this
 simpa using this
theorem F5 {l:List Int} {c:Int} (h:c ∈ l) (hl:l.length < 1000000) (n:Nat):gy n l (l.idxOf c:Int) (IntKind.wrap .i64 ((l.idxOf c:Int) + 1))=some (l.erase c):=by
 have hi:l.idxOf c < l.length:=List.idxOf_lt_length_of_mem h
 rw [mE (by omega) (by omega)]
 unfold gy Gb
 rw [if_pos ⟨by omega,by omega,by omega⟩,Option.bind_some,if_neg (by simp; omega)]
 rw [List.erase_eq_eraseIdx_of_idxOf rfl,List.eraseIdx_eq_take_drop_succ]
 rw [Int.toNat_natCast,show ((l.idxOf c:Int) + 1).toNat=l.idxOf c + 1 by omega]
def dC (d:aB) (c:Int):aB:=match nd d c with
 | some z=>if z.parent=0 then d else match nd d z.parent with
  | some y=>l8 (l8 d z.parent { y with kids:=y.kids.erase c }) c { z with parent:=0 }
  | none=>d
 | none=>d
theorem wu {d:aB} (h:WF d) {i:Int} {z:ah} (hz:nd d i=some z) (hl:z.lives=true):z.kids.length ≤ 5000:=by
 refine Nat.le_trans (iW d.l.length _ (h.kidN i z hz hl) (fun k hk=>?_)) h.len
 obtain ⟨y,h1,_⟩:=h.kid i z k hz hl hk
 exact bZ h1
theorem wV {d:aB} (h:WF d) {c:Int} {z:ah} (hz:nd d c=some z) (hl:z.lives=true):z.parent ≠ c:=fun q=>by
 obtain ⟨l,hp⟩:=h.path c (by rw [dZ hz,hl])
 have hc:=bZ hz
 cases hp with
 | top h2 _ hp2=>rw [hz] at h2; cases h2; omega
 | up h2 hl2 hp2 k =>
  rw [hz] at h2; cases h2
  rw [q] at k
  have:=k.uniq (.up hz hl2 hp2 (by rw [q]; exact k))
  have:=congrArg List.length this
  simp at this
theorem qH {d:aB} {c:Int} {z y:ah} (hz:nd d c=some z) (hp:z.parent ≠ 0) (hy:nd d z.parent=some y) (hne:z.parent ≠ c) (j:Int) :
  nd (dC d c) j=if j=c then some { z with parent:=0 } else if j=z.parent then some { y with kids:=y.kids.erase c } else nd d j:=by
 unfold dC
 rw [hz]
 simp only
 rw [if_neg hp,hy]
 simp only
 have h1:=lh hy { y with kids:=y.kids.erase c } c
 rw [if_neg (Ne.symm hne)] at h1
 rw [lh (h1.trans hz),lh hy]
theorem jO {d:aB} {c:Int} {z:ah} (hz:nd d c=some z) (hp:z.parent=0):dC d c=d:=by
 unfold dC; rw [hz]; simp only; rw [if_pos hp]
@[simp] theorem vz (d:aB) (c:Int):(dC d c).l.length=d.l.length:=by
 unfold dC; split
 ·
  split
  ·
   rfl
  ·
   split <;> simp
 ·
  rfl
@[simp] theorem rf (d:aB) (c:Int):(dC d c).freed=d.freed:=by
 unfold dC; split
 ·
  split
  ·
   rfl
  ·
   split <;> simp
 ·
  rfl
theorem CO {d:aB} (h:WF d) {c:Int} (hc:kI d c=true) {n:Nat} (hn:6000 ≤ n):j6 n d c=some (dC d c):=by
 obtain ⟨z,hz,hl⟩:=gX hc
 unfold j6
 rw [jB h.dm hz,Option.bind_some]
 by_cases hp:z.parent=0
 ·
  rw [if_pos (by simpa using hp),jO hz hp]
 ·
  rw [if_neg (by simpa using hp)]
  obtain ⟨y,hy,hyl,hm,_⟩:=h.par c z hz hl hp
  have hk:=wu h hy hyl
  have hne:=wV h hz hl
  rw [jB h.dm hy]
  simp only [Option.bind_some]
  rw [Iz hm (by omega) (by omega),Option.bind_some,F5 hm (by omega),Option.bind_some]
  rw [qP h.dm hy]
  have h1:=lh hy { y with kids:=y.kids.erase c } c
  rw [if_neg (Ne.symm hne)] at h1
  have hd:(l8 d z.parent { y with kids:=y.kids.erase c }).l.length ≤ dM:=by rw [nE]; exact h.dm
  have e1:ah.mk y.lives y.tag y.key y.text y.attrs (y.kids.erase c) y.parent = { y with kids:=y.kids.erase c }:=rfl
  rw [e1,jB hd (h1.trans hz),Option.bind_some,qP hd (h1.trans hz)]
  unfold dC
  rw [hz]
  simp only
  rw [if_neg hp,hy]
  rfl
theorem tN {d:aB} (h:WF d) {c:Int} (hc:kI d c=true):WF (dC d c):=by
 obtain ⟨z,hz,hl⟩:=gX hc
 by_cases hp:z.parent=0
 ·
  rw [jO hz hp]; exact h
 obtain ⟨y,hy,hyl,hm,ht⟩:=h.par c z hz hl hp
 have hne:=wV h hz hl
 have hget:=qH hz hp hy hne
 have low:∀ i z',nd (dC d c) i=some z'→∃ z0,nd d i=some z0∧z'.lives=z0.lives∧z'.attrs=z0.attrs∧z'.tag=z0.tag∧(i=c∧z'.parent=0∨i ≠ c∧z'.parent=z0.parent)∧(i=z.parent∧z'.kids=z0.kids.erase c∨i ≠ z.parent∧z'.kids=z0.kids):=fun i z' hi=>by
  rw [hget] at hi
  by_cases h1:i=c
  ·
   subst h1; rw [if_pos rfl] at hi; cases hi
   exact ⟨z,hz,rfl,rfl,rfl,.inl ⟨rfl,rfl⟩,.inr ⟨Ne.symm hne,rfl⟩⟩
  ·
   rw [if_neg h1] at hi
   by_cases h2:i=z.parent
   ·
    subst h2; rw [if_pos rfl] at hi; cases hi
    exact ⟨y,hy,rfl,rfl,rfl,.inr ⟨h1,rfl⟩,.inl ⟨rfl,rfl⟩⟩
   ·
    rw [if_neg h2] at hi
    exact ⟨z',hi,rfl,rfl,rfl,.inr ⟨h1,rfl⟩,.inr ⟨h2,rfl⟩⟩
 have up:∀ i z0,nd d i=some z0→∃ z',nd (dC d c) i=some z':=fun i z0 hi=>by
  have:=bZ hi
  exact pM this.1 (by rw [vz]; exact this.2)
 have lvs:∀ i,kI (dC d c) i=true→kI d i=true:=fun i hi=>by
  obtain ⟨z',h1,h2⟩:=gX hi
  obtain ⟨z0,q1,q2,_⟩:=low i z' h1
  rw [dZ q1,← q2,h2]
 refine ⟨by rw [vz]; exact h.len,?_,fun i hi=>?_,by rw [rf]; exact h.freedN,fun i z' hi=>?_,fun i z' hi hl'=>?_,fun i z' k hi hl' hk=>?_,fun k y' hk hl' hp'=>?_,fun i hi=>?_,fun i z' hi=>?_⟩
 ·
  obtain ⟨r,r1,r2,r3,r4⟩:=h.root
  obtain ⟨r',hr'⟩:=up 1 r r1
  obtain ⟨z0,q1,q2,q3,q4,q5,q6⟩:=low 1 r' hr'
  rw [r1] at q1; cases q1
  refine ⟨r',hr',by rw [q2,r2],?_,by rw [q4]; exact r4⟩
  rcases q5 with ⟨_,q⟩ | ⟨_,q⟩
  ·
   exact q
  ·
   rw [q,r3]
 ·
  rw [rf] at hi; rw [vz]; exact h.freedR i hi
 ·
  obtain ⟨z0,q1,q2,_⟩:=low i z' hi
  rw [q2,rf]; exact h.dead i z0 q1
 ·
  obtain ⟨z0,q1,q2,q3,q4,q5,q6⟩:=low i z' hi
  have:=h.kidN i z0 q1 (by rw [← q2,hl'])
  rcases q6 with ⟨_,q⟩ | ⟨_,q⟩
  ·
   rw [q]; exact this.erase _
  ·
   rw [q]; exact this
 ·
  obtain ⟨z0,q1,q2,q3,q4,q5,q6⟩:=low i z' hi
  have hkm:k ∈ z0.kids:=by
   rcases q6 with ⟨_,q⟩ | ⟨_,q⟩
   ·
    rw [q] at hk; exact List.mem_of_mem_erase hk
   ·
    rw [q] at hk; exact hk
  obtain ⟨x,x1,x2,x3⟩:=h.kid i z0 k q1 (by rw [← q2,hl']) hkm
  have hkc:k ≠ c:=fun q=>by
   subst q
   rw [hz] at x1; cases x1
   rcases q6 with ⟨e,q⟩ | ⟨e,q⟩
   ·
    rw [q] at hk
    have:=h.kidN i z0 q1 (by rw [← q2,hl'])
    exact ((List.Nodup.mem_erase_iff this).1 hk).1 rfl
   ·
    exact e x3.symm
  obtain ⟨x',hx'⟩:=up k x x1
  obtain ⟨x0,p1,p2,p3,p4,p5,p6⟩:=low k x' hx'
  rw [x1] at p1; cases p1
  rcases p5 with ⟨e,_⟩ | ⟨_,e⟩
  ·
   exact absurd e hkc
  ·
   exact ⟨x',hx',by rw [p2,x2],by rw [e,x3]⟩
 ·
  obtain ⟨z0,q1,q2,q3,q4,q5,q6⟩:=low k y' hk
  rcases q5 with ⟨_,q⟩ | ⟨hkc,q⟩
  ·
   exact absurd q hp'
  ·
   obtain ⟨x,x1,x2,x3,x4⟩:=h.par k z0 q1 (by rw [← q2,hl']) (by rw [← q]; exact hp')
   rw [q]
   obtain ⟨x',hx'⟩:=up _ x x1
   obtain ⟨x0,p1,p2,p3,p4,p5,p6⟩:=low _ x' hx'
   rw [x1] at p1; cases p1
   refine ⟨x',hx',by rw [p2,x2],?_,by rw [p4]; exact x4⟩
   rcases p6 with ⟨_,e⟩ | ⟨_,e⟩
   ·
    rw [e]; exact (List.mem_erase_of_ne hkc).2 x3
   ·
    rw [e]; exact x3
 ·
  obtain ⟨l,hpath⟩:=h.path i (lvs i hi)
  clear hi
  induction hpath with
  | top g gl gp =>
   obtain ⟨g',hg'⟩:=up _ _ g
   obtain ⟨z0,q1,q2,q3,q4,q5,q6⟩:=low _ g' hg'
   rw [g] at q1; cases q1
   refine ⟨[_],.top hg' (by rw [q2,gl]) ?_⟩
   rcases q5 with ⟨_,q⟩ | ⟨_,q⟩
   ·
    exact q
   ·
    rw [q,gp]
  | up g gl gp k ih =>
   obtain ⟨g',hg'⟩:=up _ _ g
   obtain ⟨z0,q1,q2,q3,q4,q5,q6⟩:=low _ g' hg'
   rw [g] at q1; cases q1
   rcases q5 with ⟨_,q⟩ | ⟨_,q⟩
   ·
    exact ⟨[_],.top hg' (by rw [q2,gl]) q⟩
   ·
    obtain ⟨l',hl'⟩:=ih
    exact ⟨_ :: l',.up hg' (by rw [q2,gl]) (by rw [q]; exact gp) (by rw [q]; exact hl')⟩
 ·
  obtain ⟨z0,q1,q2,q3,_⟩:=low i z' hi
  rw [q3]; exact h.attrs i z0 q1
end Pr
end Go.Ev

namespace Go.Ev
namespace Pr
set_option linter.unusedVariables false
set_option linter.unusedSimpArgs false
def BH (a:Int) (n:Nat):Nat:=(max 0 (min a (n:Int))).toNat
def qU (l:List Int) (a c:Int):List Int:=l.take (BH a l.length) ++ c :: l.drop (BH a l.length)
theorem zO {l:List Int} {a c x:Int}:x ∈ qU l a c↔x=c∨x ∈ l:=by
 unfold qU
 have e:=List.take_append_drop (BH a l.length) l
 constructor
 ·
  intro h
  rcases List.mem_append.1 h with h | h
  ·
   exact .inr (List.mem_of_mem_take h)
  ·
   rcases List.mem_cons.1 h with h | h
   ·
    exact .inl h
   ·
    exact .inr (List.mem_of_mem_drop h)
 ·
  rintro (rfl | h)
  ·
   simp
  ·
   rw [← e] at h
   rcases List.mem_append.1 h with h | h
   ·
    exact List.mem_append_left _ h
   ·
    exact List.mem_append_right _ (List.mem_cons_of_mem _ h)
theorem GX (l:List Int) (a c:Int):(qU l a c).Perm (c :: l):=by
 unfold qU
 refine List.perm_middle.trans ?_
 rw [List.take_append_drop]
theorem Eo {l:List Int} {a c:Int} (h:l.Nodup) (hc:c ∉ l):(qU l a c).Nodup:=(GX l a c).nodup_iff.2 (List.nodup_cons.2 ⟨hc,h⟩)
theorem LA {l:List Int} {a c:Int} (h:l.length ≤ 100000):Jj l (zJ 0 (EZ a (l.length:Int))) c=some (qU l a c):=by
 have e:zJ 0 (EZ a (l.length:Int))=max 0 (min a (l.length:Int)):=by
  unfold zJ EZ; split <;> split <;> omega
 rw [e]
 unfold Jj
 rw [if_pos ⟨by omega,by omega,by omega⟩]
 rfl
def KW (d:aB):Nat→Int→List Int
 | 0,_=>[]
 | f + 1,i=>match nd d i with
  | some z=>if z.lives=true then (if z.parent=0 then [i] else i :: KW d f z.parent) else []
  | none=>[]
def pathOf (d:aB) (i:Int):List Int:=KW d d.l.length i
theorem Path.KW {d:aB} {i:Int} {l:List Int} (h:Path d i l):∀ f,l.length ≤ f→KW d f i=l:=by
 induction h with
 | top h hl hp =>
  intro f hf
  cases f with
  | zero=>simp at hf
  | succ f=>simp only [Pr.KW,h,hl,hp,if_true]
 | up h hl hp k ih =>
  intro f hf
  cases f with
  | zero=>simp at hf
  | succ f=>simp only [Pr.KW,h,hl,if_true,if_neg hp]; rw [ih f (by simpa using hf)]
theorem Path.of {d:aB} {i:Int} {l:List Int} (h:Path d i l):pathOf d i=l:=h.KW _ h.length
def xK (d:aB) (i:Int):Str:=match nd d i with | some z=>z.tag | none=>[]
def mF (d:aB) (p c:Int):Bool:=kI d p && kI d c && !(xK d p == []) && !(c == 1) && !(decide (c ∈ pathOf d p))
def fU (d:aB) (p c a:Int):aB:=match nd d p,nd d c with
 | some y,some z=>l8 (l8 d p { y with kids:=qU y.kids a c }) c { z with parent:=p }
 | _,_=>d
theorem C9 {d:aB} {p c a:Int} {y z:ah} (hy:nd d p=some y) (hz:nd d c=some z) (hne:c ≠ p) (j:Int) :
  nd (fU d p c a) j=if j=c then some { z with parent:=p } else if j=p then some { y with kids:=qU y.kids a c } else nd d j:=by
 unfold fU
 rw [hy,hz]
 simp only
 have h1:=lh hy { y with kids:=qU y.kids a c } c
 rw [if_neg hne] at h1
 rw [lh (h1.trans hz),lh hy]
@[simp] theorem wJ (d:aB) (p c a:Int):(fU d p c a).l.length=d.l.length:=by unfold fU; split <;> simp
@[simp] theorem su (d:aB) (p c a:Int):(fU d p c a).freed=d.freed:=by unfold fU; split <;> simp
theorem Jn {d:aB} (h:WF d) {p c a:Int} {y z:ah} (hy:nd d p=some y) (hyl:y.lives=true) (ht:y.tag ≠ []) (hz:nd d c=some z) (hzl:z.lives=true) (hzp:z.parent=0) (hc1:c ≠ 1) {l:List Int} (hp:Path d p l) (hcl:c ∉ l):WF (fU d p c a):=by
 have hne:c ≠ p:=fun q=>by obtain ⟨t,rfl⟩:=hp.head; exact hcl (by rw [q]; exact List.mem_cons_self)
 have hget:=C9 (a:=a) hy hz hne
 have hpr:=bZ hy
 have low:∀ i z',nd (fU d p c a) i=some z'→∃ z0,nd d i=some z0∧z'.lives=z0.lives∧z'.attrs=z0.attrs∧z'.tag=z0.tag∧(i=c∧z'.parent=p∨i ≠ c∧z'.parent=z0.parent)∧(i=p∧z'.kids=qU z0.kids a c∨i ≠ p∧z'.kids=z0.kids):=fun i z' hi=>by
  rw [hget] at hi
  by_cases h1:i=c
  ·
   subst h1; rw [if_pos rfl] at hi; cases hi
   exact ⟨z,hz,rfl,rfl,rfl,.inl ⟨rfl,rfl⟩,.inr ⟨hne,rfl⟩⟩
  ·
   rw [if_neg h1] at hi
   by_cases h2:i=p
   ·
    subst h2; rw [if_pos rfl] at hi; cases hi
    exact ⟨y,hy,rfl,rfl,rfl,.inr ⟨h1,rfl⟩,.inl ⟨rfl,rfl⟩⟩
   ·
    rw [if_neg h2] at hi
    exact ⟨z',hi,rfl,rfl,rfl,.inr ⟨h1,rfl⟩,.inr ⟨h2,rfl⟩⟩
 have up:∀ i z0,nd d i=some z0→∃ z',nd (fU d p c a) i=some z':=fun i z0 hi=>by
  have:=bZ hi
  exact pM this.1 (by rw [wJ]; exact this.2)
 have lvs:∀ i,kI (fU d p c a) i=true→kI d i=true:=fun i hi=>by
  obtain ⟨z',h1,h2⟩:=gX hi
  obtain ⟨z0,q1,q2,_⟩:=low i z' h1
  rw [dZ q1,← q2,h2]
 have hcy:c ∉ y.kids:=fun q=>by
  obtain ⟨x,x1,x2,x3⟩:=h.kid p y c hy hyl q
  rw [hz] at x1; cases x1
  omega
 have hpath:∃ l',Path (fU d p c a) p l':=⟨l,hp.keep (fun j hj x hx=>by
  obtain ⟨x',hx'⟩:=up j x hx
  obtain ⟨x0,q1,q2,q3,q4,q5,q6⟩:=low j x' hx'
  rw [hx] at q1; cases q1
  rcases q5 with ⟨e,_⟩ | ⟨_,e⟩
  ·
   exact absurd (e ▸ hj) hcl
  ·
   exact ⟨x',hx',q2,e⟩)⟩
 refine ⟨by rw [wJ]; exact h.len,?_,fun i hi=>?_,by rw [su]; exact h.freedN,fun i z' hi=>?_,fun i z' hi hl'=>?_,fun i z' k hi hl' hk=>?_,fun k y' hk hl' hp'=>?_,fun i hi=>?_,fun i z' hi=>?_⟩
 ·
  obtain ⟨r,r1,r2,r3,r4⟩:=h.root
  obtain ⟨r',hr'⟩:=up 1 r r1
  obtain ⟨z0,q1,q2,q3,q4,q5,q6⟩:=low 1 r' hr'
  rw [r1] at q1; cases q1
  refine ⟨r',hr',by rw [q2,r2],?_,by rw [q4]; exact r4⟩
  rcases q5 with ⟨q,_⟩ | ⟨_,q⟩
  ·
   exact absurd q.symm hc1
  ·
   rw [q,r3]
 ·
  rw [su] at hi; rw [wJ]; exact h.freedR i hi
 ·
  obtain ⟨z0,q1,q2,_⟩:=low i z' hi
  rw [q2,su]; exact h.dead i z0 q1
 ·
  obtain ⟨z0,q1,q2,q3,q4,q5,q6⟩:=low i z' hi
  have:=h.kidN i z0 q1 (by rw [← q2,hl'])
  rcases q6 with ⟨e,q⟩ | ⟨_,q⟩
  ·
   subst e; rw [hy] at q1; cases q1
   rw [q]; exact Eo this hcy
  ·
   rw [q]; exact this
 ·
  obtain ⟨z0,q1,q2,q3,q4,q5,q6⟩:=low i z' hi
  by_cases hkc:k=c
  ·
   subst hkc
   obtain ⟨x',hx'⟩:=up k z hz
   obtain ⟨x0,p1,p2,p3,p4,p5,p6⟩:=low k x' hx'
   rw [hz] at p1; cases p1
   refine ⟨x',hx',by rw [p2,hzl],?_⟩
   have hxp:x'.parent=p:=by
    rcases p5 with ⟨_,e⟩ | ⟨e,_⟩
    ·
     exact e
    ·
     exact absurd rfl e
   rw [hxp]
   rcases q6 with ⟨e,_⟩ | ⟨_,q⟩
   ·
    exact e.symm
   ·
    rw [q] at hk
    obtain ⟨w,w1,w2,w3⟩:=h.kid i z0 k q1 (by rw [← q2,hl']) hk
    rw [hz] at w1; cases w1
    have:=bZ q1
    omega
  ·
   have hkm:k ∈ z0.kids:=by
    rcases q6 with ⟨_,q⟩ | ⟨_,q⟩
    ·
     rw [q] at hk; exact (zO.1 hk).resolve_left hkc
    ·
     rw [q] at hk; exact hk
   obtain ⟨x,x1,x2,x3⟩:=h.kid i z0 k q1 (by rw [← q2,hl']) hkm
   obtain ⟨x',hx'⟩:=up k x x1
   obtain ⟨x0,p1,p2,p3,p4,p5,p6⟩:=low k x' hx'
   rw [x1] at p1; cases p1
   rcases p5 with ⟨e,_⟩ | ⟨_,e⟩
   ·
    exact absurd e hkc
   ·
    exact ⟨x',hx',by rw [p2,x2],by rw [e,x3]⟩
 ·
  obtain ⟨z0,q1,q2,q3,q4,q5,q6⟩:=low k y' hk
  rcases q5 with ⟨e,q⟩ | ⟨hkc,q⟩
  ·
   obtain ⟨x',hx'⟩:=up p y hy
   obtain ⟨x0,p1,p2,p3,p4,p5,p6⟩:=low p x' hx'
   rw [hy] at p1; cases p1
   rw [q]
   refine ⟨x',hx',by rw [p2,hyl],?_,by rw [p4]; exact ht⟩
   rcases p6 with ⟨_,e2⟩ | ⟨e2,_⟩
   ·
    rw [e2,e]; exact zO.2 (.inl rfl)
   ·
    exact absurd rfl e2
  ·
   obtain ⟨x,x1,x2,x3,x4⟩:=h.par k z0 q1 (by rw [← q2,hl']) (by rw [← q]; exact hp')
   rw [q]
   obtain ⟨x',hx'⟩:=up _ x x1
   obtain ⟨x0,p1,p2,p3,p4,p5,p6⟩:=low _ x' hx'
   rw [x1] at p1; cases p1
   refine ⟨x',hx',by rw [p2,x2],?_,by rw [p4]; exact x4⟩
   rcases p6 with ⟨_,e⟩ | ⟨_,e⟩
   ·
    rw [e]; exact zO.2 (.inr x3)
   ·
    rw [e]; exact x3
 ·
  obtain ⟨l,hpath'⟩:=h.path i (lvs i hi)
  clear hi
  induction hpath' with
  | top g gl gp =>
   obtain ⟨g',hg'⟩:=up _ _ g
   obtain ⟨z0,q1,q2,q3,q4,q5,q6⟩:=low _ g' hg'
   rw [g] at q1; cases q1
   rcases q5 with ⟨_,q⟩ | ⟨_,q⟩
   ·
    obtain ⟨l',hl'⟩:=hpath
    exact ⟨_ :: l',.up hg' (by rw [q2,gl]) (by rw [q]; omega) (by rw [q]; exact hl')⟩
   ·
    exact ⟨[_],.top hg' (by rw [q2,gl]) (by rw [q,gp])⟩
  | up g gl gp k ih =>
   obtain ⟨g',hg'⟩:=up _ _ g
   obtain ⟨z0,q1,q2,q3,q4,q5,q6⟩:=low _ g' hg'
   rw [g] at q1; cases q1
   rcases q5 with ⟨_,q⟩ | ⟨_,q⟩
   ·
    obtain ⟨l',hl'⟩:=hpath
    exact ⟨_ :: l',.up hg' (by rw [q2,gl]) (by rw [q]; omega) (by rw [q]; exact hl')⟩
   ·
    obtain ⟨l',hl'⟩:=ih
    exact ⟨_ :: l',.up hg' (by rw [q2,gl]) (by rw [q]; exact gp) (by rw [q]; exact hl')⟩
 ·
  obtain ⟨z0,q1,q2,q3,_⟩:=low i z' hi
  rw [q3]; exact h.attrs i z0 q1
theorem xq {d:aB} (h:WF d) {c:Int} (hc:kI d c=true) {i:Int} {l:List Int} (hp:Path d i l) (hcl:c ∉ l):Path (dC d c) i l:=by
 obtain ⟨z,hz,hl⟩:=gX hc
 by_cases hp0:z.parent=0
 ·
  rw [jO hz hp0]; exact hp
 obtain ⟨y,hy,hyl,hm,ht⟩:=h.par c z hz hl hp0
 have hget:=qH hz hp0 hy (wV h hz hl)
 refine hp.keep (fun j hj x hx=>?_)
 rw [hget,if_neg (fun (q:j=c)=>hcl (by rw [← q]; exact hj))]
 by_cases h2:j=z.parent
 ·
  rw [if_pos h2]
  subst h2
  rw [hy] at hx; cases hx
  exact ⟨_,rfl,rfl,rfl⟩
 ·
  rw [if_neg h2]; exact ⟨x,hx,rfl,rfl⟩
theorem sI {d:aB} (h:WF d) {c:Int} (hc:kI d c=true):∃ z,nd (dC d c) c=some z∧z.lives=true∧z.parent=0:=by
 obtain ⟨z,hz,hl⟩:=gX hc
 by_cases hp0:z.parent=0
 ·
  rw [jO hz hp0]; exact ⟨z,hz,hl,hp0⟩
 obtain ⟨y,hy,hyl,hm,ht⟩:=h.par c z hz hl hp0
 have hget:=qH hz hp0 hy (wV h hz hl)
 exact ⟨{ z with parent:=0 },by rw [hget,if_pos rfl],hl,rfl⟩
theorem mJ {d:aB} (h:WF d) {c:Int} (hc:kI d c=true) {i:Int} {z:ah} (hz:nd d i=some z) (hzl:z.lives=true):nd (dC d c) i=some { z with kids:=z.kids.erase c,parent:=if i=c then 0 else z.parent }:=by
 obtain ⟨zc,hzc,hl⟩:=gX hc
 have hno:i ≠ zc.parent→z.kids.erase c=z.kids:=fun hne=>List.erase_of_not_mem (fun hm=>by
  obtain ⟨x,x1,x2,x3⟩:=h.kid i z c hz hzl hm
  rw [hzc] at x1; cases x1
  exact hne x3.symm)
 by_cases hp0:zc.parent=0
 ·
  rw [jO hzc hp0,hno (by have:=bZ hz; omega),hz]
  by_cases hi:i=c
  ·
   subst hi; rw [hzc] at hz; cases hz; rw [if_pos rfl,← hp0]
  ·
   rw [if_neg hi]
 obtain ⟨y,hy,hyl,hm,ht⟩:=h.par c zc hzc hl hp0
 have hne:=wV h hzc hl
 rw [qH hzc hp0 hy hne]
 by_cases hi:i=c
 ·
  subst hi; rw [hzc] at hz; cases hz
  rw [if_pos rfl,if_pos rfl,hno (Ne.symm hne)]
 ·
  rw [if_neg hi,if_neg hi]
  by_cases h2:i=zc.parent
  ·
   subst h2; rw [hy] at hz; cases hz; rw [if_pos rfl]
  ·
   rw [if_neg h2,hno h2,hz]
theorem Gt {d:aB} {p c a:Int} {y z:ah} (hy:nd d p=some y) (hz:nd d c=some z) (hne:c ≠ p) {i:Int} {x:ah} (hx:nd d i=some x):nd (fU d p c a) i=some { x with kids:=if i=p then qU x.kids a c else x.kids,parent:=if i=c then p else x.parent }:=by
 rw [C9 hy hz hne]
 by_cases hi:i=c
 ·
  subst hi; rw [hz] at hx; cases hx
  rw [if_pos rfl,if_pos rfl,if_neg hne]
 ·
  rw [if_neg hi,if_neg hi]
  by_cases h2:i=p
  ·
   subst h2; rw [hy] at hx; cases hx; rw [if_pos rfl,if_pos rfl]
  ·
   rw [if_neg h2,if_neg h2,hx]
theorem wL {d:aB} (h:WF d) {n:Nat} (hn:6000 ≤ n) (p c a:Int):gI n d p c a=some (if mF d p c=true then (true,fU (dC d c) p c a) else (false,d)):=by
 unfold gI
 rw [vY h.dm,vY h.dm]
 simp only [Option.bind_some]
 by_cases hp:kI d p=true
 rotate_left 1
 ·
  rw [if_neg hp]
  have:mF d p c=false:=by unfold mF; simp [hp]
  rw [this]; simp
 by_cases hc:kI d c=true
 rotate_left 1
 ·
  rw [if_pos hp,if_neg hc]
  have:mF d p c=false:=by unfold mF; simp [hc]
  obtain ⟨y,hy,_⟩:=gX hp
  rw [this,jB h.dm hy]; simp
 rw [if_pos hp,if_pos hc]
 obtain ⟨y,l,hy,hyl,hpath,_⟩:=h.lp hp
 obtain ⟨z,hz,hzl⟩:=gX hc
 have hcr:=bZ hz
 rw [jB h.dm hy,jB h.dm hz]
 simp only [Option.bind_some]
 have htag:xK d p=y.tag:=by unfold xK; rw [hy]
 by_cases hg:y.tag=[]∨c=1
 ·
  rw [if_pos (by simpa using hg)]
  have:mF d p c=false:=by unfold mF; rw [htag]; rcases hg with q | q <;> simp [q]
  rw [this]; simp
 rw [if_neg (by simpa using hg),EX h hpath (by omega) (by omega),Option.bind_some]
 by_cases hin:c ∈ l
 ·
  rw [if_pos (by simpa using hin)]
  have:mF d p c=false:=by unfold mF; rw [hpath.of]; simp [hin]
  rw [this]; simp
 rw [if_neg (by simpa using hin),CO h hc hn,Option.bind_some]
 have hok:mF d p c=true:=by
  unfold mF; rw [htag,hpath.of]
  simp only [not_or] at hg
  simp [hp,hc,hin,hg.1,hg.2]
 rw [hok,if_pos rfl]
 have hW:=tN h hc
 have hP:=xq h hc hpath hin
 obtain ⟨y1,hy1,hyl1⟩:∃ y1,nd (dC d c) p=some y1∧y1.lives=true:=by
  obtain ⟨_,_,_,_,x,x1,x2⟩:=hP.mem p (by obtain ⟨t,rfl⟩:=hP.head; exact List.mem_cons_self)
  exact ⟨x,x1,x2⟩
 obtain ⟨z1,hz1,hzl1,hzp1⟩:=sI h hc
 have hne:c ≠ p:=fun q=>by obtain ⟨t,rfl⟩:=hpath.head; exact hin (by rw [q]; exact List.mem_cons_self)
 have hk:=wu hW hy1 hyl1
 rw [jB hW.dm hy1,Option.bind_some,LA (by omega),Option.bind_some,qP hW.dm hy1]
 have e1:ah.mk y1.lives y1.tag y1.key y1.text y1.attrs (qU y1.kids a c) y1.parent = { y1 with kids:=qU y1.kids a c }:=rfl
 rw [e1]
 have h1:=lh hy1 { y1 with kids:=qU y1.kids a c } c
 rw [if_neg hne] at h1
 have hd:(l8 (dC d c) p { y1 with kids:=qU y1.kids a c }).l.length ≤ dM:=by rw [nE]; exact hW.dm
 rw [jB hd (h1.trans hz1),Option.bind_some,qP hd (h1.trans hz1)]
 unfold fU
 rw [hy1,hz1]
 rfl
theorem Hu {d:aB} (h:WF d) {p c:Int} (a:Int) (hok:mF d p c=true):WF (fU (dC d c) p c a)∧(∀ i z,nd d i=some z→z.lives=true →
  nd (fU (dC d c) p c a) i=some { z with kids:=if i=p then qU (z.kids.erase c) a c else z.kids.erase c,parent:=if i=c then p else z.parent }):=by
 unfold mF at hok
 simp only [Bool.and_eq_true,Bool.not_eq_true',beq_eq_false_iff_ne,decide_eq_false_iff_not] at hok
 obtain ⟨⟨⟨⟨hp,hc⟩,ht⟩,hc1⟩,hin⟩:=hok
 obtain ⟨y,l,hy,hyl,hpath,_⟩:=h.lp hp
 rw [hpath.of] at hin
 have htag:xK d p=y.tag:=by unfold xK; rw [hy]
 rw [htag] at ht
 have hW:=tN h hc
 have hP:=xq h hc hpath hin
 have hy1:=mJ h hc hy hyl
 obtain ⟨z1,hz1,hzl1,hzp1⟩:=sI h hc
 have hne:c ≠ p:=fun q=>by obtain ⟨t,rfl⟩:=hpath.head; exact hin (by rw [q]; exact List.mem_cons_self)
 refine ⟨Jn hW hy1 hyl ht hz1 hzl1 hzp1 hc1 hP hin,fun i z hz hzl=>?_⟩
 rw [Gt hy1 hz1 hne (mJ h hc hz hzl)]
 by_cases hi:i=c
 ·
  subst hi; simp
 ·
  simp [hi]
theorem wN {d:aB} (h:WF d) {n:Nat} (hn:6000 ≤ n) (c:Int):∃ b,jJ n d c=some (b,if b=true then dC d c else d)∧(b=true↔∃ z,nd d c=some z∧z.lives=true∧z.parent ≠ 0):=by
 unfold jJ
 rw [vY h.dm,Option.bind_some]
 by_cases hc:kI d c=true
 ·
  obtain ⟨z,hz,hl⟩:=gX hc
  rw [if_pos hc,jB h.dm hz,Option.bind_some]
  by_cases hp:z.parent=0
  ·
   rw [if_pos (by simpa using hp)]
   exact ⟨false,rfl,by simp only [Bool.false_eq_true,false_iff]; rintro ⟨x,x1,x2,x3⟩; rw [hz] at x1; cases x1; exact x3 hp⟩
  ·
   rw [if_neg (by simpa using hp),CO h hc hn,Option.bind_some]
   exact ⟨true,rfl,by simp only [true_iff]; exact ⟨z,hz,hl,hp⟩⟩
 ·
  rw [if_neg hc]
  exact ⟨false,rfl,by simp only [Bool.false_eq_true,false_iff]; rintro ⟨x,x1,x2,x3⟩; exact hc (by rw [dZ x1,x2])⟩
theorem G8 {d:aB} (h:WF d) (n:Nat) (i:Int):jD n d i=some (match nd d i with | some z=>if z.lives=true then z.parent else 0 | none=>0):=by
 unfold jD
 rw [vY h.dm,Option.bind_some]
 unfold kI
 cases hz:nd d i with
 | none=>rfl
 | some z =>
  simp only
  by_cases hl:z.lives=true
  ·
   rw [if_pos hl,if_pos hl,jB h.dm hz]; rfl
  ·
   rw [if_neg hl,if_neg hl]
theorem uu {d:aB} (h:WF d) (n:Nat) (i:Int):iN n d i=some (match nd d i with | some z=>if z.lives=true then z.kids else [] | none=>[]):=by
 unfold iN
 rw [vY h.dm,Option.bind_some]
 unfold kI
 cases hz:nd d i with
 | none=>rfl
 | some z =>
  simp only
  by_cases hl:z.lives=true
  ·
   have:=wu h hz hl
   rw [if_pos hl,if_pos hl,jB h.dm hz,Option.bind_some]
   unfold iO
   rw [lD (by rw [bnd]; simp; omega)]; rfl
  ·
   rw [if_neg hl,if_neg hl]
theorem wB {d:aB} (h:WF d) (n:Nat):kg n d=some ((d.l.length:Int) - d.freed.length):=by
 have hfl:d.freed.length ≤ d.l.length:=iW _ _ h.freedN (fun x hx=>⟨by have:=h.freedR x hx; omega,(h.freedR x hx).2⟩)
 have:=h.len
 unfold kg
 rw [mE (by omega) (by omega)]
end Pr
end Go.Ev

namespace Go.Ev
namespace Pr
set_option linter.unusedVariables false
set_option linter.unusedSimpArgs false
def nz:ah:=ah.mk true [114,111,111,116] [] [] [] [] 0
def Am:aB:=aB.mk [nz] []
theorem KT (n:Nat):ui n=some (some Am):=by
 unfold ui iG kG
 rfl
theorem JB (i:Int):nd Am i=if i=1 then some nz else none:=by
 unfold nd Am
 by_cases h:1 ≤ i
 ·
  rw [if_pos h]
  by_cases h1:i=1
  ·
   subst h1; rfl
  ·
   rw [if_neg h1,List.getElem?_eq_none (by simp; omega)]
 ·
  rw [if_neg h,if_neg (by omega)]
theorem JY:WF Am:=by
 have one:∀ i z,nd Am i=some z→i=1∧z=nz:=fun i z h=>by
  rw [JB] at h
  split at h
  ·
   exact ⟨‹_›,(Option.some.inj h).symm⟩
  ·
   cases h
 refine ⟨by decide,⟨nz,rfl,rfl,rfl,by simp [nz]⟩,fun i hi=>by simp [Am] at hi,by simp [Am],fun i z h=>?_,fun i z h _=>?_,fun i z k h _ hk=>?_,fun k y h _ hp=>?_,fun i h=>?_,fun i z h=>?_⟩
 ·
  obtain ⟨rfl,rfl⟩:=one i z h; simp [Am,nz]
 ·
  obtain ⟨rfl,rfl⟩:=one i z h; simp [nz]
 ·
  obtain ⟨rfl,rfl⟩:=one i z h; simp [nz] at hk
 ·
  obtain ⟨rfl,rfl⟩:=one k y h; simp [nz] at hp
 ·
  obtain ⟨z,hz,hl⟩:=gX h
  obtain ⟨rfl,rfl⟩:=one i z hz
  exact ⟨[1],.top hz rfl rfl⟩
 ·
  obtain ⟨rfl,rfl⟩:=one i z h; simp [nz]
theorem yX {d:aB} (h:WF d) (hl:d.l.length < 5000) (n:Nat) {tag key:Str} (ht:tag ≠ []):∃ d',iG n d tag key=some (nextId d,d')∧WF d'∧New d d' (nextId d) (ah.mk true tag key [] [] [] 0)∧d'.freed=d.freed.dropLast∧d'.l.length=(if d.freed=[] then d.l.length + 1 else d.l.length):=by
 obtain ⟨d',h1,h2⟩:=Im h hl n (aK.mk false tag key [] [] 0) rfl (by simp)
 refine ⟨d',?_,h2⟩
 unfold iG
 rw [if_neg (by simpa using ht),h1]; rfl
theorem JL {d:aB} (h:WF d) (hl:d.l.length < 5000) (n:Nat) (s:Str):∃ d',kL n d s=some (nextId d,d')∧WF d'∧New d d' (nextId d) (ah.mk true [] [] s [] [] 0)∧d'.freed=d.freed.dropLast∧d'.l.length=(if d.freed=[] then d.l.length + 1 else d.l.length):=by
 obtain ⟨d',h1,h2⟩:=Im h hl n (aK.mk false [] [] s [] 0) rfl (by simp)
 refine ⟨d',?_,h2⟩
 unfold kL
 rw [h1]; rfl
def rX (d:aB) (i:Int):Bool:=match nd d i with | some z=>(z.lives && (z.parent == 0)) && (i != 1) | none=>false
def nums (n:Nat):List Int:=(List.range n).map fun (i:Nat)=>(i:Int) + 1
theorem Jo {n:Nat} {i:Int}:i ∈ nums n↔1 ≤ i∧i ≤ n:=by
 unfold nums
 rw [List.mem_map]
 constructor
 ·
  rintro ⟨a,h1,rfl⟩; have:=List.mem_range.1 h1; omega
 ·
  rintro ⟨h1,h2⟩; exact ⟨(i - 1).toNat,List.mem_range.2 (by omega),by omega⟩
theorem GD (n:Nat):nums (n + 1)=nums n ++ [(n:Int) + 1]:=by unfold nums; rw [List.range_succ,List.map_append]; rfl
def uR (d:aB):List Int:=(nums d.l.length).filter (rX d)
theorem zy {d:aB} (hl:d.l.length ≤ 5000):∀ (m j:Nat) (f:Nat),j + m=d.l.length→m < f→dD d f ((nums j).filter (rX d)) (j:Int)=some (uR d)
 | 0,j,f + 1,hj,hf=>by
  rw [dD,if_neg (by rw [decide_eq_true_eq]; omega)]
  unfold uR; rw [show d.l.length=j by omega]
 | m + 1,j,f + 1,hj,hf=>by
  have hlt:j < d.l.length:=by omega
  rw [dD,if_pos (by rw [decide_eq_true_eq]; omega)]
  have hz:d.l[j]? = some d.l[j]:=List.getElem?_eq_getElem hlt
  have hn:nd d ((j:Int) + 1)=some d.l[j]:=by
   unfold nd; rw [if_pos (by omega),show ((j:Int) + 1 - 1).toNat=j by omega]; exact hz
  rw [pU,hz,Option.bind_some,mE (by omega) (by omega)]
  have hb:rX d ((j:Int) + 1)=((d.l[j].lives && (d.l[j].parent == 0)) && ((j:Int) + 1 != 1)):=by unfold rX; rw [hn]
  rw [← hb]
  have hlen:((nums j).filter (rX d)).length ≤ 5000:=Nat.le_trans (List.length_filter_le _ _) (by unfold nums; simp; omega)
  have ih:=zy hl m (j + 1) f (by omega) (by omega)
  rw [GD,List.filter_append] at ih
  have ecast:(((j + 1:Nat)):Int)=(j:Int) + 1:=by omega
  rw [ecast] at ih
  by_cases hq:rX d ((j:Int) + 1)=true
  ·
   rw [if_pos hq,lD (by rw [bnd]; simp only [List.length_singleton]; omega),Option.bind_some]
   unfold gD
   rw [mE (by omega) (by omega),← ih]
   simp [hq]
  ·
   rw [if_neg hq]
   unfold gD
   rw [mE (by omega) (by omega),← ih]
   simp [hq]
theorem Jl {d:aB} (h:WF d) {n:Nat} (hn:5001 ≤ n):j3 n d=some (uR d):=by
 unfold j3
 have:=zy h.len d.l.length 0 n (by omega) (by have:=h.len; omega)
 simpa [nums] using this
theorem EH {d:aB} {i:Int}:i ∈ uR d↔∃ z,nd d i=some z∧z.lives=true∧z.parent=0∧i ≠ 1:=by
 unfold uR
 rw [List.mem_filter,Jo]
 constructor
 ·
  rintro ⟨h1,h2⟩
  unfold rX at h2
  split at h2
  ·
   rename_i z hz
   simp only [Bool.and_eq_true,beq_iff_eq,bne_iff_ne] at h2
   exact ⟨z,hz,h2.1.1,h2.1.2,h2.2⟩
  ·
   cases h2
 ·
  rintro ⟨z,h1,h2,h3,h4⟩
  refine ⟨bZ h1,?_⟩
  unfold rX; rw [h1]
  simp [h2,h3,h4]
end Pr
end Go.Ev

namespace Go.Ev
namespace Pr
set_option linter.unusedVariables false
set_option linter.unusedSimpArgs false
theorem mP (n:Nat) (a lo hi:Int) (h1:lo ≤ hi) (h2:-1000000000000 ≤ lo) (h3:hi ≤ 1000000000000000):∃ r,df n a lo hi=some r∧lo ≤ r∧r ≤ hi:=by
 unfold df
 rw [mE (n:=hi - lo) (by omega) (by omega),mE (by omega) (by omega),BK (by omega),Option.bind_some]
 have k1:=Int.tmod_lt_of_pos a (show 0 < hi - lo + 1 by omega)
 have k2:=Int.lt_tmod_of_pos a (show 0 < hi - lo + 1 by omega)
 unfold eP
 by_cases hz:a.tmod (hi - lo + 1) < 0
 ·
  rw [if_pos (by simpa using hz)]
  rw [mE (n:=a.tmod (hi - lo + 1) + hi) (by omega) (by omega),mE (n:=a.tmod (hi - lo + 1) + hi - lo) (by omega) (by omega),mE (n:=a.tmod (hi - lo + 1) + hi - lo + 1) (by omega) (by omega),mE (by omega) (by omega)]
  exact ⟨_,rfl,by omega,by omega⟩
 ·
  rw [if_neg (by simpa using hz),mE (by omega) (by omega)]
  exact ⟨_,rfl,by omega,by omega⟩
theorem Ba (a b:List Int):∀ (rest done rest2:List Int) (f:Nat),a=done ++ rest→b=done ++ rest2→rest.length=rest2.length→rest.length < f→a.length < 1000000→cu a b f (done.length:Int)=some (rest == rest2)
 | [],done,[],f + 1,h,h2,_,hf,hl=>by rw [cu,if_neg (by subst h; simp)]; rfl
 | z :: rest,done,y :: rest2,f + 1,h,h2,he,hf,hl=>by
  have hd:done.length < a.length:=by subst h; simp
  rw [cu,if_pos (by rw [decide_eq_true_eq]; omega),jQ h,jQ h2,Option.bind_some,Option.bind_some]
  by_cases hq:z=y
  ·
   subst hq
   rw [if_neg (by simp),mE (by omega) (by omega)]
   have:=Ba a b rest (done ++ [z]) rest2 f (by simp [h]) (by simp [h2]) (by simpa using he) (by simp at hf; omega) hl
   simp only [List.length_append,List.length_cons,List.length_nil,Nat.zero_add,Int.natCast_add,Int.cast_ofNat_Int] at this
   rw [this]; simp
  ·
   rw [if_pos (by simp [hq])]; simp [hq]
theorem J6 (n:Nat) (a b:List Int) (h:a.length < n) (hl:a.length < 1000000):iy n a b=some (a == b):=by
 unfold iy
 by_cases he:a.length=b.length
 ·
  rw [if_neg (by simp [he])]
  exact Ba a b a [] b n rfl rfl he h hl
 ·
  rw [if_pos (by simp; omega)]
  have:(a == b)=false:=by rw [beq_eq_false_iff_ne]; intro q; exact he (by rw [q])
  rw [this]
end Pr
end Go.Ev

namespace Go.Ev
namespace Pr
set_option linter.unusedVariables false
set_option linter.unusedSimpArgs false
mutual
inductive TA (d:aB):Int→Tree→List Int→Prop
 | mk {i:Int} {z:ah} {ts:List Tree} {F:List Int} (h:nd d i=some z) (hl:z.lives=true) (k:nN d z.kids ts F):TA d i (Tree.mk z.tag z.key z.text z.attrs ts) (i :: F)
inductive nN (d:aB):List Int→List Tree→List Int→Prop
 | nil:nN d [] [] []
 | cons {i:Int} {is:List Int} {t:Tree} {ts:List Tree} {F G:List Int} (h:TA d i t F) (k:nN d is ts G):nN d (i :: is) (t :: ts) (F ++ G)
end
mutual
def jZ:Tree→Nat
 | .mk _ _ _ _ ks=>1 + jo ks
def jo:List Tree→Nat
 | []=>0
 | t :: l=>jZ t + jo l
end
mutual
theorem TA.len {d:aB}:∀ {i:Int} {t:Tree} {F:List Int},TA d i t F→F.length=jZ t
 | _,_,_,.mk h hl k=>by simp only [List.length_cons,jZ,k.len]; omega
theorem nN.len {d:aB}:∀ {is:List Int} {ts:List Tree} {F:List Int},nN d is ts F→F.length=jo ts
 | _,_,_,.nil=>rfl
 | _,_,_,.cons h k=>by simp only [List.length_append,jo,h.len,k.len]
end
mutual
theorem TA.keep {d d':aB}:∀ {i:Int} {t:Tree} {F:List Int},TA d i t F→(∀ j ∈ F,∀ z,nd d j=some z→∃ z',nd d' j=some z'∧z'.lives=z.lives∧z'.tag=z.tag∧z'.key=z.key∧z'.text=z.text∧z'.attrs=z.attrs∧z'.kids=z.kids)→TA d' i t F
 | _,_,_,.mk h hl k,hk=>by
  obtain ⟨z',q1,q2,q3,q4,q5,q6,q7⟩:=hk _ List.mem_cons_self _ h
  rw [← q3,← q4,← q5,← q6]
  refine .mk q1 (by rw [q2,hl]) ?_
  rw [q7]
  exact k.keep (fun j hj=>hk j (List.mem_cons_of_mem _ hj))
theorem nN.keep {d d':aB}:∀ {is:List Int} {ts:List Tree} {F:List Int},nN d is ts F→(∀ j ∈ F,∀ z,nd d j=some z→∃ z',nd d' j=some z'∧z'.lives=z.lives∧z'.tag=z.tag∧z'.key=z.key∧z'.text=z.text∧z'.attrs=z.attrs∧z'.kids=z.kids)→nN d' is ts F
 | _,_,_,.nil,hk=>.nil
 | _,_,_,.cons h k,hk=>.cons (h.keep (fun j hj=>hk j (List.mem_append_left _ hj))) (k.keep (fun j hj=>hk j (List.mem_append_right _ hj)))
end
theorem TA.CL {d d':aB} {i:Int} {t:Tree} {F:List Int} (h:TA d i t F) (hk:∀ j ∈ F,nd d' j=nd d j):TA d' i t F :=
 h.keep (fun j hj z hz=>⟨z,by rw [hk j hj]; exact hz,rfl,rfl,rfl,rfl,rfl,rfl⟩)
theorem nN.CL {d d':aB} {is:List Int} {ts:List Tree} {F:List Int} (h:nN d is ts F) (hk:∀ j ∈ F,nd d' j=nd d j):nN d' is ts F :=
 h.keep (fun j hj z hz=>⟨z,by rw [hk j hj]; exact hz,rfl,rfl,rfl,rfl,rfl,rfl⟩)
theorem TA.head {d:aB} {i:Int} {t:Tree} {F:List Int} (h:TA d i t F):∃ G,F=i :: G:=by cases h; exact ⟨_,rfl⟩
mutual
theorem TA.live {d:aB}:∀ {i:Int} {t:Tree} {F:List Int},TA d i t F→∀ j ∈ F,∃ z,nd d j=some z∧z.lives=true∧∀ k ∈ z.kids,k ∈ F
 | _,_,_,.mk h hl k,j,hj=>by
  rcases List.mem_cons.1 hj with rfl | hj
  ·
   exact ⟨_,h,hl,fun q hq=>List.mem_cons_of_mem _ (k.heads q hq)⟩
  ·
   obtain ⟨z,q1,q2,q3⟩:=k.live j hj
   exact ⟨z,q1,q2,fun q hq=>List.mem_cons_of_mem _ (q3 q hq)⟩
theorem nN.live {d:aB}:∀ {is:List Int} {ts:List Tree} {F:List Int},nN d is ts F→∀ j ∈ F,∃ z,nd d j=some z∧z.lives=true∧∀ k ∈ z.kids,k ∈ F
 | _,_,_,.nil,j,hj=>by cases hj
 | _,_,_,.cons h k,j,hj=>by
  rcases List.mem_append.1 hj with hj | hj
  ·
   obtain ⟨z,q1,q2,q3⟩:=h.live j hj
   exact ⟨z,q1,q2,fun q hq=>List.mem_append_left _ (q3 q hq)⟩
  ·
   obtain ⟨z,q1,q2,q3⟩:=k.live j hj
   exact ⟨z,q1,q2,fun q hq=>List.mem_append_right _ (q3 q hq)⟩
theorem nN.heads {d:aB}:∀ {is:List Int} {ts:List Tree} {F:List Int},nN d is ts F→∀ j ∈ is,j ∈ F
 | _,_,_,.nil,j,hj=>by cases hj
 | _,_,_,.cons h k,j,hj=>by
  rcases List.mem_cons.1 hj with rfl | hj
  ·
   obtain ⟨G,rfl⟩:=h.head; simp
  ·
   exact List.mem_append_right _ (k.heads j hj)
end
mutual
theorem TA.uniq {d:aB}:∀ {i:Int} {t t':Tree} {F F':List Int},TA d i t F→TA d i t' F'→t=t'∧F=F'
 | _,_,_,_,_,.mk h hl k,.mk h' hl' k'=>by
  rw [h] at h'; cases h'
  obtain ⟨e1,e2⟩:=k.uniq k'
  rw [e1,e2]; exact ⟨rfl,rfl⟩
theorem nN.uniq {d:aB}:∀ {is:List Int} {t t':List Tree} {F F':List Int},nN d is t F→nN d is t' F'→t=t'∧F=F'
 | _,_,_,_,_,.nil,.nil=>⟨rfl,rfl⟩
 | _,_,_,_,_,.cons h k,.cons h' k'=>by
  obtain ⟨e1,e2⟩:=h.uniq h'
  obtain ⟨e3,e4⟩:=k.uniq k'
  rw [e1,e2,e3,e4]; exact ⟨rfl,rfl⟩
end
theorem nN.lens {d:aB}:∀ {is:List Int} {ts:List Tree} {F:List Int},nN d is ts F→is.length=ts.length
 | _,_,_,.nil=>rfl
 | _,_,_,.cons h k=>by simp [k.lens]
theorem nN.app {d:aB}:∀ {is is2:List Int} {ts ts2:List Tree} {F F2:List Int},nN d is ts F→nN d is2 ts2 F2→nN d (is ++ is2) (ts ++ ts2) (F ++ F2)
 | _,_,_,_,_,_,.nil,h=>h
 | _,_,_,_,_,_,.cons a b,h=>by
  have:=nN.cons a (b.app h)
  simpa [List.append_assoc] using this
theorem nN.one {d:aB} {i:Int} {t:Tree} {F:List Int} (h:TA d i t F):nN d [i] [t] F:=by
 have:=nN.cons h (.nil (d:=d))
 simpa using this
mutual
theorem TA.path {d:aB} (hW:WF d):∀ {i:Int} {t:Tree} {F:List Int} {l:List Int},TA d i t F→Path d i l→∀ j ∈ F,∃ l1,Path d j (l1 ++ l)
 | i,_,_,l,.mk h hl k,hp,j,hj=>by
  rcases List.mem_cons.1 hj with rfl | hj
  ·
   exact ⟨[],hp⟩
  ·
   obtain ⟨l1,q⟩:=k.path hW hp (fun c hc=>hW.kid i _ c h hl hc) (bZ h).1 j hj
   exact ⟨l1,q⟩
theorem nN.path {d:aB} (hW:WF d):∀ {is:List Int} {ts:List Tree} {F:List Int} {l:List Int} {p:Int},nN d is ts F→Path d p l→(∀ c ∈ is,∃ y,nd d c=some y∧y.lives=true∧y.parent=p)→1 ≤ p→∀ j ∈ F,∃ l1,Path d j (l1 ++ l)
 | _,_,_,l,p,.nil,hp,hc,h1,j,hj=>by cases hj
 | _,_,_,l,p,.cons h k,hp,hc,h1,j,hj=>by
  rcases List.mem_append.1 hj with hj | hj
  ·
   obtain ⟨y,y1,y2,y3⟩:=hc _ List.mem_cons_self
   have hp2:Path d _ (_ :: l):=.up y1 y2 (by omega) (by rw [y3]; exact hp)
   obtain ⟨l1,q⟩:=h.path hW hp2 j hj
   exact ⟨l1 ++ [_],by simpa using q⟩
  ·
   exact k.path hW hp (fun c hcc=>hc c (List.mem_cons_of_mem _ hcc)) h1 j hj
end
theorem GZ {d:aB} {j:Int} {l1 l2 l:List Int} (h1:Path d j (l1 ++ l)) (h2:Path d j (l2 ++ l)):l1=l2:=List.append_cancel_right (h1.uniq h2)
mutual
theorem TA.nodup {d:aB} (hW:WF d):∀ {i:Int} {t:Tree} {F:List Int} {l:List Int},TA d i t F→Path d i l→F.Nodup
 | i,_,_,l,.mk h hl k,hp=>by
  refine List.nodup_cons.2 ⟨fun hm=>?_,k.nodup hW hp (fun c hc=>hW.kid i _ c h hl hc) (bZ h).1 (hW.kidN i _ h hl)⟩
  obtain ⟨l1,q⟩:=k.KF hW hp (fun c hc=>hW.kid i _ c h hl hc) (bZ h).1 i hm
  obtain ⟨c,hc⟩:=q
  have:=hc.uniq hp
  have:=congrArg List.length this
  simp at this
  omega
theorem nN.nodup {d:aB} (hW:WF d):∀ {is:List Int} {ts:List Tree} {F:List Int} {l:List Int} {p:Int},nN d is ts F→Path d p l→(∀ c ∈ is,∃ y,nd d c=some y∧y.lives=true∧y.parent=p)→1 ≤ p→is.Nodup→F.Nodup
 | _,_,_,l,p,.nil,hp,hc,h1,hn=>List.nodup_nil
 | _,_,_,l,p,.cons (i:=i) (is:=is) h k,hp,hc,h1,hn=>by
  obtain ⟨y,y1,y2,y3⟩:=hc _ List.mem_cons_self
  have hp2:Path d i (i :: l):=.up y1 y2 (by omega) (by rw [y3]; exact hp)
  have hn':=List.nodup_cons.1 hn
  refine List.nodup_append.2 ⟨h.nodup hW hp2,k.nodup hW hp (fun c hcc=>hc c (List.mem_cons_of_mem _ hcc)) h1 hn'.2,fun a ha b hb hab=>?_⟩
  subst hab
  obtain ⟨l1,q1⟩:=h.path hW hp2 a ha
  obtain ⟨l2,c,hc2,q2⟩:=k.xk hW hp (fun c hcc=>hc c (List.mem_cons_of_mem _ hcc)) h1 a hb
  have e:l1 ++ [i]=l2 ++ [c]:=GZ (l:=l) (by simpa using q1) (by simpa using q2)
  have:=List.append_inj_right' e rfl
  simp at this
  subst this
  exact hn'.1 hc2
theorem nN.KF {d:aB} (hW:WF d) {is:List Int} {ts:List Tree} {F:List Int} {l:List Int} {p:Int} (h:nN d is ts F) (hp:Path d p l) (hc:∀ c ∈ is,∃ y,nd d c=some y∧y.lives=true∧y.parent=p) (h1:1 ≤ p):∀ j ∈ F,∃ l1:List Int,∃ c,Path d j (l1 ++ c :: l):=fun j hj=>by
 obtain ⟨l1,c,_,q⟩:=h.xk hW hp hc h1 j hj
 exact ⟨l1,c,q⟩
theorem nN.xk {d:aB} (hW:WF d):∀ {is:List Int} {ts:List Tree} {F:List Int} {l:List Int} {p:Int},nN d is ts F→Path d p l→(∀ c ∈ is,∃ y,nd d c=some y∧y.lives=true∧y.parent=p)→1 ≤ p→∀ j ∈ F,∃ l1:List Int,∃ c,c ∈ is∧Path d j (l1 ++ c :: l)
 | _,_,_,l,p,.nil,hp,hc,h1,j,hj=>by cases hj
 | _,_,_,l,p,.cons (i:=i) h k,hp,hc,h1,j,hj=>by
  rcases List.mem_append.1 hj with hj | hj
  ·
   obtain ⟨y,y1,y2,y3⟩:=hc _ List.mem_cons_self
   have hp2:Path d i (i :: l):=.up y1 y2 (by omega) (by rw [y3]; exact hp)
   obtain ⟨l1,q⟩:=h.path hW hp2 j hj
   exact ⟨l1,i,List.mem_cons_self,q⟩
  ·
   obtain ⟨l1,c,c1,q⟩:=k.xk hW hp (fun c hcc=>hc c (List.mem_cons_of_mem _ hcc)) h1 j hj
   exact ⟨l1,c,List.mem_cons_of_mem _ c1,q⟩
end
end Pr
end Go.Ev

namespace Go.Ev
namespace Pr
set_option linter.unusedVariables false
set_option linter.unusedSimpArgs false
theorem DW (t:Tree):1 ≤ jZ t:=by cases t; simp only [jZ]; omega
theorem tK:∀ (l:List Tree),l.length ≤ jo l
 | []=>by simp
 | t :: l=>by have:=tK l; have:=DW t; simp only [List.length_cons,jo]; omega
theorem AO {n:Nat} {d:aB} (ih:∀ {i:Int} {t:Tree} {F:List Int},TA d i t F→jZ t < n→gK n d i=some t) {z:ah} (at_:List Attr) (hk:z.kids.length ≤ 5000):∀ {is:List Int} {ts:List Tree} {F:List Int} (done:List Int) (dts:List Tree) (f:Nat),nN d is ts F→z.kids=done ++ is→dts.length=done.length→jo ts < n→is.length < f →
  fq (gK n) d z at_ f dts (done.length:Int)=some (Tree.mk z.tag z.key z.text at_ (dts ++ ts))
 | _,_,_,done,dts,f + 1,.nil,h,hd,hn,hf=>by
  rw [fq,if_neg (by rw [h]; simp)]
  simp
 | _,_,_,done,dts,f + 1,.cons (i:=i) (is:=is) (t:=t) (ts:=ts) a b,h,hd,hn,hf=>by
  have hl:z.kids.length=done.length + 1 + is.length:=by rw [h]; simp; omega
  simp only [jo] at hn
  rw [fq,if_pos (by rw [decide_eq_true_eq]; omega),jQ h,Option.bind_some,ih a (by omega),Option.bind_some,lD (by rw [bnd]; simp; omega),Option.bind_some,mE (by omega) (by omega)]
  have:=AO ih at_ hk (done ++ [i]) (dts ++ [t]) f b (by rw [h]; simp) (by simp [hd]) (by omega) (by simpa using hf)
  simpa using this
theorem FM {d:aB} (hW:WF d):∀ (n:Nat) {i:Int} {t:Tree} {F:List Int},TA d i t F→jZ t < n→gK n d i=some t
 | 0,_,_,_,_,h=>by omega
 | n + 1,i,_,_,.mk (z:=z) (ts:=ts) h hl k,hn=>by
  simp only [jZ] at hn
  have hat:=hW.attrs _ _ h
  have hkl:=wu hW h hl
  have htl:=tK ts
  have hkt:=k.lens
  rw [gK,jB hW.dm h,Option.bind_some]
  unfold bQ
  rw [lD (by rw [bnd]; simp; omega),Option.bind_some,List.nil_append]
  have:=AO (FM hW n) z.attrs hkl [] [] n k rfl rfl (by omega) (by omega)
  simpa using this
theorem ym {d:aB} (hW:WF d) {n:Nat} {i:Int} {t:Tree} {F:List Int} (h:TA d i t F) (hn:jZ t < n):fP n d i=some (t,true):=by
 unfold fP
 have ht:=FM hW n h hn
 cases h with
 | mk h hl k =>
  rw [vY hW.dm,Option.bind_some,dZ h,if_pos hl,jB hW.dm h,Option.bind_some,ht]; rfl
theorem FT {d:aB} (hW:WF d) (n:Nat) {i:Int} (h:kI d i=false):fP n d i=some (Tree.mk [] [] [] [] [],false):=by
 unfold fP
 rw [vY hW.dm,Option.bind_some,h]; rfl
theorem TA.exists {d:aB} (hW:WF d):∀ (m:Nat) (i:Int) (l:List Int),Path d i l→d.l.length ≤ m + l.length→∃ t F,TA d i t F
 | m,i,l,hp,hm=>by
  obtain ⟨_,_,_,_,z,hz,hl⟩:=hp.mem i (by obtain ⟨t,rfl⟩:=hp.head; exact List.mem_cons_self)
  have hlen:=hp.length
  have kidsOk:∀ (is:List Int),(∀ c ∈ is,c ∈ z.kids)→∃ ts F,nN d is ts F:=by
   intro is
   induction is with
   | nil=>exact fun _=>⟨[],[],.nil⟩
   | cons c is ih =>
    intro hc
    obtain ⟨y,y1,y2,y3⟩:=hW.kid i z c hz hl (hc c List.mem_cons_self)
    have hi:=bZ hz
    have hp2:Path d c (c :: l):=.up y1 y2 (by omega) (by rw [y3]; exact hp)
    have hlen2:=hp2.length
    simp at hlen2
    cases m with
    | zero=>omega
    | succ m =>
     obtain ⟨t,F,h1⟩:=TA.exists hW m c (c :: l) hp2 (by simp; omega)
     obtain ⟨ts,G,h2⟩:=ih (fun c hcc=>hc c (List.mem_cons_of_mem _ hcc))
     exact ⟨_,_,.cons h1 h2⟩
  obtain ⟨ts,F,h⟩:=kidsOk z.kids (fun _ h=>h)
  exact ⟨_,_,.mk hz hl h⟩
 termination_by m=>m
theorem WF.tree {d:aB} (hW:WF d) {i:Int} (h:kI d i=true):∃ t F,TA d i t F:=by
 obtain ⟨l,hp⟩:=hW.path i h
 exact TA.exists hW d.l.length i l hp (by omega)
def xe:ah:=ah.mk false [] [] [] [] [] 0
def sw (l:List ah):List Int→List ah
 | []=>l
 | i :: F=>sw (l.set (i - 1).toNat xe) F
def dJ (d:aB) (F:List Int):aB:=aB.mk (sw d.l F) (d.freed ++ F)
theorem Bz:∀ (F G:List Int) (l:List ah),sw l (F ++ G)=sw (sw l F) G
 | [],G,l=>rfl
 | i :: F,G,l=>by simp only [List.cons_append,sw,Bz F G]
theorem xy (d:aB) (F G:List Int):dJ (dJ d F) G=dJ d (F ++ G):=by
 unfold dJ; simp [Bz]
theorem oh:∀ (F:List Int) (l:List ah),(sw l F).length=l.length
 | [],l=>rfl
 | i :: F,l=>by simp [sw,oh F]
@[simp] theorem p8 (d:aB) (F:List Int):(dJ d F).l.length=d.l.length:=oh F d.l
theorem pE:∀ (F:List Int) (d:aB),(∀ i ∈ F,1 ≤ i∧i ≤ d.l.length)→∀ j,nd (dJ d F) j=if j ∈ F then some xe else nd d j
 | [],d,h,j=>by simp only [List.not_mem_nil,if_false]; unfold nd dJ sw; rfl
 | i :: F,d,h,j=>by
  have hi:=h i List.mem_cons_self
  obtain ⟨z0,hz0⟩:=pM hi.1 hi.2
  have e:dJ d (i :: F)=aB.mk (sw (l8 d i xe).l F) (d.freed ++ i :: F):=rfl
  have h2:=pE F (l8 d i xe) (fun k hk=>by rw [nE]; exact h k (List.mem_cons_of_mem _ hk)) j
  have e2:nd (dJ d (i :: F)) j=nd (dJ (l8 d i xe) F) j:=by rw [e]; unfold nd dJ; rfl
  rw [e2,h2,lh hz0]
  by_cases hj:j ∈ F
  ·
   rw [if_pos hj,if_pos (List.mem_cons_of_mem _ hj)]
  ·
   rw [if_neg hj]
   by_cases hji:j=i
   ·
    rw [if_pos hji,if_pos (by rw [hji]; exact List.mem_cons_self)]
   ·
    rw [if_neg hji,if_neg (by simp [hji,hj])]
theorem TA.Jq {d:aB} {i:Int} {t:Tree} {F:List Int} (h:TA d i t F):∀ j ∈ F,1 ≤ j∧j ≤ d.l.length:=fun j hj=>by
 obtain ⟨z,hz,_⟩:=h.live j hj; exact bZ hz
theorem nN.Jq {d:aB} {i:List Int} {t:List Tree} {F:List Int} (h:nN d i t F):∀ j ∈ F,1 ≤ j∧j ≤ d.l.length:=fun j hj=>by
 obtain ⟨z,hz,_⟩:=h.live j hj; exact bZ hz
theorem Bl {n:Nat} (ih:∀ {d:aB} {i:Int} {t:Tree} {F:List Int},TA d i t F→F.Nodup→d.l.length ≤ 5000→d.freed.length + F.length ≤ 100000→jZ t < n→gN n d i=some (dJ d F)) {z:ah} (hk:z.kids.length ≤ 5000) :
  ∀ (is:List Int) (ts:List Tree) (F:List Int) (d:aB) (done:List Int) (f:Nat),nN d is ts F→F.Nodup→d.l.length ≤ 5000→d.freed.length + F.length ≤ 100000→z.kids=done ++ is→jo ts < n→is.length < f →
  fC (gN n) z f d (done.length:Int)=some (dJ d F)
 | [],_,_,d,done,f + 1,.nil,hn,hl,hb,h,ht,hf=>by
  rw [fC,if_neg (by rw [h]; simp)]
  unfold dJ sw; simp
 | i :: is,_,_,d,done,f + 1,.cons (t:=t) (ts:=ts) (F:=F) (G:=G) a b,hn,hl,hb,h,ht,hf=>by
  have hkl:z.kids.length=done.length + 1 + is.length:=by rw [h]; simp; omega
  simp only [jo] at ht
  have hnd:=List.nodup_append.1 hn
  rw [List.length_append] at hb
  rw [fC,if_pos (by rw [decide_eq_true_eq]; omega),jQ h,Option.bind_some,ih a hnd.1 hl (by omega) (by omega),Option.bind_some,mE (by omega) (by omega)]
  have b2:nN (dJ d F) is ts G:=b.CL (fun j hj=>by rw [pE F d a.Jq,if_neg (fun q=>hnd.2.2 j q j hj rfl)])
  have:=Bl ih hk is ts G (dJ d F) (done ++ [i]) f b2 hnd.2.1 (by rw [p8]; exact hl) (by simp [dJ]; omega) (by rw [h]; simp) (by omega) (by simpa using hf)
  rw [xy] at this
  simpa using this
theorem FE:∀ (n:Nat) {d:aB} {i:Int} {t:Tree} {F:List Int},TA d i t F→F.Nodup→d.l.length ≤ 5000→d.freed.length + F.length ≤ 100000→jZ t < n→gN n d i=some (dJ d F)
 | 0,_,_,_,_,_,_,_,_,h=>by omega
 | n + 1,d,i,_,_,.mk (z:=z) (ts:=ts) (F:=F) h hl k,hn,hlen,hb,ht=>by
  simp only [jZ] at ht
  simp only [List.length_cons] at hb
  have hkt:=k.lens
  have htl:=tK ts
  have hkF:z.kids.length ≤ F.length:=by have:=k.len; omega
  have hFl:F.length ≤ 5000:=Nat.le_trans (iW d.l.length F (List.nodup_cons.1 hn).2 (fun x hx=>k.Jq x hx)) hlen
  have hdm:d.l.length ≤ dM:=Nat.le_trans hlen (by decide)
  rw [gN,jB hdm h,Option.bind_some,lD (by rw [bnd]; simp; omega),Option.bind_some,qP hdm h]
  have e1:aB.mk (l8 d i (ah.mk (aK.mk false [] [] [] [] 0).lives (aK.mk false [] [] [] [] 0).tag (aK.mk false [] [] [] [] 0).key (aK.mk false [] [] [] [] 0).text (aK.mk false [] [] [] [] 0).attrs [] (aK.mk false [] [] [] [] 0).parent)).l (d.freed ++ [i])=dJ d [i]:=rfl
  rw [e1]
  have hn':=List.nodup_cons.1 hn
  have k2:nN (dJ d [i]) z.kids ts F:=k.CL (fun j hj=>by rw [pE [i] d (fun q hq=>by rw [List.mem_singleton.1 hq]; exact bZ h),if_neg (by simp only [List.mem_singleton]; exact fun q=>hn'.1 (q ▸ hj))])
  have:=Bl (FE n) (z:=z) (by omega) z.kids ts F (dJ d [i]) [] n k2 hn'.2 (by rw [p8]; exact hlen) (by simp [dJ]; omega) rfl (by omega) (by omega)
  rw [xy] at this
  simpa using this
end Pr
end Go.Ev

namespace Go.Ev
namespace Pr
set_option linter.unusedVariables false
set_option linter.unusedSimpArgs false
theorem Path.tail {d:aB} {i:Int} {l:List Int} (h:Path d i l):∃ z,nd d i=some z∧z.lives=true∧((z.parent=0∧l=[i])∨(z.parent ≠ 0∧∃ t,l=i :: t∧Path d z.parent t)):=by
 cases h with
 | top g gl gp=>exact ⟨_,g,gl,.inl ⟨gp,rfl⟩⟩
 | up g gl gp k=>exact ⟨_,g,gl,.inr ⟨gp,_,rfl,k⟩⟩
theorem TA.sub {d:aB} (hW:WF d) {i:Int} {t:Tree} {F l:List Int} (h:TA d i t F) (hp:Path d i l):∀ j ∈ F,j ≠ i→∃ z,nd d j=some z∧z.lives=true∧z.parent ∈ F∧z.parent ≠ 0:=by
 obtain ⟨G,hG⟩:=h.head
 obtain ⟨li,hli⟩:=hp.head
 have step:∀ (a:Int) (l1:List Int) (p:Int),Path d p ((a :: l1) ++ l)→a=p∧∃ z,nd d p=some z∧z.lives=true∧z.parent ≠ 0∧Path d z.parent (l1 ++ l):=fun a l1 p q=>by
  obtain ⟨z,z1,z2,z3⟩:=q.tail
  rcases z3 with ⟨_,e⟩ | ⟨z3,t,e,k⟩
  ·
   exfalso
   have:=congrArg List.length e
   rw [hli] at this; simp at this
  ·
   have e1:=List.cons.inj (by simpa using e)
   exact ⟨e1.1,z,z1,z2,z3,by rw [e1.2]; exact k⟩
 have key:∀ (l1:List Int) (p:Int),Path d p (l1 ++ l)→p ∈ F:=by
  intro l1
  induction l1 with
  | nil =>
   intro p hq
   obtain ⟨e,he⟩:=hq.head
   rw [List.nil_append,hli] at he
   rw [← (List.cons.inj he).1,hG]
   exact List.mem_cons_self
  | cons b l2 ih =>
   intro p hq
   obtain ⟨rfl,z,z1,z2,z3,k⟩:=step b l2 p hq
   have hin:=ih _ k
   obtain ⟨zp,p1,p2,p3⟩:=h.live _ hin
   obtain ⟨x,x1,x2,x3,_⟩:=hW.par _ _ z1 z2 z3
   rw [x1] at p1; cases p1
   exact p3 _ x3
 intro j hj hne
 obtain ⟨l1,q⟩:=h.path hW hp j hj
 cases l1 with
 | nil =>
  obtain ⟨b,hb⟩:=q.head
  rw [List.nil_append,hli] at hb
  exact absurd (List.cons.inj hb).1.symm hne
 | cons a l1 =>
  obtain ⟨rfl,z,z1,z2,z3,k⟩:=step a l1 j q
  exact ⟨z,z1,z2,key l1 _ k,z3⟩
theorem Kb {d:aB} (hW:WF d) {i:Int} {t:Tree} {F:List Int} (h:TA d i t F) {zi:ah} (hzi:nd d i=some zi) (hp0:zi.parent=0) (hi1:i ≠ 1):WF (dJ d F)∧F.Nodup∧(∀ j,j ∉ F→nd (dJ d F) j=nd d j):=by
 have hli:zi.lives=true:=by
  obtain ⟨z,z1,z2,_⟩:=h.live i (by obtain ⟨G,rfl⟩:=h.head; exact List.mem_cons_self)
  rw [hzi] at z1; cases z1; exact z2
 have hp:Path d i [i]:=.top hzi hli hp0
 have hsub:=h.sub hW hp
 have hnF:=h.nodup hW hp
 have hget:=pE F d h.Jq
 have out:∀ j,j ∉ F→nd (dJ d F) j=nd d j:=fun j hj=>by rw [hget,if_neg hj]
 have one:(1:Int) ∉ F:=fun hm=>by
  obtain ⟨r,r1,r2,r3,_⟩:=hW.root
  obtain ⟨z,z1,z2,z3,z4⟩:=hsub 1 hm (Ne.symm hi1)
  rw [r1] at z1; cases z1; exact z4 r3
 have low:∀ j z,nd (dJ d F) j=some z→z.lives=true→j ∉ F∧nd d j=some z:=fun j z hz hl=>by
  rw [hget] at hz
  by_cases hj:j ∈ F
  ·
   rw [if_pos hj] at hz; cases hz; simp [xe] at hl
  ·
   rw [if_neg hj] at hz; exact ⟨hj,hz⟩
 have kidOut:∀ j z k,j ∉ F→nd d j=some z→z.lives=true→k ∈ z.kids→k ∉ F:=fun j z k hj hz hl hk hm=>by
  obtain ⟨y,y1,y2,y3⟩:=hW.kid j z k hz hl hk
  by_cases hki:k=i
  ·
   subst hki; rw [hzi] at y1; cases y1
   have:=bZ hz; omega
  ·
   obtain ⟨x,x1,x2,x3,x4⟩:=hsub k hm hki
   rw [y1] at x1; cases x1
   rw [y3] at x3; exact hj x3
 have parOut:∀ k y,k ∉ F→nd d k=some y→y.lives=true→y.parent ≠ 0→y.parent ∉ F:=fun k y hk hy hl hpk hm=>by
  obtain ⟨x,x1,x2,x3,_⟩:=hW.par k y hy hl hpk
  obtain ⟨z,z1,z2,z3⟩:=h.live _ hm
  rw [x1] at z1; cases z1
  exact hk (z3 k x3)
 refine ⟨⟨by rw [p8]; exact hW.len,?_,fun j hj=>?_,?_,fun j z hz=>?_,fun j z hz hl=>?_,fun j z k hz hl hk=>?_,fun k y hy hl hpk=>?_,fun j hj=>?_,fun j z hz=>?_⟩,hnF,out⟩
 ·
  obtain ⟨r,r1,r2⟩:=hW.root
  exact ⟨r,by rw [out 1 one]; exact r1,r2⟩
 ·
  rw [p8]
  rcases List.mem_append.1 (show j ∈ d.freed ++ F from hj) with hj | hj
  ·
   exact hW.freedR j hj
  ·
   have:=h.Jq j hj
   exact ⟨by have:j ≠ 1:=fun q=>one (q ▸ hj); omega,this.2⟩
 ·
  show (d.freed ++ F).Nodup
  refine List.nodup_append.2 ⟨hW.freedN,hnF,fun a ha b hb hab=>?_⟩
  subst hab
  obtain ⟨z,z1,z2,_⟩:=h.live a hb
  have:=(hW.dead a z z1).2 ha
  rw [z2] at this; cases this
 ·
  show z.lives=false↔j ∈ d.freed ++ F
  rw [hget] at hz
  by_cases hj:j ∈ F
  ·
   rw [if_pos hj] at hz; cases hz
   simp [xe,hj]
  ·
   rw [if_neg hj] at hz
   rw [hW.dead j z hz]; simp [hj]
 ·
  obtain ⟨q1,q2⟩:=low j z hz hl; exact hW.kidN j z q2 hl
 ·
  obtain ⟨q1,q2⟩:=low j z hz hl
  obtain ⟨y,y1,y2,y3⟩:=hW.kid j z k q2 hl hk
  exact ⟨y,by rw [out k (kidOut j z k q1 q2 hl hk)]; exact y1,y2,y3⟩
 ·
  obtain ⟨q1,q2⟩:=low k y hy hl
  obtain ⟨x,x1,x2,x3⟩:=hW.par k y q2 hl hpk
  exact ⟨x,by rw [out _ (parOut k y q1 q2 hl hpk)]; exact x1,x2,x3⟩
 ·
  obtain ⟨z,hz,hl⟩:=gX hj
  obtain ⟨q1,q2⟩:=low j z hz hl
  obtain ⟨l,hl2⟩:=hW.path j (by rw [dZ q2,hl])
  refine ⟨l,?_⟩
  clear hj hz
  induction hl2 generalizing z with
  | top g gl gp =>
   rw [g] at q2; cases q2
   exact .top (by rw [out _ q1]; exact g) gl gp
  | up g gl gp k ih =>
   rw [g] at q2; cases q2
   obtain ⟨x,x1,x2,_⟩:=hW.par _ _ g gl gp
   exact .up (by rw [out _ q1]; exact g) gl gp (ih x x2 (parOut _ _ q1 g gl gp) x1)
 ·
  rw [hget] at hz
  by_cases hj:j ∈ F
  ·
   rw [if_pos hj] at hz; cases hz; simp [xe]
  ·
   rw [if_neg hj] at hz; exact hW.attrs j z hz
theorem J5 {d:aB} (hW:WF d) {n:Nat} {i:Int} {t:Tree} {F:List Int} (h:TA d i t F) {zi:ah} (hzi:nd d i=some zi) (hp0:zi.parent=0) (hi1:i ≠ 1) (hn:jZ t < n):lV n d i=some (true,dJ d F):=by
 have hli:zi.lives=true:=by
  obtain ⟨z,z1,z2,_⟩:=h.live i (by obtain ⟨G,rfl⟩:=h.head; exact List.mem_cons_self)
  rw [hzi] at z1; cases z1; exact z2
 have hF:=h.nodup hW (.top hzi hli hp0)
 have hfl:d.freed.length ≤ d.l.length:=iW _ _ hW.freedN (fun x hx=>⟨by have:=hW.freedR x hx; omega,(hW.freedR x hx).2⟩)
 have hFl:F.length ≤ d.l.length:=iW _ _ hF h.Jq
 have:=hW.len
 unfold lV
 rw [vY hW.dm,Option.bind_some,dZ hzi,if_pos hli,jB hW.dm hzi,Option.bind_some,if_neg (by simp [hi1,hp0]),FE n h hF hW.len (by omega) hn]
 rfl
def cnt (d:aB):Int:=(d.l.length:Int) - d.freed.length
theorem Je (d:aB) (F:List Int):cnt (dJ d F)=cnt d - F.length:=by unfold cnt dJ; simp [oh]; omega
theorem TA.dC {d:aB} (hW:WF d) {c:Int} (hc:kI d c=true) {i:Int} {t:Tree} {F:List Int} (h:TA d i t F) (hno:∀ j ∈ F,∀ z,nd d j=some z→c ∉ z.kids):TA (Pr.dC d c) i t F :=
 h.keep (fun j hj z hz=>by
  obtain ⟨z',z1,z2,_⟩:=h.live j hj
  rw [hz] at z1; cases z1
  refine ⟨_,mJ hW hc hz z2,rfl,rfl,rfl,rfl,rfl,?_⟩
  exact List.erase_of_not_mem (hno j hj z hz))
theorem Km {d:aB} (hW:WF d) {n:Nat} (hn6:6000 ≤ n) {c:Int} {t:Tree} {F:List Int} (h:TA d c t F) (hc1:c ≠ 1):∃ d',oN n d c=some ((F.length:Int),d')∧WF d'∧cnt d'=cnt d - F.length∧d'.l.length=d.l.length∧(∀ j ∈ F,kI d' j=false) ∧
  (∀ j z,j ∉ F→nd d j=some z→nd d' j=some (if z.lives=true then { z with kids:=z.kids.erase c } else z)):=by
 obtain ⟨z,hz,hl,_⟩:=h.live c (by obtain ⟨G,rfl⟩:=h.head; exact List.mem_cons_self)
 have hc:kI d c=true:=by rw [dZ hz,hl]
 obtain ⟨l,hp⟩:=hW.path c hc
 have hF:=h.nodup hW hp
 have hFl:F.length ≤ d.l.length:=iW _ _ hF h.Jq
 have hlen:=hW.len
 have htn:jZ t < n:=by have:=h.len; omega
 have hW1:=tN hW hc
 have hno:∀ j ∈ F,∀ y,nd d j=some y→c ∉ y.kids:=fun j hj y hy hm=>by
  obtain ⟨y0,y1,y2,_⟩:=h.live j hj
  rw [hy] at y1; cases y1
  obtain ⟨x,x1,x2,x3⟩:=hW.kid j y c hy y2 hm
  rw [hz] at x1; cases x1
  obtain ⟨l1,q⟩:=h.path hW hp j hj
  have hr:=bZ hy
  have:=(Path.up hz hl (by omega) (by rw [x3]; exact q)).uniq hp
  have:=congrArg List.length this
  simp at this; omega
 have h1:TA (dC d c) c t F:=h.dC hW hc hno
 obtain ⟨z1,hz1,hl1,hp1⟩:=sI hW hc
 obtain ⟨w1,w2,w3⟩:=Kb hW1 h1 hz1 hp1 hc1
 have hfl:d.freed.length ≤ d.l.length:=iW _ _ hW.freedN (fun x hx=>⟨by have:=hW.freedR x hx; omega,(hW.freedR x hx).2⟩)
 have hfl2:=iW (dJ (dC d c) F).l.length _ w1.freedN (fun x hx=>⟨by have:=w1.freedR x hx; omega,(w1.freedR x hx).2⟩)
 have hc2:cnt (dJ (dC d c) F)=cnt d - F.length:=by rw [Je]; unfold cnt; simp
 refine ⟨dJ (dC d c) F,?_,w1,hc2,by simp,fun j hj=>?_,fun j y hj hy=>?_⟩
 ·
  obtain ⟨b,hb1,hb2⟩:=wN hW hn6 c
  have hd:(if b=true then dC d c else d)=dC d c:=by
   cases b with
   | true=>rfl
   | false =>
    by_cases hp0:z.parent=0
    ·
     rw [jO hz hp0]; rfl
    ·
     exact absurd (hb2.2 ⟨z,hz,hl,hp0⟩) (by simp)
  unfold oN
  unfold jm
  rw [Option.bind_some,if_neg (by simpa using hc1),wB hW,Option.bind_some,hb1,Option.bind_some,hd]
  simp only
  rw [J5 hW1 h1 hz1 hp1 hc1 htn,Option.bind_some]
  simp only
  rw [wB w1,Option.bind_some]
  have e:IntKind.wrap .i64 (((d.l.length:Int) - d.freed.length) - (((dJ (dC d c) F).l.length:Int) - (dJ (dC d c) F).freed.length))=(F.length:Int):=by
   rw [mE (by simp [dJ,oh]; omega) (by simp [dJ,oh]; omega)]
   simp [dJ,oh]; omega
  rw [e]
 ·
  unfold kI
  rw [pE F _ h1.Jq,if_pos hj]; rfl
 ·
  rw [w3 j hj]
  have hjc:j ≠ c:=fun q=>by subst q; obtain ⟨G,rfl⟩:=h.head; exact hj List.mem_cons_self
  by_cases hyl:y.lives=true
  ·
   rw [if_pos hyl,mJ hW hc hy hyl,if_neg hjc]
  ·
   rw [if_neg hyl]
   by_cases hp0:z.parent=0
   ·
    rw [jO hz hp0]; exact hy
   ·
    obtain ⟨x,x1,x2,_⟩:=hW.par c z hz hl hp0
    rw [qH hz hp0 x1 (wV hW hz hl),if_neg hjc,if_neg (fun q=>by subst q; rw [x1] at hy; cases hy; exact hyl x2)]
    exact hy
end Pr
end Go.Ev

namespace Go.Ev
namespace Pr
set_option linter.unusedVariables false
set_option linter.unusedSimpArgs false
mutual
def Rt:Tree→Prop
 | .mk tag key text attrs ks=>(tag=[]→key=[]∧attrs=[]∧ks=[])∧(tag ≠ []→text=[]∧attrs.length ≤ 100000∧LH ks)
def LH:List Tree→Prop
 | []=>True
 | t :: l=>Rt t∧LH l
end
theorem WF.l8 {d:aB} (h:WF d) {i:Int} {z z':ah} (hz:nd d i=some z) (h1:z'.lives=z.lives) (h2:z'.kids=z.kids) (h3:z'.parent=z.parent) (h4:z'.tag=z.tag) (h5:z'.attrs.length ≤ 100000):WF (l8 d i z'):=by
 have hget:=lh hz z'
 have low:∀ j y',nd (Pr.l8 d i z') j=some y'→∃ y,nd d j=some y∧y'.lives=y.lives∧y'.kids=y.kids∧y'.parent=y.parent∧y'.tag=y.tag:=fun j y' hj=>by
  rw [hget] at hj
  by_cases e:j=i
  ·
   subst e; rw [if_pos rfl] at hj; cases hj; exact ⟨z,hz,h1,h2,h3,h4⟩
  ·
   rw [if_neg e] at hj; exact ⟨y',hj,rfl,rfl,rfl,rfl⟩
 have up:∀ j y,nd d j=some y→∃ y',nd (Pr.l8 d i z') j=some y':=fun j y hj=>by
  have:=bZ hj
  exact pM this.1 (by rw [nE]; exact this.2)
 refine ⟨by rw [nE]; exact h.len,?_,fun j hj=>by rw [nE]; exact h.freedR j hj,h.freedN,fun j y hj=>?_,fun j y hj hl=>?_,fun j y k hj hl hk=>?_,fun k y hk hl hp=>?_,fun j hj=>?_,fun j y hj=>?_⟩
 ·
  obtain ⟨r,r1,r2,r3,r4⟩:=h.root
  obtain ⟨r',hr'⟩:=up 1 r r1
  obtain ⟨y,q1,q2,q3,q4,q5⟩:=low 1 r' hr'
  rw [r1] at q1; cases q1
  exact ⟨r',hr',by rw [q2,r2],by rw [q4,r3],by rw [q5]; exact r4⟩
 ·
  obtain ⟨y0,q1,q2,_⟩:=low j y hj
  rw [q2,EE]; exact h.dead j y0 q1
 ·
  obtain ⟨y0,q1,q2,q3,_⟩:=low j y hj
  rw [q3]; exact h.kidN j y0 q1 (by rw [← q2,hl])
 ·
  obtain ⟨y0,q1,q2,q3,_⟩:=low j y hj
  obtain ⟨x,x1,x2,x3⟩:=h.kid j y0 k q1 (by rw [← q2,hl]) (by rw [← q3]; exact hk)
  obtain ⟨x',hx'⟩:=up k x x1
  obtain ⟨x0,p1,p2,p3,p4,p5⟩:=low k x' hx'
  rw [x1] at p1; cases p1
  exact ⟨x',hx',by rw [p2,x2],by rw [p4,x3]⟩
 ·
  obtain ⟨y0,q1,q2,q3,q4,q5⟩:=low k y hk
  obtain ⟨x,x1,x2,x3,x4⟩:=h.par k y0 q1 (by rw [← q2,hl]) (by rw [← q4]; exact hp)
  rw [q4]
  obtain ⟨x',hx'⟩:=up _ x x1
  obtain ⟨x0,p1,p2,p3,p4,p5⟩:=low _ x' hx'
  rw [x1] at p1; cases p1
  exact ⟨x',hx',by rw [p2,x2],by rw [p3]; exact x3,by rw [p5]; exact x4⟩
 ·
  obtain ⟨y,y1,y2⟩:=gX hj
  obtain ⟨y0,q1,q2,_⟩:=low j y y1
  obtain ⟨l,hl⟩:=h.path j (by rw [dZ q1,← q2,y2])
  refine ⟨l,hl.keep (fun k hk x hx=>?_)⟩
  obtain ⟨x',hx'⟩:=up k x hx
  obtain ⟨x0,p1,p2,p3,p4,p5⟩:=low k x' hx'
  rw [hx] at p1; cases p1
  exact ⟨x',hx',p2,p4⟩
 ·
  rw [hget] at hj
  by_cases e:j=i
  ·
   rw [if_pos e] at hj; cases hj; exact h5
  ·
   rw [if_neg e] at hj; exact h.attrs j y hj
theorem CJ {d:aB} (h:WF d) (n:Nat) {i:Int} {z:ah} (hz:nd d i=some z) (hl:z.lives=true) (ht:z.tag ≠ []) {at_:List Attr} (ha:at_.length ≤ 100000):j5 n d i at_=some (true,l8 d i { z with attrs:=at_ })∧WF (l8 d i { z with attrs:=at_ }):=by
 refine ⟨?_,h.l8 hz rfl rfl rfl rfl ha⟩
 unfold j5
 rw [vY h.dm,Option.bind_some,dZ hz,if_pos hl,jB h.dm hz,Option.bind_some,if_neg (by simpa using ht)]
 unfold bQ
 rw [lD (by rw [bnd]; simp; omega),Option.bind_some,qP h.dm hz]
 rfl
theorem Hl (l:List Int) (c:Int):qU l (l.length:Int) c=l ++ [c]:=by
 unfold qU BH
 rw [show (max 0 (min (l.length:Int) (l.length:Int))).toNat=l.length by omega]
 simp
theorem Bu {d:aB} (h:WF d) {d':aB} {z:ah} (k:New d d' (nextId d) z) {j:Int} (hj:kI d j=true):j ≠ nextId d:=fun q=>by rw [q,k.dead] at hj; cases hj
structure Put (d d':aB) (id:Int) (t:Tree) (F:List Int):Prop where
 wf:WF d'
 ta:TA d' id t F
 top:∃ z,nd d' id=some z∧z.lives=true∧z.parent=0
 ne1:id ≠ 1
 old:∀ j z,nd d j=some z→z.lives=true→nd d' j=some z
 new:∀ j ∈ F,kI d j=false
 cnt:cnt d'=Pr.cnt d + jZ t
 len:d'.l.length ≤ d.l.length + jZ t
 all:∀ j,kI d' j=true→kI d j=true∨j ∈ F
theorem CW {n:Nat} (hn:6000 ≤ n) {t0:Tree} (ih:∀ (t:Tree) (d:aB),WF d→Rt t→jZ t + 6000 < n→d.l.length + jZ t ≤ 5000→∃ id d' F,eO n d t=some (id,d')∧Put d d' id t F) {z18:Int × aB} (hk:t0.Kids.length ≤ 5000) :
  ∀ (rest done:List Tree) (d:aB) (zi:ah) (F:List Int) (f:Nat),t0.Kids=done ++ rest→WF d→nd d z18.1=some zi→zi.lives=true→zi.tag ≠ []→zi.parent=0→nN d zi.kids done F→LH rest→jo rest + 6000 < n→d.l.length + jo rest ≤ 5000→rest.length < f →
  ∃ d' ks G,fK n (eO n) t0 z18 f d (done.length:Int)=some (z18.1,d')∧WF d'∧nd d' z18.1=some { zi with kids:=zi.kids ++ ks }∧nN d' (zi.kids ++ ks) (done ++ rest) (F ++ G)∧(∀ j z,j ≠ z18.1→nd d j=some z→z.lives=true→nd d' j=some z)∧(∀ j ∈ G,kI d j=false) ∧
   cnt d'=cnt d + jo rest∧d'.l.length ≤ d.l.length + jo rest∧(∀ j,kI d' j=true→kI d j=true∨j ∈ G)
 | [],done,d,zi,F,f + 1,h0,hW,hz,hl,ht,hp,hT,hR,hb,hlen,hf=>by
  rw [fK,if_neg (by rw [h0]; simp)]
  refine ⟨d,[],[],rfl,hW,by simp [hz],by simpa using hT,fun j z _ h _=>h,fun j hj=>(by cases hj),by simp [jo],by simp [jo],fun j hj=>.inl hj⟩
 | t :: rest,done,d,zi,F,f + 1,h0,hW,hz,hl,ht,hp,hT,hR,hb,hlen,hf=>by
  have hkl:t0.Kids.length=done.length + 1 + rest.length:=by rw [h0]; simp; omega
  simp only [jo] at hb hlen
  obtain ⟨hR1,hR2⟩:=hR
  rw [fK,if_pos (by rw [decide_eq_true_eq]; omega),jQ h0,Option.bind_some]
  obtain ⟨kid,d1,Fk,e1,P⟩:=ih t d hW hR1 (by omega) (by omega)
  rw [e1,Option.bind_some]
  simp only
  have hz1:=P.old _ _ hz hl
  obtain ⟨zk,hzk,hkl1,hkp⟩:=P.top
  have hkF:kid ∈ Fk:=by obtain ⟨G,hG⟩:=P.ta.head; rw [hG]; exact List.mem_cons_self
  have hkd:kI d kid=false:=P.new kid hkF
  have hid:kI d z18.1=true:=by rw [dZ hz,hl]
  have hne:kid ≠ z18.1:=fun q=>by rw [q,hid] at hkd; cases hkd
  have hpath:Path d1 z18.1 [z18.1]:=.top hz1 hl hp
  have hok:mF d1 z18.1 kid=true:=by
   unfold mF
   have ht1:xK d1 z18.1=zi.tag:=by unfold xK; rw [hz1]
   rw [dZ hz1,dZ hzk,hl,hkl1,ht1,hpath.of]
   simp [ht,P.ne1,hne]
  obtain ⟨hW2,hg2⟩:=Hu P.wf (done.length:Int) hok
  rw [wL P.wf hn,Option.bind_some,if_pos hok]
  simp only
  rw [mE (by omega) (by omega)]
  have hkk:∀ j z,nd d1 j=some z→z.lives=true→kid ∉ z.kids:=fun j z hj hjl hm=>by
   obtain ⟨x,x1,x2,x3⟩:=P.wf.kid j z kid hj hjl hm
   rw [hzk] at x1; cases x1
   have:=bZ hj; omega
  have hg:∀ j z,nd d1 j=some z→z.lives=true→nd (fU (dC d1 kid) z18.1 kid (done.length:Int)) j=some { z with kids:=if j=z18.1 then qU z.kids (done.length:Int) kid else z.kids,parent:=if j=kid then z18.1 else z.parent }:=fun j z hj hjl=>by
   rw [hg2 j z hj hjl,List.erase_of_not_mem (hkk j z hj hjl)]
  have hlens:=hT.lens
  have hz2:nd (fU (dC d1 kid) z18.1 kid (done.length:Int)) z18.1=some { zi with kids:=zi.kids ++ [kid] }:=by
   rw [hg _ _ hz1 hl,if_pos rfl,if_neg (Ne.symm hne),← hlens,Hl]
  have hFold:∀ j ∈ F,j ≠ z18.1∧∃ z,nd d j=some z∧z.lives=true:=fun j hj=>by
   obtain ⟨z,z1,z2,_⟩:=hT.live j hj
   refine ⟨fun q=>?_,z,z1,z2⟩
   subst q
   obtain ⟨l1,c,q⟩:=hT.KF hW (.top hz hl hp) (fun c hc=>hW.kid _ _ c hz hl hc) (bZ hz).1 _ hj
   have:=congrArg List.length (q.uniq (.top hz hl hp))
   simp at this
  have hT2:nN (fU (dC d1 kid) z18.1 kid (done.length:Int)) zi.kids done F:=hT.keep (fun j hj z hz'=>by
   obtain ⟨q1,z0,q2,q3⟩:=hFold j hj
   rw [hz'] at q2; cases q2
   exact ⟨_,hg j z (P.old j z hz' q3) q3,rfl,rfl,rfl,rfl,rfl,by simp [q1]⟩)
  have hK2:TA (fU (dC d1 kid) z18.1 kid (done.length:Int)) kid t Fk:=P.ta.keep (fun j hj z hz'=>by
   obtain ⟨z0,q2,q3,_⟩:=P.ta.live j hj
   rw [hz'] at q2; cases q2
   have hj1:j ≠ z18.1:=fun q=>by have:=P.new j hj; rw [q,hid] at this; cases this
   exact ⟨_,hg j z hz' q3,rfl,rfl,rfl,rfl,rfl,by simp [hj1]⟩)
  have hl2:(fU (dC d1 kid) z18.1 kid (done.length:Int)).l.length=d1.l.length:=by simp
  have hlen1:=P.len
  obtain ⟨d',ks,G,r1,r2,r3,r4,r5,r6,r7,r8,r9⟩:=CW hn ih hk rest (done ++ [t]) _ { zi with kids:=zi.kids ++ [kid] } (F ++ Fk) f (by rw [h0]; simp) hW2 hz2 hl ht hp (hT2.app (.one hK2)) hR2 (by omega) (by omega) (by simpa using hf)
  have hcnt2:cnt (fU (dC d1 kid) z18.1 kid (done.length:Int))=cnt d1:=by unfold cnt; simp
  refine ⟨d',[kid] ++ ks,Fk ++ G,by simpa using r1,r2,by simpa using r3,by simpa using r4,fun j z hj hz' hjl=>?_,fun j hj=>?_,?_,by rw [hl2] at r8; simp only [jo]; omega,fun j hj=>?_⟩
  ·
   have h1:=P.old j z hz' hjl
   have h2:=hg j z h1 hjl
   have hjk:j ≠ kid:=fun q=>by rw [q] at hz'; rw [dZ hz',hjl] at hkd; cases hkd
   rw [if_neg hj,if_neg hjk] at h2
   exact r5 j _ hj h2 hjl
  ·
   rcases List.mem_append.1 hj with hj | hj
   ·
    exact P.new j hj
   ·
    have h2:=r6 j hj
    cases hq:kI d j with
    | false=>rfl
    | true =>
     obtain ⟨z,z1,z2⟩:=gX hq
     have:=hg j z (P.old j z z1 z2) z2
     rw [dZ this] at h2
     rw [z2] at h2; cases h2
  ·
   have:=P.cnt
   simp only [jo]
   omega
  ·
   rcases r9 j hj with h | h
   ·
    obtain ⟨z,z1,z2⟩:=gX h
    have h1:kI d1 j=true:=by
     cases hq:nd d1 j with
     | none =>
      have hr:=bZ z1
      rw [hl2] at hr
      obtain ⟨y,hy⟩:=pM hr.1 hr.2
      rw [hq] at hy; cases hy
     | some y =>
      cases hyl:y.lives with
      | true=>rw [dZ hq,hyl]
      | false =>
       exfalso
       have hdead:=(P.wf.dead j y hq).1 hyl
       have:=(hW2.dead j z z1).2 (by simpa using hdead)
       rw [z2] at this; cases this
    rcases P.all j h1 with h | h
    ·
     exact .inl h
    ·
     exact .inr (List.mem_append_left _ h)
   ·
    exact .inr (List.mem_append_right _ h)
theorem BS:∀ (n:Nat) (t:Tree) (d:aB),WF d→Rt t→jZ t + 6000 < n→d.l.length + jZ t ≤ 5000→∃ id d' F,eO n d t=some (id,d')∧Put d d' id t F
 | 0,t,d,_,_,h,_=>by omega
 | n + 1,.mk tag key text at_ ks,d,hW,hR,hn,hlen=>by
  have hpos:=DW (.mk tag key text at_ ks)
  have hfl:d.freed.length ≤ d.l.length:=iW _ _ hW.freedN (fun x hx=>⟨by have:=hW.freedR x hx; omega,(hW.freedR x hx).2⟩)
  have fl:d.freed=[]∨0 < d.freed.length:=by
   cases d.freed with
   | nil=>exact .inl rfl
   | cons a l=>exact .inr (by simp)
  rw [eO]
  by_cases ht:tag=[]
  ·
   obtain ⟨rfl,rfl,rfl⟩:=hR.1 ht
   subst ht
   obtain ⟨d1,e1,e2,e3,e4,e5⟩:=JL hW (by omega) n text
   rw [if_pos (by simp [Tree.Tag])]
   simp only [Tree.Text]
   rw [e1,Option.bind_some]
   have hg:nd d1 (nextId d)=some (ah.mk true [] [] text [] [] 0):=by rw [e3.get,if_pos rfl]
   refine ⟨nextId d,d1,[nextId d],rfl,e2,.mk hg rfl .nil,⟨_,hg,rfl,rfl⟩,e3.notroot,fun j z hz hl=>?_,fun j hj=>?_,?_,?_,fun j hj=>?_⟩
   ·
    rw [e3.get,if_neg (Bu hW e3 (by rw [dZ hz,hl]))]; exact hz
   ·
    rw [List.mem_singleton.1 hj]; exact e3.dead
   ·
    unfold cnt
    rw [e4,e5]
    simp only [jZ,jo]
    rcases fl with h | h
    ·
     rw [if_pos h,h]; simp
    ·
     rw [if_neg (fun q=>by rw [q] at h; simp at h)]; simp; omega
   ·
    have:=e3.len; omega
   ·
    by_cases hj2:j=nextId d
    ·
     exact .inr (by rw [hj2]; simp)
    ·
     left; unfold kI at hj ⊢; rw [e3.get,if_neg hj2] at hj; exact hj
  ·
   obtain ⟨rfl,ha,hR2⟩:=hR.2 ht
   simp only [jZ] at hn hlen
   obtain ⟨d1,e1,e2,e3,e4,e5⟩:=yX hW (by omega) n (tag:=tag) (key:=key) ht
   rw [if_neg (by simpa [Tree.Tag] using ht)]
   simp only [Tree.Tag,Tree.Key,Tree.aI]
   rw [e1,Option.bind_some]
   simp only
   have hg:nd d1 (nextId d)=some (ah.mk true tag key [] [] [] 0):=by rw [e3.get,if_pos rfl]
   obtain ⟨a1,a2⟩:=CJ e2 n hg rfl ht ha
   rw [a1,Option.bind_some]
   simp only
   have hg2:=lh hg (ah.mk true tag key [] at_ [] 0)
   have hl1:d1.l.length ≤ d.l.length + 1:=e3.len
   have hkl:=tK ks
   obtain ⟨d',ks',G,r1,r2,r3,r4,r5,r6,r7,r8,r9⟩:=CW (n:=n) (by omega) (t0:=.mk tag key [] at_ ks) (BS n) (z18:=(nextId d,d1)) (by simp only [Tree.Kids]; omega) ks [] _ (ah.mk true tag key [] at_ [] 0) [] n rfl a2 (by rw [hg2,if_pos rfl]) rfl ht rfl .nil hR2 (by omega) (by rw [nE]; omega) (by omega)
   refine ⟨nextId d,d',nextId d :: G,r1,r2,.mk (z:=ah.mk true tag key [] at_ ks' 0) (by simpa using r3) rfl (by simpa using r4),⟨_,r3,rfl,rfl⟩,e3.notroot,fun j z hz hl=>?_,fun j hj=>?_,?_,?_,fun j hj=>?_⟩
   ·
    have hne:=Bu hW e3 (by rw [dZ hz,hl]:kI d j=true)
    exact r5 j z hne (by rw [hg2,if_neg hne,e3.get,if_neg hne]; exact hz) hl
   ·
    rcases List.mem_cons.1 hj with rfl | hj
    ·
     exact e3.dead
    ·
     have h6:=r6 j hj
     have hne:j ≠ nextId d:=fun q=>by
      rw [q] at h6
      unfold kI at h6
      rw [hg2,if_pos rfl] at h6
      exact Bool.noConfusion h6
     unfold kI at h6 ⊢
     rw [hg2,if_neg hne,e3.get,if_neg hne] at h6
     exact h6
   ·
    have e:cnt (l8 d1 (nextId d) (ah.mk true tag key [] at_ [] 0))=cnt d1:=by unfold cnt; simp
    rw [r7]
    simp only [jZ]
    have e':cnt (l8 d1 (nextId d) { (ah.mk true tag key [] [] [] 0) with attrs:=at_ })=cnt d1:=e
    rw [e']
    unfold cnt
    rw [e4,e5]
    rcases fl with h | h
    ·
     rw [if_pos h,h]; simp; omega
    ·
     rw [if_neg (fun q=>by rw [q] at h; simp at h)]; simp; omega
   ·
    rw [nE] at r8; simp only [jZ]; omega
   ·
    rcases r9 j hj with h | h
    ·
     by_cases hj2:j=nextId d
     ·
      exact .inr (by rw [hj2]; exact List.mem_cons_self)
     ·
      left; unfold kI at h ⊢; rw [hg2,if_neg hj2,e3.get,if_neg hj2] at h; exact h
    ·
     exact .inr (List.mem_cons_of_mem _ h)
end Pr
end Go.Ev

namespace Go.Ev
namespace Pr
set_option linter.unusedVariables false
set_option linter.unusedSimpArgs false
set_option linter.unusedSectionVars false
section
variable {κ ν:Type} [BEq κ] [LawfulBEq κ]
theorem sH (k:κ):∀ (m:List (κ × ν)) (i:Nat),(gZ k m i).map (·.2)=(gZ k m 0).map (·.2)
 | [],i=>rfl
 | (a,b) :: l,i=>by
  simp only [gZ]
  split
  ·
   rfl
  ·
   rw [sH k l (i + 1),sH k l 1]
theorem qL (a:κ) (b:ν) (l:List (κ × ν)) (k:κ):Cu ((a,b) :: l) k=if (k == a)=true then some b else Cu l k:=by
 unfold Cu
 simp only [gZ]
 split
 ·
  rfl
 ·
  exact sH k l 1
theorem Bq (k:κ):∀ (m:List (κ × ν)) (i:Nat),gZ k m (i + 1)=(gZ k m i).map fun r=>(r.1 + 1,r.2)
 | [],i=>rfl
 | (c,e) :: m,i=>by
  simp only [gZ]
  cases (k == c) with
  | true=>rfl
  | false=>exact Bq k m (i + 1)
theorem Gx (a:κ) (b:ν) (l:List (κ × ν)) (k:κ) (v:ν):kM ((a,b) :: l) k v=if (k == a)=true then (k,v) :: l else (a,b) :: kM l k v:=by
 unfold kM
 simp only [gZ,Bq]
 cases h:(k == a) with
 | true=>have:=eq_of_beq h; subst this; simp
 | false=>cases gZ k l 0 <;> simp
theorem Bf:∀ (m:List (κ × ν)) (k k':κ) (v:ν),Cu (kM m k v) k'=if (k' == k)=true then some v else Cu m k'
 | [],k,k',v=>by
  have:kM ([]:List (κ × ν)) k v=[(k,v)]:=rfl
  rw [this,qL]
 | (a,b) :: l,k,k',v=>by
  rw [Gx]
  by_cases h:(k == a)=true
  ·
   rw [if_pos h,qL,qL]
   have:=eq_of_beq h
   subst this
   by_cases h2:(k' == k)=true
   ·
    rw [if_pos h2,if_pos h2]
   ·
    rw [if_neg h2,if_neg h2,if_neg h2]
  ·
   rw [if_neg h,qL,Bf l k k' v,qL]
   by_cases h2:(k' == a)=true
   ·
    rw [if_pos h2,if_pos h2]
    have:=eq_of_beq h2
    subst this
    have h3:(k' == k)=false:=by
     cases hq:k' == k with
     | false=>rfl
     | true=>have:=eq_of_beq hq; subst this; simp at h
    rw [h3]; rfl
   ·
    rw [if_neg h2,if_neg h2]
theorem uT (m:List (κ × ν)) (k k':κ) (v z:ν):jr (kM m k v) k' z=if (k' == k)=true then v else jr m k' z:=by
 unfold jr
 rw [Bf]
 split <;> rfl
end
def kd (t:Tree):bg:=bg.mk t.Tag t.Key
def ik (k:bg):List Tree→Nat→List Int
 | [],_=>[]
 | t :: l,i=>if kd t=k then (i:Int) :: ik k l (i + 1) else ik k l (i + 1)
theorem xO (k:bg):∀ (l m:List Tree) (i:Nat),ik k (l ++ m) i=ik k l i ++ ik k m (i + l.length)
 | [],m,i=>by simp [ik]
 | t :: l,m,i=>by
  simp only [List.cons_append,ik,xO k l m (i + 1),List.length_cons]
  rw [show i + 1 + l.length=i + (l.length + 1) by omega]
  split <;> simp
theorem xL (k:bg):∀ (l:List Tree) (i:Nat) (x:Int),x ∈ ik k l i↔∃ j t,l[j]? = some t∧kd t=k∧x=((i + j:Nat):Int)
 | [],i,x=>by simp [ik]
 | t :: l,i,x=>by
  simp only [ik]
  have ih:=xL k l (i + 1) x
  have hstep:(∃ j t',l[j]? = some t'∧kd t'=k∧x=((i + 1 + j:Nat):Int))↔∃ j t',(t :: l)[j + 1]? = some t'∧kd t'=k∧x=((i + (j + 1):Nat):Int):=by
   constructor
   ·
    rintro ⟨j,t',h1,h2,h3⟩; exact ⟨j,t',by simpa using h1,h2,by rw [h3]; omega⟩
   ·
    rintro ⟨j,t',h1,h2,h3⟩; exact ⟨j,t',by simpa using h1,h2,by rw [h3]; omega⟩
  split
  ·
   rename_i hk
   rw [List.mem_cons,ih,hstep]
   constructor
   ·
    rintro (rfl | ⟨j,t',h⟩)
    ·
     exact ⟨0,t,rfl,hk,by simp⟩
    ·
     exact ⟨j + 1,t',h⟩
   ·
    rintro ⟨j,t',h1,h2,h3⟩
    cases j with
    | zero=>left; simpa using h3
    | succ j=>exact .inr ⟨j,t',h1,h2,h3⟩
  ·
   rename_i hk
   rw [ih,hstep]
   constructor
   ·
    rintro ⟨j,t',h⟩; exact ⟨j + 1,t',h⟩
   ·
    rintro ⟨j,t',h1,h2,h3⟩
    cases j with
    | zero=>simp at h1; subst h1; exact absurd h2 hk
    | succ j=>exact ⟨j,t',h1,h2,h3⟩
theorem uB (k:bg):∀ (l:List Tree) (i:Nat),(ik k l i).Nodup
 | [],i=>by simp [ik]
 | t :: l,i=>by
  simp only [ik]
  split
  ·
   refine List.nodup_cons.2 ⟨fun h=>?_,uB k l (i + 1)⟩
   obtain ⟨j,_,_,_,h3⟩:=(xL k l (i + 1) _).1 h
   omega
  ·
   exact uB k l (i + 1)
def yB:List Tree→(bg→List Int)→List Int
 | [],_=>[]
 | t :: now,av=>match av (kd t) with
  | []=>-1 :: yB now av
  | k :: r=>k :: yB now (fun q=>if q=kd t then r else av q)
def Hf (old now:List Tree):List Int:=yB now (fun k=>ik k old 0)
theorem xE (k:bg):∀ (l:List Tree) (i:Nat),(ik k l i).length ≤ l.length
 | [],i=>by simp [ik]
 | t :: l,i=>by
  have:=xE k l (i + 1)
  simp only [ik]
  split <;> simp <;> omega
theorem DT {n:Nat} (now:List Tree) (hl:now.length ≤ 100000):∀ (rest done:List Tree) (m:List (bg × List Int)) (av:bg→List Int) (out:List Int) (f:Nat),now=done ++ rest→out.length=done.length→(∀ k,jr m k []=av k)→rest.length < f→eH n now f m out (done.length:Int)=some (out ++ yB rest av)
 | [],done,m,av,out,f + 1,h,ho,hm,hf=>by
  rw [eH,if_neg (by rw [h]; simp)]
  simp [yB]
 | t :: rest,done,m,av,out,f + 1,h,ho,hm,hf=>by
  have hnl:now.length=done.length + 1 + rest.length:=by rw [h]; simp; omega
  have hk:pg n t=some (kd t):=rfl
  rw [eH,if_pos (by rw [decide_eq_true_eq]; omega),jQ h,Option.bind_some,hk,Option.bind_some,hm]
  have ih:=fun m' av' out' h1 h2=>DT (n:=n) now hl rest (done ++ [t]) m' av' out' f (by rw [h]; simp) h1 h2 (by simpa using hf)
  cases ha:av (kd t) with
  | nil =>
   rw [if_pos (by simp),lD (by rw [bnd]; simp; omega),Option.bind_some]
   unfold iY
   rw [mE (by omega) (by omega)]
   have:=ih m av (out ++ [-1]) (by simp [ho]) hm
   simp only [yB,ha]
   simpa using this
  | cons k r =>
   have e0:idx (k :: r) (0:Int)=some k:=rfl
   have ec:cut (k :: r) 1 ((k :: r).length:Int)=some r:=by
    unfold cut; rw [if_pos ⟨by omega,by simp; omega,by omega⟩]; simp
   rw [if_neg (by simp; omega),e0,Option.bind_some,lD (by rw [bnd]; simp; omega),Option.bind_some,Option.bind_some,ec,Option.bind_some]
   unfold iY
   rw [mE (by omega) (by omega)]
   have:=ih (kM m (kd t) r) (fun q=>if q=kd t then r else av q) (out ++ [k]) (by simp [ho]) (fun q=>by
    rw [uT,hm]
    by_cases e:q=kd t
    ·
     rw [if_pos (by rw [e]; simp),if_pos e]
    ·
     rw [if_neg (by simpa using e),if_neg e])
   simp only [yB,ha]
   simpa using this
theorem D7 {n:Nat} (old now:List Tree) (ho:old.length ≤ 100000) (hl:now.length ≤ 100000) (hn:now.length < n):∀ (rest done:List Tree) (m:List (bg × List Int)) (f:Nat),old=done ++ rest→(∀ k,jr m k []=ik k done 0)→rest.length < f→gB n old now f m (done.length:Int)=some (Hf old now)
 | [],done,m,f + 1,h,hm,hf=>by
  rw [gB,if_neg (by rw [h]; simp)]
  have:=DT (n:=n) now hl now [] m (fun k=>ik k done 0) [] n rfl rfl hm hn
  rw [List.append_nil] at h
  subst h
  simpa [Hf] using this
 | t :: rest,done,m,f + 1,h,hm,hf=>by
  have hnl:old.length=done.length + 1 + rest.length:=by rw [h]; simp; omega
  have hk:pg n t=some (kd t):=rfl
  have hpl:=xE (kd t) done 0
  rw [gB,if_pos (by rw [decide_eq_true_eq]; omega),jQ h,Option.bind_some,hk,Option.bind_some,hm,lD (by rw [bnd]; simp; omega),Option.bind_some,mE (by omega) (by omega)]
  have:=D7 old now ho hl hn rest (done ++ [t]) (kM m (kd t) (ik (kd t) done 0 ++ [(done.length:Int)])) f (by rw [h]; simp) (fun q=>by
   rw [uT,hm,xO]
   simp only [ik,Nat.zero_add]
   by_cases e:q=kd t
   ·
    rw [if_pos (by rw [e]; simp),e,if_pos rfl]
   ·
    rw [if_neg (by simpa using e),if_neg (Ne.symm e),List.append_nil]) (by simpa using hf)
  simpa using this
theorem Ka {n:Nat} {old now:List Tree} (ho:old.length ≤ 100000) (hl:now.length ≤ 100000) (hn:now.length < n) (hn2:old.length < n):mQ n old now=some (Hf old now):=by
 unfold mQ
 exact D7 old now ho hl hn old [] [] n rfl (fun k=>rfl) hn2
end Pr
end Go.Ev

namespace Go.Ev
namespace Pr
set_option linter.unusedVariables false
set_option linter.unusedSimpArgs false
set_option linter.unusedSectionVars false
theorem zb {n1:Nat} (m:List (Int × Int)) (a2:List Int) (hm:∀ k,jr m k 0=(a2.count k:Int)) (hn1:n1 ≤ 5000):∀ (r i:Nat) (out:List Int) (f:Nat),i + r=n1→out.length ≤ i→r < f →
  ∃ g,eG (n1:Int) m f out (i:Int)=some (out ++ g)∧g.Nodup∧(∀ x,x ∈ g↔(i:Int) ≤ x∧x < n1∧x ∉ a2)∧g.length ≤ r
 | 0,i,out,f + 1,h,ho,hf=>by
  rw [eG,if_neg (by simp [zJ]; omega)]
  exact ⟨[],by simp,by simp,fun x=>by simp; omega,by simp⟩
 | r + 1,i,out,f + 1,h,ho,hf=>by
  rw [eG,if_pos (by simp [zJ]; omega),hm]
  have hw:IntKind.wrap .i64 ((i:Int) + 1)=((i + 1:Nat):Int):=by rw [mE (by omega) (by omega)]; omega
  by_cases hc:(i:Int) ∈ a2
  ·
   have:a2.count (i:Int) ≠ 0:=by have:=List.count_pos_iff.2 hc; omega
   rw [if_neg (by simpa using this)]
   unfold iZ
   rw [hw]
   obtain ⟨g,g1,g2,g3,g4⟩:=zb m a2 hm hn1 r (i + 1) out f (by omega) (by omega) (by omega)
   refine ⟨g,g1,g2,fun x=>?_,by omega⟩
   rw [g3]
   constructor
   ·
    rintro ⟨h1,h2,h3⟩; exact ⟨by omega,h2,h3⟩
   ·
    rintro ⟨h1,h2,h3⟩
    have:x ≠ (i:Int):=fun q=>h3 (q ▸ hc)
    exact ⟨by omega,h2,h3⟩
  ·
   have:a2.count (i:Int)=0:=List.count_eq_zero.2 hc
   rw [if_pos (by simpa using this),lD (by rw [bnd]; simp; omega),Option.bind_some]
   unfold iZ
   rw [hw]
   obtain ⟨g,g1,g2,g3,g4⟩:=zb m a2 hm hn1 r (i + 1) (out ++ [(i:Int)]) f (by omega) (by simp; omega) (by omega)
   refine ⟨(i:Int) :: g,by rw [g1]; simp,List.nodup_cons.2 ⟨fun q=>?_,g2⟩,fun x=>?_,by simp; omega⟩
   ·
    have:=(g3 _).1 q; omega
   ·
    rw [List.mem_cons,g3]
    constructor
    ·
     rintro (rfl | ⟨h1,h2,h3⟩)
     ·
      exact ⟨by omega,by omega,hc⟩
     ·
      exact ⟨by omega,h2,h3⟩
    ·
     rintro ⟨h1,h2,h3⟩
     by_cases q:x=(i:Int)
     ·
      exact .inl q
     ·
      exact .inr ⟨by omega,h2,h3⟩
theorem D5 {n n1:Nat} (a2:List Int) (hn:n1 < n) (hn1:n1 ≤ 5000) (ha:a2.length ≤ 5000):∀ (rest done:List Int) (m:List (Int × Int)) (f:Nat),a2=done ++ rest→(∀ k,jr m k 0=(done.count k:Int))→rest.length < f →
  ∃ g,gM n (n1:Int) a2 f m (done.length:Int)=some g∧g.Nodup∧(∀ x,x ∈ g↔0 ≤ x∧x < n1∧x ∉ a2)∧g.length ≤ n1
 | [],done,m,f + 1,h,hm,hf=>by
  rw [gM,if_neg (by rw [h]; simp)]
  rw [List.append_nil] at h
  subst h
  obtain ⟨g,g1,g2,g3,g4⟩:=zb m a2 hm hn1 n1 0 [] n (by omega) (by simp) hn
  exact ⟨g,by simpa using g1,g2,by simpa using g3,g4⟩
 | x :: rest,done,m,f + 1,h,hm,hf=>by
  have hl:a2.length=done.length + 1 + rest.length:=by rw [h]; simp; omega
  have hcl:=List.count_le_length (a:=x) (l:=done)
  rw [gM,if_pos (by rw [decide_eq_true_eq]; omega),jQ h,Option.bind_some,hm,mE (by omega) (by omega),mE (by omega) (by omega)]
  have:=D5 a2 hn hn1 ha rest (done ++ [x]) (kM m x ((done.count x:Int) + 1)) f (by rw [h]; simp) (fun k=>by
   rw [uT,hm,List.count_append,List.count_singleton]
   by_cases e:k=x
   ·
    subst e; simp
   ·
    have e':¬ x=k:=fun q=>e q.symm
    rw [if_neg (by simpa using e)]; simp [e']) (by simpa using hf)
  simpa using this
theorem Kc {n n1:Nat} (a2:List Int) (hn:n1 < n) (hn1:n1 ≤ 5000) (ha:a2.length ≤ 5000) (hn2:a2.length < n):∃ g,o9 n (n1:Int) a2=some g∧g.Nodup∧(∀ x,x ∈ g↔0 ≤ x∧x < n1∧x ∉ a2)∧g.length ≤ n1:=by
 unfold o9
 exact D5 a2 hn hn1 ha a2 [] [] n rfl (fun k=>rfl) hn2
theorem Dj {n:Nat} {d:aB} (hW:WF d) {all:List Int} (ha:all.length ≤ 5000):∀ (rest done:List Int) (dts ts:List Tree) (F:List Int) (f:Nat),all=done ++ rest→dts.length=done.length→nN d rest ts F→jo ts < n→rest.length < f →
  gJ n d all f dts (done.length:Int)=some (dts ++ ts)
 | [],done,dts,_,_,f + 1,h,hd,.nil,hn,hf=>by
  rw [gJ,if_neg (by rw [h]; simp)]; simp
 | c :: rest,done,dts,_,_,f + 1,h,hd,.cons (t:=t) (ts:=ts) (G:=G) hk k,hn,hf=>by
  have hl:all.length=done.length + 1 + rest.length:=by rw [h]; simp; omega
  simp only [jo] at hn
  rw [gJ,if_pos (by rw [decide_eq_true_eq]; omega),jQ h,Option.bind_some,ym hW hk (show jZ t < n by omega),Option.bind_some,lD (by rw [bnd]; simp; omega),Option.bind_some,mE (by omega) (by omega)]
  have:=Dj (n:=n) hW ha rest (done ++ [c]) (dts ++ [t]) ts G f (by rw [h]; simp) (by simp [hd]) k (by omega) (by simpa using hf)
  simpa using this
theorem IB {n:Nat} {d:aB} (hW:WF d) {ks:List Int} {ts:List Tree} {F:List Int} (ha:ks.length ≤ 5000) (h:nN d ks ts F) (hn:jo ts < n) (hn2:ks.length < n):oG n d ks=some ts:=by
 unfold oG
 exact Dj hW ha ks [] [] ts F n rfl rfl h hn hn2
structure St (d:aB) (id:Int) (z:ah) (P rest:List Int) (pts rts:List Tree) (FP FR:List Int):Prop where
 wf:WF d
 hz:nd d id=some { z with kids:=P ++ rest }
 hl:z.lives=true
 ht:z.tag ≠ []
 tp:nN d P pts FP
 tr:nN d rest rts FR
end Pr
end Go.Ev

namespace Go.Ev
namespace Pr
set_option linter.unusedVariables false
set_option linter.unusedSimpArgs false
set_option linter.unusedSectionVars false
end Pr
end Go.Ev

namespace Go.Ev
namespace Pr
set_option linter.unusedVariables false
set_option linter.unusedSimpArgs false
set_option linter.unusedSectionVars false
end Pr
end Go.Ev

namespace Go.Ev
namespace Pr
set_option linter.unusedVariables false
set_option linter.unusedSimpArgs false
set_option linter.unusedSectionVars false
end Pr
end Go.Ev

namespace Go.Ev
namespace Pr
set_option linter.unusedVariables false
set_option linter.unusedSimpArgs false
theorem TA.kl {d:aB} {i:Int} {t:Tree} {F:List Int} (h:TA d i t F) {z:ah} (hz:nd d i=some z):z.lives=true∧z.kids.length=t.Kids.length:=by
 cases h with
 | mk h hl k=>rw [h] at hz; cases hz; exact ⟨hl,by simpa [Tree.Kids] using k.lens⟩
theorem TA.KU {d:aB} {i:Int} {t:Tree} {F:List Int} (h:TA d i t F) {z:ah} (hz:nd d i=some z):∃ G,nN d z.kids t.Kids G:=by
 cases h with
 | mk h hl k=>rw [h] at hz; cases hz; exact ⟨_,k⟩
theorem GV {d:aB} (hW:WF d) {G:List Int} (hn:G.Nodup) (hl:∀ j ∈ G,kI d j=true) (hc:(G.length:Int)=cnt d):∀ j,kI d j=true→j ∈ G:=fun j hj=>by
 by_cases hm:j ∈ G
 ·
  exact hm
 ·
  exfalso
  have hr:∀ i,kI d i=true→1 ≤ i∧i ≤ (d.l.length:Int):=fun i hi=>by
   obtain ⟨z,hz,_⟩:=gX hi
   exact bZ hz
  have hd:∀ i,kI d i=true→i ∉ d.freed:=fun i hi hf=>by
   obtain ⟨z,hz,hl⟩:=gX hi
   have:=(hW.dead i z hz).2 hf
   rw [hl] at this; cases this
  have hall:∀ i ∈ j :: G,kI d i=true:=fun i hi=>by
   rcases List.mem_cons.1 hi with rfl | hi
   ·
    exact hj
   ·
    exact hl i hi
  have:=iW d.l.length ((j :: G) ++ d.freed) (List.nodup_append.2 ⟨List.nodup_cons.2 ⟨hm,hn⟩,hW.freedN,fun a ha b hb q=>by subst q; exact hd a (hall a ha) hb⟩) (fun x hx=>by
   rcases List.mem_append.1 hx with hx | hx
   ·
    exact hr x (hall x hx)
   ·
    have:=hW.freedR x hx; omega)
  simp only [List.length_append,List.length_cons] at this
  unfold cnt at hc
  omega
end Pr
end Go.Ev

import Derived.Test.YtbjneeknddapfaaPartE
import Derived.IntWalk
namespace Go.Ev
namespace Pr
set_option linter.unusedVariables false
set_option linter.unusedSimpArgs false
open Go.Proofs
section
variable {R:bO} (E:K9 R)
include E
set_option maxRecDepth 20000 in
set_option maxHeartbeats 4000000 in
theorem yR (n:Nat) (a1:dP) (a2:dP) (r:Bool) (h:ib n a1 a2=some r):fw R cfg.P 7 [(gD a1),(gD a2)] (.d (.bool r)):=by
 unfold ib at h
 refine fw.of_wp E.obj.toObjOk (C:=cfg) Try.func7 rfl OT rfl ?_
 have H0:Has aK aK []:=Has.pure
 refine aC.seq ?_
 refine aC.region E.obj rfl ?_
 refine aj.box H0 rfl rfl rfl (dP.dN _) rfl (fun b3 S4 H5=>?_)
 refine aj.box H5 rfl rfl rfl (dP.dN _) rfl (fun b6 S7 H8=>?_)
 refine aj.val rfl (au rfl) rfl ?_
 refine aj.nil ?_
 refine aC.seq ?_
 refine aC.region E.obj rfl ?_
 obtain ⟨z9,hzz9,h⟩:=bind_some h
 refine aj.eF (ins:=[]) (more:=[.box b6 [(.d (.sl ((a2.Under).map (D.int .i64)) false)),(.d (.sl ((a2.Kinds).map (D.int .i64)) false)),(.d (.sl ((a2.Keys).map (D.int .i64)) false)),(.d (.sl ((a2.Texts).map (D.int .i64)) false))],.box b3 [(.d (.sl ((a1.Under).map (D.int .i64)) false)),(.d (.sl ((a1.Kinds).map (D.int .i64)) false)),(.d (.sl ((a1.Keys).map (D.int .i64)) false)),(.d (.sl ((a1.Texts).map (D.int .i64)) false))]]) (H8.sl [0,1] rfl rfl) rfl (aH rfl rfl) (zf E n  _ hzz9 ) .nil rfl ?_
 rintro v10 S11 l12 hr13 H14
 rcases z9 with _ | x15
 ·
  obtain ⟨rfl,rfl⟩:=hr13
  replace h:=Md h
  replace H14:Has aK S11 [.box b6 [(.d (.sl ((a2.Under).map (D.int .i64)) false)),(.d (.sl ((a2.Kinds).map (D.int .i64)) false)),(.d (.sl ((a2.Keys).map (D.int .i64)) false)),(.d (.sl ((a2.Texts).map (D.int .i64)) false))],.box b3 [(.d (.sl ((a1.Under).map (D.int .i64)) false)),(.d (.sl ((a1.Kinds).map (D.int .i64)) false)),(.d (.sl ((a1.Keys).map (D.int .i64)) false)),(.d (.sl ((a1.Texts).map (D.int .i64)) false))]]:=H14
  refine aj.val rfl (au rfl) rfl ?_
  refine aj.nil ?_
  refine aC.seq ?_
  refine aC.seq ?_
  refine aC.region E.obj rfl ?_
  refine aj.val rfl (aa rfl) rfl ?_
  refine aj.val rfl (aD rfl rfl (lH JV)) rfl ?_
  refine aj.nil ?_
  refine aC.cond rfl (fun hb=>?_) (fun hb=>?_)
  ·
   refine aC.seq ?_
   refine aC.region E.obj rfl ?_
   refine aj.val rfl (au rfl) rfl ?_
   refine aj.nil ?_
   have hr:=Option.some.inj h
   subst hr
   exact aC.ret ⟨_,rfl,rfl,jW (aQ.eq .nil)⟩
  ·
   cases hb
 ·
  obtain ⟨b16,v17,ws18,w19,rfl,rfl⟩:=hr13
  replace h:=LZ h
  have H20:Has aK S11 [.box b6 [(.d (.sl ((a2.Under).map (D.int .i64)) false)),(.d (.sl ((a2.Kinds).map (D.int .i64)) false)),(.d (.sl ((a2.Keys).map (D.int .i64)) false)),(.d (.sl ((a2.Texts).map (D.int .i64)) false))],.box b3 [(.d (.sl ((a1.Under).map (D.int .i64)) false)),(.d (.sl ((a1.Kinds).map (D.int .i64)) false)),(.d (.sl ((a1.Keys).map (D.int .i64)) false)),(.d (.sl ((a1.Texts).map (D.int .i64)) false))],.box b16 [v17,w19],aA ae ah.kids 7 5 v17 ws18 x15.l none,aI w19 x15.freed]:=H14.sl [3,4,0,1,2] rfl rfl
  refine aj.val rfl (au rfl) rfl ?_
  refine aj.nil ?_
  refine aC.seq ?_
  refine aC.seq ?_
  refine aC.region E.obj rfl ?_
  refine aj.val rfl (aa rfl) rfl ?_
  refine aj.val rfl (aD rfl rfl (Cm JV)) rfl ?_
  refine aj.nil ?_
  refine aC.cond rfl (fun hb=>?_) (fun hb=>?_)
  ·
   cases hb
  ·
   refine aC.skip ?_
   refine aC.seq ?_
   obtain ⟨z22,hzz22,h⟩:=bind_some h
   obtain ⟨z23,hzz23,h⟩:=bind_some h
   have hT21:∀ x ∈ ([Fact.pure 43 [(Ev.fD [(.d (.sl ((a1.Under).map (D.int .i64)) false)),(.d (.sl ((a1.Kinds).map (D.int .i64)) false)),(.d (.sl ((a1.Keys).map (D.int .i64)) false)),(.d (.sl ((a1.Texts).map (D.int .i64)) false))])] (.d (ak z22)),Fact.pure 43 [(Ev.fD [(.d (.sl ((a2.Under).map (D.int .i64)) false)),(.d (.sl ((a2.Kinds).map (D.int .i64)) false)),(.d (.sl ((a2.Keys).map (D.int .i64)) false)),(.d (.sl ((a2.Texts).map (D.int .i64)) false))])] (.d (ak z23))]:List Fact),x.ok R cfg.P:=(zO (fw.fact (kM E _ _ _ hzz22) (aQ.seq (aQ.lV (d:=gD a1) (ax.eq rfl (ax.eq rfl (ax.eq rfl (ax.eq rfl .nil)))) ((dP.eq _).trans rfl)) .nil)) (zO (fw.fact (kM E _ _ _ hzz23) (aQ.seq (aQ.lV (d:=gD a2) (ax.eq rfl (ax.eq rfl (ax.eq rfl (ax.eq rfl .nil)))) ((dP.eq _).trans rfl)) .nil)) G8))
   have hpT21:=MJ hT21 rfl
   refine aC.KX E.obj jr hT21 (by kernel_rfl) [b3,b6] [1,0,1,0,3,3,4,4] 4 5 [0,1,2,3,4,5,6,7] [0,1,2,3,5,4,6,7] (by kernel_rfl) (fun e S=>∃ b24 b27,ai [(0,(.d (gD a1))),(1,(.d (gD a2))),(2,(.ptr b3 0 0)),(3,(.ptr b6 0 0)),(4,(.d (.bool false))),(5,(.ptr b16 0 0)),(6,(.ptr b24 0 0)),(7,(.ptr b27 0 0)),(19,(.ptr b16 0 0)),(20,(.ptr b16 0 0)),(21,(.d (.bool false))),(22,(Ev.fD [(.d (.sl ((a1.Under).map (D.int .i64)) false)),(.d (.sl ((a1.Kinds).map (D.int .i64)) false)),(.d (.sl ((a1.Keys).map (D.int .i64)) false)),(.d (.sl ((a1.Texts).map (D.int .i64)) false))])),(23,(.d (ak z22))),(24,(Ev.fD [(.d (.sl ((a2.Under).map (D.int .i64)) false)),(.d (.sl ((a2.Kinds).map (D.int .i64)) false)),(.d (.sl ((a2.Keys).map (D.int .i64)) false)),(.d (.sl ((a2.Texts).map (D.int .i64)) false))])),(25,(.d (ak z23)))] e∧Has aK S [.box b27 [(.d (.str z23.Tag)),(.d (.str z23.Key)),(.d (.str z23.Text)),(.d (.sl ((z23.aL).map az) false)),(.d (.sl ((z23.Kids).map ak) false))],.box b24 [(.d (.str z22.Tag)),(.d (.str z22.Key)),(.d (.str z22.Text)),(.d (.sl ((z22.aL).map az) false)),(.d (.sl ((z22.Kids).map ak) false))],.box b6 [(.d (.sl ((a2.Under).map (D.int .i64)) false)),(.d (.sl ((a2.Kinds).map (D.int .i64)) false)),(.d (.sl ((a2.Keys).map (D.int .i64)) false)),(.d (.sl ((a2.Texts).map (D.int .i64)) false))],.box b3 [(.d (.sl ((a1.Under).map (D.int .i64)) false)),(.d (.sl ((a1.Kinds).map (D.int .i64)) false)),(.d (.sl ((a1.Keys).map (D.int .i64)) false)),(.d (.sl ((a1.Texts).map (D.int .i64)) false))],.box b16 [v17,w19],aA ae ah.kids 7 5 v17 ws18 x15.l none,aI w19 x15.freed]) ?_ ?_ ?_
   ·
    refine rM.read rfl rfl (Gr (L:=[b3]) rfl (by simp)) rfl (aJ H20 (i:=1) rfl rfl (aZ Ku JU rfl)) rfl ?_
    refine rM.ret hpT21 rfl rfl (aH rfl rfl) (CY 0 rfl rfl (by
      intro a' v' hm ha
      simp only [List.mem_cons,List.not_mem_nil,or_false,Fact.pure.injEq] at hm
      rcases hm with ⟨hf0,rfl,rfl⟩ | ⟨hf1,rfl,rfl⟩
      ·
       rfl
      ·
       obtain ⟨he0,ha⟩:=List.cons.inj ha; have hx0:=dP.inj a2 a1 (AV.d.inj he0); have hq:=hzz23; rw [hx0] at hq; rw [hzz22] at hq; rw [Option.some.inj hq])) (aQ.isSome (aQ.seq (aQ.lV (d:=gD a1) (ax.eq rfl (ax.eq rfl (ax.eq rfl (ax.eq rfl .nil)))) ((dP.eq _).trans rfl)) .nil)) rfl rfl rfl rfl ?_
    refine rM.read rfl rfl (Gr (L:=[b6]) rfl (by simp)) rfl (aJ H20 (i:=0) rfl rfl (aZ Ku JU rfl)) rfl ?_
    refine rM.ret hpT21 rfl rfl (aH rfl rfl) (CY 1 rfl rfl (by
      intro a' v' hm ha
      simp only [List.mem_cons,List.not_mem_nil,or_false,Fact.pure.injEq] at hm
      rcases hm with ⟨hf0,rfl,rfl⟩ | ⟨hf1,rfl,rfl⟩
      ·
       obtain ⟨he0,ha⟩:=List.cons.inj ha; have hx0:=dP.inj a1 a2 (AV.d.inj he0); have hq:=hzz22; rw [hx0] at hq; rw [hzz23] at hq; rw [Option.some.inj hq]
      ·
       rfl)) (aQ.isSome (aQ.seq (aQ.lV (d:=gD a2) (ax.eq rfl (ax.eq rfl (ax.eq rfl (ax.eq rfl .nil)))) ((dP.eq _).trans rfl)) .nil)) rfl rfl rfl rfl ?_
    refine rM.alloc H20 rfl rfl qo jv rfl rfl (fun b24 S25 H26=>?_)
    refine rM.alloc H26 rfl rfl qo jv rfl rfl (fun b27 S28 H29=>?_)
    refine rM.Co H29 (by
      intro z hz
      simp only [List.mem_cons,List.not_mem_nil,or_false] at hz
      rcases hz with rfl | rfl
      ·
       exact H29.xR (i:=3) (j:=1) (by decide) rfl rfl
      ·
       exact H29.xR (i:=2) (j:=1) (by decide) rfl rfl) (j:=1) rfl rfl rfl rfl rfl (Tree.dN _) rfl bY rfl kF rfl rfl rfl (fun S30 H31=>?_)
    refine rM.Co H31 (by
      intro z hz
      simp only [List.mem_cons,List.not_mem_nil,or_false] at hz
      rcases hz with rfl | rfl
      ·
       exact H31.xR (i:=3) (j:=0) (by decide) rfl rfl
      ·
       exact H31.xR (i:=2) (j:=0) (by decide) rfl rfl) (j:=0) rfl rfl rfl rfl rfl (Tree.dN _) rfl bY rfl kF rfl rfl rfl (fun S32 H33=>?_)
    exact ⟨b24,b27,(ai.r rfl (ai.r rfl (ai.r rfl (ai.r rfl (ai.r rfl (ai.r rfl (ai.r rfl (ai.r rfl (ai.r rfl (ai.r rfl (ai.r rfl (ai.r rfl (ai.r rfl (ai.r rfl (ai.r rfl ai.nil))))))))))))))),H33⟩
   ·
    refine rM.read rfl rfl (Gr (L:=[b3]) rfl (by simp)) rfl (aJ H20 (i:=1) rfl rfl (aZ Ku JU rfl)) rfl ?_
    refine rM.ret hpT21 rfl rfl (aH rfl rfl) (CY 0 rfl rfl (by
      intro a' v' hm ha
      simp only [List.mem_cons,List.not_mem_nil,or_false,Fact.pure.injEq] at hm
      rcases hm with ⟨hf0,rfl,rfl⟩ | ⟨hf1,rfl,rfl⟩
      ·
       rfl
      ·
       obtain ⟨he0,ha⟩:=List.cons.inj ha; have hx0:=dP.inj a2 a1 (AV.d.inj he0); have hq:=hzz23; rw [hx0] at hq; rw [hzz22] at hq; rw [Option.some.inj hq])) (aQ.isSome (aQ.seq (aQ.lV (d:=gD a1) (ax.eq rfl (ax.eq rfl (ax.eq rfl (ax.eq rfl .nil)))) ((dP.eq _).trans rfl)) .nil)) rfl rfl rfl rfl ?_
    refine rM.read rfl rfl (Gr (L:=[b6]) rfl (by simp)) rfl (aJ H20 (i:=0) rfl rfl (aZ Ku JU rfl)) rfl ?_
    refine rM.ret hpT21 rfl rfl (aH rfl rfl) (CY 1 rfl rfl (by
      intro a' v' hm ha
      simp only [List.mem_cons,List.not_mem_nil,or_false,Fact.pure.injEq] at hm
      rcases hm with ⟨hf0,rfl,rfl⟩ | ⟨hf1,rfl,rfl⟩
      ·
       obtain ⟨he0,ha⟩:=List.cons.inj ha; have hx0:=dP.inj a1 a2 (AV.d.inj he0); have hq:=hzz22; rw [hx0] at hq; rw [hzz23] at hq; rw [Option.some.inj hq]
      ·
       rfl)) (aQ.isSome (aQ.seq (aQ.lV (d:=gD a2) (ax.eq rfl (ax.eq rfl (ax.eq rfl (ax.eq rfl .nil)))) ((dP.eq _).trans rfl)) .nil)) rfl rfl rfl rfl ?_
    refine rM.alloc H20 rfl rfl qo jv rfl rfl (fun b27 S25 H34=>?_)
    refine rM.alloc H34 rfl rfl qo jv rfl rfl (fun b24 S28 H35=>?_)
    have H26:Has aK S28 [.box b24 [(.d (.str [])),(.d (.str [])),(.d (.str [])),(.d .aS),(.d .aS)],.box b6 [(.d (.sl ((a2.Under).map (D.int .i64)) false)),(.d (.sl ((a2.Kinds).map (D.int .i64)) false)),(.d (.sl ((a2.Keys).map (D.int .i64)) false)),(.d (.sl ((a2.Texts).map (D.int .i64)) false))],.box b3 [(.d (.sl ((a1.Under).map (D.int .i64)) false)),(.d (.sl ((a1.Kinds).map (D.int .i64)) false)),(.d (.sl ((a1.Keys).map (D.int .i64)) false)),(.d (.sl ((a1.Texts).map (D.int .i64)) false))],.box b16 [v17,w19],aA ae ah.kids 7 5 v17 ws18 x15.l none,aI w19 x15.freed]:=H35.sl [0,2,3,4,5,6] rfl rfl
    have H29:Has aK S28 [.box b27 [(.d (.str [])),(.d (.str [])),(.d (.str [])),(.d .aS),(.d .aS)],.box b24 [(.d (.str [])),(.d (.str [])),(.d (.str [])),(.d .aS),(.d .aS)],.box b6 [(.d (.sl ((a2.Under).map (D.int .i64)) false)),(.d (.sl ((a2.Kinds).map (D.int .i64)) false)),(.d (.sl ((a2.Keys).map (D.int .i64)) false)),(.d (.sl ((a2.Texts).map (D.int .i64)) false))],.box b3 [(.d (.sl ((a1.Under).map (D.int .i64)) false)),(.d (.sl ((a1.Kinds).map (D.int .i64)) false)),(.d (.sl ((a1.Keys).map (D.int .i64)) false)),(.d (.sl ((a1.Texts).map (D.int .i64)) false))],.box b16 [v17,w19],aA ae ah.kids 7 5 v17 ws18 x15.l none,aI w19 x15.freed]:=H35.sl [1,0,2,3,4,5,6] rfl rfl
    refine rM.Co H29 (by
      intro z hz
      simp only [List.mem_cons,List.not_mem_nil,or_false] at hz
      rcases hz with rfl | rfl
      ·
       exact H29.xR (i:=3) (j:=1) (by decide) rfl rfl
      ·
       exact H29.xR (i:=2) (j:=1) (by decide) rfl rfl) (j:=1) rfl rfl rfl rfl rfl (Tree.dN _) rfl bY rfl kF rfl rfl rfl (fun S30 H31=>?_)
    refine rM.Co H31 (by
      intro z hz
      simp only [List.mem_cons,List.not_mem_nil,or_false] at hz
      rcases hz with rfl | rfl
      ·
       exact H31.xR (i:=3) (j:=0) (by decide) rfl rfl
      ·
       exact H31.xR (i:=2) (j:=0) (by decide) rfl rfl) (j:=0) rfl rfl rfl rfl rfl (Tree.dN _) rfl bY rfl kF rfl rfl rfl (fun S32 H33=>?_)
    exact ⟨b24,b27,(ai.r rfl (ai.r rfl (ai.r rfl (ai.r rfl (ai.r rfl (ai.r rfl (ai.r rfl (ai.r rfl (ai.r rfl (ai.r rfl (ai.r rfl (ai.r rfl (ai.r rfl (ai.r rfl (ai.r rfl ai.nil))))))))))))))),H33⟩
   rintro e36 S37 ⟨b24,b27,hw38,H39⟩
   refine aC.weak hw38 ?_
   refine aC.seq ?_
   refine aC.region E.obj rfl ?_
   refine aj.val rfl (aa rfl) rfl ?_
   refine aj.val rfl (aJ H39 (i:=1) rfl rfl (aZ fA bY rfl)) rfl ?_
   refine aj.less (Less.agg' (d:=ak z22) (ax.eq rfl (ax.eq rfl (ax.eq rfl (ax.eq rfl (ax.eq rfl .nil))))) ((Tree.eq _).trans rfl)) ?_
   obtain ⟨z41,hzz41,h⟩:=bind_some h
   refine aj.eF (ins:=[.box b16 [v17,w19],aA ae ah.kids 7 5 v17 ws18 x15.l none,aI w19 x15.freed]) (more:=[.box b27 [(.d (.str z23.Tag)),(.d (.str z23.Key)),(.d (.str z23.Text)),(.d (.sl ((z23.aL).map az) false)),(.d (.sl ((z23.Kids).map ak) false))],.box b24 [(.d (.str z22.Tag)),(.d (.str z22.Key)),(.d (.str z22.Text)),(.d (.sl ((z22.aL).map az) false)),(.d (.sl ((z22.Kids).map ak) false))],.box b6 [(.d (.sl ((a2.Under).map (D.int .i64)) false)),(.d (.sl ((a2.Kinds).map (D.int .i64)) false)),(.d (.sl ((a2.Keys).map (D.int .i64)) false)),(.d (.sl ((a2.Texts).map (D.int .i64)) false))],.box b3 [(.d (.sl ((a1.Under).map (D.int .i64)) false)),(.d (.sl ((a1.Kinds).map (D.int .i64)) false)),(.d (.sl ((a1.Keys).map (D.int .i64)) false)),(.d (.sl ((a1.Texts).map (D.int .i64)) false))]]) (H39.sl [4,5,6,0,1,2,3] rfl rfl) rfl (aH rfl rfl) (nM E n _ _ _ hzz41 b16 v17 ws18 w19) (.cons (.refl _) (.cons (.refl _) .nil)) rfl ?_
   rintro _ S45 _ ⟨rfl,v42,ws43,w44,rfl⟩ H46
   have H47:Has aK S45 [.box b27 [(.d (.str z23.Tag)),(.d (.str z23.Key)),(.d (.str z23.Text)),(.d (.sl ((z23.aL).map az) false)),(.d (.sl ((z23.Kids).map ak) false))],.box b24 [(.d (.str z22.Tag)),(.d (.str z22.Key)),(.d (.str z22.Text)),(.d (.sl ((z22.aL).map az) false)),(.d (.sl ((z22.Kids).map ak) false))],.box b6 [(.d (.sl ((a2.Under).map (D.int .i64)) false)),(.d (.sl ((a2.Kinds).map (D.int .i64)) false)),(.d (.sl ((a2.Keys).map (D.int .i64)) false)),(.d (.sl ((a2.Texts).map (D.int .i64)) false))],.box b3 [(.d (.sl ((a1.Under).map (D.int .i64)) false)),(.d (.sl ((a1.Kinds).map (D.int .i64)) false)),(.d (.sl ((a1.Keys).map (D.int .i64)) false)),(.d (.sl ((a1.Texts).map (D.int .i64)) false))],.box b16 [v42,w44],aA ae ah.kids 7 5 v42 ws43 z41.2.l none,aI w44 z41.2.freed]:=H46.sl [3,4,5,6,0,1,2] rfl rfl
   refine aj.val rfl (au rfl) rfl ?_
   refine aj.nil ?_
   refine aC.seq ?_
   refine aC.region E.obj rfl ?_
   refine aj.val rfl (aa rfl) rfl ?_
   refine aj.val rfl (aa rfl) rfl ?_
   obtain ⟨z48,hzz48,h⟩:=bind_some h
   refine aj.eF (ins:=[.box b16 [v42,w44],aA ae ah.kids 7 5 v42 ws43 z41.2.l none,aI w44 z41.2.freed]) (more:=[.box b27 [(.d (.str z23.Tag)),(.d (.str z23.Key)),(.d (.str z23.Text)),(.d (.sl ((z23.aL).map az) false)),(.d (.sl ((z23.Kids).map ak) false))],.box b24 [(.d (.str z22.Tag)),(.d (.str z22.Key)),(.d (.str z22.Text)),(.d (.sl ((z22.aL).map az) false)),(.d (.sl ((z22.Kids).map ak) false))],.box b6 [(.d (.sl ((a2.Under).map (D.int .i64)) false)),(.d (.sl ((a2.Kinds).map (D.int .i64)) false)),(.d (.sl ((a2.Keys).map (D.int .i64)) false)),(.d (.sl ((a2.Texts).map (D.int .i64)) false))],.box b3 [(.d (.sl ((a1.Under).map (D.int .i64)) false)),(.d (.sl ((a1.Kinds).map (D.int .i64)) false)),(.d (.sl ((a1.Keys).map (D.int .i64)) false)),(.d (.sl ((a1.Texts).map (D.int .i64)) false))]]) (H47.sl [4,5,6,0,1,2,3] rfl rfl) rfl (aH rfl rfl) (iL E n _ _ _ hzz48 b16 v42 ws43 w44) (.cons (.refl _) (.cons (.refl _) .nil)) rfl ?_
   rintro _ S49 _ ⟨rfl,rfl⟩ H50
   have H51:Has aK S49 [.box b27 [(.d (.str z23.Tag)),(.d (.str z23.Key)),(.d (.str z23.Text)),(.d (.sl ((z23.aL).map az) false)),(.d (.sl ((z23.Kids).map ak) false))],.box b24 [(.d (.str z22.Tag)),(.d (.str z22.Key)),(.d (.str z22.Text)),(.d (.sl ((z22.aL).map az) false)),(.d (.sl ((z22.Kids).map ak) false))],.box b6 [(.d (.sl ((a2.Under).map (D.int .i64)) false)),(.d (.sl ((a2.Kinds).map (D.int .i64)) false)),(.d (.sl ((a2.Keys).map (D.int .i64)) false)),(.d (.sl ((a2.Texts).map (D.int .i64)) false))],.box b3 [(.d (.sl ((a1.Under).map (D.int .i64)) false)),(.d (.sl ((a1.Kinds).map (D.int .i64)) false)),(.d (.sl ((a1.Keys).map (D.int .i64)) false)),(.d (.sl ((a1.Texts).map (D.int .i64)) false))],.box b16 [v42,w44],aA ae ah.kids 7 5 v42 ws43 z41.2.l none,aI w44 z41.2.freed]:=H50.sl [3,4,5,6,0,1,2] rfl rfl
   refine aj.val rfl (au rfl) rfl ?_
   refine aj.nil ?_
   refine aC.seq ?_
   refine aC.region E.obj rfl ?_
   refine aj.val rfl (aa rfl) rfl ?_
   obtain ⟨z52,hzz52,h⟩:=bind_some h
   refine aj.eF (ins:=[.box b16 [v42,w44],aA ae ah.kids 7 5 v42 ws43 z41.2.l none,aI w44 z41.2.freed]) (more:=[.box b27 [(.d (.str z23.Tag)),(.d (.str z23.Key)),(.d (.str z23.Text)),(.d (.sl ((z23.aL).map az) false)),(.d (.sl ((z23.Kids).map ak) false))],.box b24 [(.d (.str z22.Tag)),(.d (.str z22.Key)),(.d (.str z22.Text)),(.d (.sl ((z22.aL).map az) false)),(.d (.sl ((z22.Kids).map ak) false))],.box b6 [(.d (.sl ((a2.Under).map (D.int .i64)) false)),(.d (.sl ((a2.Kinds).map (D.int .i64)) false)),(.d (.sl ((a2.Keys).map (D.int .i64)) false)),(.d (.sl ((a2.Texts).map (D.int .i64)) false))],.box b3 [(.d (.sl ((a1.Under).map (D.int .i64)) false)),(.d (.sl ((a1.Kinds).map (D.int .i64)) false)),(.d (.sl ((a1.Keys).map (D.int .i64)) false)),(.d (.sl ((a1.Texts).map (D.int .i64)) false))]]) (H51.sl [4,5,6,0,1,2,3] rfl rfl) rfl (aH rfl rfl) (dF E n _ _ hzz52 b16 v42 ws43 w44) (.cons (.refl _) .nil) rfl ?_
   rintro _ S53 _ ⟨rfl,rfl⟩ H54
   have H55:Has aK S53 [.box b27 [(.d (.str z23.Tag)),(.d (.str z23.Key)),(.d (.str z23.Text)),(.d (.sl ((z23.aL).map az) false)),(.d (.sl ((z23.Kids).map ak) false))],.box b24 [(.d (.str z22.Tag)),(.d (.str z22.Key)),(.d (.str z22.Text)),(.d (.sl ((z22.aL).map az) false)),(.d (.sl ((z22.Kids).map ak) false))],.box b6 [(.d (.sl ((a2.Under).map (D.int .i64)) false)),(.d (.sl ((a2.Kinds).map (D.int .i64)) false)),(.d (.sl ((a2.Keys).map (D.int .i64)) false)),(.d (.sl ((a2.Texts).map (D.int .i64)) false))],.box b3 [(.d (.sl ((a1.Under).map (D.int .i64)) false)),(.d (.sl ((a1.Kinds).map (D.int .i64)) false)),(.d (.sl ((a1.Keys).map (D.int .i64)) false)),(.d (.sl ((a1.Texts).map (D.int .i64)) false))],.box b16 [v42,w44],aA ae ah.kids 7 5 v42 ws43 z41.2.l none,aI w44 z41.2.freed]:=H54.sl [3,4,5,6,0,1,2] rfl rfl
   refine aj.val rfl (au rfl) rfl ?_
   refine aj.nil ?_
   refine aC.seq ?_
   refine aC.seq ?_
   refine aC.region E.obj rfl ?_
   refine aj.val rfl (aa rfl) rfl ?_
   refine aj.val rfl (aa rfl) rfl ?_
   refine aj.val rfl (aJ H55 (i:=1) rfl rfl (aZ fA bY rfl)) rfl ?_
   refine aj.less (Less.agg' (d:=ak z22) (ax.eq rfl (ax.eq rfl (ax.eq rfl (ax.eq rfl (ax.eq rfl .nil))))) ((Tree.eq _).trans rfl)) ?_
   obtain ⟨z56,hzz56,h⟩:=bind_some h
   refine aj.eF (ins:=[.box b16 [v42,w44],aA ae ah.kids 7 5 v42 ws43 z41.2.l none,aI w44 z41.2.freed]) (more:=[.box b27 [(.d (.str z23.Tag)),(.d (.str z23.Key)),(.d (.str z23.Text)),(.d (.sl ((z23.aL).map az) false)),(.d (.sl ((z23.Kids).map ak) false))],.box b24 [(.d (.str z22.Tag)),(.d (.str z22.Key)),(.d (.str z22.Text)),(.d (.sl ((z22.aL).map az) false)),(.d (.sl ((z22.Kids).map ak) false))],.box b6 [(.d (.sl ((a2.Under).map (D.int .i64)) false)),(.d (.sl ((a2.Kinds).map (D.int .i64)) false)),(.d (.sl ((a2.Keys).map (D.int .i64)) false)),(.d (.sl ((a2.Texts).map (D.int .i64)) false))],.box b3 [(.d (.sl ((a1.Under).map (D.int .i64)) false)),(.d (.sl ((a1.Kinds).map (D.int .i64)) false)),(.d (.sl ((a1.Keys).map (D.int .i64)) false)),(.d (.sl ((a1.Texts).map (D.int .i64)) false))]]) (H55.sl [4,5,6,0,1,2,3] rfl rfl) rfl (aH rfl rfl) (kL E n _ _ _ _ hzz56 b16 v42 ws43 w44) (.cons (.refl _) (.cons (.refl _) (.cons (.refl _) .nil))) rfl ?_
   rintro _ S60 _ ⟨rfl,v57,ws58,w59,rfl⟩ H61
   have H62:Has aK S60 [.box b27 [(.d (.str z23.Tag)),(.d (.str z23.Key)),(.d (.str z23.Text)),(.d (.sl ((z23.aL).map az) false)),(.d (.sl ((z23.Kids).map ak) false))],.box b24 [(.d (.str z22.Tag)),(.d (.str z22.Key)),(.d (.str z22.Text)),(.d (.sl ((z22.aL).map az) false)),(.d (.sl ((z22.Kids).map ak) false))],.box b6 [(.d (.sl ((a2.Under).map (D.int .i64)) false)),(.d (.sl ((a2.Kinds).map (D.int .i64)) false)),(.d (.sl ((a2.Keys).map (D.int .i64)) false)),(.d (.sl ((a2.Texts).map (D.int .i64)) false))],.box b3 [(.d (.sl ((a1.Under).map (D.int .i64)) false)),(.d (.sl ((a1.Kinds).map (D.int .i64)) false)),(.d (.sl ((a1.Keys).map (D.int .i64)) false)),(.d (.sl ((a1.Texts).map (D.int .i64)) false))],.box b16 [v57,w59],aA ae ah.kids 7 5 v57 ws58 z56.2.l none,aI w59 z56.2.freed]:=H61.sl [3,4,5,6,0,1,2] rfl rfl
   refine aj.val rfl (iI rfl) rfl ?_
   refine aj.val rfl (aa rfl) rfl ?_
   rcases Bool.eq_false_or_eq_true ((!z56.1)) with hB63 | hB63
   ·
    replace h:=dE hB63 h
    refine aj.bool hB63 ?_
    refine aj.no rfl rfl ?_
    refine aj.no rfl rfl ?_
    refine aj.no rfl rfl ?_
    refine aj.no rfl rfl ?_
    refine aj.no rfl rfl ?_
    refine aj.no rfl rfl ?_
    refine aj.val rfl (aB (b:=true) rfl rfl) rfl ?_
    refine aj.val rfl (aa rfl) rfl ?_
    refine aj.no rfl rfl ?_
    refine aj.no rfl rfl ?_
    refine aj.no rfl rfl ?_
    refine aj.no rfl rfl ?_
    refine aj.val rfl (aB (b:=true) rfl rfl) rfl ?_
    refine aj.nil ?_
    refine aC.cond rfl (fun hb=>?_) (fun hb=>?_)
    ·
     refine aC.seq ?_
     refine aC.region E.obj rfl ?_
     refine aj.val rfl (au rfl) rfl ?_
     refine aj.nil ?_
     have hr:=Option.some.inj h
     subst hr
     exact aC.ret ⟨_,rfl,rfl,jW (aQ.eq .nil)⟩
    ·
     cases hb
   ·
    replace h:=dG hB63 h
    refine aj.bool hB63 ?_
    refine aj.val rfl (aa rfl) rfl ?_
    refine aj.val rfl (aa rfl) rfl ?_
    obtain ⟨z64,hzz64,h⟩:=bind_some h
    refine aj.eF (ins:=[.box b16 [v57,w59],aA ae ah.kids 7 5 v57 ws58 z56.2.l none,aI w59 z56.2.freed]) (more:=[.box b27 [(.d (.str z23.Tag)),(.d (.str z23.Key)),(.d (.str z23.Text)),(.d (.sl ((z23.aL).map az) false)),(.d (.sl ((z23.Kids).map ak) false))],.box b24 [(.d (.str z22.Tag)),(.d (.str z22.Key)),(.d (.str z22.Text)),(.d (.sl ((z22.aL).map az) false)),(.d (.sl ((z22.Kids).map ak) false))],.box b6 [(.d (.sl ((a2.Under).map (D.int .i64)) false)),(.d (.sl ((a2.Kinds).map (D.int .i64)) false)),(.d (.sl ((a2.Keys).map (D.int .i64)) false)),(.d (.sl ((a2.Texts).map (D.int .i64)) false))],.box b3 [(.d (.sl ((a1.Under).map (D.int .i64)) false)),(.d (.sl ((a1.Kinds).map (D.int .i64)) false)),(.d (.sl ((a1.Keys).map (D.int .i64)) false)),(.d (.sl ((a1.Texts).map (D.int .i64)) false))]]) (H62.sl [4,5,6,0,1,2,3] rfl rfl) rfl (aH rfl rfl) (iL E n _ _ _ hzz64 b16 v57 ws58 w59) (.cons (.refl _) (.cons (.refl _) .nil)) rfl ?_
    rintro _ S65 _ ⟨rfl,rfl⟩ H66
    have H67:Has aK S65 [.box b27 [(.d (.str z23.Tag)),(.d (.str z23.Key)),(.d (.str z23.Text)),(.d (.sl ((z23.aL).map az) false)),(.d (.sl ((z23.Kids).map ak) false))],.box b24 [(.d (.str z22.Tag)),(.d (.str z22.Key)),(.d (.str z22.Text)),(.d (.sl ((z22.aL).map az) false)),(.d (.sl ((z22.Kids).map ak) false))],.box b6 [(.d (.sl ((a2.Under).map (D.int .i64)) false)),(.d (.sl ((a2.Kinds).map (D.int .i64)) false)),(.d (.sl ((a2.Keys).map (D.int .i64)) false)),(.d (.sl ((a2.Texts).map (D.int .i64)) false))],.box b3 [(.d (.sl ((a1.Under).map (D.int .i64)) false)),(.d (.sl ((a1.Kinds).map (D.int .i64)) false)),(.d (.sl ((a1.Keys).map (D.int .i64)) false)),(.d (.sl ((a1.Texts).map (D.int .i64)) false))],.box b16 [v57,w59],aA ae ah.kids 7 5 v57 ws58 z56.2.l none,aI w59 z56.2.freed]:=H66.sl [3,4,5,6,0,1,2] rfl rfl
    refine aj.val rfl (aa rfl) rfl ?_
    obtain ⟨z68,hzz68,h⟩:=bind_some h
    refine aj.ret rfl (aH rfl rfl) (qa E _ _ _ _ hzz68 _ _ (aQ.eq (aQ.eq .nil))) rfl ?_
    refine aj.val rfl (iI rfl) rfl ?_
    refine aj.val rfl (aB (b:=false) rfl rfl) rfl ?_
    refine aj.val rfl (aa rfl) rfl ?_
    rcases Bool.eq_false_or_eq_true ((!z68)) with hB69 | hB69
    ·
     replace h:=dE hB69 h
     refine aj.bool hB69 ?_
     refine aj.no rfl rfl ?_
     refine aj.no rfl rfl ?_
     refine aj.no rfl rfl ?_
     refine aj.no rfl rfl ?_
     refine aj.val rfl (aB (b:=true) rfl rfl) rfl ?_
     refine aj.nil ?_
     refine aC.cond rfl (fun hb=>?_) (fun hb=>?_)
     ·
      refine aC.seq ?_
      refine aC.region E.obj rfl ?_
      refine aj.val rfl (au rfl) rfl ?_
      refine aj.nil ?_
      have hr:=Option.some.inj h
      subst hr
      exact aC.ret ⟨_,rfl,rfl,jW (aQ.eq .nil)⟩
     ·
      cases hb
    ·
     replace h:=dG hB69 h
     refine aj.bool hB69 ?_
     refine aj.val rfl (aa rfl) rfl ?_
     obtain ⟨z70,hzz70,h⟩:=bind_some h
     refine aj.eF (ins:=[.box b16 [v57,w59],aA ae ah.kids 7 5 v57 ws58 z56.2.l none,aI w59 z56.2.freed]) (more:=[.box b27 [(.d (.str z23.Tag)),(.d (.str z23.Key)),(.d (.str z23.Text)),(.d (.sl ((z23.aL).map az) false)),(.d (.sl ((z23.Kids).map ak) false))],.box b24 [(.d (.str z22.Tag)),(.d (.str z22.Key)),(.d (.str z22.Text)),(.d (.sl ((z22.aL).map az) false)),(.d (.sl ((z22.Kids).map ak) false))],.box b6 [(.d (.sl ((a2.Under).map (D.int .i64)) false)),(.d (.sl ((a2.Kinds).map (D.int .i64)) false)),(.d (.sl ((a2.Keys).map (D.int .i64)) false)),(.d (.sl ((a2.Texts).map (D.int .i64)) false))],.box b3 [(.d (.sl ((a1.Under).map (D.int .i64)) false)),(.d (.sl ((a1.Kinds).map (D.int .i64)) false)),(.d (.sl ((a1.Keys).map (D.int .i64)) false)),(.d (.sl ((a1.Texts).map (D.int .i64)) false))]]) (H67.sl [4,5,6,0,1,2,3] rfl rfl) rfl (aH rfl rfl) (dF E n _ _ hzz70 b16 v57 ws58 w59) (.cons (.refl _) .nil) rfl ?_
     rintro _ S71 _ ⟨rfl,rfl⟩ H72
     have H73:Has aK S71 [.box b27 [(.d (.str z23.Tag)),(.d (.str z23.Key)),(.d (.str z23.Text)),(.d (.sl ((z23.aL).map az) false)),(.d (.sl ((z23.Kids).map ak) false))],.box b24 [(.d (.str z22.Tag)),(.d (.str z22.Key)),(.d (.str z22.Text)),(.d (.sl ((z22.aL).map az) false)),(.d (.sl ((z22.Kids).map ak) false))],.box b6 [(.d (.sl ((a2.Under).map (D.int .i64)) false)),(.d (.sl ((a2.Kinds).map (D.int .i64)) false)),(.d (.sl ((a2.Keys).map (D.int .i64)) false)),(.d (.sl ((a2.Texts).map (D.int .i64)) false))],.box b3 [(.d (.sl ((a1.Under).map (D.int .i64)) false)),(.d (.sl ((a1.Kinds).map (D.int .i64)) false)),(.d (.sl ((a1.Keys).map (D.int .i64)) false)),(.d (.sl ((a1.Texts).map (D.int .i64)) false))],.box b16 [v57,w59],aA ae ah.kids 7 5 v57 ws58 z56.2.l none,aI w59 z56.2.freed]:=H72.sl [3,4,5,6,0,1,2] rfl rfl
     refine aj.val rfl (aa rfl) rfl ?_
     refine aj.val rfl (aD rfl rfl jd) rfl ?_
     refine aj.val rfl (aB (b:=false) rfl rfl) rfl ?_
     refine aj.nil ?_
     refine aC.cond rfl (fun hb74=>?_) (fun hb74=>?_)
     ·
      replace h:=dE hb74 h
      refine aC.seq ?_
      refine aC.region E.obj rfl ?_
      refine aj.val rfl (au rfl) rfl ?_
      refine aj.nil ?_
      have hr:=Option.some.inj h
      subst hr
      exact aC.ret ⟨_,rfl,rfl,jW (aQ.eq .nil)⟩
     ·
      replace h:=dG hb74 h
      refine aC.skip ?_
      refine aC.seq ?_
      refine aC.region E.obj rfl ?_
      refine aj.val rfl (aF rfl jV rT rfl) rfl ?_
      refine aj.val rfl (aJ H73 (i:=1) rfl rfl (aU uW rfl)) rfl ?_
      refine aj.val rfl (aF rfl jV rT rfl) rfl ?_
      refine aj.val rfl (aJ H73 (i:=0) rfl rfl (aU uW rfl)) rfl ?_
      obtain ⟨z75,hzz75,h⟩:=bind_some h
      refine aj.ret rfl (aH rfl rfl) (ui E _ _ _ _ hzz75 _ _ (aQ.eq (aQ.eq .nil))) rfl ?_
      refine aj.val rfl (au rfl) rfl ?_
      refine aj.nil ?_
      refine aC.seq ?_
      refine aC.seq ?_
      refine aC.region E.obj rfl ?_
      refine aj.val rfl (aa rfl) rfl ?_
      refine aj.val rfl (aa rfl) rfl ?_
      refine aj.val rfl (aJ H73 (i:=0) rfl rfl (aZ fA bY rfl)) rfl ?_
      refine aj.less (Less.agg' (d:=ak z23) (ax.eq rfl (ax.eq rfl (ax.eq rfl (ax.eq rfl (ax.eq rfl .nil))))) ((Tree.eq _).trans rfl)) ?_
      obtain ⟨z76,hzz76,h⟩:=bind_some h
      refine aj.eF (ins:=[.box b16 [v57,w59],aA ae ah.kids 7 5 v57 ws58 z56.2.l none,aI w59 z56.2.freed]) (more:=[.box b27 [(.d (.str z23.Tag)),(.d (.str z23.Key)),(.d (.str z23.Text)),(.d (.sl ((z23.aL).map az) false)),(.d (.sl ((z23.Kids).map ak) false))],.box b24 [(.d (.str z22.Tag)),(.d (.str z22.Key)),(.d (.str z22.Text)),(.d (.sl ((z22.aL).map az) false)),(.d (.sl ((z22.Kids).map ak) false))],.box b6 [(.d (.sl ((a2.Under).map (D.int .i64)) false)),(.d (.sl ((a2.Kinds).map (D.int .i64)) false)),(.d (.sl ((a2.Keys).map (D.int .i64)) false)),(.d (.sl ((a2.Texts).map (D.int .i64)) false))],.box b3 [(.d (.sl ((a1.Under).map (D.int .i64)) false)),(.d (.sl ((a1.Kinds).map (D.int .i64)) false)),(.d (.sl ((a1.Keys).map (D.int .i64)) false)),(.d (.sl ((a1.Texts).map (D.int .i64)) false))]]) (H73.sl [4,5,6,0,1,2,3] rfl rfl) rfl (aH rfl rfl) (kL E n _ _ _ _ hzz76 b16 v57 ws58 w59) (.cons (.refl _) (.cons (.refl _) (.cons (.refl _) .nil))) rfl ?_
      rintro _ S80 _ ⟨rfl,v77,ws78,w79,rfl⟩ H81
      have H82:Has aK S80 [.box b27 [(.d (.str z23.Tag)),(.d (.str z23.Key)),(.d (.str z23.Text)),(.d (.sl ((z23.aL).map az) false)),(.d (.sl ((z23.Kids).map ak) false))],.box b24 [(.d (.str z22.Tag)),(.d (.str z22.Key)),(.d (.str z22.Text)),(.d (.sl ((z22.aL).map az) false)),(.d (.sl ((z22.Kids).map ak) false))],.box b6 [(.d (.sl ((a2.Under).map (D.int .i64)) false)),(.d (.sl ((a2.Kinds).map (D.int .i64)) false)),(.d (.sl ((a2.Keys).map (D.int .i64)) false)),(.d (.sl ((a2.Texts).map (D.int .i64)) false))],.box b3 [(.d (.sl ((a1.Under).map (D.int .i64)) false)),(.d (.sl ((a1.Kinds).map (D.int .i64)) false)),(.d (.sl ((a1.Keys).map (D.int .i64)) false)),(.d (.sl ((a1.Texts).map (D.int .i64)) false))],.box b16 [v77,w79],aA ae ah.kids 7 5 v77 ws78 z76.2.l none,aI w79 z76.2.freed]:=H81.sl [3,4,5,6,0,1,2] rfl rfl
      refine aj.val rfl (iI rfl) rfl ?_
      refine aj.nil ?_
      refine aC.cond rfl (fun hb83=>?_) (fun hb83=>?_)
      ·
       replace h:=dE hb83 h
       refine aC.seq ?_
       refine aC.region E.obj rfl ?_
       refine aj.val rfl (au rfl) rfl ?_
       refine aj.nil ?_
       have hr:=Option.some.inj h
       subst hr
       exact aC.ret ⟨_,rfl,rfl,jW (aQ.eq .nil)⟩
      ·
       replace h:=dG hb83 h
       refine aC.skip ?_
       refine aC.seq ?_
       refine aC.region E.obj rfl ?_
       refine aj.val rfl (aa rfl) rfl ?_
       refine aj.val rfl (aa rfl) rfl ?_
       obtain ⟨z84,hzz84,h⟩:=bind_some h
       refine aj.eF (ins:=[.box b16 [v77,w79],aA ae ah.kids 7 5 v77 ws78 z76.2.l none,aI w79 z76.2.freed]) (more:=[.box b27 [(.d (.str z23.Tag)),(.d (.str z23.Key)),(.d (.str z23.Text)),(.d (.sl ((z23.aL).map az) false)),(.d (.sl ((z23.Kids).map ak) false))],.box b24 [(.d (.str z22.Tag)),(.d (.str z22.Key)),(.d (.str z22.Text)),(.d (.sl ((z22.aL).map az) false)),(.d (.sl ((z22.Kids).map ak) false))],.box b6 [(.d (.sl ((a2.Under).map (D.int .i64)) false)),(.d (.sl ((a2.Kinds).map (D.int .i64)) false)),(.d (.sl ((a2.Keys).map (D.int .i64)) false)),(.d (.sl ((a2.Texts).map (D.int .i64)) false))],.box b3 [(.d (.sl ((a1.Under).map (D.int .i64)) false)),(.d (.sl ((a1.Kinds).map (D.int .i64)) false)),(.d (.sl ((a1.Keys).map (D.int .i64)) false)),(.d (.sl ((a1.Texts).map (D.int .i64)) false))]]) (H82.sl [4,5,6,0,1,2,3] rfl rfl) rfl (aH rfl rfl) (iL E n _ _ _ hzz84 b16 v77 ws78 w79) (.cons (.refl _) (.cons (.refl _) .nil)) rfl ?_
       rintro _ S85 _ ⟨rfl,rfl⟩ H86
       have H87:Has aK S85 [.box b27 [(.d (.str z23.Tag)),(.d (.str z23.Key)),(.d (.str z23.Text)),(.d (.sl ((z23.aL).map az) false)),(.d (.sl ((z23.Kids).map ak) false))],.box b24 [(.d (.str z22.Tag)),(.d (.str z22.Key)),(.d (.str z22.Text)),(.d (.sl ((z22.aL).map az) false)),(.d (.sl ((z22.Kids).map ak) false))],.box b6 [(.d (.sl ((a2.Under).map (D.int .i64)) false)),(.d (.sl ((a2.Kinds).map (D.int .i64)) false)),(.d (.sl ((a2.Keys).map (D.int .i64)) false)),(.d (.sl ((a2.Texts).map (D.int .i64)) false))],.box b3 [(.d (.sl ((a1.Under).map (D.int .i64)) false)),(.d (.sl ((a1.Kinds).map (D.int .i64)) false)),(.d (.sl ((a1.Keys).map (D.int .i64)) false)),(.d (.sl ((a1.Texts).map (D.int .i64)) false))],.box b16 [v77,w79],aA ae ah.kids 7 5 v77 ws78 z76.2.l none,aI w79 z76.2.freed]:=H86.sl [3,4,5,6,0,1,2] rfl rfl
       refine aj.val rfl (au rfl) rfl ?_
       refine aj.nil ?_
       refine aC.seq ?_
       refine aC.region E.obj rfl ?_
       refine aj.val rfl (aa rfl) rfl ?_
       refine aj.val rfl (aa rfl) rfl ?_
       obtain ⟨z88,hzz88,h⟩:=bind_some h
       refine aj.eF (ins:=[.box b16 [v77,w79],aA ae ah.kids 7 5 v77 ws78 z76.2.l none,aI w79 z76.2.freed]) (more:=[.box b27 [(.d (.str z23.Tag)),(.d (.str z23.Key)),(.d (.str z23.Text)),(.d (.sl ((z23.aL).map az) false)),(.d (.sl ((z23.Kids).map ak) false))],.box b24 [(.d (.str z22.Tag)),(.d (.str z22.Key)),(.d (.str z22.Text)),(.d (.sl ((z22.aL).map az) false)),(.d (.sl ((z22.Kids).map ak) false))],.box b6 [(.d (.sl ((a2.Under).map (D.int .i64)) false)),(.d (.sl ((a2.Kinds).map (D.int .i64)) false)),(.d (.sl ((a2.Keys).map (D.int .i64)) false)),(.d (.sl ((a2.Texts).map (D.int .i64)) false))],.box b3 [(.d (.sl ((a1.Under).map (D.int .i64)) false)),(.d (.sl ((a1.Kinds).map (D.int .i64)) false)),(.d (.sl ((a1.Keys).map (D.int .i64)) false)),(.d (.sl ((a1.Texts).map (D.int .i64)) false))]]) (H87.sl [4,5,6,0,1,2,3] rfl rfl) rfl (aH rfl rfl) (kP E n _ _ _ hzz88 b16 v77 ws78 w79) (.cons (.refl _) (.cons (.refl _) .nil)) rfl ?_
       rintro _ S89 _ ⟨rfl,rfl⟩ H90
       have H91:Has aK S89 [.box b27 [(.d (.str z23.Tag)),(.d (.str z23.Key)),(.d (.str z23.Text)),(.d (.sl ((z23.aL).map az) false)),(.d (.sl ((z23.Kids).map ak) false))],.box b24 [(.d (.str z22.Tag)),(.d (.str z22.Key)),(.d (.str z22.Text)),(.d (.sl ((z22.aL).map az) false)),(.d (.sl ((z22.Kids).map ak) false))],.box b6 [(.d (.sl ((a2.Under).map (D.int .i64)) false)),(.d (.sl ((a2.Kinds).map (D.int .i64)) false)),(.d (.sl ((a2.Keys).map (D.int .i64)) false)),(.d (.sl ((a2.Texts).map (D.int .i64)) false))],.box b3 [(.d (.sl ((a1.Under).map (D.int .i64)) false)),(.d (.sl ((a1.Kinds).map (D.int .i64)) false)),(.d (.sl ((a1.Keys).map (D.int .i64)) false)),(.d (.sl ((a1.Texts).map (D.int .i64)) false))],.box b16 [v77,w79],aA ae ah.kids 7 5 v77 ws78 z76.2.l none,aI w79 z76.2.freed]:=H90.sl [3,4,5,6,0,1,2] rfl rfl
       refine aj.val rfl (aa rfl) rfl ?_
       refine aj.val rfl (iR rfl rfl) rfl ?_
       refine aj.val rfl (iR rfl rfl) rfl ?_
       refine aj.alloc H91 rfl qo jv rfl rfl (fun b92 S93 H94=>?_)
       refine aj.store H94 (i:=0) rfl rfl rfl rfl (Tree.dN _) rfl bY rfl kF rfl rfl rfl (fun S95 H96=>?_)
       refine aj.val rfl (au rfl) rfl ?_
       refine aj.nil ?_
       refine aC.seq ?_
       refine aC.join (B:=aK) (α:=Bool) (fun a=>bU n z22 z41 z48 z52 z75 z76 z84 a=some r) (fun a=>[(5,(.ptr b16 0 0)),(6,(.ptr b24 0 0)),(8,(.d (.int .i64 z41.1))),(9,(.d (.sl ((z48).map (D.int .i64)) false))),(10,(.d (.int .i64 z52))),(11,(.d (.sl ((z75).map (D.int .i64)) false))),(12,(.d (.sl ((z84).map (D.int .i64)) false))),(94,(.d (.bool a)))]) (fun a=>[.box b24 [(.d (.str z22.Tag)),(.d (.str z22.Key)),(.d (.str z22.Text)),(.d (.sl ((z22.aL).map az) false)),(.d (.sl ((z22.Kids).map ak) false))],.box b16 [v77,w79],aA ae ah.kids 7 5 v77 ws78 z76.2.l none,aI w79 z76.2.freed]) ?_ ?_
       ·
        intro x99 S97 H98 h
        replace h:bU n z22 z41 z48 z52 z75 z76 z84 x99=some r:=h
        replace H98:Has aK S97 [.box b24 [(.d (.str z22.Tag)),(.d (.str z22.Key)),(.d (.str z22.Text)),(.d (.sl ((z22.aL).map az) false)),(.d (.sl ((z22.Kids).map ak) false))],.box b16 [v77,w79],aA ae ah.kids 7 5 v77 ws78 z76.2.l none,aI w79 z76.2.freed]:=H98
        unfold bU at h
        refine aC.cond rfl (fun hb101=>?_) (fun hb101=>?_)
        ·
         replace h:=dE hb101 h
         refine aC.seq ?_
         refine aC.region E.obj rfl ?_
         refine aj.val rfl (au rfl) rfl ?_
         refine aj.nil ?_
         have hr:=Option.some.inj h
         subst hr
         exact aC.ret ⟨_,rfl,rfl,jW (aQ.eq .nil)⟩
        ·
         replace h:=dG hb101 h
         refine aC.skip ?_
         refine aC.seq ?_
         refine aC.seq ?_
         refine aC.region E.obj rfl ?_
         refine aj.val rfl (aa rfl) rfl ?_
         refine aj.val rfl (bu rfl jh) rfl ?_
         refine aj.val rfl (aa rfl) rfl ?_
         refine aj.nil ?_
         refine aC.block ?_
         refine qd.start (B:=aK) (α:=Int) (fun k a=>aV n z22 z41 z48 z52 z75 z76 z84 k a=some r) (fun a=>[(5,(.ptr b16 0 0)),(6,(.ptr b24 0 0)),(8,(.d (.int .i64 z41.1))),(9,(.d (.sl ((z48).map (D.int .i64)) false))),(10,(.d (.int .i64 z52))),(12,(.d (.sl ((z84).map (D.int .i64)) false))),(95,(.d (.sl ((z75).map (D.int .i64)) false))),(96,(.d (.int .i64 ((z75).length:Int)))),(97,(.d (.int .i64 a)))]) (fun a=>[.box b24 [(.d (.str z22.Tag)),(.d (.str z22.Key)),(.d (.str z22.Text)),(.d (.sl ((z22.aL).map az) false)),(.d (.sl ((z22.Kids).map ak) false))],.box b16 [v77,w79],aA ae ah.kids 7 5 v77 ws78 z76.2.l none,aI w79 z76.2.freed]) ?_ ?_ n ⟨0,_,_,S97,.refl _ _,.refl _,(ai.r rfl (ai.r rfl (ai.r rfl (ai.r rfl (ai.r rfl (ai.r rfl (ai.r rfl (ai.r rfl (ai.r rfl ai.nil))))))))),H98.sl [0,1,2,3] rfl rfl,h⟩
         ·
          intro a h; simp [aV] at h
         ·
          intro k110 x109 S107 H108 h
          replace h:aV n z22 z41 z48 z52 z75 z76 z84 (k110 + 1) x109=some r:=h
          replace H108:Has aK S107 [.box b24 [(.d (.str z22.Tag)),(.d (.str z22.Key)),(.d (.str z22.Text)),(.d (.sl ((z22.aL).map az) false)),(.d (.sl ((z22.Kids).map ak) false))],.box b16 [v77,w79],aA ae ah.kids 7 5 v77 ws78 z76.2.l none,aI w79 z76.2.freed]:=H108
          unfold aV at h
          refine aC.seq ?_
          refine aC.region E.obj rfl ?_
          refine aj.val rfl (aD rfl rfl dO) rfl ?_
          refine aj.nil ?_
          refine aC.seq ?_
          refine aC.cond rfl (fun hb111=>?_) (fun hb111=>?_)
          ·
           replace h:=dE hb111 h
           refine aC.skip ?_
           refine aC.seq ?_
           refine aC.block ?_
           refine aC.seq ?_
           refine aC.region E.obj rfl ?_
           refine aj.val rfl (aa rfl) rfl ?_
           obtain ⟨z112,hzz112,h⟩:=bind_some h
           refine aj.val rfl (bA rfl rfl (bS (enc:=(D.int .i64)) hzz112 fH pz (((fun _=>rfl) _).trans kH.symm))) rfl ?_
           refine aj.val rfl (aW rfl (bK nU rfl)) rfl ?_
           refine aj.val rfl (au rfl) rfl ?_
           refine aj.val rfl (au rfl) rfl ?_
           refine aj.nil ?_
           refine aC.join (B:=aK) (α:=Bool) (fun a=>bT x109 (aV n z22 z41 z48 z52 z75 z76 z84 k110) a=some r) (fun a=>[(5,(.ptr b16 0 0)),(6,(.ptr b24 0 0)),(8,(.d (.int .i64 z41.1))),(9,(.d (.sl ((z48).map (D.int .i64)) false))),(10,(.d (.int .i64 z52))),(12,(.d (.sl ((z84).map (D.int .i64)) false))),(95,(.d (.sl ((z75).map (D.int .i64)) false))),(96,(.d (.int .i64 ((z75).length:Int)))),(97,(.d (.int .i64 x109))),(120,(.d (.bool a)))]) (fun a=>[.box b24 [(.d (.str z22.Tag)),(.d (.str z22.Key)),(.d (.str z22.Text)),(.d (.sl ((z22.aL).map az) false)),(.d (.sl ((z22.Kids).map ak) false))],.box b16 [v77,w79],aA ae ah.kids 7 5 v77 ws78 z76.2.l none,aI w79 z76.2.freed]) ?_ ?_
           ·
            intro x115 S113 H114 h
            replace h:bT x109 (aV n z22 z41 z48 z52 z75 z76 z84 k110) x115=some r:=h
            replace H114:Has aK S113 [.box b24 [(.d (.str z22.Tag)),(.d (.str z22.Key)),(.d (.str z22.Text)),(.d (.sl ((z22.aL).map az) false)),(.d (.sl ((z22.Kids).map ak) false))],.box b16 [v77,w79],aA ae ah.kids 7 5 v77 ws78 z76.2.l none,aI w79 z76.2.freed]:=H114
            unfold bT at h
            refine aC.cond rfl (fun hb117=>?_) (fun hb117=>?_)
            ·
             replace h:=dE hb117 h
             refine aC.seq ?_
             refine aC.region E.obj rfl ?_
             refine aj.val rfl (au rfl) rfl ?_
             refine aj.nil ?_
             have hr:=Option.some.inj h
             subst hr
             exact aC.ret ⟨_,rfl,rfl,jW (aQ.eq .nil)⟩
            ·
             replace h:=dG hb117 h
             refine aC.skip ?_
             refine aC.region E.obj rfl ?_
             refine aj.val rfl (aD rfl rfl dx) rfl ?_
             refine aj.val rfl (aa rfl) rfl ?_
             refine aj.nil ?_
             exact ⟨(IntKind.wrap .i64 (x109 + 1)),_,_,S113,.refl _ _,.refl _,(ai.r rfl (ai.r rfl (ai.r rfl (ai.r rfl (ai.r rfl (ai.r rfl (ai.r rfl (ai.r rfl (ai.r rfl ai.nil))))))))),H114.sl [0,1,2,3] rfl rfl,h⟩
           ·
            rcases Bool.eq_false_or_eq_true ((decide (((z48).length:Int) ≤ z112))) with hb118 | hb118
            ·
             replace h:=dE hb118 h
             refine aC.gG E.obj jr K4 [(5,none),(6,none),(8,none),(9,none),(10,none),(12,none),(95,none),(96,none),(97,none),(120,some 18)] (by kernel_rfl) [] (by decide) [some (.d (.int .i64 z112)),some (.d (.sl ((z48).map (D.int .i64)) false)),some (.d (.int .i64 ((z48).length:Int))),some (.d (.bool (decide (((z48).length:Int) ≤ z112)))),some (.d (.bool true)),some (.tup []),some (.tup []),some (.tup []),some (.tup []),some (.tup []),some (.tup []),some (.tup []),some (.tup []),some (.tup []),some (.tup []),some (.tup []),some (.tup []),some (.tup []),some (.d (.bool true))] ?_
             refine ⟨[0,1,2,3,4,5,6,7,8,9,10,11,12,13,14,15,16,17,18],by kernel_rfl,?_,_,rfl,?_⟩
             ·
              refine .v rfl rfl rfl rfl (aa rfl) ?_
              refine .v rfl rfl rfl rfl (aa rfl) ?_
              refine .v rfl rfl rfl rfl (bu rfl jh) ?_
              refine .v rfl rfl rfl rfl (aD rfl rfl qD) ?_
              refine .cons rfl rfl rfl (.val rfl (aa rfl) (.eq (by rw [hb118]))) ?_
              refine .cons rfl rfl rfl (.no rfl (.refl _)) ?_
              refine .cons rfl rfl rfl (.no rfl (.refl _)) ?_
              refine .cons rfl rfl rfl (.no rfl (.refl _)) ?_
              refine .cons rfl rfl rfl (.no rfl (.refl _)) ?_
              refine .cons rfl rfl rfl (.no rfl (.refl _)) ?_
              refine .cons rfl rfl rfl (.no rfl (.refl _)) ?_
              refine .cons rfl rfl rfl (.no rfl (.refl _)) ?_
              refine .cons rfl rfl rfl (.no rfl (.refl _)) ?_
              refine .cons rfl rfl rfl (.no rfl (.refl _)) ?_
              refine .cons rfl rfl rfl (.no rfl (.refl _)) ?_
              refine .cons rfl rfl rfl (.no rfl (.refl _)) ?_
              refine .cons rfl rfl rfl (.no rfl (.refl _)) ?_
              refine .cons rfl rfl rfl (.no rfl (.refl _)) ?_
              refine .v rfl rfl rfl rfl (aB (b:=true) rfl rfl) ?_
              exact .nil
             exact ⟨true,_,_,S107,.refl _ _,.refl _,(ai.r rfl (ai.r rfl (ai.r rfl (ai.r rfl (ai.r rfl (ai.r rfl (ai.r rfl (ai.r rfl (ai.r rfl (ai.r rfl ai.nil)))))))))),H108.sl [0,1,2,3] rfl rfl,h⟩
            ·
             replace h:=dG hb118 h
             rcases Bool.eq_false_or_eq_true ((decide (0 ≤ z112))) with hb119 | hb119
             ·
              replace h:=dE hb119 h
              obtain ⟨z120,hzz120,h⟩:=bind_some h
              obtain ⟨z121,hzz121,h⟩:=bind_some h
              refine aC.gG E.obj jr K4 [(5,none),(6,none),(8,none),(9,none),(10,none),(12,none),(95,none),(96,none),(97,none),(120,some 18)] (by kernel_rfl) [] (by decide) [some (.d (.int .i64 z112)),some (.d (.sl ((z48).map (D.int .i64)) false)),some (.d (.int .i64 ((z48).length:Int))),some (.d (.bool (decide (((z48).length:Int) ≤ z112)))),some (.d (.bool false)),some (.d (.int .i64 z112)),some (.d (.bool (decide (0 ≤ z112)))),some (.d (.bool true)),some (.d (.sl ((z84).map (D.int .i64)) false)),some (.d (.int .i64 x109)),some (.eptr (.int .i64 z120) 0),some (.d (.int .i64 z120)),some (.d (.sl ((z48).map (D.int .i64)) false)),some (.d (.int .i64 z112)),some (.eptr (.int .i64 z121) 0),some (.d (.int .i64 z121)),some (.d (.bool (z120 != z121))),some (.d (.bool (z120 != z121))),some (.d (.bool (z120 != z121)))] ?_
              refine ⟨[0,1,2,3,4,5,6,7,8,9,10,11,12,13,14,15,16,17,18],by kernel_rfl,?_,_,rfl,?_⟩
              ·
               refine .v rfl rfl rfl rfl (aa rfl) ?_
               refine .v rfl rfl rfl rfl (aa rfl) ?_
               refine .v rfl rfl rfl rfl (bu rfl jh) ?_
               refine .v rfl rfl rfl rfl (aD rfl rfl qD) ?_
               refine .cons rfl rfl rfl (.val rfl (aa rfl) (.eq (by rw [hb118]))) ?_
               refine .v rfl rfl rfl rfl (aa rfl) ?_
               refine .v rfl rfl rfl rfl (aD rfl rfl qD) ?_
               refine .cons rfl rfl rfl (.val rfl (aa rfl) (.eq (by rw [hb119]))) ?_
               refine .v rfl rfl rfl rfl (aa rfl) ?_
               refine .v rfl rfl rfl rfl (aa rfl) ?_
               refine .v rfl rfl rfl rfl (bA rfl rfl (bS (enc:=(D.int .i64)) hzz120 fH pz (((fun _=>rfl) _).trans kH.symm))) ?_
               refine .v rfl rfl rfl rfl (aW rfl (bK nU rfl)) ?_
               refine .v rfl rfl rfl rfl (aa rfl) ?_
               refine .v rfl rfl rfl rfl (aa rfl) ?_
               refine .v rfl rfl rfl rfl (bA rfl rfl (bS (enc:=(D.int .i64)) hzz121 fH pz (((fun _=>rfl) _).trans kH.symm))) ?_
               refine .v rfl rfl rfl rfl (aW rfl (bK nU rfl)) ?_
               refine .v rfl rfl rfl rfl (aD rfl rfl jd) ?_
               refine .v rfl rfl rfl rfl (aB (b:=true) rfl rfl) ?_
               refine .v rfl rfl rfl rfl (aB (b:=false) rfl rfl) ?_
               exact .nil
              exact ⟨(z120 != z121),_,_,S107,.refl _ _,.refl _,(ai.r rfl (ai.r rfl (ai.r rfl (ai.r rfl (ai.r rfl (ai.r rfl (ai.r rfl (ai.r rfl (ai.r rfl (ai.r rfl ai.nil)))))))))),H108.sl [0,1,2,3] rfl rfl,h⟩
             ·
              replace h:=dG hb119 h
              refine aC.gG E.obj jr K4 [(5,none),(6,none),(8,none),(9,none),(10,none),(12,none),(95,none),(96,none),(97,none),(120,some 18)] (by kernel_rfl) [] (by decide) [some (.d (.int .i64 z112)),some (.d (.sl ((z48).map (D.int .i64)) false)),some (.d (.int .i64 ((z48).length:Int))),some (.d (.bool (decide (((z48).length:Int) ≤ z112)))),some (.d (.bool false)),some (.d (.int .i64 z112)),some (.d (.bool (decide (0 ≤ z112)))),some (.d (.bool false)),some (.tup []),some (.tup []),some (.tup []),some (.tup []),some (.tup []),some (.tup []),some (.tup []),some (.tup []),some (.tup []),some (.d (.bool false)),some (.d (.bool false))] ?_
              refine ⟨[0,1,2,3,4,5,6,7,8,9,10,11,12,13,14,15,16,17,18],by kernel_rfl,?_,_,rfl,?_⟩
              ·
               refine .v rfl rfl rfl rfl (aa rfl) ?_
               refine .v rfl rfl rfl rfl (aa rfl) ?_
               refine .v rfl rfl rfl rfl (bu rfl jh) ?_
               refine .v rfl rfl rfl rfl (aD rfl rfl qD) ?_
               refine .cons rfl rfl rfl (.val rfl (aa rfl) (.eq (by rw [hb118]))) ?_
               refine .v rfl rfl rfl rfl (aa rfl) ?_
               refine .v rfl rfl rfl rfl (aD rfl rfl qD) ?_
               refine .cons rfl rfl rfl (.val rfl (aa rfl) (.eq (by rw [hb119]))) ?_
               refine .cons rfl rfl rfl (.no rfl (.refl _)) ?_
               refine .cons rfl rfl rfl (.no rfl (.refl _)) ?_
               refine .cons rfl rfl rfl (.no rfl (.refl _)) ?_
               refine .cons rfl rfl rfl (.no rfl (.refl _)) ?_
               refine .cons rfl rfl rfl (.no rfl (.refl _)) ?_
               refine .cons rfl rfl rfl (.no rfl (.refl _)) ?_
               refine .cons rfl rfl rfl (.no rfl (.refl _)) ?_
               refine .cons rfl rfl rfl (.no rfl (.refl _)) ?_
               refine .cons rfl rfl rfl (.no rfl (.refl _)) ?_
               refine .v rfl rfl rfl rfl (aB (b:=false) rfl rfl) ?_
               refine .v rfl rfl rfl rfl (aB (b:=false) rfl rfl) ?_
               exact .nil
              exact ⟨false,_,_,S107,.refl _ _,.refl _,(ai.r rfl (ai.r rfl (ai.r rfl (ai.r rfl (ai.r rfl (ai.r rfl (ai.r rfl (ai.r rfl (ai.r rfl (ai.r rfl ai.nil)))))))))),H108.sl [0,1,2,3] rfl rfl,h⟩
          ·
           replace h:=dG hb111 h
           refine aC.exit ?_
           refine aC.seq ?_
           refine aC.seq ?_
           refine aC.region E.obj rfl ?_
           refine aj.val rfl (aa rfl) rfl ?_
           refine aj.val rfl (aa rfl) rfl ?_
           refine aj.val rfl (aJ H108 (i:=0) rfl rfl (aZ fA bY rfl)) rfl ?_
           refine aj.less (Less.agg' (d:=ak z22) (ax.eq rfl (ax.eq rfl (ax.eq rfl (ax.eq rfl (ax.eq rfl .nil))))) ((Tree.eq _).trans rfl)) ?_
           obtain ⟨z122,hzz122,h⟩:=bind_some h
           refine aj.eF (ins:=[.box b16 [v77,w79],aA ae ah.kids 7 5 v77 ws78 z76.2.l none,aI w79 z76.2.freed]) (more:=[.box b24 [(.d (.str z22.Tag)),(.d (.str z22.Key)),(.d (.str z22.Text)),(.d (.sl ((z22.aL).map az) false)),(.d (.sl ((z22.Kids).map ak) false))]]) (H108.sl [1,2,3,0] rfl rfl) rfl (aH rfl rfl) (kL E n _ _ _ _ hzz122 b16 v77 ws78 w79) (.cons (.refl _) (.cons (.refl _) (.cons (.refl _) .nil))) rfl ?_
           rintro _ S126 _ ⟨rfl,v123,ws124,w125,rfl⟩ H127
           have H128:Has aK S126 [.box b24 [(.d (.str z22.Tag)),(.d (.str z22.Key)),(.d (.str z22.Text)),(.d (.sl ((z22.aL).map az) false)),(.d (.sl ((z22.Kids).map ak) false))],.box b16 [v123,w125],aA ae ah.kids 7 5 v123 ws124 z122.2.l none,aI w125 z122.2.freed]:=H127.sl [3,0,1,2] rfl rfl
           refine aj.val rfl (iI rfl) rfl ?_
           refine aj.nil ?_
           refine aC.cond rfl (fun hb129=>?_) (fun hb129=>?_)
           ·
            replace h:=dE hb129 h
            refine aC.seq ?_
            refine aC.region E.obj rfl ?_
            refine aj.val rfl (au rfl) rfl ?_
            refine aj.nil ?_
            have hr:=Option.some.inj h
            subst hr
            exact aC.ret ⟨_,rfl,rfl,jW (aQ.eq .nil)⟩
           ·
            replace h:=dG hb129 h
            refine aC.skip ?_
            refine aC.seq ?_
            refine aC.region E.obj rfl ?_
            refine aj.val rfl (aa rfl) rfl ?_
            refine aj.val rfl (aa rfl) rfl ?_
            obtain ⟨z130,hzz130,h⟩:=bind_some h
            refine aj.eF (ins:=[.box b16 [v123,w125],aA ae ah.kids 7 5 v123 ws124 z122.2.l none,aI w125 z122.2.freed]) (more:=[.box b24 [(.d (.str z22.Tag)),(.d (.str z22.Key)),(.d (.str z22.Text)),(.d (.sl ((z22.aL).map az) false)),(.d (.sl ((z22.Kids).map ak) false))]]) (H128.sl [1,2,3,0] rfl rfl) rfl (aH rfl rfl) (kP E n _ _ _ hzz130 b16 v123 ws124 w125) (.cons (.refl _) (.cons (.refl _) .nil)) rfl ?_
            rintro _ S131 _ ⟨rfl,rfl⟩ H132
            have H133:Has aK S131 [.box b24 [(.d (.str z22.Tag)),(.d (.str z22.Key)),(.d (.str z22.Text)),(.d (.sl ((z22.aL).map az) false)),(.d (.sl ((z22.Kids).map ak) false))],.box b16 [v123,w125],aA ae ah.kids 7 5 v123 ws124 z122.2.l none,aI w125 z122.2.freed]:=H132.sl [3,0,1,2] rfl rfl
            refine aj.val rfl (aa rfl) rfl ?_
            refine aj.val rfl (iR rfl rfl) rfl ?_
            refine aj.val rfl (iR rfl rfl) rfl ?_
            refine aj.alloc H133 rfl qo jv rfl rfl (fun b134 S135 H136=>?_)
            refine aj.store H136 (i:=0) rfl rfl rfl rfl (Tree.dN _) rfl bY rfl kF rfl rfl rfl (fun S137 H138=>?_)
            refine aj.val rfl (au rfl) rfl ?_
            refine aj.nil ?_
            refine aC.join (B:=aK) (α:=ay × (List (List AV)) × AV × Bool) (fun a=>bM a.1 a.2.2.2=some r) (fun a=>[(4,(.d (.bool a.2.2.2)))]) (fun a=>[]) ?_ ?_
            ·
             intro a S139 H140 h
             obtain ⟨x141,ws142,w143,x144⟩:=a
             replace h:bM x141 x144=some r:=h
             replace H140:Has aK S139 []:=H140
             unfold bM at h
             have hr:=Option.some.inj h
             subst hr
             exact aC.ret ⟨_,rfl,rfl,jW (aQ.eq .nil)⟩
            ·
             rcases Bool.eq_false_or_eq_true (z130.2) with hb146 | hb146
             ·
              replace h:=dE hb146 h
              obtain ⟨z147,hzz147,h⟩:=bind_some h
              rcases Bool.eq_false_or_eq_true (z147) with hb148 | hb148
              ·
               replace h:=dE hb148 h
               obtain ⟨z149,hzz149,h⟩:=bind_some h
               rcases Bool.eq_false_or_eq_true ((z149 == z52)) with hb153 | hb153
               ·
                replace h:=dE hb153 h
                obtain ⟨z154,hzz154,h⟩:=bind_some h
                obtain ⟨z160,hzz160,h⟩:=bind_some h
                rcases Bool.eq_false_or_eq_true ((z154.1 == z160)) with hb161 | hb161
                ·
                 replace h:=dE hb161 h
                 obtain ⟨z162,hzz162,h⟩:=bind_some h
                 rcases Bool.eq_false_or_eq_true ((z162 == 1)) with hb166 | hb166
                 ·
                  replace h:=dE hb166 h
                  obtain ⟨z167,hzz167,h⟩:=bind_some h
                  refine aC.gG E.obj jr GZ [(4,some 28)] (by kernel_rfl) [8,15,22] (by decide) [some (.d (.bool z130.2)),some (.d (.bool true)),some (.d (ak z130.1)),some (.d (ak z22)),some (.d (.bool z147)),some (.d (.bool z147)),some (.d (.bool true)),some (.ptr b16 0 0),none,some (.d (.int .i64 z52)),none,none,none,none,none,none,none,none,none,none,none,none,none,none,none,none,none,none,none] ?_
                  refine ⟨[0,1,2,3,4,5,6,7,9],by kernel_rfl,?_,_,_,rfl,rfl,.step ?_⟩
                  ·
                   refine .v rfl rfl rfl rfl (aa rfl) ?_
                   refine .cons rfl rfl rfl (.val rfl (aa rfl) (.eq (by rw [hb146]))) ?_
                   refine .cons rfl rfl rfl (.step ?_) ?_
                   ·
                    refine aj.val rfl (aJ H138 (i:=0) rfl rfl (aZ fA bY rfl)) rfl ?_
                    refine aj.less (Less.agg' (d:=ak z130.1) (ax.eq rfl (ax.eq rfl (ax.eq rfl (ax.eq rfl (ax.eq rfl .nil))))) ((Tree.eq _).trans rfl)) ?_
                    exact aj.nil ⟨_,_,rfl,fun _ ht=>by cases ht; exact ⟨rfl,.refl _⟩⟩
                   refine .cons rfl rfl rfl (.step ?_) ?_
                   ·
                    refine aj.val rfl (aJ H138 (i:=1) rfl rfl (aZ fA bY rfl)) rfl ?_
                    refine aj.less (Less.agg' (d:=ak z22) (ax.eq rfl (ax.eq rfl (ax.eq rfl (ax.eq rfl (ax.eq rfl .nil))))) ((Tree.eq _).trans rfl)) ?_
                    exact aj.nil ⟨_,_,rfl,fun _ ht=>by cases ht; exact ⟨rfl,.refl _⟩⟩
                   refine .cons rfl rfl rfl (.step ?_) ?_
                   ·
                    refine aj.ret rfl (aH rfl rfl) (dH E _ _ _ _ hzz147 _ _ (aQ.eq (aQ.eq .nil))) rfl ?_
                    exact aj.nil ⟨_,_,rfl,fun _ ht=>by cases ht; exact ⟨rfl,.refl _⟩⟩
                   refine .v rfl rfl rfl rfl (aB (b:=true) rfl rfl) ?_
                   refine .cons rfl rfl rfl (.val rfl (aa rfl) (.eq (by rw [hb148]))) ?_
                   refine .v rfl rfl rfl rfl (aa rfl) ?_
                   refine .v rfl rfl rfl rfl (aa rfl) ?_
                   exact .nil
                  refine aj.eF (ins:=[.box b16 [v123,w125],aA ae ah.kids 7 5 v123 ws124 z122.2.l none,aI w125 z122.2.freed]) (more:=[.box b134 [(.d (.str z130.1.Tag)),(.d (.str z130.1.Key)),(.d (.str z130.1.Text)),(.d (.sl ((z130.1.aL).map az) false)),(.d (.sl ((z130.1.Kids).map ak) false))],.box b24 [(.d (.str z22.Tag)),(.d (.str z22.Key)),(.d (.str z22.Text)),(.d (.sl ((z22.aL).map az) false)),(.d (.sl ((z22.Kids).map ak) false))]]) (H138.sl [2,3,4,0,1] rfl rfl) rfl (aH rfl rfl) (dF E n _ _ hzz149 b16 v123 ws124 w125) (.cons (.refl _) .nil) rfl ?_
                  rintro _ S168 _ ⟨rfl,rfl⟩ H169
                  have H170:Has aK S168 [.box b134 [(.d (.str z130.1.Tag)),(.d (.str z130.1.Key)),(.d (.str z130.1.Text)),(.d (.sl ((z130.1.aL).map az) false)),(.d (.sl ((z130.1.Kids).map ak) false))],.box b24 [(.d (.str z22.Tag)),(.d (.str z22.Key)),(.d (.str z22.Text)),(.d (.sl ((z22.aL).map az) false)),(.d (.sl ((z22.Kids).map ak) false))],.box b16 [v123,w125],aA ae ah.kids 7 5 v123 ws124 z122.2.l none,aI w125 z122.2.freed]:=H169.sl [3,4,0,1,2] rfl rfl
                  refine aj.nil ⟨_,_,_,rfl,(fun _ ht=>by cases ht; rfl),[some (.d (.bool z130.2)),some (.d (.bool true)),some (.d (ak z130.1)),some (.d (ak z22)),some (.d (.bool z147)),some (.d (.bool z147)),some (.d (.bool true)),some (.ptr b16 0 0),some (.d (.int .i64 z149)),some (.d (.int .i64 z52)),some (.d (.bool (z149 == z52))),some (.d (.bool (z149 == z52))),some (.d (.bool true)),some (.ptr b16 0 0),some (.d (.int .i64 z41.1)),none,some (.d (ak z22)),none,none,none,none,none,none,none,none,none,none,none,none],(.o (.o (.o (.o (.o (.o (.o (.o (.new (.o (.new (.new (.new (.new (.new (.new (.new (.new (.new (.new (.new (.new (.new (.new (.new (.new (.new (.new (.new .nil))))))))))))))))))))))))))))),(fun _ ht=>by cases ht; exact ⟨_,rfl,.refl _⟩),?_⟩
                  refine ⟨[9,10,11,12,13,14,16],by kernel_rfl,?_,_,_,rfl,rfl,.step ?_⟩
                  ·
                   refine .v rfl rfl rfl rfl (aa rfl) ?_
                   refine .v rfl rfl rfl rfl (aD rfl rfl bq) ?_
                   refine .v rfl rfl rfl rfl (aB (b:=true) rfl rfl) ?_
                   refine .cons rfl rfl rfl (.val rfl (aa rfl) (.eq (by rw [hb153]))) ?_
                   refine .v rfl rfl rfl rfl (aa rfl) ?_
                   refine .v rfl rfl rfl rfl (aa rfl) ?_
                   refine .cons rfl rfl rfl (.step ?_) ?_
                   ·
                    refine aj.val rfl (aJ H170 (i:=1) rfl rfl (aZ fA bY rfl)) rfl ?_
                    refine aj.less (Less.agg' (d:=ak z22) (ax.eq rfl (ax.eq rfl (ax.eq rfl (ax.eq rfl (ax.eq rfl .nil))))) ((Tree.eq _).trans rfl)) ?_
                    exact aj.nil ⟨_,_,rfl,fun _ ht=>by cases ht; exact ⟨rfl,.refl _⟩⟩
                   exact .nil
                  refine aj.eF (ins:=[.box b16 [v123,w125],aA ae ah.kids 7 5 v123 ws124 z122.2.l none,aI w125 z122.2.freed]) (more:=[.box b134 [(.d (.str z130.1.Tag)),(.d (.str z130.1.Key)),(.d (.str z130.1.Text)),(.d (.sl ((z130.1.aL).map az) false)),(.d (.sl ((z130.1.Kids).map ak) false))],.box b24 [(.d (.str z22.Tag)),(.d (.str z22.Key)),(.d (.str z22.Text)),(.d (.sl ((z22.aL).map az) false)),(.d (.sl ((z22.Kids).map ak) false))]]) (H170.sl [2,3,4,0,1] rfl rfl) rfl (aH rfl rfl) (jH E n _ _ _ hzz154 b16 v123 ws124 w125) (.cons (.refl _) (.cons (.refl _) .nil)) rfl ?_
                  rintro _ S173 _ ⟨rfl,ws171,w172,rfl⟩ H174
                  have H175:Has aK S173 [.box b134 [(.d (.str z130.1.Tag)),(.d (.str z130.1.Key)),(.d (.str z130.1.Text)),(.d (.sl ((z130.1.aL).map az) false)),(.d (.sl ((z130.1.Kids).map ak) false))],.box b24 [(.d (.str z22.Tag)),(.d (.str z22.Key)),(.d (.str z22.Text)),(.d (.sl ((z22.aL).map az) false)),(.d (.sl ((z22.Kids).map ak) false))],.box b16 [v123,w172],aA ae ah.kids 7 5 v123 ws171 z154.2.l none,aI w172 z154.2.freed]:=H174.sl [3,4,0,1,2] rfl rfl
                  refine aj.nil ⟨_,_,_,rfl,(fun _ ht=>by cases ht; rfl),[some (.d (.bool z130.2)),some (.d (.bool true)),some (.d (ak z130.1)),some (.d (ak z22)),some (.d (.bool z147)),some (.d (.bool z147)),some (.d (.bool true)),some (.ptr b16 0 0),some (.d (.int .i64 z149)),some (.d (.int .i64 z52)),some (.d (.bool (z149 == z52))),some (.d (.bool (z149 == z52))),some (.d (.bool true)),some (.ptr b16 0 0),some (.d (.int .i64 z41.1)),some (.d (.int .i64 z154.1)),some (.d (ak z22)),some (.d (.int .i64 z160)),some (.d (.bool (z154.1 == z160))),some (.d (.bool (z154.1 == z160))),some (.d (.bool true)),some (.ptr b16 0 0),none,none,none,none,none,none,none],(.o (.o (.o (.o (.o (.o (.o (.o (.o (.o (.o (.o (.o (.o (.o (.new (.o (.new (.new (.new (.new (.new (.new (.new (.new (.new (.new (.new (.new .nil))))))))))))))))))))))))))))),(fun _ ht=>by cases ht; exact ⟨_,rfl,.refl _⟩),?_⟩
                  refine ⟨[16,17,18,19,20,21],by kernel_rfl,?_,_,_,rfl,rfl,.step ?_⟩
                  ·
                   refine .cons rfl rfl rfl (.step ?_) ?_
                   ·
                    refine aj.val rfl (aJ H175 (i:=1) rfl rfl (aZ fA bY rfl)) rfl ?_
                    refine aj.less (Less.agg' (d:=ak z22) (ax.eq rfl (ax.eq rfl (ax.eq rfl (ax.eq rfl (ax.eq rfl .nil))))) ((Tree.eq _).trans rfl)) ?_
                    exact aj.nil ⟨_,_,rfl,fun _ ht=>by cases ht; exact ⟨rfl,.refl _⟩⟩
                   refine .cons rfl rfl rfl (.step ?_) ?_
                   ·
                    refine aj.ret rfl (aH rfl rfl) (jT E _ _ _ hzz160 _ _ (aQ.eq .nil)) rfl ?_
                    exact aj.nil ⟨_,_,rfl,fun _ ht=>by cases ht; exact ⟨rfl,.refl _⟩⟩
                   refine .v rfl rfl rfl rfl (aD rfl rfl bq) ?_
                   refine .v rfl rfl rfl rfl (aB (b:=true) rfl rfl) ?_
                   refine .cons rfl rfl rfl (.val rfl (aa rfl) (.eq (by rw [hb161]))) ?_
                   refine .v rfl rfl rfl rfl (aa rfl) ?_
                   exact .nil
                  refine aj.eF (ins:=[.box b16 [v123,w172],aA ae ah.kids 7 5 v123 ws171 z154.2.l none,aI w172 z154.2.freed]) (more:=[.box b134 [(.d (.str z130.1.Tag)),(.d (.str z130.1.Key)),(.d (.str z130.1.Text)),(.d (.sl ((z130.1.aL).map az) false)),(.d (.sl ((z130.1.Kids).map ak) false))],.box b24 [(.d (.str z22.Tag)),(.d (.str z22.Key)),(.d (.str z22.Text)),(.d (.sl ((z22.aL).map az) false)),(.d (.sl ((z22.Kids).map ak) false))]]) (H175.sl [2,3,4,0,1] rfl rfl) rfl (aH rfl rfl) (dF E n _ _ hzz162 b16 v123 ws171 w172) (.cons (.refl _) .nil) rfl ?_
                  rintro _ S176 _ ⟨rfl,rfl⟩ H177
                  have H178:Has aK S176 [.box b134 [(.d (.str z130.1.Tag)),(.d (.str z130.1.Key)),(.d (.str z130.1.Text)),(.d (.sl ((z130.1.aL).map az) false)),(.d (.sl ((z130.1.Kids).map ak) false))],.box b24 [(.d (.str z22.Tag)),(.d (.str z22.Key)),(.d (.str z22.Text)),(.d (.sl ((z22.aL).map az) false)),(.d (.sl ((z22.Kids).map ak) false))],.box b16 [v123,w172],aA ae ah.kids 7 5 v123 ws171 z154.2.l none,aI w172 z154.2.freed]:=H177.sl [3,4,0,1,2] rfl rfl
                  refine aj.nil ⟨_,_,_,rfl,(fun _ ht=>by cases ht; rfl),[some (.d (.bool z130.2)),some (.d (.bool true)),some (.d (ak z130.1)),some (.d (ak z22)),some (.d (.bool z147)),some (.d (.bool z147)),some (.d (.bool true)),some (.ptr b16 0 0),some (.d (.int .i64 z149)),some (.d (.int .i64 z52)),some (.d (.bool (z149 == z52))),some (.d (.bool (z149 == z52))),some (.d (.bool true)),some (.ptr b16 0 0),some (.d (.int .i64 z41.1)),some (.d (.int .i64 z154.1)),some (.d (ak z22)),some (.d (.int .i64 z160)),some (.d (.bool (z154.1 == z160))),some (.d (.bool (z154.1 == z160))),some (.d (.bool true)),some (.ptr b16 0 0),some (.d (.int .i64 z162)),some (.d (.bool (z162 == 1))),some (.d (.bool (z162 == 1))),some (.d (.bool true)),some (.d (.bool z167)),some (.d (.bool z167)),some (.d (.bool z167))],(.o (.o (.o (.o (.o (.o (.o (.o (.o (.o (.o (.o (.o (.o (.o (.o (.o (.o (.o (.o (.o (.o (.new (.new (.new (.new (.new (.new (.new .nil))))))))))))))))))))))))))))),(fun _ ht=>by cases ht; exact ⟨_,rfl,.refl _⟩),?_⟩
                  refine ⟨[23,24,25,26,27,28],by kernel_rfl,?_,_,rfl,?_⟩
                  ·
                   refine .v rfl rfl rfl rfl (aD rfl rfl bq) ?_
                   refine .v rfl rfl rfl rfl (aB (b:=true) rfl rfl) ?_
                   refine .cons rfl rfl rfl (.val rfl (aa rfl) (.eq (by rw [hb166]))) ?_
                   refine .cons rfl rfl rfl (.step ?_) ?_
                   ·
                    refine aj.ret rfl (aH rfl rfl) (oV E _  _ hzz167 _ _ .nil) rfl ?_
                    exact aj.nil ⟨_,_,rfl,fun _ ht=>by cases ht; exact ⟨rfl,.refl _⟩⟩
                   refine .v rfl rfl rfl rfl (aB (b:=true) rfl rfl) ?_
                   refine .v rfl rfl rfl rfl (au rfl) ?_
                   exact .nil
                  exact ⟨⟨z154.2,ws171,w172,z167⟩,_,_,S176,.refl _ _,.refl _,(ai.r rfl ai.nil),H178.sl [] rfl rfl,h⟩
                 ·
                  replace h:=dG hb166 h
                  refine aC.gG E.obj jr GZ [(4,some 28)] (by kernel_rfl) [8,15,22] (by decide) [some (.d (.bool z130.2)),some (.d (.bool true)),some (.d (ak z130.1)),some (.d (ak z22)),some (.d (.bool z147)),some (.d (.bool z147)),some (.d (.bool true)),some (.ptr b16 0 0),none,some (.d (.int .i64 z52)),none,none,none,none,none,none,none,none,none,none,none,none,none,none,none,none,none,none,none] ?_
                  refine ⟨[0,1,2,3,4,5,6,7,9],by kernel_rfl,?_,_,_,rfl,rfl,.step ?_⟩
                  ·
                   refine .v rfl rfl rfl rfl (aa rfl) ?_
                   refine .cons rfl rfl rfl (.val rfl (aa rfl) (.eq (by rw [hb146]))) ?_
                   refine .cons rfl rfl rfl (.step ?_) ?_
                   ·
                    refine aj.val rfl (aJ H138 (i:=0) rfl rfl (aZ fA bY rfl)) rfl ?_
                    refine aj.less (Less.agg' (d:=ak z130.1) (ax.eq rfl (ax.eq rfl (ax.eq rfl (ax.eq rfl (ax.eq rfl .nil))))) ((Tree.eq _).trans rfl)) ?_
                    exact aj.nil ⟨_,_,rfl,fun _ ht=>by cases ht; exact ⟨rfl,.refl _⟩⟩
                   refine .cons rfl rfl rfl (.step ?_) ?_
                   ·
                    refine aj.val rfl (aJ H138 (i:=1) rfl rfl (aZ fA bY rfl)) rfl ?_
                    refine aj.less (Less.agg' (d:=ak z22) (ax.eq rfl (ax.eq rfl (ax.eq rfl (ax.eq rfl (ax.eq rfl .nil))))) ((Tree.eq _).trans rfl)) ?_
                    exact aj.nil ⟨_,_,rfl,fun _ ht=>by cases ht; exact ⟨rfl,.refl _⟩⟩
                   refine .cons rfl rfl rfl (.step ?_) ?_
                   ·
                    refine aj.ret rfl (aH rfl rfl) (dH E _ _ _ _ hzz147 _ _ (aQ.eq (aQ.eq .nil))) rfl ?_
                    exact aj.nil ⟨_,_,rfl,fun _ ht=>by cases ht; exact ⟨rfl,.refl _⟩⟩
                   refine .v rfl rfl rfl rfl (aB (b:=true) rfl rfl) ?_
                   refine .cons rfl rfl rfl (.val rfl (aa rfl) (.eq (by rw [hb148]))) ?_
                   refine .v rfl rfl rfl rfl (aa rfl) ?_
                   refine .v rfl rfl rfl rfl (aa rfl) ?_
                   exact .nil
                  refine aj.eF (ins:=[.box b16 [v123,w125],aA ae ah.kids 7 5 v123 ws124 z122.2.l none,aI w125 z122.2.freed]) (more:=[.box b134 [(.d (.str z130.1.Tag)),(.d (.str z130.1.Key)),(.d (.str z130.1.Text)),(.d (.sl ((z130.1.aL).map az) false)),(.d (.sl ((z130.1.Kids).map ak) false))],.box b24 [(.d (.str z22.Tag)),(.d (.str z22.Key)),(.d (.str z22.Text)),(.d (.sl ((z22.aL).map az) false)),(.d (.sl ((z22.Kids).map ak) false))]]) (H138.sl [2,3,4,0,1] rfl rfl) rfl (aH rfl rfl) (dF E n _ _ hzz149 b16 v123 ws124 w125) (.cons (.refl _) .nil) rfl ?_
                  rintro _ S179 _ ⟨rfl,rfl⟩ H180
                  have H181:Has aK S179 [.box b134 [(.d (.str z130.1.Tag)),(.d (.str z130.1.Key)),(.d (.str z130.1.Text)),(.d (.sl ((z130.1.aL).map az) false)),(.d (.sl ((z130.1.Kids).map ak) false))],.box b24 [(.d (.str z22.Tag)),(.d (.str z22.Key)),(.d (.str z22.Text)),(.d (.sl ((z22.aL).map az) false)),(.d (.sl ((z22.Kids).map ak) false))],.box b16 [v123,w125],aA ae ah.kids 7 5 v123 ws124 z122.2.l none,aI w125 z122.2.freed]:=H180.sl [3,4,0,1,2] rfl rfl
                  refine aj.nil ⟨_,_,_,rfl,(fun _ ht=>by cases ht; rfl),[some (.d (.bool z130.2)),some (.d (.bool true)),some (.d (ak z130.1)),some (.d (ak z22)),some (.d (.bool z147)),some (.d (.bool z147)),some (.d (.bool true)),some (.ptr b16 0 0),some (.d (.int .i64 z149)),some (.d (.int .i64 z52)),some (.d (.bool (z149 == z52))),some (.d (.bool (z149 == z52))),some (.d (.bool true)),some (.ptr b16 0 0),some (.d (.int .i64 z41.1)),none,some (.d (ak z22)),none,none,none,none,none,none,none,none,none,none,none,none],(.o (.o (.o (.o (.o (.o (.o (.o (.new (.o (.new (.new (.new (.new (.new (.new (.new (.new (.new (.new (.new (.new (.new (.new (.new (.new (.new (.new (.new .nil))))))))))))))))))))))))))))),(fun _ ht=>by cases ht; exact ⟨_,rfl,.refl _⟩),?_⟩
                  refine ⟨[9,10,11,12,13,14,16],by kernel_rfl,?_,_,_,rfl,rfl,.step ?_⟩
                  ·
                   refine .v rfl rfl rfl rfl (aa rfl) ?_
                   refine .v rfl rfl rfl rfl (aD rfl rfl bq) ?_
                   refine .v rfl rfl rfl rfl (aB (b:=true) rfl rfl) ?_
                   refine .cons rfl rfl rfl (.val rfl (aa rfl) (.eq (by rw [hb153]))) ?_
                   refine .v rfl rfl rfl rfl (aa rfl) ?_
                   refine .v rfl rfl rfl rfl (aa rfl) ?_
                   refine .cons rfl rfl rfl (.step ?_) ?_
                   ·
                    refine aj.val rfl (aJ H181 (i:=1) rfl rfl (aZ fA bY rfl)) rfl ?_
                    refine aj.less (Less.agg' (d:=ak z22) (ax.eq rfl (ax.eq rfl (ax.eq rfl (ax.eq rfl (ax.eq rfl .nil))))) ((Tree.eq _).trans rfl)) ?_
                    exact aj.nil ⟨_,_,rfl,fun _ ht=>by cases ht; exact ⟨rfl,.refl _⟩⟩
                   exact .nil
                  refine aj.eF (ins:=[.box b16 [v123,w125],aA ae ah.kids 7 5 v123 ws124 z122.2.l none,aI w125 z122.2.freed]) (more:=[.box b134 [(.d (.str z130.1.Tag)),(.d (.str z130.1.Key)),(.d (.str z130.1.Text)),(.d (.sl ((z130.1.aL).map az) false)),(.d (.sl ((z130.1.Kids).map ak) false))],.box b24 [(.d (.str z22.Tag)),(.d (.str z22.Key)),(.d (.str z22.Text)),(.d (.sl ((z22.aL).map az) false)),(.d (.sl ((z22.Kids).map ak) false))]]) (H181.sl [2,3,4,0,1] rfl rfl) rfl (aH rfl rfl) (jH E n _ _ _ hzz154 b16 v123 ws124 w125) (.cons (.refl _) (.cons (.refl _) .nil)) rfl ?_
                  rintro _ S184 _ ⟨rfl,ws182,w183,rfl⟩ H185
                  have H186:Has aK S184 [.box b134 [(.d (.str z130.1.Tag)),(.d (.str z130.1.Key)),(.d (.str z130.1.Text)),(.d (.sl ((z130.1.aL).map az) false)),(.d (.sl ((z130.1.Kids).map ak) false))],.box b24 [(.d (.str z22.Tag)),(.d (.str z22.Key)),(.d (.str z22.Text)),(.d (.sl ((z22.aL).map az) false)),(.d (.sl ((z22.Kids).map ak) false))],.box b16 [v123,w183],aA ae ah.kids 7 5 v123 ws182 z154.2.l none,aI w183 z154.2.freed]:=H185.sl [3,4,0,1,2] rfl rfl
                  refine aj.nil ⟨_,_,_,rfl,(fun _ ht=>by cases ht; rfl),[some (.d (.bool z130.2)),some (.d (.bool true)),some (.d (ak z130.1)),some (.d (ak z22)),some (.d (.bool z147)),some (.d (.bool z147)),some (.d (.bool true)),some (.ptr b16 0 0),some (.d (.int .i64 z149)),some (.d (.int .i64 z52)),some (.d (.bool (z149 == z52))),some (.d (.bool (z149 == z52))),some (.d (.bool true)),some (.ptr b16 0 0),some (.d (.int .i64 z41.1)),some (.d (.int .i64 z154.1)),some (.d (ak z22)),some (.d (.int .i64 z160)),some (.d (.bool (z154.1 == z160))),some (.d (.bool (z154.1 == z160))),some (.d (.bool true)),some (.ptr b16 0 0),none,none,none,none,none,none,none],(.o (.o (.o (.o (.o (.o (.o (.o (.o (.o (.o (.o (.o (.o (.o (.new (.o (.new (.new (.new (.new (.new (.new (.new (.new (.new (.new (.new (.new .nil))))))))))))))))))))))))))))),(fun _ ht=>by cases ht; exact ⟨_,rfl,.refl _⟩),?_⟩
                  refine ⟨[16,17,18,19,20,21],by kernel_rfl,?_,_,_,rfl,rfl,.step ?_⟩
                  ·
                   refine .cons rfl rfl rfl (.step ?_) ?_
                   ·
                    refine aj.val rfl (aJ H186 (i:=1) rfl rfl (aZ fA bY rfl)) rfl ?_
                    refine aj.less (Less.agg' (d:=ak z22) (ax.eq rfl (ax.eq rfl (ax.eq rfl (ax.eq rfl (ax.eq rfl .nil))))) ((Tree.eq _).trans rfl)) ?_
                    exact aj.nil ⟨_,_,rfl,fun _ ht=>by cases ht; exact ⟨rfl,.refl _⟩⟩
                   refine .cons rfl rfl rfl (.step ?_) ?_
                   ·
                    refine aj.ret rfl (aH rfl rfl) (jT E _ _ _ hzz160 _ _ (aQ.eq .nil)) rfl ?_
                    exact aj.nil ⟨_,_,rfl,fun _ ht=>by cases ht; exact ⟨rfl,.refl _⟩⟩
                   refine .v rfl rfl rfl rfl (aD rfl rfl bq) ?_
                   refine .v rfl rfl rfl rfl (aB (b:=true) rfl rfl) ?_
                   refine .cons rfl rfl rfl (.val rfl (aa rfl) (.eq (by rw [hb161]))) ?_
                   refine .v rfl rfl rfl rfl (aa rfl) ?_
                   exact .nil
                  refine aj.eF (ins:=[.box b16 [v123,w183],aA ae ah.kids 7 5 v123 ws182 z154.2.l none,aI w183 z154.2.freed]) (more:=[.box b134 [(.d (.str z130.1.Tag)),(.d (.str z130.1.Key)),(.d (.str z130.1.Text)),(.d (.sl ((z130.1.aL).map az) false)),(.d (.sl ((z130.1.Kids).map ak) false))],.box b24 [(.d (.str z22.Tag)),(.d (.str z22.Key)),(.d (.str z22.Text)),(.d (.sl ((z22.aL).map az) false)),(.d (.sl ((z22.Kids).map ak) false))]]) (H186.sl [2,3,4,0,1] rfl rfl) rfl (aH rfl rfl) (dF E n _ _ hzz162 b16 v123 ws182 w183) (.cons (.refl _) .nil) rfl ?_
                  rintro _ S187 _ ⟨rfl,rfl⟩ H188
                  have H189:Has aK S187 [.box b134 [(.d (.str z130.1.Tag)),(.d (.str z130.1.Key)),(.d (.str z130.1.Text)),(.d (.sl ((z130.1.aL).map az) false)),(.d (.sl ((z130.1.Kids).map ak) false))],.box b24 [(.d (.str z22.Tag)),(.d (.str z22.Key)),(.d (.str z22.Text)),(.d (.sl ((z22.aL).map az) false)),(.d (.sl ((z22.Kids).map ak) false))],.box b16 [v123,w183],aA ae ah.kids 7 5 v123 ws182 z154.2.l none,aI w183 z154.2.freed]:=H188.sl [3,4,0,1,2] rfl rfl
                  refine aj.nil ⟨_,_,_,rfl,(fun _ ht=>by cases ht; rfl),[some (.d (.bool z130.2)),some (.d (.bool true)),some (.d (ak z130.1)),some (.d (ak z22)),some (.d (.bool z147)),some (.d (.bool z147)),some (.d (.bool true)),some (.ptr b16 0 0),some (.d (.int .i64 z149)),some (.d (.int .i64 z52)),some (.d (.bool (z149 == z52))),some (.d (.bool (z149 == z52))),some (.d (.bool true)),some (.ptr b16 0 0),some (.d (.int .i64 z41.1)),some (.d (.int .i64 z154.1)),some (.d (ak z22)),some (.d (.int .i64 z160)),some (.d (.bool (z154.1 == z160))),some (.d (.bool (z154.1 == z160))),some (.d (.bool true)),some (.ptr b16 0 0),some (.d (.int .i64 z162)),some (.d (.bool (z162 == 1))),some (.d (.bool (z162 == 1))),some (.d (.bool false)),some (.tup []),some (.d (.bool false)),some (.d (.bool false))],(.o (.o (.o (.o (.o (.o (.o (.o (.o (.o (.o (.o (.o (.o (.o (.o (.o (.o (.o (.o (.o (.o (.new (.new (.new (.new (.new (.new (.new .nil))))))))))))))))))))))))))))),(fun _ ht=>by cases ht; exact ⟨_,rfl,.refl _⟩),?_⟩
                  refine ⟨[23,24,25,26,27,28],by kernel_rfl,?_,_,rfl,?_⟩
                  ·
                   refine .v rfl rfl rfl rfl (aD rfl rfl bq) ?_
                   refine .v rfl rfl rfl rfl (aB (b:=true) rfl rfl) ?_
                   refine .cons rfl rfl rfl (.val rfl (aa rfl) (.eq (by rw [hb166]))) ?_
                   refine .cons rfl rfl rfl (.no rfl (.refl _)) ?_
                   refine .v rfl rfl rfl rfl (aB (b:=false) rfl rfl) ?_
                   refine .v rfl rfl rfl rfl (au rfl) ?_
                   exact .nil
                  exact ⟨⟨z154.2,ws182,w183,false⟩,_,_,S187,.refl _ _,.refl _,(ai.r rfl ai.nil),H189.sl [] rfl rfl,h⟩
                ·
                 replace h:=dG hb161 h
                 refine aC.gG E.obj jr GZ [(4,some 28)] (by kernel_rfl) [8,15,22] (by decide) [some (.d (.bool z130.2)),some (.d (.bool true)),some (.d (ak z130.1)),some (.d (ak z22)),some (.d (.bool z147)),some (.d (.bool z147)),some (.d (.bool true)),some (.ptr b16 0 0),none,some (.d (.int .i64 z52)),none,none,none,none,none,none,none,none,none,none,none,none,none,none,none,none,none,none,none] ?_
                 refine ⟨[0,1,2,3,4,5,6,7,9],by kernel_rfl,?_,_,_,rfl,rfl,.step ?_⟩
                 ·
                  refine .v rfl rfl rfl rfl (aa rfl) ?_
                  refine .cons rfl rfl rfl (.val rfl (aa rfl) (.eq (by rw [hb146]))) ?_
                  refine .cons rfl rfl rfl (.step ?_) ?_
                  ·
                   refine aj.val rfl (aJ H138 (i:=0) rfl rfl (aZ fA bY rfl)) rfl ?_
                   refine aj.less (Less.agg' (d:=ak z130.1) (ax.eq rfl (ax.eq rfl (ax.eq rfl (ax.eq rfl (ax.eq rfl .nil))))) ((Tree.eq _).trans rfl)) ?_
                   exact aj.nil ⟨_,_,rfl,fun _ ht=>by cases ht; exact ⟨rfl,.refl _⟩⟩
                  refine .cons rfl rfl rfl (.step ?_) ?_
                  ·
                   refine aj.val rfl (aJ H138 (i:=1) rfl rfl (aZ fA bY rfl)) rfl ?_
                   refine aj.less (Less.agg' (d:=ak z22) (ax.eq rfl (ax.eq rfl (ax.eq rfl (ax.eq rfl (ax.eq rfl .nil))))) ((Tree.eq _).trans rfl)) ?_
                   exact aj.nil ⟨_,_,rfl,fun _ ht=>by cases ht; exact ⟨rfl,.refl _⟩⟩
                  refine .cons rfl rfl rfl (.step ?_) ?_
                  ·
                   refine aj.ret rfl (aH rfl rfl) (dH E _ _ _ _ hzz147 _ _ (aQ.eq (aQ.eq .nil))) rfl ?_
                   exact aj.nil ⟨_,_,rfl,fun _ ht=>by cases ht; exact ⟨rfl,.refl _⟩⟩
                  refine .v rfl rfl rfl rfl (aB (b:=true) rfl rfl) ?_
                  refine .cons rfl rfl rfl (.val rfl (aa rfl) (.eq (by rw [hb148]))) ?_
                  refine .v rfl rfl rfl rfl (aa rfl) ?_
                  refine .v rfl rfl rfl rfl (aa rfl) ?_
                  exact .nil
                 refine aj.eF (ins:=[.box b16 [v123,w125],aA ae ah.kids 7 5 v123 ws124 z122.2.l none,aI w125 z122.2.freed]) (more:=[.box b134 [(.d (.str z130.1.Tag)),(.d (.str z130.1.Key)),(.d (.str z130.1.Text)),(.d (.sl ((z130.1.aL).map az) false)),(.d (.sl ((z130.1.Kids).map ak) false))],.box b24 [(.d (.str z22.Tag)),(.d (.str z22.Key)),(.d (.str z22.Text)),(.d (.sl ((z22.aL).map az) false)),(.d (.sl ((z22.Kids).map ak) false))]]) (H138.sl [2,3,4,0,1] rfl rfl) rfl (aH rfl rfl) (dF E n _ _ hzz149 b16 v123 ws124 w125) (.cons (.refl _) .nil) rfl ?_
                 rintro _ S190 _ ⟨rfl,rfl⟩ H191
                 have H192:Has aK S190 [.box b134 [(.d (.str z130.1.Tag)),(.d (.str z130.1.Key)),(.d (.str z130.1.Text)),(.d (.sl ((z130.1.aL).map az) false)),(.d (.sl ((z130.1.Kids).map ak) false))],.box b24 [(.d (.str z22.Tag)),(.d (.str z22.Key)),(.d (.str z22.Text)),(.d (.sl ((z22.aL).map az) false)),(.d (.sl ((z22.Kids).map ak) false))],.box b16 [v123,w125],aA ae ah.kids 7 5 v123 ws124 z122.2.l none,aI w125 z122.2.freed]:=H191.sl [3,4,0,1,2] rfl rfl
                 refine aj.nil ⟨_,_,_,rfl,(fun _ ht=>by cases ht; rfl),[some (.d (.bool z130.2)),some (.d (.bool true)),some (.d (ak z130.1)),some (.d (ak z22)),some (.d (.bool z147)),some (.d (.bool z147)),some (.d (.bool true)),some (.ptr b16 0 0),some (.d (.int .i64 z149)),some (.d (.int .i64 z52)),some (.d (.bool (z149 == z52))),some (.d (.bool (z149 == z52))),some (.d (.bool true)),some (.ptr b16 0 0),some (.d (.int .i64 z41.1)),none,some (.d (ak z22)),none,none,none,none,none,none,none,none,none,none,none,none],(.o (.o (.o (.o (.o (.o (.o (.o (.new (.o (.new (.new (.new (.new (.new (.new (.new (.new (.new (.new (.new (.new (.new (.new (.new (.new (.new (.new (.new .nil))))))))))))))))))))))))))))),(fun _ ht=>by cases ht; exact ⟨_,rfl,.refl _⟩),?_⟩
                 refine ⟨[9,10,11,12,13,14,16],by kernel_rfl,?_,_,_,rfl,rfl,.step ?_⟩
                 ·
                  refine .v rfl rfl rfl rfl (aa rfl) ?_
                  refine .v rfl rfl rfl rfl (aD rfl rfl bq) ?_
                  refine .v rfl rfl rfl rfl (aB (b:=true) rfl rfl) ?_
                  refine .cons rfl rfl rfl (.val rfl (aa rfl) (.eq (by rw [hb153]))) ?_
                  refine .v rfl rfl rfl rfl (aa rfl) ?_
                  refine .v rfl rfl rfl rfl (aa rfl) ?_
                  refine .cons rfl rfl rfl (.step ?_) ?_
                  ·
                   refine aj.val rfl (aJ H192 (i:=1) rfl rfl (aZ fA bY rfl)) rfl ?_
                   refine aj.less (Less.agg' (d:=ak z22) (ax.eq rfl (ax.eq rfl (ax.eq rfl (ax.eq rfl (ax.eq rfl .nil))))) ((Tree.eq _).trans rfl)) ?_
                   exact aj.nil ⟨_,_,rfl,fun _ ht=>by cases ht; exact ⟨rfl,.refl _⟩⟩
                  exact .nil
                 refine aj.eF (ins:=[.box b16 [v123,w125],aA ae ah.kids 7 5 v123 ws124 z122.2.l none,aI w125 z122.2.freed]) (more:=[.box b134 [(.d (.str z130.1.Tag)),(.d (.str z130.1.Key)),(.d (.str z130.1.Text)),(.d (.sl ((z130.1.aL).map az) false)),(.d (.sl ((z130.1.Kids).map ak) false))],.box b24 [(.d (.str z22.Tag)),(.d (.str z22.Key)),(.d (.str z22.Text)),(.d (.sl ((z22.aL).map az) false)),(.d (.sl ((z22.Kids).map ak) false))]]) (H192.sl [2,3,4,0,1] rfl rfl) rfl (aH rfl rfl) (jH E n _ _ _ hzz154 b16 v123 ws124 w125) (.cons (.refl _) (.cons (.refl _) .nil)) rfl ?_
                 rintro _ S195 _ ⟨rfl,ws193,w194,rfl⟩ H196
                 have H197:Has aK S195 [.box b134 [(.d (.str z130.1.Tag)),(.d (.str z130.1.Key)),(.d (.str z130.1.Text)),(.d (.sl ((z130.1.aL).map az) false)),(.d (.sl ((z130.1.Kids).map ak) false))],.box b24 [(.d (.str z22.Tag)),(.d (.str z22.Key)),(.d (.str z22.Text)),(.d (.sl ((z22.aL).map az) false)),(.d (.sl ((z22.Kids).map ak) false))],.box b16 [v123,w194],aA ae ah.kids 7 5 v123 ws193 z154.2.l none,aI w194 z154.2.freed]:=H196.sl [3,4,0,1,2] rfl rfl
                 refine aj.nil ⟨_,_,_,rfl,(fun _ ht=>by cases ht; rfl),[some (.d (.bool z130.2)),some (.d (.bool true)),some (.d (ak z130.1)),some (.d (ak z22)),some (.d (.bool z147)),some (.d (.bool z147)),some (.d (.bool true)),some (.ptr b16 0 0),some (.d (.int .i64 z149)),some (.d (.int .i64 z52)),some (.d (.bool (z149 == z52))),some (.d (.bool (z149 == z52))),some (.d (.bool true)),some (.ptr b16 0 0),some (.d (.int .i64 z41.1)),some (.d (.int .i64 z154.1)),some (.d (ak z22)),some (.d (.int .i64 z160)),some (.d (.bool (z154.1 == z160))),some (.d (.bool (z154.1 == z160))),some (.d (.bool false)),some (.tup []),none,none,none,none,none,none,none],(.o (.o (.o (.o (.o (.o (.o (.o (.o (.o (.o (.o (.o (.o (.o (.new (.o (.new (.new (.new (.new (.new (.new (.new (.new (.new (.new (.new (.new .nil))))))))))))))))))))))))))))),(fun _ ht=>by cases ht; exact ⟨_,rfl,.refl _⟩),?_⟩
                 refine ⟨[16,17,18,19,20,21],by kernel_rfl,?_,_,_,rfl,rfl,.no rfl ?_⟩
                 ·
                  refine .cons rfl rfl rfl (.step ?_) ?_
                  ·
                   refine aj.val rfl (aJ H197 (i:=1) rfl rfl (aZ fA bY rfl)) rfl ?_
                   refine aj.less (Less.agg' (d:=ak z22) (ax.eq rfl (ax.eq rfl (ax.eq rfl (ax.eq rfl (ax.eq rfl .nil))))) ((Tree.eq _).trans rfl)) ?_
                   exact aj.nil ⟨_,_,rfl,fun _ ht=>by cases ht; exact ⟨rfl,.refl _⟩⟩
                  refine .cons rfl rfl rfl (.step ?_) ?_
                  ·
                   refine aj.ret rfl (aH rfl rfl) (jT E _ _ _ hzz160 _ _ (aQ.eq .nil)) rfl ?_
                   exact aj.nil ⟨_,_,rfl,fun _ ht=>by cases ht; exact ⟨rfl,.refl _⟩⟩
                  refine .v rfl rfl rfl rfl (aD rfl rfl bq) ?_
                  refine .v rfl rfl rfl rfl (aB (b:=true) rfl rfl) ?_
                  refine .cons rfl rfl rfl (.val rfl (aa rfl) (.eq (by rw [hb161]))) ?_
                  refine .cons rfl rfl rfl (.no rfl (.refl _)) ?_
                  exact .nil
                 refine ⟨[some (.d (.bool z130.2)),some (.d (.bool true)),some (.d (ak z130.1)),some (.d (ak z22)),some (.d (.bool z147)),some (.d (.bool z147)),some (.d (.bool true)),some (.ptr b16 0 0),some (.d (.int .i64 z149)),some (.d (.int .i64 z52)),some (.d (.bool (z149 == z52))),some (.d (.bool (z149 == z52))),some (.d (.bool true)),some (.ptr b16 0 0),some (.d (.int .i64 z41.1)),some (.d (.int .i64 z154.1)),some (.d (ak z22)),some (.d (.int .i64 z160)),some (.d (.bool (z154.1 == z160))),some (.d (.bool (z154.1 == z160))),some (.d (.bool false)),some (.tup []),some (.tup []),some (.tup []),some (.d (.bool false)),some (.d (.bool false)),some (.tup []),some (.d (.bool false)),some (.d (.bool false))],(.o (.o (.o (.o (.o (.o (.o (.o (.o (.o (.o (.o (.o (.o (.o (.o (.o (.o (.o (.o (.o (.o (.new (.new (.new (.new (.new (.new (.new .nil))))))))))))))))))))))))))))),(fun _ ht=>by cases ht; exact ⟨_,rfl,.refl _⟩),?_⟩
                 refine ⟨[23,24,25,26,27,28],by kernel_rfl,?_,_,rfl,?_⟩
                 ·
                  refine .cons rfl rfl rfl (.no rfl (.refl _)) ?_
                  refine .v rfl rfl rfl rfl (aB (b:=false) rfl rfl) ?_
                  refine .v rfl rfl rfl rfl (aa rfl) ?_
                  refine .cons rfl rfl rfl (.no rfl (.refl _)) ?_
                  refine .v rfl rfl rfl rfl (aB (b:=false) rfl rfl) ?_
                  refine .v rfl rfl rfl rfl (au rfl) ?_
                  exact .nil
                 exact ⟨⟨z154.2,ws193,w194,false⟩,_,_,S195,.refl _ _,.refl _,(ai.r rfl ai.nil),H197.sl [] rfl rfl,h⟩
               ·
                replace h:=dG hb153 h
                refine aC.gG E.obj jr GZ [(4,some 28)] (by kernel_rfl) [8,15,22] (by decide) [some (.d (.bool z130.2)),some (.d (.bool true)),some (.d (ak z130.1)),some (.d (ak z22)),some (.d (.bool z147)),some (.d (.bool z147)),some (.d (.bool true)),some (.ptr b16 0 0),none,some (.d (.int .i64 z52)),none,none,none,none,none,none,none,none,none,none,none,none,none,none,none,none,none,none,none] ?_
                refine ⟨[0,1,2,3,4,5,6,7,9],by kernel_rfl,?_,_,_,rfl,rfl,.step ?_⟩
                ·
                 refine .v rfl rfl rfl rfl (aa rfl) ?_
                 refine .cons rfl rfl rfl (.val rfl (aa rfl) (.eq (by rw [hb146]))) ?_
                 refine .cons rfl rfl rfl (.step ?_) ?_
                 ·
                  refine aj.val rfl (aJ H138 (i:=0) rfl rfl (aZ fA bY rfl)) rfl ?_
                  refine aj.less (Less.agg' (d:=ak z130.1) (ax.eq rfl (ax.eq rfl (ax.eq rfl (ax.eq rfl (ax.eq rfl .nil))))) ((Tree.eq _).trans rfl)) ?_
                  exact aj.nil ⟨_,_,rfl,fun _ ht=>by cases ht; exact ⟨rfl,.refl _⟩⟩
                 refine .cons rfl rfl rfl (.step ?_) ?_
                 ·
                  refine aj.val rfl (aJ H138 (i:=1) rfl rfl (aZ fA bY rfl)) rfl ?_
                  refine aj.less (Less.agg' (d:=ak z22) (ax.eq rfl (ax.eq rfl (ax.eq rfl (ax.eq rfl (ax.eq rfl .nil))))) ((Tree.eq _).trans rfl)) ?_
                  exact aj.nil ⟨_,_,rfl,fun _ ht=>by cases ht; exact ⟨rfl,.refl _⟩⟩
                 refine .cons rfl rfl rfl (.step ?_) ?_
                 ·
                  refine aj.ret rfl (aH rfl rfl) (dH E _ _ _ _ hzz147 _ _ (aQ.eq (aQ.eq .nil))) rfl ?_
                  exact aj.nil ⟨_,_,rfl,fun _ ht=>by cases ht; exact ⟨rfl,.refl _⟩⟩
                 refine .v rfl rfl rfl rfl (aB (b:=true) rfl rfl) ?_
                 refine .cons rfl rfl rfl (.val rfl (aa rfl) (.eq (by rw [hb148]))) ?_
                 refine .v rfl rfl rfl rfl (aa rfl) ?_
                 refine .v rfl rfl rfl rfl (aa rfl) ?_
                 exact .nil
                refine aj.eF (ins:=[.box b16 [v123,w125],aA ae ah.kids 7 5 v123 ws124 z122.2.l none,aI w125 z122.2.freed]) (more:=[.box b134 [(.d (.str z130.1.Tag)),(.d (.str z130.1.Key)),(.d (.str z130.1.Text)),(.d (.sl ((z130.1.aL).map az) false)),(.d (.sl ((z130.1.Kids).map ak) false))],.box b24 [(.d (.str z22.Tag)),(.d (.str z22.Key)),(.d (.str z22.Text)),(.d (.sl ((z22.aL).map az) false)),(.d (.sl ((z22.Kids).map ak) false))]]) (H138.sl [2,3,4,0,1] rfl rfl) rfl (aH rfl rfl) (dF E n _ _ hzz149 b16 v123 ws124 w125) (.cons (.refl _) .nil) rfl ?_
                rintro _ S198 _ ⟨rfl,rfl⟩ H199
                have H200:Has aK S198 [.box b134 [(.d (.str z130.1.Tag)),(.d (.str z130.1.Key)),(.d (.str z130.1.Text)),(.d (.sl ((z130.1.aL).map az) false)),(.d (.sl ((z130.1.Kids).map ak) false))],.box b24 [(.d (.str z22.Tag)),(.d (.str z22.Key)),(.d (.str z22.Text)),(.d (.sl ((z22.aL).map az) false)),(.d (.sl ((z22.Kids).map ak) false))],.box b16 [v123,w125],aA ae ah.kids 7 5 v123 ws124 z122.2.l none,aI w125 z122.2.freed]:=H199.sl [3,4,0,1,2] rfl rfl
                refine aj.nil ⟨_,_,_,rfl,(fun _ ht=>by cases ht; rfl),[some (.d (.bool z130.2)),some (.d (.bool true)),some (.d (ak z130.1)),some (.d (ak z22)),some (.d (.bool z147)),some (.d (.bool z147)),some (.d (.bool true)),some (.ptr b16 0 0),some (.d (.int .i64 z149)),some (.d (.int .i64 z52)),some (.d (.bool (z149 == z52))),some (.d (.bool (z149 == z52))),some (.d (.bool false)),some (.tup []),some (.tup []),none,some (.tup []),none,none,none,none,none,none,none,none,none,none,none,none],(.o (.o (.o (.o (.o (.o (.o (.o (.new (.o (.new (.new (.new (.new (.new (.new (.new (.new (.new (.new (.new (.new (.new (.new (.new (.new (.new (.new (.new .nil))))))))))))))))))))))))))))),(fun _ ht=>by cases ht; exact ⟨_,rfl,.refl _⟩),?_⟩
                refine ⟨[9,10,11,12,13,14,16],by kernel_rfl,?_,_,_,rfl,rfl,.no rfl ?_⟩
                ·
                 refine .v rfl rfl rfl rfl (aa rfl) ?_
                 refine .v rfl rfl rfl rfl (aD rfl rfl bq) ?_
                 refine .v rfl rfl rfl rfl (aB (b:=true) rfl rfl) ?_
                 refine .cons rfl rfl rfl (.val rfl (aa rfl) (.eq (by rw [hb153]))) ?_
                 refine .cons rfl rfl rfl (.no rfl (.refl _)) ?_
                 refine .cons rfl rfl rfl (.no rfl (.refl _)) ?_
                 refine .cons rfl rfl rfl (.no rfl (.refl _)) ?_
                 exact .nil
                refine ⟨[some (.d (.bool z130.2)),some (.d (.bool true)),some (.d (ak z130.1)),some (.d (ak z22)),some (.d (.bool z147)),some (.d (.bool z147)),some (.d (.bool true)),some (.ptr b16 0 0),some (.d (.int .i64 z149)),some (.d (.int .i64 z52)),some (.d (.bool (z149 == z52))),some (.d (.bool (z149 == z52))),some (.d (.bool false)),some (.tup []),some (.tup []),some (.tup []),some (.tup []),some (.tup []),some (.tup []),some (.d (.bool false)),some (.d (.bool false)),some (.tup []),none,none,none,none,none,none,none],(.o (.o (.o (.o (.o (.o (.o (.o (.o (.o (.o (.o (.o (.o (.o (.new (.o (.new (.new (.new (.new (.new (.new (.new (.new (.new (.new (.new (.new .nil))))))))))))))))))))))))))))),(fun _ ht=>by cases ht; exact ⟨_,rfl,.refl _⟩),?_⟩
                refine ⟨[16,17,18,19,20,21],by kernel_rfl,?_,_,_,rfl,rfl,.no rfl ?_⟩
                ·
                 refine .cons rfl rfl rfl (.no rfl (.refl _)) ?_
                 refine .cons rfl rfl rfl (.no rfl (.refl _)) ?_
                 refine .cons rfl rfl rfl (.no rfl (.refl _)) ?_
                 refine .v rfl rfl rfl rfl (aB (b:=false) rfl rfl) ?_
                 refine .v rfl rfl rfl rfl (aa rfl) ?_
                 refine .cons rfl rfl rfl (.no rfl (.refl _)) ?_
                 exact .nil
                refine ⟨[some (.d (.bool z130.2)),some (.d (.bool true)),some (.d (ak z130.1)),some (.d (ak z22)),some (.d (.bool z147)),some (.d (.bool z147)),some (.d (.bool true)),some (.ptr b16 0 0),some (.d (.int .i64 z149)),some (.d (.int .i64 z52)),some (.d (.bool (z149 == z52))),some (.d (.bool (z149 == z52))),some (.d (.bool false)),some (.tup []),some (.tup []),some (.tup []),some (.tup []),some (.tup []),some (.tup []),some (.d (.bool false)),some (.d (.bool false)),some (.tup []),some (.tup []),some (.tup []),some (.d (.bool false)),some (.d (.bool false)),some (.tup []),some (.d (.bool false)),some (.d (.bool false))],(.o (.o (.o (.o (.o (.o (.o (.o (.o (.o (.o (.o (.o (.o (.o (.o (.o (.o (.o (.o (.o (.o (.new (.new (.new (.new (.new (.new (.new .nil))))))))))))))))))))))))))))),(fun _ ht=>by cases ht; exact ⟨_,rfl,.refl _⟩),?_⟩
                refine ⟨[23,24,25,26,27,28],by kernel_rfl,?_,_,rfl,?_⟩
                ·
                 refine .cons rfl rfl rfl (.no rfl (.refl _)) ?_
                 refine .v rfl rfl rfl rfl (aB (b:=false) rfl rfl) ?_
                 refine .v rfl rfl rfl rfl (aa rfl) ?_
                 refine .cons rfl rfl rfl (.no rfl (.refl _)) ?_
                 refine .v rfl rfl rfl rfl (aB (b:=false) rfl rfl) ?_
                 refine .v rfl rfl rfl rfl (au rfl) ?_
                 exact .nil
                exact ⟨⟨z122.2,ws124,w125,false⟩,_,_,S198,.refl _ _,.refl _,(ai.r rfl ai.nil),H200.sl [] rfl rfl,h⟩
              ·
               replace h:=dG hb148 h
               refine aC.gG E.obj jr GZ [(4,some 28)] (by kernel_rfl) [8,15,22] (by decide) [some (.d (.bool z130.2)),some (.d (.bool true)),some (.d (ak z130.1)),some (.d (ak z22)),some (.d (.bool z147)),some (.d (.bool z147)),some (.d (.bool false)),some (.tup []),none,some (.tup []),none,none,none,none,none,none,none,none,none,none,none,none,none,none,none,none,none,none,none] ?_
               refine ⟨[0,1,2,3,4,5,6,7,9],by kernel_rfl,?_,_,_,rfl,rfl,.no rfl ?_⟩
               ·
                refine .v rfl rfl rfl rfl (aa rfl) ?_
                refine .cons rfl rfl rfl (.val rfl (aa rfl) (.eq (by rw [hb146]))) ?_
                refine .cons rfl rfl rfl (.step ?_) ?_
                ·
                 refine aj.val rfl (aJ H138 (i:=0) rfl rfl (aZ fA bY rfl)) rfl ?_
                 refine aj.less (Less.agg' (d:=ak z130.1) (ax.eq rfl (ax.eq rfl (ax.eq rfl (ax.eq rfl (ax.eq rfl .nil))))) ((Tree.eq _).trans rfl)) ?_
                 exact aj.nil ⟨_,_,rfl,fun _ ht=>by cases ht; exact ⟨rfl,.refl _⟩⟩
                refine .cons rfl rfl rfl (.step ?_) ?_
                ·
                 refine aj.val rfl (aJ H138 (i:=1) rfl rfl (aZ fA bY rfl)) rfl ?_
                 refine aj.less (Less.agg' (d:=ak z22) (ax.eq rfl (ax.eq rfl (ax.eq rfl (ax.eq rfl (ax.eq rfl .nil))))) ((Tree.eq _).trans rfl)) ?_
                 exact aj.nil ⟨_,_,rfl,fun _ ht=>by cases ht; exact ⟨rfl,.refl _⟩⟩
                refine .cons rfl rfl rfl (.step ?_) ?_
                ·
                 refine aj.ret rfl (aH rfl rfl) (dH E _ _ _ _ hzz147 _ _ (aQ.eq (aQ.eq .nil))) rfl ?_
                 exact aj.nil ⟨_,_,rfl,fun _ ht=>by cases ht; exact ⟨rfl,.refl _⟩⟩
                refine .v rfl rfl rfl rfl (aB (b:=true) rfl rfl) ?_
                refine .cons rfl rfl rfl (.val rfl (aa rfl) (.eq (by rw [hb148]))) ?_
                refine .cons rfl rfl rfl (.no rfl (.refl _)) ?_
                refine .cons rfl rfl rfl (.no rfl (.refl _)) ?_
                exact .nil
               refine ⟨[some (.d (.bool z130.2)),some (.d (.bool true)),some (.d (ak z130.1)),some (.d (ak z22)),some (.d (.bool z147)),some (.d (.bool z147)),some (.d (.bool false)),some (.tup []),some (.tup []),some (.tup []),some (.tup []),some (.d (.bool false)),some (.d (.bool false)),some (.tup []),some (.tup []),none,some (.tup []),none,none,none,none,none,none,none,none,none,none,none,none],(.o (.o (.o (.o (.o (.o (.o (.o (.new (.o (.new (.new (.new (.new (.new (.new (.new (.new (.new (.new (.new (.new (.new (.new (.new (.new (.new (.new (.new .nil))))))))))))))))))))))))))))),(fun _ ht=>by cases ht; exact ⟨_,rfl,.refl _⟩),?_⟩
               refine ⟨[9,10,11,12,13,14,16],by kernel_rfl,?_,_,_,rfl,rfl,.no rfl ?_⟩
               ·
                refine .cons rfl rfl rfl (.no rfl (.refl _)) ?_
                refine .cons rfl rfl rfl (.no rfl (.refl _)) ?_
                refine .v rfl rfl rfl rfl (aB (b:=false) rfl rfl) ?_
                refine .v rfl rfl rfl rfl (aa rfl) ?_
                refine .cons rfl rfl rfl (.no rfl (.refl _)) ?_
                refine .cons rfl rfl rfl (.no rfl (.refl _)) ?_
                refine .cons rfl rfl rfl (.no rfl (.refl _)) ?_
                exact .nil
               refine ⟨[some (.d (.bool z130.2)),some (.d (.bool true)),some (.d (ak z130.1)),some (.d (ak z22)),some (.d (.bool z147)),some (.d (.bool z147)),some (.d (.bool false)),some (.tup []),some (.tup []),some (.tup []),some (.tup []),some (.d (.bool false)),some (.d (.bool false)),some (.tup []),some (.tup []),some (.tup []),some (.tup []),some (.tup []),some (.tup []),some (.d (.bool false)),some (.d (.bool false)),some (.tup []),none,none,none,none,none,none,none],(.o (.o (.o (.o (.o (.o (.o (.o (.o (.o (.o (.o (.o (.o (.o (.new (.o (.new (.new (.new (.new (.new (.new (.new (.new (.new (.new (.new (.new .nil))))))))))))))))))))))))))))),(fun _ ht=>by cases ht; exact ⟨_,rfl,.refl _⟩),?_⟩
               refine ⟨[16,17,18,19,20,21],by kernel_rfl,?_,_,_,rfl,rfl,.no rfl ?_⟩
               ·
                refine .cons rfl rfl rfl (.no rfl (.refl _)) ?_
                refine .cons rfl rfl rfl (.no rfl (.refl _)) ?_
                refine .cons rfl rfl rfl (.no rfl (.refl _)) ?_
                refine .v rfl rfl rfl rfl (aB (b:=false) rfl rfl) ?_
                refine .v rfl rfl rfl rfl (aa rfl) ?_
                refine .cons rfl rfl rfl (.no rfl (.refl _)) ?_
                exact .nil
               refine ⟨[some (.d (.bool z130.2)),some (.d (.bool true)),some (.d (ak z130.1)),some (.d (ak z22)),some (.d (.bool z147)),some (.d (.bool z147)),some (.d (.bool false)),some (.tup []),some (.tup []),some (.tup []),some (.tup []),some (.d (.bool false)),some (.d (.bool false)),some (.tup []),some (.tup []),some (.tup []),some (.tup []),some (.tup []),some (.tup []),some (.d (.bool false)),some (.d (.bool false)),some (.tup []),some (.tup []),some (.tup []),some (.d (.bool false)),some (.d (.bool false)),some (.tup []),some (.d (.bool false)),some (.d (.bool false))],(.o (.o (.o (.o (.o (.o (.o (.o (.o (.o (.o (.o (.o (.o (.o (.o (.o (.o (.o (.o (.o (.o (.new (.new (.new (.new (.new (.new (.new .nil))))))))))))))))))))))))))))),(fun _ ht=>by cases ht; exact ⟨_,rfl,.refl _⟩),?_⟩
               refine ⟨[23,24,25,26,27,28],by kernel_rfl,?_,_,rfl,?_⟩
               ·
                refine .cons rfl rfl rfl (.no rfl (.refl _)) ?_
                refine .v rfl rfl rfl rfl (aB (b:=false) rfl rfl) ?_
                refine .v rfl rfl rfl rfl (aa rfl) ?_
                refine .cons rfl rfl rfl (.no rfl (.refl _)) ?_
                refine .v rfl rfl rfl rfl (aB (b:=false) rfl rfl) ?_
                refine .v rfl rfl rfl rfl (au rfl) ?_
                exact .nil
               exact ⟨⟨z122.2,ws124,w125,false⟩,_,_,S137,.refl _ _,.refl _,(ai.r rfl ai.nil),H138.sl [] rfl rfl,h⟩
             ·
              replace h:=dG hb146 h
              refine aC.gG E.obj jr GZ [(4,some 28)] (by kernel_rfl) [8,15,22] (by decide) [some (.d (.bool z130.2)),some (.d (.bool false)),some (.tup []),some (.tup []),some (.tup []),some (.d (.bool false)),some (.d (.bool false)),some (.tup []),none,some (.tup []),none,none,none,none,none,none,none,none,none,none,none,none,none,none,none,none,none,none,none] ?_
              refine ⟨[0,1,2,3,4,5,6,7,9],by kernel_rfl,?_,_,_,rfl,rfl,.no rfl ?_⟩
              ·
               refine .v rfl rfl rfl rfl (aa rfl) ?_
               refine .cons rfl rfl rfl (.val rfl (aa rfl) (.eq (by rw [hb146]))) ?_
               refine .cons rfl rfl rfl (.no rfl (.refl _)) ?_
               refine .cons rfl rfl rfl (.no rfl (.refl _)) ?_
               refine .cons rfl rfl rfl (.no rfl (.refl _)) ?_
               refine .v rfl rfl rfl rfl (aB (b:=false) rfl rfl) ?_
               refine .v rfl rfl rfl rfl (aa rfl) ?_
               refine .cons rfl rfl rfl (.no rfl (.refl _)) ?_
               refine .cons rfl rfl rfl (.no rfl (.refl _)) ?_
               exact .nil
              refine ⟨[some (.d (.bool z130.2)),some (.d (.bool false)),some (.tup []),some (.tup []),some (.tup []),some (.d (.bool false)),some (.d (.bool false)),some (.tup []),some (.tup []),some (.tup []),some (.tup []),some (.d (.bool false)),some (.d (.bool false)),some (.tup []),some (.tup []),none,some (.tup []),none,none,none,none,none,none,none,none,none,none,none,none],(.o (.o (.o (.o (.o (.o (.o (.o (.new (.o (.new (.new (.new (.new (.new (.new (.new (.new (.new (.new (.new (.new (.new (.new (.new (.new (.new (.new (.new .nil))))))))))))))))))))))))))))),(fun _ ht=>by cases ht; exact ⟨_,rfl,.refl _⟩),?_⟩
              refine ⟨[9,10,11,12,13,14,16],by kernel_rfl,?_,_,_,rfl,rfl,.no rfl ?_⟩
              ·
               refine .cons rfl rfl rfl (.no rfl (.refl _)) ?_
               refine .cons rfl rfl rfl (.no rfl (.refl _)) ?_
               refine .v rfl rfl rfl rfl (aB (b:=false) rfl rfl) ?_
               refine .v rfl rfl rfl rfl (aa rfl) ?_
               refine .cons rfl rfl rfl (.no rfl (.refl _)) ?_
               refine .cons rfl rfl rfl (.no rfl (.refl _)) ?_
               refine .cons rfl rfl rfl (.no rfl (.refl _)) ?_
               exact .nil
              refine ⟨[some (.d (.bool z130.2)),some (.d (.bool false)),some (.tup []),some (.tup []),some (.tup []),some (.d (.bool false)),some (.d (.bool false)),some (.tup []),some (.tup []),some (.tup []),some (.tup []),some (.d (.bool false)),some (.d (.bool false)),some (.tup []),some (.tup []),some (.tup []),some (.tup []),some (.tup []),some (.tup []),some (.d (.bool false)),some (.d (.bool false)),some (.tup []),none,none,none,none,none,none,none],(.o (.o (.o (.o (.o (.o (.o (.o (.o (.o (.o (.o (.o (.o (.o (.new (.o (.new (.new (.new (.new (.new (.new (.new (.new (.new (.new (.new (.new .nil))))))))))))))))))))))))))))),(fun _ ht=>by cases ht; exact ⟨_,rfl,.refl _⟩),?_⟩
              refine ⟨[16,17,18,19,20,21],by kernel_rfl,?_,_,_,rfl,rfl,.no rfl ?_⟩
              ·
               refine .cons rfl rfl rfl (.no rfl (.refl _)) ?_
               refine .cons rfl rfl rfl (.no rfl (.refl _)) ?_
               refine .cons rfl rfl rfl (.no rfl (.refl _)) ?_
               refine .v rfl rfl rfl rfl (aB (b:=false) rfl rfl) ?_
               refine .v rfl rfl rfl rfl (aa rfl) ?_
               refine .cons rfl rfl rfl (.no rfl (.refl _)) ?_
               exact .nil
              refine ⟨[some (.d (.bool z130.2)),some (.d (.bool false)),some (.tup []),some (.tup []),some (.tup []),some (.d (.bool false)),some (.d (.bool false)),some (.tup []),some (.tup []),some (.tup []),some (.tup []),some (.d (.bool false)),some (.d (.bool false)),some (.tup []),some (.tup []),some (.tup []),some (.tup []),some (.tup []),some (.tup []),some (.d (.bool false)),some (.d (.bool false)),some (.tup []),some (.tup []),some (.tup []),some (.d (.bool false)),some (.d (.bool false)),some (.tup []),some (.d (.bool false)),some (.d (.bool false))],(.o (.o (.o (.o (.o (.o (.o (.o (.o (.o (.o (.o (.o (.o (.o (.o (.o (.o (.o (.o (.o (.o (.new (.new (.new (.new (.new (.new (.new .nil))))))))))))))))))))))))))))),(fun _ ht=>by cases ht; exact ⟨_,rfl,.refl _⟩),?_⟩
              refine ⟨[23,24,25,26,27,28],by kernel_rfl,?_,_,rfl,?_⟩
              ·
               refine .cons rfl rfl rfl (.no rfl (.refl _)) ?_
               refine .v rfl rfl rfl rfl (aB (b:=false) rfl rfl) ?_
               refine .v rfl rfl rfl rfl (aa rfl) ?_
               refine .cons rfl rfl rfl (.no rfl (.refl _)) ?_
               refine .v rfl rfl rfl rfl (aB (b:=false) rfl rfl) ?_
               refine .v rfl rfl rfl rfl (au rfl) ?_
               exact .nil
              exact ⟨⟨z122.2,ws124,w125,false⟩,_,_,S137,.refl _ _,.refl _,(ai.r rfl ai.nil),H138.sl [] rfl rfl,h⟩
       ·
        rcases Bool.eq_false_or_eq_true ((!z88.2)) with hb201 | hb201
        ·
         replace h:=dE hb201 h
         refine aC.gG E.obj jr Ko [(5,none),(6,none),(8,none),(9,none),(10,none),(11,none),(12,none),(94,some 22)] (by kernel_rfl) [17] (by decide) [some (.d (.bool z88.2)),some (.d (.bool (!z88.2))),some (.d (.bool true)),some (.tup []),some (.tup []),some (.tup []),some (.tup []),some (.d (.bool true)),some (.d (.bool true)),some (.tup []),some (.tup []),some (.tup []),some (.tup []),some (.tup []),some (.d (.bool true)),some (.d (.bool true)),some (.tup []),none,some (.tup []),none,none,none,none] ?_
         refine ⟨[0,1,2,3,4,5,6,7,8,9,10,11,12,13,14,15,16,18],by kernel_rfl,?_,_,_,rfl,rfl,.no rfl ?_⟩
         ·
          refine .v rfl rfl rfl rfl (aa rfl) ?_
          refine .v rfl rfl rfl rfl (iI rfl) ?_
          refine .cons rfl rfl rfl (.val rfl (aa rfl) (.eq (by rw [hb201]))) ?_
          refine .cons rfl rfl rfl (.no rfl (.refl _)) ?_
          refine .cons rfl rfl rfl (.no rfl (.refl _)) ?_
          refine .cons rfl rfl rfl (.no rfl (.refl _)) ?_
          refine .cons rfl rfl rfl (.no rfl (.refl _)) ?_
          refine .v rfl rfl rfl rfl (aB (b:=true) rfl rfl) ?_
          refine .v rfl rfl rfl rfl (aa rfl) ?_
          refine .cons rfl rfl rfl (.no rfl (.refl _)) ?_
          refine .cons rfl rfl rfl (.no rfl (.refl _)) ?_
          refine .cons rfl rfl rfl (.no rfl (.refl _)) ?_
          refine .cons rfl rfl rfl (.no rfl (.refl _)) ?_
          refine .cons rfl rfl rfl (.no rfl (.refl _)) ?_
          refine .v rfl rfl rfl rfl (aB (b:=true) rfl rfl) ?_
          refine .v rfl rfl rfl rfl (aa rfl) ?_
          refine .cons rfl rfl rfl (.no rfl (.refl _)) ?_
          refine .cons rfl rfl rfl (.no rfl (.refl _)) ?_
          exact .nil
         refine ⟨[some (.d (.bool z88.2)),some (.d (.bool (!z88.2))),some (.d (.bool true)),some (.tup []),some (.tup []),some (.tup []),some (.tup []),some (.d (.bool true)),some (.d (.bool true)),some (.tup []),some (.tup []),some (.tup []),some (.tup []),some (.tup []),some (.d (.bool true)),some (.d (.bool true)),some (.tup []),some (.tup []),some (.tup []),some (.tup []),some (.tup []),some (.tup []),some (.d (.bool true))],(.o (.o (.o (.o (.o (.o (.o (.o (.o (.o (.o (.o (.o (.o (.o (.o (.o (.new (.o (.new (.new (.new (.new .nil))))))))))))))))))))))),(fun _ ht=>by cases ht; exact ⟨_,rfl,.refl _⟩),?_⟩
         refine ⟨[18,19,20,21,22],by kernel_rfl,?_,_,rfl,?_⟩
         ·
          refine .cons rfl rfl rfl (.no rfl (.refl _)) ?_
          refine .cons rfl rfl rfl (.no rfl (.refl _)) ?_
          refine .cons rfl rfl rfl (.no rfl (.refl _)) ?_
          refine .cons rfl rfl rfl (.no rfl (.refl _)) ?_
          refine .v rfl rfl rfl rfl (aB (b:=true) rfl rfl) ?_
          exact .nil
         exact ⟨true,_,_,S95,.refl _ _,.refl _,(ai.r rfl (ai.r rfl (ai.r rfl (ai.r rfl (ai.r rfl (ai.r rfl (ai.r rfl (ai.r rfl ai.nil)))))))),H96.sl [2,5,6,7] rfl rfl,h⟩
        ·
         replace h:=dG hb201 h
         obtain ⟨z202,hzz202,h⟩:=bind_some h
         rcases Bool.eq_false_or_eq_true ((!z202)) with hb203 | hb203
         ·
          replace h:=dE hb203 h
          refine aC.gG E.obj jr Ko [(5,none),(6,none),(8,none),(9,none),(10,none),(11,none),(12,none),(94,some 22)] (by kernel_rfl) [17] (by decide) [some (.d (.bool z88.2)),some (.d (.bool (!z88.2))),some (.d (.bool false)),some (.d (ak z88.1)),some (.d (ak z23)),some (.d (.bool z202)),some (.d (.bool (!z202))),some (.d (.bool (!z202))),some (.d (.bool true)),some (.tup []),some (.tup []),some (.tup []),some (.tup []),some (.tup []),some (.d (.bool true)),some (.d (.bool true)),some (.tup []),none,some (.tup []),none,none,none,none] ?_
          refine ⟨[0,1,2,3,4,5,6,7,8,9,10,11,12,13,14,15,16,18],by kernel_rfl,?_,_,_,rfl,rfl,.no rfl ?_⟩
          ·
           refine .v rfl rfl rfl rfl (aa rfl) ?_
           refine .v rfl rfl rfl rfl (iI rfl) ?_
           refine .cons rfl rfl rfl (.val rfl (aa rfl) (.eq (by rw [hb201]))) ?_
           refine .cons rfl rfl rfl (.step ?_) ?_
           ·
            refine aj.val rfl (aJ H96 (i:=0) rfl rfl (aZ fA bY rfl)) rfl ?_
            refine aj.less (Less.agg' (d:=ak z88.1) (ax.eq rfl (ax.eq rfl (ax.eq rfl (ax.eq rfl (ax.eq rfl .nil))))) ((Tree.eq _).trans rfl)) ?_
            exact aj.nil ⟨_,_,rfl,fun _ ht=>by cases ht; exact ⟨rfl,.refl _⟩⟩
           refine .cons rfl rfl rfl (.step ?_) ?_
           ·
            refine aj.val rfl (aJ H96 (i:=1) rfl rfl (aZ fA bY rfl)) rfl ?_
            refine aj.less (Less.agg' (d:=ak z23) (ax.eq rfl (ax.eq rfl (ax.eq rfl (ax.eq rfl (ax.eq rfl .nil))))) ((Tree.eq _).trans rfl)) ?_
            exact aj.nil ⟨_,_,rfl,fun _ ht=>by cases ht; exact ⟨rfl,.refl _⟩⟩
           refine .cons rfl rfl rfl (.step ?_) ?_
           ·
            refine aj.ret rfl (aH rfl rfl) (dH E _ _ _ _ hzz202 _ _ (aQ.eq (aQ.eq .nil))) rfl ?_
            exact aj.nil ⟨_,_,rfl,fun _ ht=>by cases ht; exact ⟨rfl,.refl _⟩⟩
           refine .v rfl rfl rfl rfl (iI rfl) ?_
           refine .v rfl rfl rfl rfl (aB (b:=false) rfl rfl) ?_
           refine .cons rfl rfl rfl (.val rfl (aa rfl) (.eq (by rw [hb203]))) ?_
           refine .cons rfl rfl rfl (.no rfl (.refl _)) ?_
           refine .cons rfl rfl rfl (.no rfl (.refl _)) ?_
           refine .cons rfl rfl rfl (.no rfl (.refl _)) ?_
           refine .cons rfl rfl rfl (.no rfl (.refl _)) ?_
           refine .cons rfl rfl rfl (.no rfl (.refl _)) ?_
           refine .v rfl rfl rfl rfl (aB (b:=true) rfl rfl) ?_
           refine .v rfl rfl rfl rfl (aa rfl) ?_
           refine .cons rfl rfl rfl (.no rfl (.refl _)) ?_
           refine .cons rfl rfl rfl (.no rfl (.refl _)) ?_
           exact .nil
          refine ⟨[some (.d (.bool z88.2)),some (.d (.bool (!z88.2))),some (.d (.bool false)),some (.d (ak z88.1)),some (.d (ak z23)),some (.d (.bool z202)),some (.d (.bool (!z202))),some (.d (.bool (!z202))),some (.d (.bool true)),some (.tup []),some (.tup []),some (.tup []),some (.tup []),some (.tup []),some (.d (.bool true)),some (.d (.bool true)),some (.tup []),some (.tup []),some (.tup []),some (.tup []),some (.tup []),some (.tup []),some (.d (.bool true))],(.o (.o (.o (.o (.o (.o (.o (.o (.o (.o (.o (.o (.o (.o (.o (.o (.o (.new (.o (.new (.new (.new (.new .nil))))))))))))))))))))))),(fun _ ht=>by cases ht; exact ⟨_,rfl,.refl _⟩),?_⟩
          refine ⟨[18,19,20,21,22],by kernel_rfl,?_,_,rfl,?_⟩
          ·
           refine .cons rfl rfl rfl (.no rfl (.refl _)) ?_
           refine .cons rfl rfl rfl (.no rfl (.refl _)) ?_
           refine .cons rfl rfl rfl (.no rfl (.refl _)) ?_
           refine .cons rfl rfl rfl (.no rfl (.refl _)) ?_
           refine .v rfl rfl rfl rfl (aB (b:=true) rfl rfl) ?_
           exact .nil
          exact ⟨true,_,_,S95,.refl _ _,.refl _,(ai.r rfl (ai.r rfl (ai.r rfl (ai.r rfl (ai.r rfl (ai.r rfl (ai.r rfl (ai.r rfl ai.nil)))))))),H96.sl [2,5,6,7] rfl rfl,h⟩
         ·
          replace h:=dG hb203 h
          rcases Bool.eq_false_or_eq_true ((((z84).length:Int) != ((z75).length:Int))) with hb204 | hb204
          ·
           replace h:=dE hb204 h
           refine aC.gG E.obj jr Ko [(5,none),(6,none),(8,none),(9,none),(10,none),(11,none),(12,none),(94,some 22)] (by kernel_rfl) [17] (by decide) [some (.d (.bool z88.2)),some (.d (.bool (!z88.2))),some (.d (.bool false)),some (.d (ak z88.1)),some (.d (ak z23)),some (.d (.bool z202)),some (.d (.bool (!z202))),some (.d (.bool (!z202))),some (.d (.bool false)),some (.d (.sl ((z84).map (D.int .i64)) false)),some (.d (.int .i64 ((z84).length:Int))),some (.d (.sl ((z75).map (D.int .i64)) false)),some (.d (.int .i64 ((z75).length:Int))),some (.d (.bool (((z84).length:Int) != ((z75).length:Int)))),some (.d (.bool (((z84).length:Int) != ((z75).length:Int)))),some (.d (.bool true)),some (.tup []),none,some (.tup []),none,none,none,none] ?_
           refine ⟨[0,1,2,3,4,5,6,7,8,9,10,11,12,13,14,15,16,18],by kernel_rfl,?_,_,_,rfl,rfl,.no rfl ?_⟩
           ·
            refine .v rfl rfl rfl rfl (aa rfl) ?_
            refine .v rfl rfl rfl rfl (iI rfl) ?_
            refine .cons rfl rfl rfl (.val rfl (aa rfl) (.eq (by rw [hb201]))) ?_
            refine .cons rfl rfl rfl (.step ?_) ?_
            ·
             refine aj.val rfl (aJ H96 (i:=0) rfl rfl (aZ fA bY rfl)) rfl ?_
             refine aj.less (Less.agg' (d:=ak z88.1) (ax.eq rfl (ax.eq rfl (ax.eq rfl (ax.eq rfl (ax.eq rfl .nil))))) ((Tree.eq _).trans rfl)) ?_
             exact aj.nil ⟨_,_,rfl,fun _ ht=>by cases ht; exact ⟨rfl,.refl _⟩⟩
            refine .cons rfl rfl rfl (.step ?_) ?_
            ·
             refine aj.val rfl (aJ H96 (i:=1) rfl rfl (aZ fA bY rfl)) rfl ?_
             refine aj.less (Less.agg' (d:=ak z23) (ax.eq rfl (ax.eq rfl (ax.eq rfl (ax.eq rfl (ax.eq rfl .nil))))) ((Tree.eq _).trans rfl)) ?_
             exact aj.nil ⟨_,_,rfl,fun _ ht=>by cases ht; exact ⟨rfl,.refl _⟩⟩
            refine .cons rfl rfl rfl (.step ?_) ?_
            ·
             refine aj.ret rfl (aH rfl rfl) (dH E _ _ _ _ hzz202 _ _ (aQ.eq (aQ.eq .nil))) rfl ?_
             exact aj.nil ⟨_,_,rfl,fun _ ht=>by cases ht; exact ⟨rfl,.refl _⟩⟩
            refine .v rfl rfl rfl rfl (iI rfl) ?_
            refine .v rfl rfl rfl rfl (aB (b:=false) rfl rfl) ?_
            refine .cons rfl rfl rfl (.val rfl (aa rfl) (.eq (by rw [hb203]))) ?_
            refine .v rfl rfl rfl rfl (aa rfl) ?_
            refine .v rfl rfl rfl rfl (bu rfl jh) ?_
            refine .v rfl rfl rfl rfl (aa rfl) ?_
            refine .v rfl rfl rfl rfl (bu rfl jh) ?_
            refine .v rfl rfl rfl rfl (aD rfl rfl jd) ?_
            refine .v rfl rfl rfl rfl (aB (b:=false) rfl rfl) ?_
            refine .cons rfl rfl rfl (.val rfl (aa rfl) (.eq (by rw [hb204]))) ?_
            refine .cons rfl rfl rfl (.no rfl (.refl _)) ?_
            refine .cons rfl rfl rfl (.no rfl (.refl _)) ?_
            exact .nil
           refine ⟨[some (.d (.bool z88.2)),some (.d (.bool (!z88.2))),some (.d (.bool false)),some (.d (ak z88.1)),some (.d (ak z23)),some (.d (.bool z202)),some (.d (.bool (!z202))),some (.d (.bool (!z202))),some (.d (.bool false)),some (.d (.sl ((z84).map (D.int .i64)) false)),some (.d (.int .i64 ((z84).length:Int))),some (.d (.sl ((z75).map (D.int .i64)) false)),some (.d (.int .i64 ((z75).length:Int))),some (.d (.bool (((z84).length:Int) != ((z75).length:Int)))),some (.d (.bool (((z84).length:Int) != ((z75).length:Int)))),some (.d (.bool true)),some (.tup []),some (.tup []),some (.tup []),some (.tup []),some (.tup []),some (.tup []),some (.d (.bool true))],(.o (.o (.o (.o (.o (.o (.o (.o (.o (.o (.o (.o (.o (.o (.o (.o (.o (.new (.o (.new (.new (.new (.new .nil))))))))))))))))))))))),(fun _ ht=>by cases ht; exact ⟨_,rfl,.refl _⟩),?_⟩
           refine ⟨[18,19,20,21,22],by kernel_rfl,?_,_,rfl,?_⟩
           ·
            refine .cons rfl rfl rfl (.no rfl (.refl _)) ?_
            refine .cons rfl rfl rfl (.no rfl (.refl _)) ?_
            refine .cons rfl rfl rfl (.no rfl (.refl _)) ?_
            refine .cons rfl rfl rfl (.no rfl (.refl _)) ?_
            refine .v rfl rfl rfl rfl (aB (b:=true) rfl rfl) ?_
            exact .nil
           exact ⟨true,_,_,S95,.refl _ _,.refl _,(ai.r rfl (ai.r rfl (ai.r rfl (ai.r rfl (ai.r rfl (ai.r rfl (ai.r rfl (ai.r rfl ai.nil)))))))),H96.sl [2,5,6,7] rfl rfl,h⟩
          ·
           replace h:=dG hb204 h
           obtain ⟨z205,hzz205,h⟩:=bind_some h
           obtain ⟨z209,hzz209,h⟩:=bind_some h
           refine aC.gG E.obj jr Ko [(5,none),(6,none),(8,none),(9,none),(10,none),(11,none),(12,none),(94,some 22)] (by kernel_rfl) [17] (by decide) [some (.d (.bool z88.2)),some (.d (.bool (!z88.2))),some (.d (.bool false)),some (.d (ak z88.1)),some (.d (ak z23)),some (.d (.bool z202)),some (.d (.bool (!z202))),some (.d (.bool (!z202))),some (.d (.bool false)),some (.d (.sl ((z84).map (D.int .i64)) false)),some (.d (.int .i64 ((z84).length:Int))),some (.d (.sl ((z75).map (D.int .i64)) false)),some (.d (.int .i64 ((z75).length:Int))),some (.d (.bool (((z84).length:Int) != ((z75).length:Int)))),some (.d (.bool (((z84).length:Int) != ((z75).length:Int)))),some (.d (.bool false)),some (.ptr b16 0 0),none,some (.d (ak z23)),none,none,none,none] ?_
           refine ⟨[0,1,2,3,4,5,6,7,8,9,10,11,12,13,14,15,16,18],by kernel_rfl,?_,_,_,rfl,rfl,.step ?_⟩
           ·
            refine .v rfl rfl rfl rfl (aa rfl) ?_
            refine .v rfl rfl rfl rfl (iI rfl) ?_
            refine .cons rfl rfl rfl (.val rfl (aa rfl) (.eq (by rw [hb201]))) ?_
            refine .cons rfl rfl rfl (.step ?_) ?_
            ·
             refine aj.val rfl (aJ H96 (i:=0) rfl rfl (aZ fA bY rfl)) rfl ?_
             refine aj.less (Less.agg' (d:=ak z88.1) (ax.eq rfl (ax.eq rfl (ax.eq rfl (ax.eq rfl (ax.eq rfl .nil))))) ((Tree.eq _).trans rfl)) ?_
             exact aj.nil ⟨_,_,rfl,fun _ ht=>by cases ht; exact ⟨rfl,.refl _⟩⟩
            refine .cons rfl rfl rfl (.step ?_) ?_
            ·
             refine aj.val rfl (aJ H96 (i:=1) rfl rfl (aZ fA bY rfl)) rfl ?_
             refine aj.less (Less.agg' (d:=ak z23) (ax.eq rfl (ax.eq rfl (ax.eq rfl (ax.eq rfl (ax.eq rfl .nil))))) ((Tree.eq _).trans rfl)) ?_
             exact aj.nil ⟨_,_,rfl,fun _ ht=>by cases ht; exact ⟨rfl,.refl _⟩⟩
            refine .cons rfl rfl rfl (.step ?_) ?_
            ·
             refine aj.ret rfl (aH rfl rfl) (dH E _ _ _ _ hzz202 _ _ (aQ.eq (aQ.eq .nil))) rfl ?_
             exact aj.nil ⟨_,_,rfl,fun _ ht=>by cases ht; exact ⟨rfl,.refl _⟩⟩
            refine .v rfl rfl rfl rfl (iI rfl) ?_
            refine .v rfl rfl rfl rfl (aB (b:=false) rfl rfl) ?_
            refine .cons rfl rfl rfl (.val rfl (aa rfl) (.eq (by rw [hb203]))) ?_
            refine .v rfl rfl rfl rfl (aa rfl) ?_
            refine .v rfl rfl rfl rfl (bu rfl jh) ?_
            refine .v rfl rfl rfl rfl (aa rfl) ?_
            refine .v rfl rfl rfl rfl (bu rfl jh) ?_
            refine .v rfl rfl rfl rfl (aD rfl rfl jd) ?_
            refine .v rfl rfl rfl rfl (aB (b:=false) rfl rfl) ?_
            refine .cons rfl rfl rfl (.val rfl (aa rfl) (.eq (by rw [hb204]))) ?_
            refine .v rfl rfl rfl rfl (aa rfl) ?_
            refine .cons rfl rfl rfl (.step ?_) ?_
            ·
             refine aj.val rfl (aJ H96 (i:=1) rfl rfl (aZ fA bY rfl)) rfl ?_
             refine aj.less (Less.agg' (d:=ak z23) (ax.eq rfl (ax.eq rfl (ax.eq rfl (ax.eq rfl (ax.eq rfl .nil))))) ((Tree.eq _).trans rfl)) ?_
             exact aj.nil ⟨_,_,rfl,fun _ ht=>by cases ht; exact ⟨rfl,.refl _⟩⟩
            exact .nil
           refine aj.eF (ins:=[.box b16 [v77,w79],aA ae ah.kids 7 5 v77 ws78 z76.2.l none,aI w79 z76.2.freed]) (more:=[.box b92 [(.d (.str z88.1.Tag)),(.d (.str z88.1.Key)),(.d (.str z88.1.Text)),(.d (.sl ((z88.1.aL).map az) false)),(.d (.sl ((z88.1.Kids).map ak) false))],.box b27 [(.d (.str z23.Tag)),(.d (.str z23.Key)),(.d (.str z23.Text)),(.d (.sl ((z23.aL).map az) false)),(.d (.sl ((z23.Kids).map ak) false))],.box b24 [(.d (.str z22.Tag)),(.d (.str z22.Key)),(.d (.str z22.Text)),(.d (.sl ((z22.aL).map az) false)),(.d (.sl ((z22.Kids).map ak) false))],.box b6 [(.d (.sl ((a2.Under).map (D.int .i64)) false)),(.d (.sl ((a2.Kinds).map (D.int .i64)) false)),(.d (.sl ((a2.Keys).map (D.int .i64)) false)),(.d (.sl ((a2.Texts).map (D.int .i64)) false))],.box b3 [(.d (.sl ((a1.Under).map (D.int .i64)) false)),(.d (.sl ((a1.Kinds).map (D.int .i64)) false)),(.d (.sl ((a1.Keys).map (D.int .i64)) false)),(.d (.sl ((a1.Texts).map (D.int .i64)) false))]]) (H96.sl [5,6,7,0,1,2,3,4] rfl rfl) rfl (aH rfl rfl) (dF E n _ _ hzz205 b16 v77 ws78 w79) (.cons (.refl _) .nil) rfl ?_
           rintro _ S210 _ ⟨rfl,rfl⟩ H211
           have H212:Has aK S210 [.box b92 [(.d (.str z88.1.Tag)),(.d (.str z88.1.Key)),(.d (.str z88.1.Text)),(.d (.sl ((z88.1.aL).map az) false)),(.d (.sl ((z88.1.Kids).map ak) false))],.box b27 [(.d (.str z23.Tag)),(.d (.str z23.Key)),(.d (.str z23.Text)),(.d (.sl ((z23.aL).map az) false)),(.d (.sl ((z23.Kids).map ak) false))],.box b24 [(.d (.str z22.Tag)),(.d (.str z22.Key)),(.d (.str z22.Text)),(.d (.sl ((z22.aL).map az) false)),(.d (.sl ((z22.Kids).map ak) false))],.box b6 [(.d (.sl ((a2.Under).map (D.int .i64)) false)),(.d (.sl ((a2.Kinds).map (D.int .i64)) false)),(.d (.sl ((a2.Keys).map (D.int .i64)) false)),(.d (.sl ((a2.Texts).map (D.int .i64)) false))],.box b3 [(.d (.sl ((a1.Under).map (D.int .i64)) false)),(.d (.sl ((a1.Kinds).map (D.int .i64)) false)),(.d (.sl ((a1.Keys).map (D.int .i64)) false)),(.d (.sl ((a1.Texts).map (D.int .i64)) false))],.box b16 [v77,w79],aA ae ah.kids 7 5 v77 ws78 z76.2.l none,aI w79 z76.2.freed]:=H211.sl [3,4,5,6,7,0,1,2] rfl rfl
           refine aj.nil ⟨_,_,_,rfl,(fun _ ht=>by cases ht; rfl),[some (.d (.bool z88.2)),some (.d (.bool (!z88.2))),some (.d (.bool false)),some (.d (ak z88.1)),some (.d (ak z23)),some (.d (.bool z202)),some (.d (.bool (!z202))),some (.d (.bool (!z202))),some (.d (.bool false)),some (.d (.sl ((z84).map (D.int .i64)) false)),some (.d (.int .i64 ((z84).length:Int))),some (.d (.sl ((z75).map (D.int .i64)) false)),some (.d (.int .i64 ((z75).length:Int))),some (.d (.bool (((z84).length:Int) != ((z75).length:Int)))),some (.d (.bool (((z84).length:Int) != ((z75).length:Int)))),some (.d (.bool false)),some (.ptr b16 0 0),some (.d (.int .i64 z205)),some (.d (ak z23)),some (.d (.int .i64 z209)),some (.d (.int .i64 (IntKind.wrap .i64 (1 + z209)))),some (.d (.bool (z205 != (IntKind.wrap .i64 (1 + z209))))),some (.d (.bool (z205 != (IntKind.wrap .i64 (1 + z209)))))],(.o (.o (.o (.o (.o (.o (.o (.o (.o (.o (.o (.o (.o (.o (.o (.o (.o (.new (.o (.new (.new (.new (.new .nil))))))))))))))))))))))),(fun _ ht=>by cases ht; exact ⟨_,rfl,.refl _⟩),?_⟩
           refine ⟨[18,19,20,21,22],by kernel_rfl,?_,_,rfl,?_⟩
           ·
            refine .cons rfl rfl rfl (.step ?_) ?_
            ·
             refine aj.val rfl (aJ H212 (i:=1) rfl rfl (aZ fA bY rfl)) rfl ?_
             refine aj.less (Less.agg' (d:=ak z23) (ax.eq rfl (ax.eq rfl (ax.eq rfl (ax.eq rfl (ax.eq rfl .nil))))) ((Tree.eq _).trans rfl)) ?_
             exact aj.nil ⟨_,_,rfl,fun _ ht=>by cases ht; exact ⟨rfl,.refl _⟩⟩
            refine .cons rfl rfl rfl (.step ?_) ?_
            ·
             refine aj.ret rfl (aH rfl rfl) (jT E _ _ _ hzz209 _ _ (aQ.eq .nil)) rfl ?_
             exact aj.nil ⟨_,_,rfl,fun _ ht=>by cases ht; exact ⟨rfl,.refl _⟩⟩
            refine .v rfl rfl rfl rfl (aD rfl rfl dx) ?_
            refine .v rfl rfl rfl rfl (aD rfl rfl jd) ?_
            refine .v rfl rfl rfl rfl (aB (b:=false) rfl rfl) ?_
            exact .nil
           exact ⟨(z205 != (IntKind.wrap .i64 (1 + z209))),_,_,S210,.refl _ _,.refl _,(ai.r rfl (ai.r rfl (ai.r rfl (ai.r rfl (ai.r rfl (ai.r rfl (ai.r rfl (ai.r rfl ai.nil)))))))),H212.sl [2,5,6,7] rfl rfl,h⟩
end
end Pr
end Go.Ev

namespace Go.Ev
namespace Pr
set_option linter.unusedVariables false
set_option linter.unusedSimpArgs false
theorem mf {n:Int} (h0:-9223372036854775808 ≤ n) (h1:n ≤ 9223372036854775807):IntKind.wrap .i64 n=n:=Go.IntWalk.i64_in n ⟨h0,h1⟩
theorem nL {α:Type} (l:List α) (i:Nat):idx l (i:Int)=l[i]?:=by
 unfold idx
 rw [if_pos (by omega)]
 simp
theorem iy {α:Type} {l done rest:List α} {z:α} (h:l=done ++ z :: rest):idx l (done.length:Int)=some z:=by
 rw [nL,h]; simp
theorem wT {α:Type} (l:List α) {i:Int} (h0:0 ≤ i) (h1:i < l.length):∃ x,idx l i=some x∧x ∈ l∧l[i.toNat]? = some x:=by
 obtain ⟨j,rfl⟩:=Int.eq_ofNat_of_zero_le h0
 have hj:j < l.length:=by omega
 exact ⟨l[j],by rw [nL]; exact List.getElem?_eq_getElem hj,List.getElem_mem hj,by simp [hj]⟩
theorem lU {α:Type} {nb:Nat} {l ys:List α} (h:(l.length + ys.length) * nb ≤ bound):app nb l ys=some (l ++ ys):=by
 unfold app; rw [if_pos h]
theorem BV {k:IntKind} {a b:Int} (h:b ≠ 0):G9 k a b=some (a.tmod b):=by
 unfold G9; rw [if_neg h]
theorem bnd:bound=70368744177664:=rfl
end Pr
end Go.Ev

namespace Go.Ev
namespace Pr
set_option linter.unusedVariables false
set_option linter.unusedSimpArgs false
def nd (d:ay) (i:Int):Option ah:=if 1 ≤ i then d.l[(i - 1).toNat]? else none
theorem cB {d:ay} {i:Int} {z:ah} (h:nd d i=some z):1 ≤ i∧i ≤ d.l.length:=by
 unfold nd at h
 split at h
 ·
  have:=(List.getElem?_eq_some_iff.1 h).1
  omega
 ·
  cases h
theorem qK {d:ay} {i:Int} (h1:1 ≤ i) (h2:i ≤ d.l.length):∃ z,nd d i=some z:=by
 unfold nd; rw [if_pos h1]
 exact ⟨_,List.getElem?_eq_getElem (by omega)⟩
def dM:Nat:=100000
theorem je {d:ay} (hl:d.l.length ≤ dM) {i:Int} {z:ah} (h:nd d i=some z):idx d.l (IntKind.wrap .i64 (i - 1))=some z:=by
 have hr:=cB h
 unfold dM at hl
 rw [mf (by omega) (by omega)]
 unfold nd at h; rw [if_pos hr.1] at h
 unfold idx; rw [if_pos (by omega)]; exact h
def jC (d:ay) (i:Int) (z:ah):ay:={ d with l:=d.l.set (i - 1).toNat z }
theorem o6 {d:ay} (hl:d.l.length ≤ dM) {i:Int} {z0:ah} (h:nd d i=some z0) (z:ah):kE d.l (IntKind.wrap .i64 (i - 1)) z=(jC d i z).l:=by
 have hr:=cB h
 unfold dM at hl
 rw [mf (by omega) (by omega)]; rfl
theorem iY {d:ay} {i:Int} {z0:ah} (h:nd d i=some z0) (z:ah) (j:Int):nd (jC d i z) j=if j=i then some z else nd d j:=by
 have hr:=cB h
 unfold nd jC
 by_cases hj:1 ≤ j
 ·
  rw [if_pos hj,if_pos hj]
  by_cases hij:j=i
  ·
   subst hij; rw [if_pos rfl,List.getElem?_set_self (by omega)]
  ·
   rw [if_neg hij,List.getElem?_set_ne (by omega)]
 ·
  rw [if_neg hj,if_neg hj,if_neg (by omega)]
@[simp] theorem lQ (d:ay) (i:Int) (z:ah):(jC d i z).l.length=d.l.length:=by simp [jC]
@[simp] theorem EK (d:ay) (i:Int) (z:ah):(jC d i z).freed=d.freed:=rfl
def kz (d:ay) (i:Int):Bool:=match nd d i with | some z=>z.lives | none=>false
theorem fZ {d:ay} {i:Int} (h:kz d i=true):∃ z,nd d i=some z∧z.lives=true:=by
 unfold kz at h
 split at h
 ·
  exact ⟨_,‹_›,h⟩
 ·
  cases h
theorem xL {d:ay} (hl:d.l.length ≤ dM) (n:Nat) (i:Int):gM n d i=some (kz d i):=by
 unfold gM
 by_cases h:i < 1∨(d.l.length:Int) < i
 ·
  rw [if_pos (by simpa using h),Option.bind_some,if_pos rfl]
  have:nd d i=none:=by
   cases hn:nd d i with
   | none=>rfl
   | some z=>have:=cB hn; omega
  unfold kz; rw [this]
 ·
  obtain ⟨z,hz⟩:=qK (d:=d) (i:=i) (by omega) (by omega)
  rw [if_neg (by simpa using h),je hl hz]
  simp only [Option.bind_some]
  unfold kz; rw [hz]
  cases hlv:z.lives <;> simp [hlv]
inductive Path (d:ay):Int→List Int→Prop
 | top {i:Int} {z:ah} (h:nd d i=some z) (hl:z.lives=true) (hp:z.parent=0):Path d i [i]
 | up {i:Int} {z:ah} {l:List Int} (h:nd d i=some z) (hl:z.lives=true) (hp:z.parent ≠ 0) (k:Path d z.parent l):Path d i (i :: l)
structure WF (d:ay):Prop where
 len:d.l.length ≤ 5000
 root:∃ z,nd d 1=some z∧z.lives=true∧z.parent=0∧z.tag ≠ []
 freedR:∀ i ∈ d.freed,1 < i∧i ≤ d.l.length
 freedN:d.freed.Nodup
 dead:∀ i z,nd d i=some z→(z.lives=false↔i ∈ d.freed)
 kidN:∀ i z,nd d i=some z→z.lives=true→z.kids.Nodup
 kid:∀ i z k,nd d i=some z→z.lives=true→k ∈ z.kids→∃ y,nd d k=some y∧y.lives=true∧y.parent=i
 par:∀ k y,nd d k=some y→y.lives=true→y.parent ≠ 0→∃ z,nd d y.parent=some z∧z.lives=true∧k ∈ z.kids∧z.tag ≠ []
 path:∀ i,kz d i=true→∃ l,Path d i l
 attrs:∀ i z,nd d i=some z→z.attrs.length ≤ 100000
theorem WF.dm {d:ay} (h:WF d):d.l.length ≤ dM:=Nat.le_trans h.len (by decide)
theorem dQ {d:ay} {i:Int} {z:ah} (h:nd d i=some z):kz d i=z.lives:=by unfold kz; rw [h]
theorem Path.uniq {d:ay} {i:Int} {l l':List Int} (h:Path d i l) (h':Path d i l'):l=l':=by
 induction h generalizing l' with
 | top h hl hp =>
  cases h' with
  | top=>rfl
  | up h2 _ hp2 _=>rw [h] at h2; cases h2; exact absurd hp hp2
 | up h hl hp k ih =>
  cases h' with
  | top h2 _ hp2=>rw [h] at h2; cases h2; exact absurd hp2 hp
  | up h2 _ _ k2=>rw [h] at h2; cases h2; rw [ih k2]
theorem Path.head {d:ay} {i:Int} {l:List Int} (h:Path d i l):∃ t,l=i :: t:=by cases h <;> exact ⟨_,rfl⟩
theorem Path.mem {d:ay} {i:Int} {l:List Int} (h:Path d i l):∀ j ∈ l,∃ l1 l2,l=l1 ++ l2∧Path d j l2∧∃ z,nd d j=some z∧z.lives=true:=by
 induction h with
 | top h hl hp =>
  intro j hj
  simp only [List.mem_singleton] at hj
  subst hj; exact ⟨[],_,rfl,.top h hl hp,_,h,hl⟩
 | up h hl hp k ih =>
  intro j hj
  rcases List.mem_cons.1 hj with rfl | hj
  ·
   exact ⟨[],_,rfl,.up h hl hp k,_,h,hl⟩
  ·
   obtain ⟨l1,l2,e,k2,r⟩:=ih j hj
   exact ⟨_ :: l1,l2,by rw [e]; rfl,k2,r⟩
theorem Path.nodup {d:ay} {i:Int} {l:List Int} (h:Path d i l):l.Nodup:=by
 induction h with
 | top=>simp
 | up h hl hp k ih =>
  refine List.nodup_cons.2 ⟨fun hm=>?_,ih⟩
  obtain ⟨l1,l2,e,k2,_⟩:=k.mem _ hm
  have:=k2.uniq (.up h hl hp k)
  have:=congrArg List.length this
  rw [e] at this
  simp at this
  omega
theorem iQ:∀ (n:Nat) (l:List Int),l.Nodup→(∀ x ∈ l,1 ≤ x∧x ≤ (n:Int))→l.length ≤ n
 | 0,l,hn,h=>by
  cases l with
  | nil=>simp
  | cons x l=>have:=h x List.mem_cons_self; omega
 | n + 1,l,hn,h=>by
  by_cases hm:((n + 1:Nat):Int) ∈ l
  ·
   have:=iQ n (l.erase ((n + 1:Nat):Int)) (hn.erase _) (fun x hx=>by
    have h1:=(List.Nodup.mem_erase_iff hn).1 hx
    have h2:=h x h1.2
    have h3:=h1.1
    omega)
   rw [List.length_erase_of_mem hm] at this
   omega
  ·
   have:=iQ n l hn (fun x hx=>by
    have h2:=h x hx
    have h3:x ≠ ((n + 1:Nat):Int):=fun q=>hm (q ▸ hx)
    omega)
   omega
theorem Path.length {d:ay} {i:Int} {l:List Int} (h:Path d i l):l.length ≤ d.l.length:=by
 refine iQ _ _ h.nodup (fun x hx=>?_)
 obtain ⟨_,_,_,_,z,hz,_⟩:=h.mem x hx
 exact cB hz
theorem EA {d:ay} (hm:d.l.length ≤ dM) {top:Int} (ht:top ≠ 0):∀ {i:Int} {l:List Int},Path d i l→∀ f,l.length < f→dU d top f i=some (decide (top ∈ l))
 | i,l,h,0,hf=>by omega
 | i,l,h,f + 1,hf=>by
  have hi:i ≠ 0:=by
   cases h with
   | top h=>have:=cB h; omega
   | up h=>have:=cB h; omega
  rw [dU]
  by_cases he:i=top
  ·
   subst he
   rw [if_neg (by simp)]
   obtain ⟨t,rfl⟩:=h.head
   simp
  ·
   rw [if_pos (by simp [he,hi])]
   cases h with
   | top h hl hp =>
    rw [je hm h,Option.bind_some,hp]
    cases f with
    | zero=>simp at hf
    | succ f =>
     rw [dU,if_neg (by simp)]
     simp [he,Ne.symm he,Ne.symm ht]
   | up h hl hp k =>
    rw [je hm h,Option.bind_some,EA hm ht k f (by simp at hf; omega)]
    simp [Ne.symm he]
end Pr
end Go.Ev

namespace Go.Ev
namespace Pr
set_option linter.unusedVariables false
set_option linter.unusedSimpArgs false
theorem WF.lp {d:ay} (h:WF d) {i:Int} (hi:kz d i=true):∃ z l,nd d i=some z∧z.lives=true∧Path d i l∧l.length ≤ 5000:=by
 obtain ⟨z,hz,hl⟩:=fZ hi
 obtain ⟨l,hp⟩:=h.path i hi
 exact ⟨z,l,hz,hl,hp,Nat.le_trans hp.length h.len⟩
def under (d:ay) (top i:Int):Prop:=∃ l,Path d i l∧top ∈ l
theorem Ff {d:ay} (h:WF d) {i:Int} {l:List Int} (hp:Path d i l) {top:Int} (ht:top ≠ 0) {n:Nat} (hn:5000 < n):jP n d i top=some (decide (top ∈ l)):=by
 unfold jP
 exact EA h.dm ht hp n (by have:=hp.length; have:=h.len; omega)
theorem Le (d:ay) (z:ah) (i:Int):nd { d with l:=d.l ++ [z] } i=if i=(d.l.length:Int) + 1 then some z else nd d i:=by
 unfold nd
 by_cases h1:1 ≤ i
 ·
  rw [if_pos h1,if_pos h1]
  by_cases h2:i=(d.l.length:Int) + 1
  ·
   subst h2
   rw [if_pos rfl,List.getElem?_append_right (by omega)]
   have:((d.l.length:Int) + 1 - 1).toNat - d.l.length=0:=by omega
   rw [this]; rfl
  ·
   rw [if_neg h2]
   by_cases h3:(i - 1).toNat < d.l.length
   ·
    rw [List.getElem?_append_left h3]
   ·
    rw [List.getElem?_eq_none (by simp; omega),List.getElem?_eq_none (by omega)]
 ·
  rw [if_neg h1,if_neg h1,if_neg (by omega)]
theorem Path.keep {d d':ay} {i:Int} {l:List Int} (h:Path d i l) (hk:∀ j ∈ l,∀ z,nd d j=some z→∃ z',nd d' j=some z'∧z'.lives=z.lives∧z'.parent=z.parent):Path d' i l:=by
 induction h with
 | top h hl hp =>
  obtain ⟨z',h1,h2,h3⟩:=hk _ List.mem_cons_self _ h
  exact .top h1 (by rw [h2,hl]) (by rw [h3,hp])
 | up h hl hp k ih =>
  obtain ⟨z',h1,h2,h3⟩:=hk _ List.mem_cons_self _ h
  refine .up h1 (by rw [h2,hl]) (by rw [h3]; exact hp) ?_
  rw [h3]; exact ih (fun j hj=>hk j (List.mem_cons_of_mem _ hj))
structure New (d d':ay) (id:Int) (z:ah):Prop where
 dead:kz d id=false
 notroot:id ≠ 1
 pos:1 ≤ id
 get:∀ j,nd d' j=if j=id then some z else nd d j
 len:d'.l.length ≤ d.l.length + 1
 ge:d.l.length ≤ d'.l.length
theorem New.wf {d d':ay} {id:Int} {z:ah} (h:WF d) (k:New d d' id z) (hz:z.lives=true) (hk:z.kids=[]) (hp:z.parent=0) (ha:z.attrs.length ≤ 100000) (hlen:d'.l.length ≤ 5000) (hf:∀ i,i ∈ d'.freed↔(i ∈ d.freed∧i ≠ id)) (hfn:d'.freed.Nodup):WF d':=by
 have old:∀ i,kz d i=true→i ≠ id:=fun i hi q=>by rw [q,k.dead] at hi; cases hi
 refine ⟨hlen,?_,fun i hi=>?_,hfn,fun i y hy=>?_,fun i y hy hl=>?_,fun i y c hy hl hc=>?_,fun c y hy hl hyp=>?_,fun i hi=>?_,fun i y hy=>?_⟩
 ·
  obtain ⟨r,h1,h2,h3,h4⟩:=h.root
  exact ⟨r,by rw [k.get,if_neg (Ne.symm k.notroot)]; exact h1,h2,h3,h4⟩
 ·
  have:=h.freedR i ((hf i).1 hi).1
  have:=k.ge; omega
 ·
  rw [k.get] at hy
  by_cases hi:i=id
  ·
   rw [if_pos hi] at hy; cases hy
   rw [hf]; simp [hz,hi]
  ·
   rw [if_neg hi] at hy
   rw [h.dead i y hy,hf]; simp [hi]
 ·
  rw [k.get] at hy
  by_cases hi:i=id
  ·
   rw [if_pos hi] at hy; cases hy; rw [hk]; simp
  ·
   rw [if_neg hi] at hy; exact h.kidN i y hy hl
 ·
  rw [k.get] at hy
  by_cases hi:i=id
  ·
   rw [if_pos hi] at hy; cases hy; rw [hk] at hc; cases hc
  ·
   rw [if_neg hi] at hy
   obtain ⟨x,h1,h2,h3⟩:=h.kid i y c hy hl hc
   exact ⟨x,by rw [k.get,if_neg (old c (by rw [dQ h1,h2]))]; exact h1,h2,h3⟩
 ·
  rw [k.get] at hy
  by_cases hi:c=id
  ·
   rw [if_pos hi] at hy; cases hy; exact absurd hp hyp
  ·
   rw [if_neg hi] at hy
   obtain ⟨x,h1,h2,h3⟩:=h.par c y hy hl hyp
   exact ⟨x,by rw [k.get,if_neg (old _ (by rw [dQ h1,h2]))]; exact h1,h2,h3⟩
 ·
  by_cases hq:i=id
  ·
   subst hq
   exact ⟨[i],.top (by rw [k.get,if_pos rfl]) hz hp⟩
  ·
   have:kz d i=true:=by unfold kz at hi ⊢; rw [k.get,if_neg hq] at hi; exact hi
   obtain ⟨l,hl⟩:=h.path i this
   refine ⟨l,hl.keep (fun j hj y hy=>⟨y,?_,rfl,rfl⟩)⟩
   obtain ⟨_,_,_,_,x,h1,h2⟩:=hl.mem j hj
   rw [k.get,if_neg (old j (by rw [dQ h1,h2]))]; exact hy
 ·
  rw [k.get] at hy
  by_cases hi:i=id
  ·
   rw [if_pos hi] at hy; cases hy; exact ha
  ·
   rw [if_neg hi] at hy; exact h.attrs i y hy
def nextId (d:ay):Int:=match d.freed.getLast? with | some i=>i | none=>(d.l.length:Int) + 1
def qH (z:aG):ah:=ah.mk true z.tag z.key z.text z.attrs [] z.parent
theorem Ji {d:ay} (h:WF d) (hl:d.l.length < 5000) (n:Nat) (z:aG) (hz:z.parent=0) (ha:z.attrs.length ≤ 100000):∃ d',jQ n d z=some (nextId d,d')∧WF d'∧New d d' (nextId d) (qH z)∧d'.freed=d.freed.dropLast∧d'.l.length=(if d.freed=[] then d.l.length + 1 else d.l.length):=by
 unfold jQ
 have hfl:d.freed.length ≤ d.l.length:=iQ _ _ h.freedN (fun x hx=>⟨by have:=h.freedR x hx; omega,(h.freedR x hx).2⟩)
 have hw:IntKind.wrap .i64 ((d.freed.length:Int) - 1)=(d.freed.length:Int) - 1:=mf (by omega) (by omega)
 rw [hw]
 by_cases h0:d.freed=[]
 ·
  rw [if_pos (by simp [h0])]
  have happ:∀ q:ah,app 112 d.l [q]=some (d.l ++ [q]):=fun q=>lU (by rw [bnd]; simp; omega)
  rw [happ,Option.bind_some]
  have hid:nextId d=(d.l.length:Int) + 1:=by unfold nextId; rw [h0]; rfl
  have hget:=Le d (qH z)
  have hnew:New d { d with l:=d.l ++ [qH z] } (nextId d) (qH z):=by
   refine ⟨?_,by rw [hid]; obtain ⟨r,h1,_⟩:=h.root; have:=cB h1; omega,by rw [hid]; omega,fun j=>by rw [hget,hid],by simp,by simp⟩
   unfold kz
   cases hn:nd d (nextId d) with
   | none=>rfl
   | some y=>have:=cB hn; omega
  refine ⟨{ d with l:=d.l ++ [qH z] },?_,?_,hnew,by rw [h0]; rfl,by simp [h0]⟩
  ·
   rw [hid]
   simp only [Option.some.injEq,Prod.mk.injEq]
   refine ⟨by simp,rfl⟩
  ·
   refine hnew.wf h rfl rfl hz ha (by simp; omega) (fun i=>?_) h.freedN
   rw [h0]; simp
 ·
  have hpos:0 < d.freed.length:=by
   cases hq:d.freed with
   | nil=>exact absurd hq h0
   | cons a l=>simp
  rw [if_neg (by simp; omega)]
  have hlast:d.freed.getLast? = some (d.freed[d.freed.length - 1]):=by rw [List.getLast?_eq_getElem?]; exact List.getElem?_eq_getElem (by omega)
  have hidx:idx d.freed ((d.freed.length:Int) - 1)=some (nextId d):=by
   unfold idx; rw [if_pos (by omega)]
   unfold nextId; rw [hlast]
   rw [show ((d.freed.length:Int) - 1).toNat=d.freed.length - 1 by omega]
   exact List.getElem?_eq_getElem (by omega)
  have hcut:cut d.freed 0 ((d.freed.length:Int) - 1)=some d.freed.dropLast:=by
   unfold cut; rw [if_pos ⟨by omega,by omega,by omega⟩]
   rw [show ((d.freed.length:Int) - 1).toNat=d.freed.length - 1 by omega,List.dropLast_eq_take]; rfl
  rw [hidx,Option.bind_some,hcut,Option.bind_some]
  have hmem:nextId d ∈ d.freed:=by
   unfold nextId; rw [hlast]; exact List.getElem_mem _
  have hr:=h.freedR _ hmem
  obtain ⟨y,hy⟩:=qK (d:=d) (i:=nextId d) (by omega) hr.2
  have hdead:y.lives=false:=(h.dead _ y hy).2 hmem
  rw [je h.dm hy,Option.bind_some]
  have hget:=iY hy (qH z)
  have hnew:New d { l:=(jC d (nextId d) (qH z)).l,freed:=d.freed.dropLast } (nextId d) (qH z) :=
   ⟨by rw [dQ hy,hdead],by omega,by omega,fun j=>hget j,by simp,by simp⟩
  refine ⟨{ l:=(jC d (nextId d) (qH z)).l,freed:=d.freed.dropLast },?_,?_,hnew,rfl,by simp [h0]⟩
  ·
   rw [o6 h.dm hy]; rfl
  ·
   have hsplit:d.freed=d.freed.dropLast ++ [nextId d]:=by
    have e:nextId d=d.freed.getLast h0:=by unfold nextId; rw [List.getLast?_eq_some_getLast h0]
    rw [e,List.dropLast_concat_getLast]
   have hfn:=h.freedN
   rw [hsplit,List.nodup_append] at hfn
   refine hnew.wf h rfl rfl hz ha (by simp; exact h.len) (fun i=>?_) hfn.1
   constructor
   ·
    intro hi
    exact ⟨by rw [hsplit]; exact List.mem_append_left _ hi,fun q=>hfn.2.2 i hi (nextId d) (by simp) q⟩
   ·
    rintro ⟨hi,hne⟩
    rw [hsplit] at hi
    rcases List.mem_append.1 hi with hi | hi
    ·
     exact hi
    ·
     exact absurd (List.mem_singleton.1 hi) hne
end Pr
end Go.Ev

namespace Go.Ev
namespace Pr
set_option linter.unusedVariables false
set_option linter.unusedSimpArgs false
theorem Ap (l:List Int) (c:Int):∀ (rest done:List Int) (f:Nat),l=done ++ rest→rest.length < f→l.length < 1000000→bQ l c f (done.length:Int)=some (if c ∈ rest then ((done.length + rest.idxOf c:Nat):Int) else -1)
 | [],done,f + 1,h,hf,hl=>by
  rw [bQ,if_neg (by subst h; simp)]
  simp
 | z :: rest,done,f + 1,h,hf,hl=>by
  have hd:done.length < l.length:=by subst h; simp
  rw [bQ,if_pos (by rw [decide_eq_true_eq]; omega),iy h,Option.bind_some]
  by_cases hq:c=z
  ·
   subst hq
   rw [if_pos (by simp)]
   simp [List.idxOf_cons_self]
  ·
   rw [if_neg (by simpa using hq),mf (by omega) (by omega)]
   have:=Ap l c rest (done ++ [z]) f (by rw [h]; simp) (by simpa using hf) hl
   simp only [List.length_append,List.length_singleton,Int.natCast_add] at this
   rw [show ((done.length:Int) + 1)=(done.length:Int) + ((1:Nat):Int) by omega,this]
   by_cases hm:c ∈ rest
   ·
    rw [if_pos hm,if_pos (List.mem_cons_of_mem _ hm),List.idxOf_cons]
    have hb:(z == c)=false:=by simpa using Ne.symm hq
    rw [hb]
    simp; omega
   ·
    rw [if_neg hm,if_neg (by simp [hq,hm])]
theorem Jv {l:List Int} {c:Int} (h:c ∈ l) {n:Nat} (hn:l.length < n) (hl:l.length < 1000000):gu n l c=some (l.idxOf c:Int):=by
 unfold gu
 have:=Ap l c l [] n rfl hn hl
 rw [if_pos h] at this
 simpa using this
theorem Gt {l:List Int} {c:Int} (h:c ∈ l) (hl:l.length < 1000000) (n:Nat):fJ n l (l.idxOf c:Int) (IntKind.wrap .i64 ((l.idxOf c:Int) + 1))=some (l.erase c):=by
 have hi:l.idxOf c < l.length:=List.idxOf_lt_length_of_mem h
 rw [mf (by omega) (by omega)]
 unfold fJ GU
 rw [if_pos ⟨by omega,by omega,by omega⟩,Option.bind_some,if_neg (by simp; omega)]
 rw [List.erase_eq_eraseIdx_of_idxOf rfl,List.eraseIdx_eq_take_drop_succ]
 rw [Int.toNat_natCast,show ((l.idxOf c:Int) + 1).toNat=l.idxOf c + 1 by omega]
def dB (d:ay) (c:Int):ay:=match nd d c with
 | some z=>if z.parent=0 then d else match nd d z.parent with
  | some y=>jC (jC d z.parent { y with kids:=y.kids.erase c }) c { z with parent:=0 }
  | none=>d
 | none=>d
theorem si {d:ay} (h:WF d) {i:Int} {z:ah} (hz:nd d i=some z) (hl:z.lives=true):z.kids.length ≤ 5000:=by
 refine Nat.le_trans (iQ d.l.length _ (h.kidN i z hz hl) (fun k hk=>?_)) h.len
 obtain ⟨y,h1,_⟩:=h.kid i z k hz hl hk
 exact cB h1
theorem wV {d:ay} (h:WF d) {c:Int} {z:ah} (hz:nd d c=some z) (hl:z.lives=true):z.parent ≠ c:=fun q=>by
 obtain ⟨l,hp⟩:=h.path c (by rw [dQ hz,hl])
 have hc:=cB hz
 cases hp with
 | top h2 _ hp2=>rw [hz] at h2; cases h2; omega
 | up h2 hl2 hp2 k =>
  rw [hz] at h2; cases h2
  rw [q] at k
  have:=k.uniq (.up hz hl2 hp2 (by rw [q]; exact k))
  have:=congrArg List.length this
  simp at this
theorem qg {d:ay} {c:Int} {z y:ah} (hz:nd d c=some z) (hp:z.parent ≠ 0) (hy:nd d z.parent=some y) (hne:z.parent ≠ c) (j:Int) :
  nd (dB d c) j=if j=c then some { z with parent:=0 } else if j=z.parent then some { y with kids:=y.kids.erase c } else nd d j:=by
 unfold dB
 rw [hz]
 simp only
 rw [if_neg hp,hy]
 simp only
 have h1:=iY hy { y with kids:=y.kids.erase c } c
 rw [if_neg (Ne.symm hne)] at h1
 rw [iY (h1.trans hz),iY hy]
theorem kR {d:ay} {c:Int} {z:ah} (hz:nd d c=some z) (hp:z.parent=0):dB d c=d:=by
 unfold dB; rw [hz]; simp only; rw [if_pos hp]
@[simp] theorem uX (d:ay) (c:Int):(dB d c).l.length=d.l.length:=by
 unfold dB; split
 ·
  split
  ·
   rfl
  ·
   split <;> simp
 ·
  rfl
@[simp] theorem qO (d:ay) (c:Int):(dB d c).freed=d.freed:=by
 unfold dB; split
 ·
  split
  ·
   rfl
  ·
   split <;> simp
 ·
  rfl
theorem Eb {d:ay} (h:WF d) {c:Int} (hc:kz d c=true) {n:Nat} (hn:6000 ≤ n):jE n d c=some (dB d c):=by
 obtain ⟨z,hz,hl⟩:=fZ hc
 unfold jE
 rw [je h.dm hz,Option.bind_some]
 by_cases hp:z.parent=0
 ·
  rw [if_pos (by simpa using hp),kR hz hp]
 ·
  rw [if_neg (by simpa using hp)]
  obtain ⟨y,hy,hyl,hm,_⟩:=h.par c z hz hl hp
  have hk:=si h hy hyl
  have hne:=wV h hz hl
  rw [je h.dm hy]
  simp only [Option.bind_some]
  rw [Jv hm (by omega) (by omega),Option.bind_some,Gt hm (by omega),Option.bind_some]
  rw [o6 h.dm hy]
  have h1:=iY hy { y with kids:=y.kids.erase c } c
  rw [if_neg (Ne.symm hne)] at h1
  have hd:(jC d z.parent { y with kids:=y.kids.erase c }).l.length ≤ dM:=by rw [lQ]; exact h.dm
  have e1:ah.mk y.lives y.tag y.key y.text y.attrs (y.kids.erase c) y.parent = { y with kids:=y.kids.erase c }:=rfl
  rw [e1,je hd (h1.trans hz),Option.bind_some,o6 hd (h1.trans hz)]
  unfold dB
  rw [hz]
  simp only
  rw [if_neg hp,hy]
  rfl
theorem wD {d:ay} (h:WF d) {c:Int} (hc:kz d c=true):WF (dB d c):=by
 obtain ⟨z,hz,hl⟩:=fZ hc
 by_cases hp:z.parent=0
 ·
  rw [kR hz hp]; exact h
 obtain ⟨y,hy,hyl,hm,ht⟩:=h.par c z hz hl hp
 have hne:=wV h hz hl
 have hget:=qg hz hp hy hne
 have low:∀ i z',nd (dB d c) i=some z'→∃ z0,nd d i=some z0∧z'.lives=z0.lives∧z'.attrs=z0.attrs∧z'.tag=z0.tag∧(i=c∧z'.parent=0∨i ≠ c∧z'.parent=z0.parent)∧(i=z.parent∧z'.kids=z0.kids.erase c∨i ≠ z.parent∧z'.kids=z0.kids):=fun i z' hi=>by
  rw [hget] at hi
  by_cases h1:i=c
  ·
   subst h1; rw [if_pos rfl] at hi; cases hi
   exact ⟨z,hz,rfl,rfl,rfl,.inl ⟨rfl,rfl⟩,.inr ⟨Ne.symm hne,rfl⟩⟩
  ·
   rw [if_neg h1] at hi
   by_cases h2:i=z.parent
   ·
    subst h2; rw [if_pos rfl] at hi; cases hi
    exact ⟨y,hy,rfl,rfl,rfl,.inr ⟨h1,rfl⟩,.inl ⟨rfl,rfl⟩⟩
   ·
    rw [if_neg h2] at hi
    exact ⟨z',hi,rfl,rfl,rfl,.inr ⟨h1,rfl⟩,.inr ⟨h2,rfl⟩⟩
 have up:∀ i z0,nd d i=some z0→∃ z',nd (dB d c) i=some z':=fun i z0 hi=>by
  have:=cB hi
  exact qK this.1 (by rw [uX]; exact this.2)
 have lvs:∀ i,kz (dB d c) i=true→kz d i=true:=fun i hi=>by
  obtain ⟨z',h1,h2⟩:=fZ hi
  obtain ⟨z0,q1,q2,_⟩:=low i z' h1
  rw [dQ q1,← q2,h2]
 refine ⟨by rw [uX]; exact h.len,?_,fun i hi=>?_,by rw [qO]; exact h.freedN,fun i z' hi=>?_,fun i z' hi hl'=>?_,fun i z' k hi hl' hk=>?_,fun k y' hk hl' hp'=>?_,fun i hi=>?_,fun i z' hi=>?_⟩
 ·
  obtain ⟨r,r1,r2,r3,r4⟩:=h.root
  obtain ⟨r',hr'⟩:=up 1 r r1
  obtain ⟨z0,q1,q2,q3,q4,q5,q6⟩:=low 1 r' hr'
  rw [r1] at q1; cases q1
  refine ⟨r',hr',by rw [q2,r2],?_,by rw [q4]; exact r4⟩
  rcases q5 with ⟨_,q⟩ | ⟨_,q⟩
  ·
   exact q
  ·
   rw [q,r3]
 ·
  rw [qO] at hi; rw [uX]; exact h.freedR i hi
 ·
  obtain ⟨z0,q1,q2,_⟩:=low i z' hi
  rw [q2,qO]; exact h.dead i z0 q1
 ·
  obtain ⟨z0,q1,q2,q3,q4,q5,q6⟩:=low i z' hi
  have:=h.kidN i z0 q1 (by rw [← q2,hl'])
  rcases q6 with ⟨_,q⟩ | ⟨_,q⟩
  ·
   rw [q]; exact this.erase _
  ·
   rw [q]; exact this
 ·
  obtain ⟨z0,q1,q2,q3,q4,q5,q6⟩:=low i z' hi
  have hkm:k ∈ z0.kids:=by
   rcases q6 with ⟨_,q⟩ | ⟨_,q⟩
   ·
    rw [q] at hk; exact List.mem_of_mem_erase hk
   ·
    rw [q] at hk; exact hk
  obtain ⟨x,x1,x2,x3⟩:=h.kid i z0 k q1 (by rw [← q2,hl']) hkm
  have hkc:k ≠ c:=fun q=>by
   subst q
   rw [hz] at x1; cases x1
   rcases q6 with ⟨e,q⟩ | ⟨e,q⟩
   ·
    rw [q] at hk
    have:=h.kidN i z0 q1 (by rw [← q2,hl'])
    exact ((List.Nodup.mem_erase_iff this).1 hk).1 rfl
   ·
    exact e x3.symm
  obtain ⟨x',hx'⟩:=up k x x1
  obtain ⟨x0,p1,p2,p3,p4,p5,p6⟩:=low k x' hx'
  rw [x1] at p1; cases p1
  rcases p5 with ⟨e,_⟩ | ⟨_,e⟩
  ·
   exact absurd e hkc
  ·
   exact ⟨x',hx',by rw [p2,x2],by rw [e,x3]⟩
 ·
  obtain ⟨z0,q1,q2,q3,q4,q5,q6⟩:=low k y' hk
  rcases q5 with ⟨_,q⟩ | ⟨hkc,q⟩
  ·
   exact absurd q hp'
  ·
   obtain ⟨x,x1,x2,x3,x4⟩:=h.par k z0 q1 (by rw [← q2,hl']) (by rw [← q]; exact hp')
   rw [q]
   obtain ⟨x',hx'⟩:=up _ x x1
   obtain ⟨x0,p1,p2,p3,p4,p5,p6⟩:=low _ x' hx'
   rw [x1] at p1; cases p1
   refine ⟨x',hx',by rw [p2,x2],?_,by rw [p4]; exact x4⟩
   rcases p6 with ⟨_,e⟩ | ⟨_,e⟩
   ·
    rw [e]; exact (List.mem_erase_of_ne hkc).2 x3
   ·
    rw [e]; exact x3
 ·
  obtain ⟨l,hpath⟩:=h.path i (lvs i hi)
  clear hi
  induction hpath with
  | top g gl gp =>
   obtain ⟨g',hg'⟩:=up _ _ g
   obtain ⟨z0,q1,q2,q3,q4,q5,q6⟩:=low _ g' hg'
   rw [g] at q1; cases q1
   refine ⟨[_],.top hg' (by rw [q2,gl]) ?_⟩
   rcases q5 with ⟨_,q⟩ | ⟨_,q⟩
   ·
    exact q
   ·
    rw [q,gp]
  | up g gl gp k ih =>
   obtain ⟨g',hg'⟩:=up _ _ g
   obtain ⟨z0,q1,q2,q3,q4,q5,q6⟩:=low _ g' hg'
   rw [g] at q1; cases q1
   rcases q5 with ⟨_,q⟩ | ⟨_,q⟩
   ·
    exact ⟨[_],.top hg' (by rw [q2,gl]) q⟩
   ·
    obtain ⟨l',hl'⟩:=ih
    exact ⟨_ :: l',.up hg' (by rw [q2,gl]) (by rw [q]; exact gp) (by rw [q]; exact hl')⟩
 ·
  obtain ⟨z0,q1,q2,q3,_⟩:=low i z' hi
  rw [q3]; exact h.attrs i z0 q1
end Pr
end Go.Ev

namespace Go.Ev
namespace Pr
set_option linter.unusedVariables false
set_option linter.unusedSimpArgs false
def wX (a:Int) (n:Nat):Nat:=(max 0 (min a (n:Int))).toNat
def oQ (l:List Int) (a c:Int):List Int:=l.take (wX a l.length) ++ c :: l.drop (wX a l.length)
theorem Ac {l:List Int} {a c x:Int}:x ∈ oQ l a c↔x=c∨x ∈ l:=by
 unfold oQ
 have e:=List.take_append_drop (wX a l.length) l
 constructor
 ·
  intro h
  rcases List.mem_append.1 h with h | h
  ·
   exact .inr (List.mem_of_mem_take h)
  ·
   rcases List.mem_cons.1 h with h | h
   ·
    exact .inl h
   ·
    exact .inr (List.mem_of_mem_drop h)
 ·
  rintro (rfl | h)
  ·
   simp
  ·
   rw [← e] at h
   rcases List.mem_append.1 h with h | h
   ·
    exact List.mem_append_left _ h
   ·
    exact List.mem_append_right _ (List.mem_cons_of_mem _ h)
theorem Hq (l:List Int) (a c:Int):(oQ l a c).Perm (c :: l):=by
 unfold oQ
 refine List.perm_middle.trans ?_
 rw [List.take_append_drop]
theorem FD {l:List Int} {a c:Int} (h:l.Nodup) (hc:c ∉ l):(oQ l a c).Nodup:=(Hq l a c).nodup_iff.2 (List.nodup_cons.2 ⟨hc,h⟩)
theorem LC {l:List Int} {a c:Int} (h:l.length ≤ 100000):Ja l (vk 0 (wK a (l.length:Int))) c=some (oQ l a c):=by
 have e:vk 0 (wK a (l.length:Int))=max 0 (min a (l.length:Int)):=by
  unfold vk wK; split <;> split <;> omega
 rw [e]
 unfold Ja
 rw [if_pos ⟨by omega,by omega,by omega⟩]
 rfl
def LQ (d:ay):Nat→Int→List Int
 | 0,_=>[]
 | f + 1,i=>match nd d i with
  | some z=>if z.lives=true then (if z.parent=0 then [i] else i :: LQ d f z.parent) else []
  | none=>[]
def pathOf (d:ay) (i:Int):List Int:=LQ d d.l.length i
theorem Path.LQ {d:ay} {i:Int} {l:List Int} (h:Path d i l):∀ f,l.length ≤ f→LQ d f i=l:=by
 induction h with
 | top h hl hp =>
  intro f hf
  cases f with
  | zero=>simp at hf
  | succ f=>simp only [Pr.LQ,h,hl,hp,if_true]
 | up h hl hp k ih =>
  intro f hf
  cases f with
  | zero=>simp at hf
  | succ f=>simp only [Pr.LQ,h,hl,if_true,if_neg hp]; rw [ih f (by simpa using hf)]
theorem Path.of {d:ay} {i:Int} {l:List Int} (h:Path d i l):pathOf d i=l:=h.LQ _ h.length
def rZ (d:ay) (i:Int):Str:=match nd d i with | some z=>z.tag | none=>[]
def lM (d:ay) (p c:Int):Bool:=kz d p && kz d c && !(rZ d p == []) && !(c == 1) && !(decide (c ∈ pathOf d p))
def iW (d:ay) (p c a:Int):ay:=match nd d p,nd d c with
 | some y,some z=>jC (jC d p { y with kids:=oQ y.kids a c }) c { z with parent:=p }
 | _,_=>d
theorem DR {d:ay} {p c a:Int} {y z:ah} (hy:nd d p=some y) (hz:nd d c=some z) (hne:c ≠ p) (j:Int) :
  nd (iW d p c a) j=if j=c then some { z with parent:=p } else if j=p then some { y with kids:=oQ y.kids a c } else nd d j:=by
 unfold iW
 rw [hy,hz]
 simp only
 have h1:=iY hy { y with kids:=oQ y.kids a c } c
 rw [if_neg hne] at h1
 rw [iY (h1.trans hz),iY hy]
@[simp] theorem wU (d:ay) (p c a:Int):(iW d p c a).l.length=d.l.length:=by unfold iW; split <;> simp
@[simp] theorem sO (d:ay) (p c a:Int):(iW d p c a).freed=d.freed:=by unfold iW; split <;> simp
theorem Iq {d:ay} (h:WF d) {p c a:Int} {y z:ah} (hy:nd d p=some y) (hyl:y.lives=true) (ht:y.tag ≠ []) (hz:nd d c=some z) (hzl:z.lives=true) (hzp:z.parent=0) (hc1:c ≠ 1) {l:List Int} (hp:Path d p l) (hcl:c ∉ l):WF (iW d p c a):=by
 have hne:c ≠ p:=fun q=>by obtain ⟨t,rfl⟩:=hp.head; exact hcl (by rw [q]; exact List.mem_cons_self)
 have hget:=DR (a:=a) hy hz hne
 have hpr:=cB hy
 have low:∀ i z',nd (iW d p c a) i=some z'→∃ z0,nd d i=some z0∧z'.lives=z0.lives∧z'.attrs=z0.attrs∧z'.tag=z0.tag∧(i=c∧z'.parent=p∨i ≠ c∧z'.parent=z0.parent)∧(i=p∧z'.kids=oQ z0.kids a c∨i ≠ p∧z'.kids=z0.kids):=fun i z' hi=>by
  rw [hget] at hi
  by_cases h1:i=c
  ·
   subst h1; rw [if_pos rfl] at hi; cases hi
   exact ⟨z,hz,rfl,rfl,rfl,.inl ⟨rfl,rfl⟩,.inr ⟨hne,rfl⟩⟩
  ·
   rw [if_neg h1] at hi
   by_cases h2:i=p
   ·
    subst h2; rw [if_pos rfl] at hi; cases hi
    exact ⟨y,hy,rfl,rfl,rfl,.inr ⟨h1,rfl⟩,.inl ⟨rfl,rfl⟩⟩
   ·
    rw [if_neg h2] at hi
    exact ⟨z',hi,rfl,rfl,rfl,.inr ⟨h1,rfl⟩,.inr ⟨h2,rfl⟩⟩
 have up:∀ i z0,nd d i=some z0→∃ z',nd (iW d p c a) i=some z':=fun i z0 hi=>by
  have:=cB hi
  exact qK this.1 (by rw [wU]; exact this.2)
 have lvs:∀ i,kz (iW d p c a) i=true→kz d i=true:=fun i hi=>by
  obtain ⟨z',h1,h2⟩:=fZ hi
  obtain ⟨z0,q1,q2,_⟩:=low i z' h1
  rw [dQ q1,← q2,h2]
 have hcy:c ∉ y.kids:=fun q=>by
  obtain ⟨x,x1,x2,x3⟩:=h.kid p y c hy hyl q
  rw [hz] at x1; cases x1
  omega
 have hpath:∃ l',Path (iW d p c a) p l':=⟨l,hp.keep (fun j hj x hx=>by
  obtain ⟨x',hx'⟩:=up j x hx
  obtain ⟨x0,q1,q2,q3,q4,q5,q6⟩:=low j x' hx'
  rw [hx] at q1; cases q1
  rcases q5 with ⟨e,_⟩ | ⟨_,e⟩
  ·
   exact absurd (e ▸ hj) hcl
  ·
   exact ⟨x',hx',q2,e⟩)⟩
 refine ⟨by rw [wU]; exact h.len,?_,fun i hi=>?_,by rw [sO]; exact h.freedN,fun i z' hi=>?_,fun i z' hi hl'=>?_,fun i z' k hi hl' hk=>?_,fun k y' hk hl' hp'=>?_,fun i hi=>?_,fun i z' hi=>?_⟩
 ·
  obtain ⟨r,r1,r2,r3,r4⟩:=h.root
  obtain ⟨r',hr'⟩:=up 1 r r1
  obtain ⟨z0,q1,q2,q3,q4,q5,q6⟩:=low 1 r' hr'
  rw [r1] at q1; cases q1
  refine ⟨r',hr',by rw [q2,r2],?_,by rw [q4]; exact r4⟩
  rcases q5 with ⟨q,_⟩ | ⟨_,q⟩
  ·
   exact absurd q.symm hc1
  ·
   rw [q,r3]
 ·
  rw [sO] at hi; rw [wU]; exact h.freedR i hi
 ·
  obtain ⟨z0,q1,q2,_⟩:=low i z' hi
  rw [q2,sO]; exact h.dead i z0 q1
 ·
  obtain ⟨z0,q1,q2,q3,q4,q5,q6⟩:=low i z' hi
  have:=h.kidN i z0 q1 (by rw [← q2,hl'])
  rcases q6 with ⟨e,q⟩ | ⟨_,q⟩
  ·
   subst e; rw [hy] at q1; cases q1
   rw [q]; exact FD this hcy
  ·
   rw [q]; exact this
 ·
  obtain ⟨z0,q1,q2,q3,q4,q5,q6⟩:=low i z' hi
  by_cases hkc:k=c
  ·
   subst hkc
   obtain ⟨x',hx'⟩:=up k z hz
   obtain ⟨x0,p1,p2,p3,p4,p5,p6⟩:=low k x' hx'
   rw [hz] at p1; cases p1
   refine ⟨x',hx',by rw [p2,hzl],?_⟩
   have hxp:x'.parent=p:=by
    rcases p5 with ⟨_,e⟩ | ⟨e,_⟩
    ·
     exact e
    ·
     exact absurd rfl e
   rw [hxp]
   rcases q6 with ⟨e,_⟩ | ⟨_,q⟩
   ·
    exact e.symm
   ·
    rw [q] at hk
    obtain ⟨w,w1,w2,w3⟩:=h.kid i z0 k q1 (by rw [← q2,hl']) hk
    rw [hz] at w1; cases w1
    have:=cB q1
    omega
  ·
   have hkm:k ∈ z0.kids:=by
    rcases q6 with ⟨_,q⟩ | ⟨_,q⟩
    ·
     rw [q] at hk; exact (Ac.1 hk).resolve_left hkc
    ·
     rw [q] at hk; exact hk
   obtain ⟨x,x1,x2,x3⟩:=h.kid i z0 k q1 (by rw [← q2,hl']) hkm
   obtain ⟨x',hx'⟩:=up k x x1
   obtain ⟨x0,p1,p2,p3,p4,p5,p6⟩:=low k x' hx'
   rw [x1] at p1; cases p1
   rcases p5 with ⟨e,_⟩ | ⟨_,e⟩
   ·
    exact absurd e hkc
   ·
    exact ⟨x',hx',by rw [p2,x2],by rw [e,x3]⟩
 ·
  obtain ⟨z0,q1,q2,q3,q4,q5,q6⟩:=low k y' hk
  rcases q5 with ⟨e,q⟩ | ⟨hkc,q⟩
  ·
   obtain ⟨x',hx'⟩:=up p y hy
   obtain ⟨x0,p1,p2,p3,p4,p5,p6⟩:=low p x' hx'
   rw [hy] at p1; cases p1
   rw [q]
   refine ⟨x',hx',by rw [p2,hyl],?_,by rw [p4]; exact ht⟩
   rcases p6 with ⟨_,e2⟩ | ⟨e2,_⟩
   ·
    rw [e2,e]; exact Ac.2 (.inl rfl)
   ·
    exact absurd rfl e2
  ·
   obtain ⟨x,x1,x2,x3,x4⟩:=h.par k z0 q1 (by rw [← q2,hl']) (by rw [← q]; exact hp')
   rw [q]
   obtain ⟨x',hx'⟩:=up _ x x1
   obtain ⟨x0,p1,p2,p3,p4,p5,p6⟩:=low _ x' hx'
   rw [x1] at p1; cases p1
   refine ⟨x',hx',by rw [p2,x2],?_,by rw [p4]; exact x4⟩
   rcases p6 with ⟨_,e⟩ | ⟨_,e⟩
   ·
    rw [e]; exact Ac.2 (.inr x3)
   ·
    rw [e]; exact x3
 ·
  obtain ⟨l,hpath'⟩:=h.path i (lvs i hi)
  clear hi
  induction hpath' with
  | top g gl gp =>
   obtain ⟨g',hg'⟩:=up _ _ g
   obtain ⟨z0,q1,q2,q3,q4,q5,q6⟩:=low _ g' hg'
   rw [g] at q1; cases q1
   rcases q5 with ⟨_,q⟩ | ⟨_,q⟩
   ·
    obtain ⟨l',hl'⟩:=hpath
    exact ⟨_ :: l',.up hg' (by rw [q2,gl]) (by rw [q]; omega) (by rw [q]; exact hl')⟩
   ·
    exact ⟨[_],.top hg' (by rw [q2,gl]) (by rw [q,gp])⟩
  | up g gl gp k ih =>
   obtain ⟨g',hg'⟩:=up _ _ g
   obtain ⟨z0,q1,q2,q3,q4,q5,q6⟩:=low _ g' hg'
   rw [g] at q1; cases q1
   rcases q5 with ⟨_,q⟩ | ⟨_,q⟩
   ·
    obtain ⟨l',hl'⟩:=hpath
    exact ⟨_ :: l',.up hg' (by rw [q2,gl]) (by rw [q]; omega) (by rw [q]; exact hl')⟩
   ·
    obtain ⟨l',hl'⟩:=ih
    exact ⟨_ :: l',.up hg' (by rw [q2,gl]) (by rw [q]; exact gp) (by rw [q]; exact hl')⟩
 ·
  obtain ⟨z0,q1,q2,q3,_⟩:=low i z' hi
  rw [q3]; exact h.attrs i z0 q1
theorem xC {d:ay} (h:WF d) {c:Int} (hc:kz d c=true) {i:Int} {l:List Int} (hp:Path d i l) (hcl:c ∉ l):Path (dB d c) i l:=by
 obtain ⟨z,hz,hl⟩:=fZ hc
 by_cases hp0:z.parent=0
 ·
  rw [kR hz hp0]; exact hp
 obtain ⟨y,hy,hyl,hm,ht⟩:=h.par c z hz hl hp0
 have hget:=qg hz hp0 hy (wV h hz hl)
 refine hp.keep (fun j hj x hx=>?_)
 rw [hget,if_neg (fun (q:j=c)=>hcl (by rw [← q]; exact hj))]
 by_cases h2:j=z.parent
 ·
  rw [if_pos h2]
  subst h2
  rw [hy] at hx; cases hx
  exact ⟨_,rfl,rfl,rfl⟩
 ·
  rw [if_neg h2]; exact ⟨x,hx,rfl,rfl⟩
theorem sJ {d:ay} (h:WF d) {c:Int} (hc:kz d c=true):∃ z,nd (dB d c) c=some z∧z.lives=true∧z.parent=0:=by
 obtain ⟨z,hz,hl⟩:=fZ hc
 by_cases hp0:z.parent=0
 ·
  rw [kR hz hp0]; exact ⟨z,hz,hl,hp0⟩
 obtain ⟨y,hy,hyl,hm,ht⟩:=h.par c z hz hl hp0
 have hget:=qg hz hp0 hy (wV h hz hl)
 exact ⟨{ z with parent:=0 },by rw [hget,if_pos rfl],hl,rfl⟩
theorem q9 {d:ay} (h:WF d) {c:Int} (hc:kz d c=true) {i:Int} {z:ah} (hz:nd d i=some z) (hzl:z.lives=true):nd (dB d c) i=some { z with kids:=z.kids.erase c,parent:=if i=c then 0 else z.parent }:=by
 obtain ⟨zc,hzc,hl⟩:=fZ hc
 have hno:i ≠ zc.parent→z.kids.erase c=z.kids:=fun hne=>List.erase_of_not_mem (fun hm=>by
  obtain ⟨x,x1,x2,x3⟩:=h.kid i z c hz hzl hm
  rw [hzc] at x1; cases x1
  exact hne x3.symm)
 by_cases hp0:zc.parent=0
 ·
  rw [kR hzc hp0,hno (by have:=cB hz; omega),hz]
  by_cases hi:i=c
  ·
   subst hi; rw [hzc] at hz; cases hz; rw [if_pos rfl,← hp0]
  ·
   rw [if_neg hi]
 obtain ⟨y,hy,hyl,hm,ht⟩:=h.par c zc hzc hl hp0
 have hne:=wV h hzc hl
 rw [qg hzc hp0 hy hne]
 by_cases hi:i=c
 ·
  subst hi; rw [hzc] at hz; cases hz
  rw [if_pos rfl,if_pos rfl,hno (Ne.symm hne)]
 ·
  rw [if_neg hi,if_neg hi]
  by_cases h2:i=zc.parent
  ·
   subst h2; rw [hy] at hz; cases hz; rw [if_pos rfl]
  ·
   rw [if_neg h2,hno h2,hz]
theorem Ho {d:ay} {p c a:Int} {y z:ah} (hy:nd d p=some y) (hz:nd d c=some z) (hne:c ≠ p) {i:Int} {x:ah} (hx:nd d i=some x):nd (iW d p c a) i=some { x with kids:=if i=p then oQ x.kids a c else x.kids,parent:=if i=c then p else x.parent }:=by
 rw [DR hy hz hne]
 by_cases hi:i=c
 ·
  subst hi; rw [hz] at hx; cases hx
  rw [if_pos rfl,if_pos rfl,if_neg hne]
 ·
  rw [if_neg hi,if_neg hi]
  by_cases h2:i=p
  ·
   subst h2; rw [hy] at hx; cases hx; rw [if_pos rfl,if_pos rfl]
  ·
   rw [if_neg h2,if_neg h2,hx]
theorem wS {d:ay} (h:WF d) {n:Nat} (hn:6000 ≤ n) (p c a:Int):fQ n d p c a=some (if lM d p c=true then (true,iW (dB d c) p c a) else (false,d)):=by
 unfold fQ
 rw [xL h.dm,xL h.dm]
 simp only [Option.bind_some]
 by_cases hp:kz d p=true
 rotate_left 1
 ·
  rw [if_neg hp]
  have:lM d p c=false:=by unfold lM; simp [hp]
  rw [this]; simp
 by_cases hc:kz d c=true
 rotate_left 1
 ·
  rw [if_pos hp,if_neg hc]
  have:lM d p c=false:=by unfold lM; simp [hc]
  obtain ⟨y,hy,_⟩:=fZ hp
  rw [this,je h.dm hy]; simp
 rw [if_pos hp,if_pos hc]
 obtain ⟨y,l,hy,hyl,hpath,_⟩:=h.lp hp
 obtain ⟨z,hz,hzl⟩:=fZ hc
 have hcr:=cB hz
 rw [je h.dm hy,je h.dm hz]
 simp only [Option.bind_some]
 have htag:rZ d p=y.tag:=by unfold rZ; rw [hy]
 by_cases hg:y.tag=[]∨c=1
 ·
  rw [if_pos (by simpa using hg)]
  have:lM d p c=false:=by unfold lM; rw [htag]; rcases hg with q | q <;> simp [q]
  rw [this]; simp
 rw [if_neg (by simpa using hg),Ff h hpath (by omega) (by omega),Option.bind_some]
 by_cases hin:c ∈ l
 ·
  rw [if_pos (by simpa using hin)]
  have:lM d p c=false:=by unfold lM; rw [hpath.of]; simp [hin]
  rw [this]; simp
 rw [if_neg (by simpa using hin),Eb h hc hn,Option.bind_some]
 have hok:lM d p c=true:=by
  unfold lM; rw [htag,hpath.of]
  simp only [not_or] at hg
  simp [hp,hc,hin,hg.1,hg.2]
 rw [hok,if_pos rfl]
 have hW:=wD h hc
 have hP:=xC h hc hpath hin
 obtain ⟨y1,hy1,hyl1⟩:∃ y1,nd (dB d c) p=some y1∧y1.lives=true:=by
  obtain ⟨_,_,_,_,x,x1,x2⟩:=hP.mem p (by obtain ⟨t,rfl⟩:=hP.head; exact List.mem_cons_self)
  exact ⟨x,x1,x2⟩
 obtain ⟨z1,hz1,hzl1,hzp1⟩:=sJ h hc
 have hne:c ≠ p:=fun q=>by obtain ⟨t,rfl⟩:=hpath.head; exact hin (by rw [q]; exact List.mem_cons_self)
 have hk:=si hW hy1 hyl1
 rw [je hW.dm hy1,Option.bind_some,LC (by omega),Option.bind_some,o6 hW.dm hy1]
 have e1:ah.mk y1.lives y1.tag y1.key y1.text y1.attrs (oQ y1.kids a c) y1.parent = { y1 with kids:=oQ y1.kids a c }:=rfl
 rw [e1]
 have h1:=iY hy1 { y1 with kids:=oQ y1.kids a c } c
 rw [if_neg hne] at h1
 have hd:(jC (dB d c) p { y1 with kids:=oQ y1.kids a c }).l.length ≤ dM:=by rw [lQ]; exact hW.dm
 rw [je hd (h1.trans hz1),Option.bind_some,o6 hd (h1.trans hz1)]
 unfold iW
 rw [hy1,hz1]
 rfl
theorem ET {d:ay} (h:WF d) {p c:Int} (a:Int) (hok:lM d p c=true):WF (iW (dB d c) p c a)∧(∀ i z,nd d i=some z→z.lives=true →
  nd (iW (dB d c) p c a) i=some { z with kids:=if i=p then oQ (z.kids.erase c) a c else z.kids.erase c,parent:=if i=c then p else z.parent }):=by
 unfold lM at hok
 simp only [Bool.and_eq_true,Bool.not_eq_true',beq_eq_false_iff_ne,decide_eq_false_iff_not] at hok
 obtain ⟨⟨⟨⟨hp,hc⟩,ht⟩,hc1⟩,hin⟩:=hok
 obtain ⟨y,l,hy,hyl,hpath,_⟩:=h.lp hp
 rw [hpath.of] at hin
 have htag:rZ d p=y.tag:=by unfold rZ; rw [hy]
 rw [htag] at ht
 have hW:=wD h hc
 have hP:=xC h hc hpath hin
 have hy1:=q9 h hc hy hyl
 obtain ⟨z1,hz1,hzl1,hzp1⟩:=sJ h hc
 have hne:c ≠ p:=fun q=>by obtain ⟨t,rfl⟩:=hpath.head; exact hin (by rw [q]; exact List.mem_cons_self)
 refine ⟨Iq hW hy1 hyl ht hz1 hzl1 hzp1 hc1 hP hin,fun i z hz hzl=>?_⟩
 rw [Ho hy1 hz1 hne (q9 h hc hz hzl)]
 by_cases hi:i=c
 ·
  subst hi; simp
 ·
  simp [hi]
theorem GR {d:ay} (h:WF d) {n:Nat} (hn:6000 ≤ n) (c:Int):∃ b,jX n d c=some (b,if b=true then dB d c else d)∧(b=true↔∃ z,nd d c=some z∧z.lives=true∧z.parent ≠ 0):=by
 unfold jX
 rw [xL h.dm,Option.bind_some]
 by_cases hc:kz d c=true
 ·
  obtain ⟨z,hz,hl⟩:=fZ hc
  rw [if_pos hc,je h.dm hz,Option.bind_some]
  by_cases hp:z.parent=0
  ·
   rw [if_pos (by simpa using hp)]
   exact ⟨false,rfl,by simp only [Bool.false_eq_true,false_iff]; rintro ⟨x,x1,x2,x3⟩; rw [hz] at x1; cases x1; exact x3 hp⟩
  ·
   rw [if_neg (by simpa using hp),Eb h hc hn,Option.bind_some]
   exact ⟨true,rfl,by simp only [true_iff]; exact ⟨z,hz,hl,hp⟩⟩
 ·
  rw [if_neg hc]
  exact ⟨false,rfl,by simp only [Bool.false_eq_true,false_iff]; rintro ⟨x,x1,x2,x3⟩; exact hc (by rw [dQ x1,x2])⟩
theorem yu {d:ay} (h:WF d) (n:Nat) (i:Int):gQ n d i=some (match nd d i with | some z=>if z.lives=true then z.kids else [] | none=>[]):=by
 unfold gQ
 rw [xL h.dm,Option.bind_some]
 unfold kz
 cases hz:nd d i with
 | none=>rfl
 | some z =>
  simp only
  by_cases hl:z.lives=true
  ·
   have:=si h hz hl
   rw [if_pos hl,if_pos hl,je h.dm hz,Option.bind_some]
   unfold il
   rw [lU (by rw [bnd]; simp; omega)]; rfl
  ·
   rw [if_neg hl,if_neg hl]
theorem oO {d:ay} (h:WF d) (n:Nat):dZ n d=some ((d.l.length:Int) - d.freed.length):=by
 have hfl:d.freed.length ≤ d.l.length:=iQ _ _ h.freedN (fun x hx=>⟨by have:=h.freedR x hx; omega,(h.freedR x hx).2⟩)
 have:=h.len
 unfold dZ
 rw [mf (by omega) (by omega)]
end Pr
end Go.Ev

namespace Go.Ev
namespace Pr
set_option linter.unusedVariables false
set_option linter.unusedSimpArgs false
def uu:ah:=ah.mk true [114,111,111,116] [] [] [] [] 0
def Ag:ay:=ay.mk [uu] []
theorem La (n:Nat):tL n=some (some Ag):=by
 unfold tL ic jQ
 rfl
theorem Kg (i:Int):nd Ag i=if i=1 then some uu else none:=by
 unfold nd Ag
 by_cases h:1 ≤ i
 ·
  rw [if_pos h]
  by_cases h1:i=1
  ·
   subst h1; rfl
  ·
   rw [if_neg h1,List.getElem?_eq_none (by simp; omega)]
 ·
  rw [if_neg h,if_neg (by omega)]
theorem KA:WF Ag:=by
 have one:∀ i z,nd Ag i=some z→i=1∧z=uu:=fun i z h=>by
  rw [Kg] at h
  split at h
  ·
   exact ⟨‹_›,(Option.some.inj h).symm⟩
  ·
   cases h
 refine ⟨by decide,⟨uu,rfl,rfl,rfl,by simp [uu]⟩,fun i hi=>by simp [Ag] at hi,by simp [Ag],fun i z h=>?_,fun i z h _=>?_,fun i z k h _ hk=>?_,fun k y h _ hp=>?_,fun i h=>?_,fun i z h=>?_⟩
 ·
  obtain ⟨rfl,rfl⟩:=one i z h; simp [Ag,uu]
 ·
  obtain ⟨rfl,rfl⟩:=one i z h; simp [uu]
 ·
  obtain ⟨rfl,rfl⟩:=one i z h; simp [uu] at hk
 ·
  obtain ⟨rfl,rfl⟩:=one k y h; simp [uu] at hp
 ·
  obtain ⟨z,hz,hl⟩:=fZ h
  obtain ⟨rfl,rfl⟩:=one i z hz
  exact ⟨[1],.top hz rfl rfl⟩
 ·
  obtain ⟨rfl,rfl⟩:=one i z h; simp [uu]
theorem Fs {d:ay} (h:WF d) (hl:d.l.length < 5000) (n:Nat) {tag key:Str} (ht:tag ≠ []):∃ d',ic n d tag key=some (nextId d,d')∧WF d'∧New d d' (nextId d) (ah.mk true tag key [] [] [] 0)∧d'.freed=d.freed.dropLast∧d'.l.length=(if d.freed=[] then d.l.length + 1 else d.l.length):=by
 obtain ⟨d',h1,h2⟩:=Ji h hl n (aG.mk false tag key [] [] 0) rfl (by simp)
 refine ⟨d',?_,h2⟩
 unfold ic
 rw [if_neg (by simpa using ht),h1]; rfl
theorem Kv {d:ay} (h:WF d) (hl:d.l.length < 5000) (n:Nat) (s:Str):∃ d',j5 n d s=some (nextId d,d')∧WF d'∧New d d' (nextId d) (ah.mk true [] [] s [] [] 0)∧d'.freed=d.freed.dropLast∧d'.l.length=(if d.freed=[] then d.l.length + 1 else d.l.length):=by
 obtain ⟨d',h1,h2⟩:=Ji h hl n (aG.mk false [] [] s [] 0) rfl (by simp)
 refine ⟨d',?_,h2⟩
 unfold j5
 rw [h1]; rfl
end Pr
end Go.Ev

namespace Go.Ev
namespace Pr
set_option linter.unusedVariables false
set_option linter.unusedSimpArgs false
theorem nQ (n:Nat) (a lo hi:Int) (h1:lo ≤ hi) (h2:-1000000000000 ≤ lo) (h3:hi ≤ 1000000000000000):∃ r,di n a lo hi=some r∧lo ≤ r∧r ≤ hi:=by
 unfold di
 rw [mf (n:=hi - lo) (by omega) (by omega),mf (by omega) (by omega),BV (by omega),Option.bind_some]
 have k1:=Int.tmod_lt_of_pos a (show 0 < hi - lo + 1 by omega)
 have k2:=Int.lt_tmod_of_pos a (show 0 < hi - lo + 1 by omega)
 unfold eu
 by_cases hz:a.tmod (hi - lo + 1) < 0
 ·
  rw [if_pos (by simpa using hz)]
  rw [mf (n:=a.tmod (hi - lo + 1) + hi) (by omega) (by omega),mf (n:=a.tmod (hi - lo + 1) + hi - lo) (by omega) (by omega),mf (n:=a.tmod (hi - lo + 1) + hi - lo + 1) (by omega) (by omega),mf (by omega) (by omega)]
  exact ⟨_,rfl,by omega,by omega⟩
 ·
  rw [if_neg (by simpa using hz),mf (by omega) (by omega)]
  exact ⟨_,rfl,by omega,by omega⟩
theorem BH (a b:List Int):∀ (rest done rest2:List Int) (f:Nat),a=done ++ rest→b=done ++ rest2→rest.length=rest2.length→rest.length < f→a.length < 1000000→bX a b f (done.length:Int)=some (rest == rest2)
 | [],done,[],f + 1,h,h2,_,hf,hl=>by rw [bX,if_neg (by subst h; simp)]; rfl
 | z :: rest,done,y :: rest2,f + 1,h,h2,he,hf,hl=>by
  have hd:done.length < a.length:=by subst h; simp
  rw [bX,if_pos (by rw [decide_eq_true_eq]; omega),iy h,iy h2,Option.bind_some,Option.bind_some]
  by_cases hq:z=y
  ·
   subst hq
   rw [if_neg (by simp),mf (by omega) (by omega)]
   have:=BH a b rest (done ++ [z]) rest2 f (by simp [h]) (by simp [h2]) (by simpa using he) (by simp at hf; omega) hl
   simp only [List.length_append,List.length_cons,List.length_nil,Nat.zero_add,Int.natCast_add,Int.cast_ofNat_Int] at this
   rw [this]; simp
  ·
   rw [if_pos (by simp [hq])]; simp [hq]
theorem J4 (n:Nat) (a b:List Int) (h:a.length < n) (hl:a.length < 1000000):gV n a b=some (a == b):=by
 unfold gV
 by_cases he:a.length=b.length
 ·
  rw [if_neg (by simp [he])]
  exact BH a b a [] b n rfl rfl he h hl
 ·
  rw [if_pos (by simp; omega)]
  have:(a == b)=false:=by rw [beq_eq_false_iff_ne]; intro q; exact he (by rw [q])
  rw [this]
end Pr
end Go.Ev

namespace Go.Ev
namespace Pr
set_option linter.unusedVariables false
set_option linter.unusedSimpArgs false
mutual
inductive TA (d:ay):Int→Tree→List Int→Prop
 | mk {i:Int} {z:ah} {ts:List Tree} {F:List Int} (h:nd d i=some z) (hl:z.lives=true) (k:jy d z.kids ts F):TA d i (Tree.mk z.tag z.key z.text z.attrs ts) (i :: F)
inductive jy (d:ay):List Int→List Tree→List Int→Prop
 | nil:jy d [] [] []
 | cons {i:Int} {is:List Int} {t:Tree} {ts:List Tree} {F G:List Int} (h:TA d i t F) (k:jy d is ts G):jy d (i :: is) (t :: ts) (F ++ G)
end
mutual
def jL:Tree→Nat
 | .mk _ _ _ _ ks=>1 + ig ks
def ig:List Tree→Nat
 | []=>0
 | t :: l=>jL t + ig l
end
mutual
theorem TA.len {d:ay}:∀ {i:Int} {t:Tree} {F:List Int},TA d i t F→F.length=jL t
 | _,_,_,.mk h hl k=>by simp only [List.length_cons,jL,k.len]; omega
theorem jy.len {d:ay}:∀ {is:List Int} {ts:List Tree} {F:List Int},jy d is ts F→F.length=ig ts
 | _,_,_,.nil=>rfl
 | _,_,_,.cons h k=>by simp only [List.length_append,ig,h.len,k.len]
end
mutual
theorem TA.keep {d d':ay}:∀ {i:Int} {t:Tree} {F:List Int},TA d i t F→(∀ j ∈ F,∀ z,nd d j=some z→∃ z',nd d' j=some z'∧z'.lives=z.lives∧z'.tag=z.tag∧z'.key=z.key∧z'.text=z.text∧z'.attrs=z.attrs∧z'.kids=z.kids)→TA d' i t F
 | _,_,_,.mk h hl k,hk=>by
  obtain ⟨z',q1,q2,q3,q4,q5,q6,q7⟩:=hk _ List.mem_cons_self _ h
  rw [← q3,← q4,← q5,← q6]
  refine .mk q1 (by rw [q2,hl]) ?_
  rw [q7]
  exact k.keep (fun j hj=>hk j (List.mem_cons_of_mem _ hj))
theorem jy.keep {d d':ay}:∀ {is:List Int} {ts:List Tree} {F:List Int},jy d is ts F→(∀ j ∈ F,∀ z,nd d j=some z→∃ z',nd d' j=some z'∧z'.lives=z.lives∧z'.tag=z.tag∧z'.key=z.key∧z'.text=z.text∧z'.attrs=z.attrs∧z'.kids=z.kids)→jy d' is ts F
 | _,_,_,.nil,hk=>.nil
 | _,_,_,.cons h k,hk=>.cons (h.keep (fun j hj=>hk j (List.mem_append_left _ hj))) (k.keep (fun j hj=>hk j (List.mem_append_right _ hj)))
end
theorem TA.um {d d':ay} {i:Int} {t:Tree} {F:List Int} (h:TA d i t F) (hk:∀ j ∈ F,nd d' j=nd d j):TA d' i t F :=
 h.keep (fun j hj z hz=>⟨z,by rw [hk j hj]; exact hz,rfl,rfl,rfl,rfl,rfl,rfl⟩)
theorem jy.um {d d':ay} {is:List Int} {ts:List Tree} {F:List Int} (h:jy d is ts F) (hk:∀ j ∈ F,nd d' j=nd d j):jy d' is ts F :=
 h.keep (fun j hj z hz=>⟨z,by rw [hk j hj]; exact hz,rfl,rfl,rfl,rfl,rfl,rfl⟩)
theorem TA.head {d:ay} {i:Int} {t:Tree} {F:List Int} (h:TA d i t F):∃ G,F=i :: G:=by cases h; exact ⟨_,rfl⟩
mutual
theorem TA.live {d:ay}:∀ {i:Int} {t:Tree} {F:List Int},TA d i t F→∀ j ∈ F,∃ z,nd d j=some z∧z.lives=true∧∀ k ∈ z.kids,k ∈ F
 | _,_,_,.mk h hl k,j,hj=>by
  rcases List.mem_cons.1 hj with rfl | hj
  ·
   exact ⟨_,h,hl,fun q hq=>List.mem_cons_of_mem _ (k.heads q hq)⟩
  ·
   obtain ⟨z,q1,q2,q3⟩:=k.live j hj
   exact ⟨z,q1,q2,fun q hq=>List.mem_cons_of_mem _ (q3 q hq)⟩
theorem jy.live {d:ay}:∀ {is:List Int} {ts:List Tree} {F:List Int},jy d is ts F→∀ j ∈ F,∃ z,nd d j=some z∧z.lives=true∧∀ k ∈ z.kids,k ∈ F
 | _,_,_,.nil,j,hj=>by cases hj
 | _,_,_,.cons h k,j,hj=>by
  rcases List.mem_append.1 hj with hj | hj
  ·
   obtain ⟨z,q1,q2,q3⟩:=h.live j hj
   exact ⟨z,q1,q2,fun q hq=>List.mem_append_left _ (q3 q hq)⟩
  ·
   obtain ⟨z,q1,q2,q3⟩:=k.live j hj
   exact ⟨z,q1,q2,fun q hq=>List.mem_append_right _ (q3 q hq)⟩
theorem jy.heads {d:ay}:∀ {is:List Int} {ts:List Tree} {F:List Int},jy d is ts F→∀ j ∈ is,j ∈ F
 | _,_,_,.nil,j,hj=>by cases hj
 | _,_,_,.cons h k,j,hj=>by
  rcases List.mem_cons.1 hj with rfl | hj
  ·
   obtain ⟨G,rfl⟩:=h.head; simp
  ·
   exact List.mem_append_right _ (k.heads j hj)
end
mutual
theorem TA.uniq {d:ay}:∀ {i:Int} {t t':Tree} {F F':List Int},TA d i t F→TA d i t' F'→t=t'∧F=F'
 | _,_,_,_,_,.mk h hl k,.mk h' hl' k'=>by
  rw [h] at h'; cases h'
  obtain ⟨e1,e2⟩:=k.uniq k'
  rw [e1,e2]; exact ⟨rfl,rfl⟩
theorem jy.uniq {d:ay}:∀ {is:List Int} {t t':List Tree} {F F':List Int},jy d is t F→jy d is t' F'→t=t'∧F=F'
 | _,_,_,_,_,.nil,.nil=>⟨rfl,rfl⟩
 | _,_,_,_,_,.cons h k,.cons h' k'=>by
  obtain ⟨e1,e2⟩:=h.uniq h'
  obtain ⟨e3,e4⟩:=k.uniq k'
  rw [e1,e2,e3,e4]; exact ⟨rfl,rfl⟩
end
theorem jy.lens {d:ay}:∀ {is:List Int} {ts:List Tree} {F:List Int},jy d is ts F→is.length=ts.length
 | _,_,_,.nil=>rfl
 | _,_,_,.cons h k=>by simp [k.lens]
theorem jy.app {d:ay}:∀ {is is2:List Int} {ts ts2:List Tree} {F F2:List Int},jy d is ts F→jy d is2 ts2 F2→jy d (is ++ is2) (ts ++ ts2) (F ++ F2)
 | _,_,_,_,_,_,.nil,h=>h
 | _,_,_,_,_,_,.cons a b,h=>by
  have:=jy.cons a (b.app h)
  simpa [List.append_assoc] using this
theorem jy.one {d:ay} {i:Int} {t:Tree} {F:List Int} (h:TA d i t F):jy d [i] [t] F:=by
 have:=jy.cons h (.nil (d:=d))
 simpa using this
mutual
theorem TA.path {d:ay} (hW:WF d):∀ {i:Int} {t:Tree} {F:List Int} {l:List Int},TA d i t F→Path d i l→∀ j ∈ F,∃ l1,Path d j (l1 ++ l)
 | i,_,_,l,.mk h hl k,hp,j,hj=>by
  rcases List.mem_cons.1 hj with rfl | hj
  ·
   exact ⟨[],hp⟩
  ·
   obtain ⟨l1,q⟩:=k.path hW hp (fun c hc=>hW.kid i _ c h hl hc) (cB h).1 j hj
   exact ⟨l1,q⟩
theorem jy.path {d:ay} (hW:WF d):∀ {is:List Int} {ts:List Tree} {F:List Int} {l:List Int} {p:Int},jy d is ts F→Path d p l→(∀ c ∈ is,∃ y,nd d c=some y∧y.lives=true∧y.parent=p)→1 ≤ p→∀ j ∈ F,∃ l1,Path d j (l1 ++ l)
 | _,_,_,l,p,.nil,hp,hc,h1,j,hj=>by cases hj
 | _,_,_,l,p,.cons h k,hp,hc,h1,j,hj=>by
  rcases List.mem_append.1 hj with hj | hj
  ·
   obtain ⟨y,y1,y2,y3⟩:=hc _ List.mem_cons_self
   have hp2:Path d _ (_ :: l):=.up y1 y2 (by omega) (by rw [y3]; exact hp)
   obtain ⟨l1,q⟩:=h.path hW hp2 j hj
   exact ⟨l1 ++ [_],by simpa using q⟩
  ·
   exact k.path hW hp (fun c hcc=>hc c (List.mem_cons_of_mem _ hcc)) h1 j hj
end
theorem Gw {d:ay} {j:Int} {l1 l2 l:List Int} (h1:Path d j (l1 ++ l)) (h2:Path d j (l2 ++ l)):l1=l2:=List.append_cancel_right (h1.uniq h2)
mutual
theorem TA.nodup {d:ay} (hW:WF d):∀ {i:Int} {t:Tree} {F:List Int} {l:List Int},TA d i t F→Path d i l→F.Nodup
 | i,_,_,l,.mk h hl k,hp=>by
  refine List.nodup_cons.2 ⟨fun hm=>?_,k.nodup hW hp (fun c hc=>hW.kid i _ c h hl hc) (cB h).1 (hW.kidN i _ h hl)⟩
  obtain ⟨l1,q⟩:=k.I1 hW hp (fun c hc=>hW.kid i _ c h hl hc) (cB h).1 i hm
  obtain ⟨c,hc⟩:=q
  have:=hc.uniq hp
  have:=congrArg List.length this
  simp at this
  omega
theorem jy.nodup {d:ay} (hW:WF d):∀ {is:List Int} {ts:List Tree} {F:List Int} {l:List Int} {p:Int},jy d is ts F→Path d p l→(∀ c ∈ is,∃ y,nd d c=some y∧y.lives=true∧y.parent=p)→1 ≤ p→is.Nodup→F.Nodup
 | _,_,_,l,p,.nil,hp,hc,h1,hn=>List.nodup_nil
 | _,_,_,l,p,.cons (i:=i) (is:=is) h k,hp,hc,h1,hn=>by
  obtain ⟨y,y1,y2,y3⟩:=hc _ List.mem_cons_self
  have hp2:Path d i (i :: l):=.up y1 y2 (by omega) (by rw [y3]; exact hp)
  have hn':=List.nodup_cons.1 hn
  refine List.nodup_append.2 ⟨h.nodup hW hp2,k.nodup hW hp (fun c hcc=>hc c (List.mem_cons_of_mem _ hcc)) h1 hn'.2,fun a ha b hb hab=>?_⟩
  subst hab
  obtain ⟨l1,q1⟩:=h.path hW hp2 a ha
  obtain ⟨l2,c,hc2,q2⟩:=k.Ep hW hp (fun c hcc=>hc c (List.mem_cons_of_mem _ hcc)) h1 a hb
  have e:l1 ++ [i]=l2 ++ [c]:=Gw (l:=l) (by simpa using q1) (by simpa using q2)
  have:=List.append_inj_right' e rfl
  simp at this
  subst this
  exact hn'.1 hc2
theorem jy.I1 {d:ay} (hW:WF d) {is:List Int} {ts:List Tree} {F:List Int} {l:List Int} {p:Int} (h:jy d is ts F) (hp:Path d p l) (hc:∀ c ∈ is,∃ y,nd d c=some y∧y.lives=true∧y.parent=p) (h1:1 ≤ p):∀ j ∈ F,∃ l1:List Int,∃ c,Path d j (l1 ++ c :: l):=fun j hj=>by
 obtain ⟨l1,c,_,q⟩:=h.Ep hW hp hc h1 j hj
 exact ⟨l1,c,q⟩
theorem jy.Ep {d:ay} (hW:WF d):∀ {is:List Int} {ts:List Tree} {F:List Int} {l:List Int} {p:Int},jy d is ts F→Path d p l→(∀ c ∈ is,∃ y,nd d c=some y∧y.lives=true∧y.parent=p)→1 ≤ p→∀ j ∈ F,∃ l1:List Int,∃ c,c ∈ is∧Path d j (l1 ++ c :: l)
 | _,_,_,l,p,.nil,hp,hc,h1,j,hj=>by cases hj
 | _,_,_,l,p,.cons (i:=i) h k,hp,hc,h1,j,hj=>by
  rcases List.mem_append.1 hj with hj | hj
  ·
   obtain ⟨y,y1,y2,y3⟩:=hc _ List.mem_cons_self
   have hp2:Path d i (i :: l):=.up y1 y2 (by omega) (by rw [y3]; exact hp)
   obtain ⟨l1,q⟩:=h.path hW hp2 j hj
   exact ⟨l1,i,List.mem_cons_self,q⟩
  ·
   obtain ⟨l1,c,c1,q⟩:=k.Ep hW hp (fun c hcc=>hc c (List.mem_cons_of_mem _ hcc)) h1 j hj
   exact ⟨l1,c,List.mem_cons_of_mem _ c1,q⟩
end
end Pr
end Go.Ev

namespace Go.Ev
namespace Pr
set_option linter.unusedVariables false
set_option linter.unusedSimpArgs false
theorem DN (t:Tree):1 ≤ jL t:=by cases t; simp only [jL]; omega
theorem qm:∀ (l:List Tree),l.length ≤ ig l
 | []=>by simp
 | t :: l=>by have:=qm l; have:=DN t; simp only [List.length_cons,ig]; omega
theorem Bq {n:Nat} {d:ay} (ih:∀ {i:Int} {t:Tree} {F:List Int},TA d i t F→jL t < n→gB n d i=some t) {z:ah} (at_:List Attr) (hk:z.kids.length ≤ 5000):∀ {is:List Int} {ts:List Tree} {F:List Int} (done:List Int) (dts:List Tree) (f:Nat),jy d is ts F→z.kids=done ++ is→dts.length=done.length→ig ts < n→is.length < f →
  fe (gB n) d z at_ f dts (done.length:Int)=some (Tree.mk z.tag z.key z.text at_ (dts ++ ts))
 | _,_,_,done,dts,f + 1,.nil,h,hd,hn,hf=>by
  rw [fe,if_neg (by rw [h]; simp)]
  simp
 | _,_,_,done,dts,f + 1,.cons (i:=i) (is:=is) (t:=t) (ts:=ts) a b,h,hd,hn,hf=>by
  have hl:z.kids.length=done.length + 1 + is.length:=by rw [h]; simp; omega
  simp only [ig] at hn
  rw [fe,if_pos (by rw [decide_eq_true_eq]; omega),iy h,Option.bind_some,ih a (by omega),Option.bind_some,lU (by rw [bnd]; simp; omega),Option.bind_some,mf (by omega) (by omega)]
  have:=Bq ih at_ hk (done ++ [i]) (dts ++ [t]) f b (by rw [h]; simp) (by simp [hd]) (by omega) (by simpa using hf)
  simpa using this
theorem FT {d:ay} (hW:WF d):∀ (n:Nat) {i:Int} {t:Tree} {F:List Int},TA d i t F→jL t < n→gB n d i=some t
 | 0,_,_,_,_,h=>by omega
 | n + 1,i,_,_,.mk (z:=z) (ts:=ts) h hl k,hn=>by
  simp only [jL] at hn
  have hat:=hW.attrs _ _ h
  have hkl:=si hW h hl
  have htl:=qm ts
  have hkt:=k.lens
  rw [gB,je hW.dm h,Option.bind_some]
  unfold cu
  rw [lU (by rw [bnd]; simp; omega),Option.bind_some,List.nil_append]
  have:=Bq (FT hW n) z.attrs hkl [] [] n k rfl rfl (by omega) (by omega)
  simpa using this
theorem yA {d:ay} (hW:WF d) {n:Nat} {i:Int} {t:Tree} {F:List Int} (h:TA d i t F) (hn:jL t < n):iP n d i=some (t,true):=by
 unfold iP
 have ht:=FT hW n h hn
 cases h with
 | mk h hl k =>
  rw [xL hW.dm,Option.bind_some,dQ h,if_pos hl,je hW.dm h,Option.bind_some,ht]; rfl
def xK:ah:=ah.mk false [] [] [] [] [] 0
def rY (l:List ah):List Int→List ah
 | []=>l
 | i :: F=>rY (l.set (i - 1).toNat xK) F
def dz (d:ay) (F:List Int):ay:=ay.mk (rY d.l F) (d.freed ++ F)
theorem Bc:∀ (F G:List Int) (l:List ah),rY l (F ++ G)=rY (rY l F) G
 | [],G,l=>rfl
 | i :: F,G,l=>by simp only [List.cons_append,rY,Bc F G]
theorem xA (d:ay) (F G:List Int):dz (dz d F) G=dz d (F ++ G):=by
 unfold dz; simp [Bc]
theorem nW:∀ (F:List Int) (l:List ah),(rY l F).length=l.length
 | [],l=>rfl
 | i :: F,l=>by simp [rY,nW F]
@[simp] theorem oZ (d:ay) (F:List Int):(dz d F).l.length=d.l.length:=nW F d.l
theorem og:∀ (F:List Int) (d:ay),(∀ i ∈ F,1 ≤ i∧i ≤ d.l.length)→∀ j,nd (dz d F) j=if j ∈ F then some xK else nd d j
 | [],d,h,j=>by simp only [List.not_mem_nil,if_false]; unfold nd dz rY; rfl
 | i :: F,d,h,j=>by
  have hi:=h i List.mem_cons_self
  obtain ⟨z0,hz0⟩:=qK hi.1 hi.2
  have e:dz d (i :: F)=ay.mk (rY (jC d i xK).l F) (d.freed ++ i :: F):=rfl
  have h2:=og F (jC d i xK) (fun k hk=>by rw [lQ]; exact h k (List.mem_cons_of_mem _ hk)) j
  have e2:nd (dz d (i :: F)) j=nd (dz (jC d i xK) F) j:=by rw [e]; unfold nd dz; rfl
  rw [e2,h2,iY hz0]
  by_cases hj:j ∈ F
  ·
   rw [if_pos hj,if_pos (List.mem_cons_of_mem _ hj)]
  ·
   rw [if_neg hj]
   by_cases hji:j=i
   ·
    rw [if_pos hji,if_pos (by rw [hji]; exact List.mem_cons_self)]
   ·
    rw [if_neg hji,if_neg (by simp [hji,hj])]
theorem TA.KH {d:ay} {i:Int} {t:Tree} {F:List Int} (h:TA d i t F):∀ j ∈ F,1 ≤ j∧j ≤ d.l.length:=fun j hj=>by
 obtain ⟨z,hz,_⟩:=h.live j hj; exact cB hz
theorem jy.KH {d:ay} {i:List Int} {t:List Tree} {F:List Int} (h:jy d i t F):∀ j ∈ F,1 ≤ j∧j ≤ d.l.length:=fun j hj=>by
 obtain ⟨z,hz,_⟩:=h.live j hj; exact cB hz
theorem AZ {n:Nat} (ih:∀ {d:ay} {i:Int} {t:Tree} {F:List Int},TA d i t F→F.Nodup→d.l.length ≤ 5000→d.freed.length + F.length ≤ 100000→jL t < n→fT n d i=some (dz d F)) {z:ah} (hk:z.kids.length ≤ 5000) :
  ∀ (is:List Int) (ts:List Tree) (F:List Int) (d:ay) (done:List Int) (f:Nat),jy d is ts F→F.Nodup→d.l.length ≤ 5000→d.freed.length + F.length ≤ 100000→z.kids=done ++ is→ig ts < n→is.length < f →
  eY (fT n) z f d (done.length:Int)=some (dz d F)
 | [],_,_,d,done,f + 1,.nil,hn,hl,hb,h,ht,hf=>by
  rw [eY,if_neg (by rw [h]; simp)]
  unfold dz rY; simp
 | i :: is,_,_,d,done,f + 1,.cons (t:=t) (ts:=ts) (F:=F) (G:=G) a b,hn,hl,hb,h,ht,hf=>by
  have hkl:z.kids.length=done.length + 1 + is.length:=by rw [h]; simp; omega
  simp only [ig] at ht
  have hnd:=List.nodup_append.1 hn
  rw [List.length_append] at hb
  rw [eY,if_pos (by rw [decide_eq_true_eq]; omega),iy h,Option.bind_some,ih a hnd.1 hl (by omega) (by omega),Option.bind_some,mf (by omega) (by omega)]
  have b2:jy (dz d F) is ts G:=b.um (fun j hj=>by rw [og F d a.KH,if_neg (fun q=>hnd.2.2 j q j hj rfl)])
  have:=AZ ih hk is ts G (dz d F) (done ++ [i]) f b2 hnd.2.1 (by rw [oZ]; exact hl) (by simp [dz]; omega) (by rw [h]; simp) (by omega) (by simpa using hf)
  rw [xA] at this
  simpa using this
theorem FV:∀ (n:Nat) {d:ay} {i:Int} {t:Tree} {F:List Int},TA d i t F→F.Nodup→d.l.length ≤ 5000→d.freed.length + F.length ≤ 100000→jL t < n→fT n d i=some (dz d F)
 | 0,_,_,_,_,_,_,_,_,h=>by omega
 | n + 1,d,i,_,_,.mk (z:=z) (ts:=ts) (F:=F) h hl k,hn,hlen,hb,ht=>by
  simp only [jL] at ht
  simp only [List.length_cons] at hb
  have hkt:=k.lens
  have htl:=qm ts
  have hkF:z.kids.length ≤ F.length:=by have:=k.len; omega
  have hFl:F.length ≤ 5000:=Nat.le_trans (iQ d.l.length F (List.nodup_cons.1 hn).2 (fun x hx=>k.KH x hx)) hlen
  have hdm:d.l.length ≤ dM:=Nat.le_trans hlen (by decide)
  rw [fT,je hdm h,Option.bind_some,lU (by rw [bnd]; simp; omega),Option.bind_some,o6 hdm h]
  have e1:ay.mk (jC d i (ah.mk (aG.mk false [] [] [] [] 0).lives (aG.mk false [] [] [] [] 0).tag (aG.mk false [] [] [] [] 0).key (aG.mk false [] [] [] [] 0).text (aG.mk false [] [] [] [] 0).attrs [] (aG.mk false [] [] [] [] 0).parent)).l (d.freed ++ [i])=dz d [i]:=rfl
  rw [e1]
  have hn':=List.nodup_cons.1 hn
  have k2:jy (dz d [i]) z.kids ts F:=k.um (fun j hj=>by rw [og [i] d (fun q hq=>by rw [List.mem_singleton.1 hq]; exact cB h),if_neg (by simp only [List.mem_singleton]; exact fun q=>hn'.1 (q ▸ hj))])
  have:=AZ (FV n) (z:=z) (by omega) z.kids ts F (dz d [i]) [] n k2 hn'.2 (by rw [oZ]; exact hlen) (by simp [dz]; omega) rfl (by omega) (by omega)
  rw [xA] at this
  simpa using this
end Pr
end Go.Ev

namespace Go.Ev
namespace Pr
set_option linter.unusedVariables false
set_option linter.unusedSimpArgs false
theorem Path.tail {d:ay} {i:Int} {l:List Int} (h:Path d i l):∃ z,nd d i=some z∧z.lives=true∧((z.parent=0∧l=[i])∨(z.parent ≠ 0∧∃ t,l=i :: t∧Path d z.parent t)):=by
 cases h with
 | top g gl gp=>exact ⟨_,g,gl,.inl ⟨gp,rfl⟩⟩
 | up g gl gp k=>exact ⟨_,g,gl,.inr ⟨gp,_,rfl,k⟩⟩
theorem TA.sub {d:ay} (hW:WF d) {i:Int} {t:Tree} {F l:List Int} (h:TA d i t F) (hp:Path d i l):∀ j ∈ F,j ≠ i→∃ z,nd d j=some z∧z.lives=true∧z.parent ∈ F∧z.parent ≠ 0:=by
 obtain ⟨G,hG⟩:=h.head
 obtain ⟨li,hli⟩:=hp.head
 have step:∀ (a:Int) (l1:List Int) (p:Int),Path d p ((a :: l1) ++ l)→a=p∧∃ z,nd d p=some z∧z.lives=true∧z.parent ≠ 0∧Path d z.parent (l1 ++ l):=fun a l1 p q=>by
  obtain ⟨z,z1,z2,z3⟩:=q.tail
  rcases z3 with ⟨_,e⟩ | ⟨z3,t,e,k⟩
  ·
   exfalso
   have:=congrArg List.length e
   rw [hli] at this; simp at this
  ·
   have e1:=List.cons.inj (by simpa using e)
   exact ⟨e1.1,z,z1,z2,z3,by rw [e1.2]; exact k⟩
 have key:∀ (l1:List Int) (p:Int),Path d p (l1 ++ l)→p ∈ F:=by
  intro l1
  induction l1 with
  | nil =>
   intro p hq
   obtain ⟨e,he⟩:=hq.head
   rw [List.nil_append,hli] at he
   rw [← (List.cons.inj he).1,hG]
   exact List.mem_cons_self
  | cons b l2 ih =>
   intro p hq
   obtain ⟨rfl,z,z1,z2,z3,k⟩:=step b l2 p hq
   have hin:=ih _ k
   obtain ⟨zp,p1,p2,p3⟩:=h.live _ hin
   obtain ⟨x,x1,x2,x3,_⟩:=hW.par _ _ z1 z2 z3
   rw [x1] at p1; cases p1
   exact p3 _ x3
 intro j hj hne
 obtain ⟨l1,q⟩:=h.path hW hp j hj
 cases l1 with
 | nil =>
  obtain ⟨b,hb⟩:=q.head
  rw [List.nil_append,hli] at hb
  exact absurd (List.cons.inj hb).1.symm hne
 | cons a l1 =>
  obtain ⟨rfl,z,z1,z2,z3,k⟩:=step a l1 j q
  exact ⟨z,z1,z2,key l1 _ k,z3⟩
theorem Ke {d:ay} (hW:WF d) {i:Int} {t:Tree} {F:List Int} (h:TA d i t F) {zi:ah} (hzi:nd d i=some zi) (hp0:zi.parent=0) (hi1:i ≠ 1):WF (dz d F)∧F.Nodup∧(∀ j,j ∉ F→nd (dz d F) j=nd d j):=by
 have hli:zi.lives=true:=by
  obtain ⟨z,z1,z2,_⟩:=h.live i (by obtain ⟨G,rfl⟩:=h.head; exact List.mem_cons_self)
  rw [hzi] at z1; cases z1; exact z2
 have hp:Path d i [i]:=.top hzi hli hp0
 have hsub:=h.sub hW hp
 have hnF:=h.nodup hW hp
 have hget:=og F d h.KH
 have out:∀ j,j ∉ F→nd (dz d F) j=nd d j:=fun j hj=>by rw [hget,if_neg hj]
 have one:(1:Int) ∉ F:=fun hm=>by
  obtain ⟨r,r1,r2,r3,_⟩:=hW.root
  obtain ⟨z,z1,z2,z3,z4⟩:=hsub 1 hm (Ne.symm hi1)
  rw [r1] at z1; cases z1; exact z4 r3
 have low:∀ j z,nd (dz d F) j=some z→z.lives=true→j ∉ F∧nd d j=some z:=fun j z hz hl=>by
  rw [hget] at hz
  by_cases hj:j ∈ F
  ·
   rw [if_pos hj] at hz; cases hz; simp [xK] at hl
  ·
   rw [if_neg hj] at hz; exact ⟨hj,hz⟩
 have kidOut:∀ j z k,j ∉ F→nd d j=some z→z.lives=true→k ∈ z.kids→k ∉ F:=fun j z k hj hz hl hk hm=>by
  obtain ⟨y,y1,y2,y3⟩:=hW.kid j z k hz hl hk
  by_cases hki:k=i
  ·
   subst hki; rw [hzi] at y1; cases y1
   have:=cB hz; omega
  ·
   obtain ⟨x,x1,x2,x3,x4⟩:=hsub k hm hki
   rw [y1] at x1; cases x1
   rw [y3] at x3; exact hj x3
 have parOut:∀ k y,k ∉ F→nd d k=some y→y.lives=true→y.parent ≠ 0→y.parent ∉ F:=fun k y hk hy hl hpk hm=>by
  obtain ⟨x,x1,x2,x3,_⟩:=hW.par k y hy hl hpk
  obtain ⟨z,z1,z2,z3⟩:=h.live _ hm
  rw [x1] at z1; cases z1
  exact hk (z3 k x3)
 refine ⟨⟨by rw [oZ]; exact hW.len,?_,fun j hj=>?_,?_,fun j z hz=>?_,fun j z hz hl=>?_,fun j z k hz hl hk=>?_,fun k y hy hl hpk=>?_,fun j hj=>?_,fun j z hz=>?_⟩,hnF,out⟩
 ·
  obtain ⟨r,r1,r2⟩:=hW.root
  exact ⟨r,by rw [out 1 one]; exact r1,r2⟩
 ·
  rw [oZ]
  rcases List.mem_append.1 (show j ∈ d.freed ++ F from hj) with hj | hj
  ·
   exact hW.freedR j hj
  ·
   have:=h.KH j hj
   exact ⟨by have:j ≠ 1:=fun q=>one (q ▸ hj); omega,this.2⟩
 ·
  show (d.freed ++ F).Nodup
  refine List.nodup_append.2 ⟨hW.freedN,hnF,fun a ha b hb hab=>?_⟩
  subst hab
  obtain ⟨z,z1,z2,_⟩:=h.live a hb
  have:=(hW.dead a z z1).2 ha
  rw [z2] at this; cases this
 ·
  show z.lives=false↔j ∈ d.freed ++ F
  rw [hget] at hz
  by_cases hj:j ∈ F
  ·
   rw [if_pos hj] at hz; cases hz
   simp [xK,hj]
  ·
   rw [if_neg hj] at hz
   rw [hW.dead j z hz]; simp [hj]
 ·
  obtain ⟨q1,q2⟩:=low j z hz hl; exact hW.kidN j z q2 hl
 ·
  obtain ⟨q1,q2⟩:=low j z hz hl
  obtain ⟨y,y1,y2,y3⟩:=hW.kid j z k q2 hl hk
  exact ⟨y,by rw [out k (kidOut j z k q1 q2 hl hk)]; exact y1,y2,y3⟩
 ·
  obtain ⟨q1,q2⟩:=low k y hy hl
  obtain ⟨x,x1,x2,x3⟩:=hW.par k y q2 hl hpk
  exact ⟨x,by rw [out _ (parOut k y q1 q2 hl hpk)]; exact x1,x2,x3⟩
 ·
  obtain ⟨z,hz,hl⟩:=fZ hj
  obtain ⟨q1,q2⟩:=low j z hz hl
  obtain ⟨l,hl2⟩:=hW.path j (by rw [dQ q2,hl])
  refine ⟨l,?_⟩
  clear hj hz
  induction hl2 generalizing z with
  | top g gl gp =>
   rw [g] at q2; cases q2
   exact .top (by rw [out _ q1]; exact g) gl gp
  | up g gl gp k ih =>
   rw [g] at q2; cases q2
   obtain ⟨x,x1,x2,_⟩:=hW.par _ _ g gl gp
   exact .up (by rw [out _ q1]; exact g) gl gp (ih x x2 (parOut _ _ q1 g gl gp) x1)
 ·
  rw [hget] at hz
  by_cases hj:j ∈ F
  ·
   rw [if_pos hj] at hz; cases hz; simp [xK]
  ·
   rw [if_neg hj] at hz; exact hW.attrs j z hz
theorem JY {d:ay} (hW:WF d) {n:Nat} {i:Int} {t:Tree} {F:List Int} (h:TA d i t F) {zi:ah} (hzi:nd d i=some zi) (hp0:zi.parent=0) (hi1:i ≠ 1) (hn:jL t < n):lT n d i=some (true,dz d F):=by
 have hli:zi.lives=true:=by
  obtain ⟨z,z1,z2,_⟩:=h.live i (by obtain ⟨G,rfl⟩:=h.head; exact List.mem_cons_self)
  rw [hzi] at z1; cases z1; exact z2
 have hF:=h.nodup hW (.top hzi hli hp0)
 have hfl:d.freed.length ≤ d.l.length:=iQ _ _ hW.freedN (fun x hx=>⟨by have:=hW.freedR x hx; omega,(hW.freedR x hx).2⟩)
 have hFl:F.length ≤ d.l.length:=iQ _ _ hF h.KH
 have:=hW.len
 unfold lT
 rw [xL hW.dm,Option.bind_some,dQ hzi,if_pos hli,je hW.dm hzi,Option.bind_some,if_neg (by simp [hi1,hp0]),FV n h hF hW.len (by omega) hn]
 rfl
def cnt (d:ay):Int:=(d.l.length:Int) - d.freed.length
theorem Iz (d:ay) (F:List Int):cnt (dz d F)=cnt d - F.length:=by unfold cnt dz; simp [nW]; omega
theorem TA.dB {d:ay} (hW:WF d) {c:Int} (hc:kz d c=true) {i:Int} {t:Tree} {F:List Int} (h:TA d i t F) (hno:∀ j ∈ F,∀ z,nd d j=some z→c ∉ z.kids):TA (Pr.dB d c) i t F :=
 h.keep (fun j hj z hz=>by
  obtain ⟨z',z1,z2,_⟩:=h.live j hj
  rw [hz] at z1; cases z1
  refine ⟨_,q9 hW hc hz z2,rfl,rfl,rfl,rfl,rfl,?_⟩
  exact List.erase_of_not_mem (hno j hj z hz))
theorem Gh {d:ay} (hW:WF d) {n:Nat} (hn6:6000 ≤ n) {c:Int} {t:Tree} {F:List Int} (h:TA d c t F) (hc1:c ≠ 1):∃ d',jN n d c=some ((F.length:Int),d')∧WF d'∧cnt d'=cnt d - F.length∧d'.l.length=d.l.length∧(∀ j ∈ F,kz d' j=false) ∧
  (∀ j z,j ∉ F→nd d j=some z→nd d' j=some (if z.lives=true then { z with kids:=z.kids.erase c } else z)):=by
 obtain ⟨z,hz,hl,_⟩:=h.live c (by obtain ⟨G,rfl⟩:=h.head; exact List.mem_cons_self)
 have hc:kz d c=true:=by rw [dQ hz,hl]
 obtain ⟨l,hp⟩:=hW.path c hc
 have hF:=h.nodup hW hp
 have hFl:F.length ≤ d.l.length:=iQ _ _ hF h.KH
 have hlen:=hW.len
 have htn:jL t < n:=by have:=h.len; omega
 have hW1:=wD hW hc
 have hno:∀ j ∈ F,∀ y,nd d j=some y→c ∉ y.kids:=fun j hj y hy hm=>by
  obtain ⟨y0,y1,y2,_⟩:=h.live j hj
  rw [hy] at y1; cases y1
  obtain ⟨x,x1,x2,x3⟩:=hW.kid j y c hy y2 hm
  rw [hz] at x1; cases x1
  obtain ⟨l1,q⟩:=h.path hW hp j hj
  have hr:=cB hy
  have:=(Path.up hz hl (by omega) (by rw [x3]; exact q)).uniq hp
  have:=congrArg List.length this
  simp at this; omega
 have h1:TA (dB d c) c t F:=h.dB hW hc hno
 obtain ⟨z1,hz1,hl1,hp1⟩:=sJ hW hc
 obtain ⟨w1,w2,w3⟩:=Ke hW1 h1 hz1 hp1 hc1
 have hfl:d.freed.length ≤ d.l.length:=iQ _ _ hW.freedN (fun x hx=>⟨by have:=hW.freedR x hx; omega,(hW.freedR x hx).2⟩)
 have hfl2:=iQ (dz (dB d c) F).l.length _ w1.freedN (fun x hx=>⟨by have:=w1.freedR x hx; omega,(w1.freedR x hx).2⟩)
 have hc2:cnt (dz (dB d c) F)=cnt d - F.length:=by rw [Iz]; unfold cnt; simp
 refine ⟨dz (dB d c) F,?_,w1,hc2,by simp,fun j hj=>?_,fun j y hj hy=>?_⟩
 ·
  obtain ⟨b,hb1,hb2⟩:=GR hW hn6 c
  have hd:(if b=true then dB d c else d)=dB d c:=by
   cases b with
   | true=>rfl
   | false =>
    by_cases hp0:z.parent=0
    ·
     rw [kR hz hp0]; rfl
    ·
     exact absurd (hb2.2 ⟨z,hz,hl,hp0⟩) (by simp)
  unfold jN
  unfold nI
  rw [Option.bind_some,if_neg (by simpa using hc1),oO hW,Option.bind_some,hb1,Option.bind_some,hd]
  simp only
  rw [JY hW1 h1 hz1 hp1 hc1 htn,Option.bind_some]
  simp only
  rw [oO w1,Option.bind_some]
  have e:IntKind.wrap .i64 (((d.l.length:Int) - d.freed.length) - (((dz (dB d c) F).l.length:Int) - (dz (dB d c) F).freed.length))=(F.length:Int):=by
   rw [mf (by simp [dz,nW]; omega) (by simp [dz,nW]; omega)]
   simp [dz,nW]; omega
  rw [e]
 ·
  unfold kz
  rw [og F _ h1.KH,if_pos hj]; rfl
 ·
  rw [w3 j hj]
  have hjc:j ≠ c:=fun q=>by subst q; obtain ⟨G,rfl⟩:=h.head; exact hj List.mem_cons_self
  by_cases hyl:y.lives=true
  ·
   rw [if_pos hyl,q9 hW hc hy hyl,if_neg hjc]
  ·
   rw [if_neg hyl]
   by_cases hp0:z.parent=0
   ·
    rw [kR hz hp0]; exact hy
   ·
    obtain ⟨x,x1,x2,_⟩:=hW.par c z hz hl hp0
    rw [qg hz hp0 x1 (wV hW hz hl),if_neg hjc,if_neg (fun q=>by subst q; rw [x1] at hy; cases hy; exact hyl x2)]
    exact hy
end Pr
end Go.Ev

namespace Go.Ev
namespace Pr
set_option linter.unusedVariables false
set_option linter.unusedSimpArgs false
mutual
def Rt:Tree→Prop
 | .mk tag key text attrs ks=>(tag=[]→key=[]∧attrs=[]∧ks=[])∧(tag ≠ []→text=[]∧attrs.length ≤ 100000∧KG ks)
def KG:List Tree→Prop
 | []=>True
 | t :: l=>Rt t∧KG l
end
theorem KG.mem:∀ {l:List Tree},KG l→∀ t ∈ l,Rt t
 | [],_,t,h=>by cases h
 | a :: l,⟨h1,h2⟩,t,h=>by
  rcases List.mem_cons.1 h with rfl | h
  ·
   exact h1
  ·
   exact h2.mem t h
theorem WF.jC {d:ay} (h:WF d) {i:Int} {z z':ah} (hz:nd d i=some z) (h1:z'.lives=z.lives) (h2:z'.kids=z.kids) (h3:z'.parent=z.parent) (h4:z'.tag=z.tag) (h5:z'.attrs.length ≤ 100000):WF (jC d i z'):=by
 have hget:=iY hz z'
 have low:∀ j y',nd (Pr.jC d i z') j=some y'→∃ y,nd d j=some y∧y'.lives=y.lives∧y'.kids=y.kids∧y'.parent=y.parent∧y'.tag=y.tag:=fun j y' hj=>by
  rw [hget] at hj
  by_cases e:j=i
  ·
   subst e; rw [if_pos rfl] at hj; cases hj; exact ⟨z,hz,h1,h2,h3,h4⟩
  ·
   rw [if_neg e] at hj; exact ⟨y',hj,rfl,rfl,rfl,rfl⟩
 have up:∀ j y,nd d j=some y→∃ y',nd (Pr.jC d i z') j=some y':=fun j y hj=>by
  have:=cB hj
  exact qK this.1 (by rw [lQ]; exact this.2)
 refine ⟨by rw [lQ]; exact h.len,?_,fun j hj=>by rw [lQ]; exact h.freedR j hj,h.freedN,fun j y hj=>?_,fun j y hj hl=>?_,fun j y k hj hl hk=>?_,fun k y hk hl hp=>?_,fun j hj=>?_,fun j y hj=>?_⟩
 ·
  obtain ⟨r,r1,r2,r3,r4⟩:=h.root
  obtain ⟨r',hr'⟩:=up 1 r r1
  obtain ⟨y,q1,q2,q3,q4,q5⟩:=low 1 r' hr'
  rw [r1] at q1; cases q1
  exact ⟨r',hr',by rw [q2,r2],by rw [q4,r3],by rw [q5]; exact r4⟩
 ·
  obtain ⟨y0,q1,q2,_⟩:=low j y hj
  rw [q2,EK]; exact h.dead j y0 q1
 ·
  obtain ⟨y0,q1,q2,q3,_⟩:=low j y hj
  rw [q3]; exact h.kidN j y0 q1 (by rw [← q2,hl])
 ·
  obtain ⟨y0,q1,q2,q3,_⟩:=low j y hj
  obtain ⟨x,x1,x2,x3⟩:=h.kid j y0 k q1 (by rw [← q2,hl]) (by rw [← q3]; exact hk)
  obtain ⟨x',hx'⟩:=up k x x1
  obtain ⟨x0,p1,p2,p3,p4,p5⟩:=low k x' hx'
  rw [x1] at p1; cases p1
  exact ⟨x',hx',by rw [p2,x2],by rw [p4,x3]⟩
 ·
  obtain ⟨y0,q1,q2,q3,q4,q5⟩:=low k y hk
  obtain ⟨x,x1,x2,x3,x4⟩:=h.par k y0 q1 (by rw [← q2,hl]) (by rw [← q4]; exact hp)
  rw [q4]
  obtain ⟨x',hx'⟩:=up _ x x1
  obtain ⟨x0,p1,p2,p3,p4,p5⟩:=low _ x' hx'
  rw [x1] at p1; cases p1
  exact ⟨x',hx',by rw [p2,x2],by rw [p3]; exact x3,by rw [p5]; exact x4⟩
 ·
  obtain ⟨y,y1,y2⟩:=fZ hj
  obtain ⟨y0,q1,q2,_⟩:=low j y y1
  obtain ⟨l,hl⟩:=h.path j (by rw [dQ q1,← q2,y2])
  refine ⟨l,hl.keep (fun k hk x hx=>?_)⟩
  obtain ⟨x',hx'⟩:=up k x hx
  obtain ⟨x0,p1,p2,p3,p4,p5⟩:=low k x' hx'
  rw [hx] at p1; cases p1
  exact ⟨x',hx',p2,p4⟩
 ·
  rw [hget] at hj
  by_cases e:j=i
  ·
   rw [if_pos e] at hj; cases hj; exact h5
  ·
   rw [if_neg e] at hj; exact h.attrs j y hj
theorem Ei {d:ay} (h:WF d) (n:Nat) {i:Int} {z:ah} (hz:nd d i=some z) (hl:z.lives=true) (ht:z.tag ≠ []) {at_:List Attr} (ha:at_.length ≤ 100000):jG n d i at_=some (true,jC d i { z with attrs:=at_ })∧WF (jC d i { z with attrs:=at_ }):=by
 refine ⟨?_,h.jC hz rfl rfl rfl rfl ha⟩
 unfold jG
 rw [xL h.dm,Option.bind_some,dQ hz,if_pos hl,je h.dm hz,Option.bind_some,if_neg (by simpa using ht)]
 unfold cu
 rw [lU (by rw [bnd]; simp; omega),Option.bind_some,o6 h.dm hz]
 rfl
theorem K6 {d:ay} (h:WF d) (n:Nat) {i:Int} {z:ah} (hz:nd d i=some z) (hl:z.lives=true) (ht:z.tag=[]) (s:Str):mY n d i s=some (true,jC d i { z with text:=s })∧WF (jC d i { z with text:=s }):=by
 refine ⟨?_,h.jC hz rfl rfl rfl rfl (h.attrs i z hz)⟩
 unfold mY
 rw [xL h.dm,Option.bind_some,dQ hz,if_pos hl,je h.dm hz,Option.bind_some,if_neg (by simp [ht]),o6 h.dm hz]
 rfl
theorem Js (l:List Int) (c:Int):oQ l (l.length:Int) c=l ++ [c]:=by
 unfold oQ wX
 rw [show (max 0 (min (l.length:Int) (l.length:Int))).toNat=l.length by omega]
 simp
theorem Bp {d:ay} (h:WF d) {d':ay} {z:ah} (k:New d d' (nextId d) z) {j:Int} (hj:kz d j=true):j ≠ nextId d:=fun q=>by rw [q,k.dead] at hj; cases hj
structure Put (d d':ay) (id:Int) (t:Tree) (F:List Int):Prop where
 wf:WF d'
 ta:TA d' id t F
 top:∃ z,nd d' id=some z∧z.lives=true∧z.parent=0
 ne1:id ≠ 1
 old:∀ j z,nd d j=some z→z.lives=true→nd d' j=some z
 new:∀ j ∈ F,kz d j=false
 cnt:cnt d'=Pr.cnt d + jL t
 len:d'.l.length ≤ d.l.length + jL t
 all:∀ j,kz d' j=true→kz d j=true∨j ∈ F
theorem Dc {n:Nat} (hn:6000 ≤ n) {t0:Tree} (ih:∀ (t:Tree) (d:ay),WF d→Rt t→jL t + 6000 < n→d.l.length + jL t ≤ 5000→∃ id d' F,iD n d t=some (id,d')∧Put d d' id t F) {z18:Int × ay} (hk:t0.Kids.length ≤ 5000) :
  ∀ (rest done:List Tree) (d:ay) (zi:ah) (F:List Int) (f:Nat),t0.Kids=done ++ rest→WF d→nd d z18.1=some zi→zi.lives=true→zi.tag ≠ []→zi.parent=0→jy d zi.kids done F→KG rest→ig rest + 6000 < n→d.l.length + ig rest ≤ 5000→rest.length < f →
  ∃ d' ks G,gP n (iD n) t0 z18 f d (done.length:Int)=some (z18.1,d')∧WF d'∧nd d' z18.1=some { zi with kids:=zi.kids ++ ks }∧jy d' (zi.kids ++ ks) (done ++ rest) (F ++ G)∧(∀ j z,j ≠ z18.1→nd d j=some z→z.lives=true→nd d' j=some z)∧(∀ j ∈ G,kz d j=false) ∧
   cnt d'=cnt d + ig rest∧d'.l.length ≤ d.l.length + ig rest∧(∀ j,kz d' j=true→kz d j=true∨j ∈ G)
 | [],done,d,zi,F,f + 1,h0,hW,hz,hl,ht,hp,hT,hR,hb,hlen,hf=>by
  rw [gP,if_neg (by rw [h0]; simp)]
  refine ⟨d,[],[],rfl,hW,by simp [hz],by simpa using hT,fun j z _ h _=>h,fun j hj=>(by cases hj),by simp [ig],by simp [ig],fun j hj=>.inl hj⟩
 | t :: rest,done,d,zi,F,f + 1,h0,hW,hz,hl,ht,hp,hT,hR,hb,hlen,hf=>by
  have hkl:t0.Kids.length=done.length + 1 + rest.length:=by rw [h0]; simp; omega
  simp only [ig] at hb hlen
  obtain ⟨hR1,hR2⟩:=hR
  rw [gP,if_pos (by rw [decide_eq_true_eq]; omega),iy h0,Option.bind_some]
  obtain ⟨kid,d1,Fk,e1,P⟩:=ih t d hW hR1 (by omega) (by omega)
  rw [e1,Option.bind_some]
  simp only
  have hz1:=P.old _ _ hz hl
  obtain ⟨zk,hzk,hkl1,hkp⟩:=P.top
  have hkF:kid ∈ Fk:=by obtain ⟨G,hG⟩:=P.ta.head; rw [hG]; exact List.mem_cons_self
  have hkd:kz d kid=false:=P.new kid hkF
  have hid:kz d z18.1=true:=by rw [dQ hz,hl]
  have hne:kid ≠ z18.1:=fun q=>by rw [q,hid] at hkd; cases hkd
  have hpath:Path d1 z18.1 [z18.1]:=.top hz1 hl hp
  have hok:lM d1 z18.1 kid=true:=by
   unfold lM
   have ht1:rZ d1 z18.1=zi.tag:=by unfold rZ; rw [hz1]
   rw [dQ hz1,dQ hzk,hl,hkl1,ht1,hpath.of]
   simp [ht,P.ne1,hne]
  obtain ⟨hW2,hg2⟩:=ET P.wf (done.length:Int) hok
  rw [wS P.wf hn,Option.bind_some,if_pos hok]
  simp only
  rw [mf (by omega) (by omega)]
  have hkk:∀ j z,nd d1 j=some z→z.lives=true→kid ∉ z.kids:=fun j z hj hjl hm=>by
   obtain ⟨x,x1,x2,x3⟩:=P.wf.kid j z kid hj hjl hm
   rw [hzk] at x1; cases x1
   have:=cB hj; omega
  have hg:∀ j z,nd d1 j=some z→z.lives=true→nd (iW (dB d1 kid) z18.1 kid (done.length:Int)) j=some { z with kids:=if j=z18.1 then oQ z.kids (done.length:Int) kid else z.kids,parent:=if j=kid then z18.1 else z.parent }:=fun j z hj hjl=>by
   rw [hg2 j z hj hjl,List.erase_of_not_mem (hkk j z hj hjl)]
  have hlens:=hT.lens
  have hz2:nd (iW (dB d1 kid) z18.1 kid (done.length:Int)) z18.1=some { zi with kids:=zi.kids ++ [kid] }:=by
   rw [hg _ _ hz1 hl,if_pos rfl,if_neg (Ne.symm hne),← hlens,Js]
  have hFold:∀ j ∈ F,j ≠ z18.1∧∃ z,nd d j=some z∧z.lives=true:=fun j hj=>by
   obtain ⟨z,z1,z2,_⟩:=hT.live j hj
   refine ⟨fun q=>?_,z,z1,z2⟩
   subst q
   obtain ⟨l1,c,q⟩:=hT.I1 hW (.top hz hl hp) (fun c hc=>hW.kid _ _ c hz hl hc) (cB hz).1 _ hj
   have:=congrArg List.length (q.uniq (.top hz hl hp))
   simp at this
  have hT2:jy (iW (dB d1 kid) z18.1 kid (done.length:Int)) zi.kids done F:=hT.keep (fun j hj z hz'=>by
   obtain ⟨q1,z0,q2,q3⟩:=hFold j hj
   rw [hz'] at q2; cases q2
   exact ⟨_,hg j z (P.old j z hz' q3) q3,rfl,rfl,rfl,rfl,rfl,by simp [q1]⟩)
  have hK2:TA (iW (dB d1 kid) z18.1 kid (done.length:Int)) kid t Fk:=P.ta.keep (fun j hj z hz'=>by
   obtain ⟨z0,q2,q3,_⟩:=P.ta.live j hj
   rw [hz'] at q2; cases q2
   have hj1:j ≠ z18.1:=fun q=>by have:=P.new j hj; rw [q,hid] at this; cases this
   exact ⟨_,hg j z hz' q3,rfl,rfl,rfl,rfl,rfl,by simp [hj1]⟩)
  have hl2:(iW (dB d1 kid) z18.1 kid (done.length:Int)).l.length=d1.l.length:=by simp
  have hlen1:=P.len
  obtain ⟨d',ks,G,r1,r2,r3,r4,r5,r6,r7,r8,r9⟩:=Dc hn ih hk rest (done ++ [t]) _ { zi with kids:=zi.kids ++ [kid] } (F ++ Fk) f (by rw [h0]; simp) hW2 hz2 hl ht hp (hT2.app (.one hK2)) hR2 (by omega) (by omega) (by simpa using hf)
  have hcnt2:cnt (iW (dB d1 kid) z18.1 kid (done.length:Int))=cnt d1:=by unfold cnt; simp
  refine ⟨d',[kid] ++ ks,Fk ++ G,by simpa using r1,r2,by simpa using r3,by simpa using r4,fun j z hj hz' hjl=>?_,fun j hj=>?_,?_,by rw [hl2] at r8; simp only [ig]; omega,fun j hj=>?_⟩
  ·
   have h1:=P.old j z hz' hjl
   have h2:=hg j z h1 hjl
   have hjk:j ≠ kid:=fun q=>by rw [q] at hz'; rw [dQ hz',hjl] at hkd; cases hkd
   rw [if_neg hj,if_neg hjk] at h2
   exact r5 j _ hj h2 hjl
  ·
   rcases List.mem_append.1 hj with hj | hj
   ·
    exact P.new j hj
   ·
    have h2:=r6 j hj
    cases hq:kz d j with
    | false=>rfl
    | true =>
     obtain ⟨z,z1,z2⟩:=fZ hq
     have:=hg j z (P.old j z z1 z2) z2
     rw [dQ this] at h2
     rw [z2] at h2; cases h2
  ·
   have:=P.cnt
   simp only [ig]
   omega
  ·
   rcases r9 j hj with h | h
   ·
    obtain ⟨z,z1,z2⟩:=fZ h
    have h1:kz d1 j=true:=by
     cases hq:nd d1 j with
     | none =>
      have hr:=cB z1
      rw [hl2] at hr
      obtain ⟨y,hy⟩:=qK hr.1 hr.2
      rw [hq] at hy; cases hy
     | some y =>
      cases hyl:y.lives with
      | true=>rw [dQ hq,hyl]
      | false =>
       exfalso
       have hdead:=(P.wf.dead j y hq).1 hyl
       have:=(hW2.dead j z z1).2 (by simpa using hdead)
       rw [z2] at this; cases this
    rcases P.all j h1 with h | h
    ·
     exact .inl h
    ·
     exact .inr (List.mem_append_left _ h)
   ·
    exact .inr (List.mem_append_right _ h)
theorem EI:∀ (n:Nat) (t:Tree) (d:ay),WF d→Rt t→jL t + 6000 < n→d.l.length + jL t ≤ 5000→∃ id d' F,iD n d t=some (id,d')∧Put d d' id t F
 | 0,t,d,_,_,h,_=>by omega
 | n + 1,.mk tag key text at_ ks,d,hW,hR,hn,hlen=>by
  have hpos:=DN (.mk tag key text at_ ks)
  have hfl:d.freed.length ≤ d.l.length:=iQ _ _ hW.freedN (fun x hx=>⟨by have:=hW.freedR x hx; omega,(hW.freedR x hx).2⟩)
  have fl:d.freed=[]∨0 < d.freed.length:=by
   cases d.freed with
   | nil=>exact .inl rfl
   | cons a l=>exact .inr (by simp)
  rw [iD]
  by_cases ht:tag=[]
  ·
   obtain ⟨rfl,rfl,rfl⟩:=hR.1 ht
   subst ht
   obtain ⟨d1,e1,e2,e3,e4,e5⟩:=Kv hW (by omega) n text
   rw [if_pos (by simp [Tree.Tag])]
   simp only [Tree.Text]
   rw [e1,Option.bind_some]
   have hg:nd d1 (nextId d)=some (ah.mk true [] [] text [] [] 0):=by rw [e3.get,if_pos rfl]
   refine ⟨nextId d,d1,[nextId d],rfl,e2,.mk hg rfl .nil,⟨_,hg,rfl,rfl⟩,e3.notroot,fun j z hz hl=>?_,fun j hj=>?_,?_,?_,fun j hj=>?_⟩
   ·
    rw [e3.get,if_neg (Bp hW e3 (by rw [dQ hz,hl]))]; exact hz
   ·
    rw [List.mem_singleton.1 hj]; exact e3.dead
   ·
    unfold cnt
    rw [e4,e5]
    simp only [jL,ig]
    rcases fl with h | h
    ·
     rw [if_pos h,h]; simp
    ·
     rw [if_neg (fun q=>by rw [q] at h; simp at h)]; simp; omega
   ·
    have:=e3.len; omega
   ·
    by_cases hj2:j=nextId d
    ·
     exact .inr (by rw [hj2]; simp)
    ·
     left; unfold kz at hj ⊢; rw [e3.get,if_neg hj2] at hj; exact hj
  ·
   obtain ⟨rfl,ha,hR2⟩:=hR.2 ht
   simp only [jL] at hn hlen
   obtain ⟨d1,e1,e2,e3,e4,e5⟩:=Fs hW (by omega) n (tag:=tag) (key:=key) ht
   rw [if_neg (by simpa [Tree.Tag] using ht)]
   simp only [Tree.Tag,Tree.Key,Tree.aL]
   rw [e1,Option.bind_some]
   simp only
   have hg:nd d1 (nextId d)=some (ah.mk true tag key [] [] [] 0):=by rw [e3.get,if_pos rfl]
   obtain ⟨a1,a2⟩:=Ei e2 n hg rfl ht ha
   rw [a1,Option.bind_some]
   simp only
   have hg2:=iY hg (ah.mk true tag key [] at_ [] 0)
   have hl1:d1.l.length ≤ d.l.length + 1:=e3.len
   have hkl:=qm ks
   obtain ⟨d',ks',G,r1,r2,r3,r4,r5,r6,r7,r8,r9⟩:=Dc (n:=n) (by omega) (t0:=.mk tag key [] at_ ks) (EI n) (z18:=(nextId d,d1)) (by simp only [Tree.Kids]; omega) ks [] _ (ah.mk true tag key [] at_ [] 0) [] n rfl a2 (by rw [hg2,if_pos rfl]) rfl ht rfl .nil hR2 (by omega) (by rw [lQ]; omega) (by omega)
   refine ⟨nextId d,d',nextId d :: G,r1,r2,.mk (z:=ah.mk true tag key [] at_ ks' 0) (by simpa using r3) rfl (by simpa using r4),⟨_,r3,rfl,rfl⟩,e3.notroot,fun j z hz hl=>?_,fun j hj=>?_,?_,?_,fun j hj=>?_⟩
   ·
    have hne:=Bp hW e3 (by rw [dQ hz,hl]:kz d j=true)
    exact r5 j z hne (by rw [hg2,if_neg hne,e3.get,if_neg hne]; exact hz) hl
   ·
    rcases List.mem_cons.1 hj with rfl | hj
    ·
     exact e3.dead
    ·
     have h6:=r6 j hj
     have hne:j ≠ nextId d:=fun q=>by
      rw [q] at h6
      unfold kz at h6
      rw [hg2,if_pos rfl] at h6
      exact Bool.noConfusion h6
     unfold kz at h6 ⊢
     rw [hg2,if_neg hne,e3.get,if_neg hne] at h6
     exact h6
   ·
    have e:cnt (jC d1 (nextId d) (ah.mk true tag key [] at_ [] 0))=cnt d1:=by unfold cnt; simp
    rw [r7]
    simp only [jL]
    have e':cnt (jC d1 (nextId d) { (ah.mk true tag key [] [] [] 0) with attrs:=at_ })=cnt d1:=e
    rw [e']
    unfold cnt
    rw [e4,e5]
    rcases fl with h | h
    ·
     rw [if_pos h,h]; simp; omega
    ·
     rw [if_neg (fun q=>by rw [q] at h; simp at h)]; simp; omega
   ·
    rw [lQ] at r8; simp only [jL]; omega
   ·
    rcases r9 j hj with h | h
    ·
     by_cases hj2:j=nextId d
     ·
      exact .inr (by rw [hj2]; exact List.mem_cons_self)
     ·
      left; unfold kz at h ⊢; rw [hg2,if_neg hj2,e3.get,if_neg hj2] at h; exact h
    ·
     exact .inr (List.mem_cons_of_mem _ h)
end Pr
end Go.Ev

namespace Go.Ev
namespace Pr
set_option linter.unusedVariables false
set_option linter.unusedSimpArgs false
set_option linter.unusedSectionVars false
section
variable {κ ν:Type} [BEq κ] [LawfulBEq κ]
theorem rV (k:κ):∀ (m:List (κ × ν)) (i:Nat),(gK k m i).map (·.2)=(gK k m 0).map (·.2)
 | [],i=>rfl
 | (a,b) :: l,i=>by
  simp only [gK]
  split
  ·
   rfl
  ·
   rw [rV k l (i + 1),rV k l 1]
theorem qh (a:κ) (b:ν) (l:List (κ × ν)) (k:κ):Cq ((a,b) :: l) k=if (k == a)=true then some b else Cq l k:=by
 unfold Cq
 simp only [gK]
 split
 ·
  rfl
 ·
  exact rV k l 1
theorem Bb (k:κ):∀ (m:List (κ × ν)) (i:Nat),gK k m (i + 1)=(gK k m i).map fun r=>(r.1 + 1,r.2)
 | [],i=>rfl
 | (c,e) :: m,i=>by
  simp only [gK]
  cases (k == c) with
  | true=>rfl
  | false=>exact Bb k m (i + 1)
theorem GY (a:κ) (b:ν) (l:List (κ × ν)) (k:κ) (v:ν):jZ ((a,b) :: l) k v=if (k == a)=true then (k,v) :: l else (a,b) :: jZ l k v:=by
 unfold jZ
 simp only [gK,Bb]
 cases h:(k == a) with
 | true=>have:=eq_of_beq h; subst this; simp
 | false=>cases gK k l 0 <;> simp
theorem BC:∀ (m:List (κ × ν)) (k k':κ) (v:ν),Cq (jZ m k v) k'=if (k' == k)=true then some v else Cq m k'
 | [],k,k',v=>by
  have:jZ ([]:List (κ × ν)) k v=[(k,v)]:=rfl
  rw [this,qh]
 | (a,b) :: l,k,k',v=>by
  rw [GY]
  by_cases h:(k == a)=true
  ·
   rw [if_pos h,qh,qh]
   have:=eq_of_beq h
   subst this
   by_cases h2:(k' == k)=true
   ·
    rw [if_pos h2,if_pos h2]
   ·
    rw [if_neg h2,if_neg h2,if_neg h2]
  ·
   rw [if_neg h,qh,BC l k k' v,qh]
   by_cases h2:(k' == a)=true
   ·
    rw [if_pos h2,if_pos h2]
    have:=eq_of_beq h2
    subst this
    have h3:(k' == k)=false:=by
     cases hq:k' == k with
     | false=>rfl
     | true=>have:=eq_of_beq hq; subst this; simp at h
    rw [h3]; rfl
   ·
    rw [if_neg h2,if_neg h2]
theorem uy (m:List (κ × ν)) (k k':κ) (v z:ν):iT (jZ m k v) k' z=if (k' == k)=true then v else iT m k' z:=by
 unfold iT
 rw [BC]
 split <;> rfl
end
def kd (t:Tree):aY:=aY.mk t.Tag t.Key
def dY (k:aY):List Tree→Nat→List Int
 | [],_=>[]
 | t :: l,i=>if kd t=k then (i:Int) :: dY k l (i + 1) else dY k l (i + 1)
theorem xw (k:aY):∀ (l m:List Tree) (i:Nat),dY k (l ++ m) i=dY k l i ++ dY k m (i + l.length)
 | [],m,i=>by simp [dY]
 | t :: l,m,i=>by
  simp only [List.cons_append,dY,xw k l m (i + 1),List.length_cons]
  rw [show i + 1 + l.length=i + (l.length + 1) by omega]
  split <;> simp
theorem kW (k:aY):∀ (l:List Tree) (i:Nat) (x:Int),x ∈ dY k l i↔∃ j t,l[j]? = some t∧kd t=k∧x=((i + j:Nat):Int)
 | [],i,x=>by simp [dY]
 | t :: l,i,x=>by
  simp only [dY]
  have ih:=kW k l (i + 1) x
  have hstep:(∃ j t',l[j]? = some t'∧kd t'=k∧x=((i + 1 + j:Nat):Int))↔∃ j t',(t :: l)[j + 1]? = some t'∧kd t'=k∧x=((i + (j + 1):Nat):Int):=by
   constructor
   ·
    rintro ⟨j,t',h1,h2,h3⟩; exact ⟨j,t',by simpa using h1,h2,by rw [h3]; omega⟩
   ·
    rintro ⟨j,t',h1,h2,h3⟩; exact ⟨j,t',by simpa using h1,h2,by rw [h3]; omega⟩
  split
  ·
   rename_i hk
   rw [List.mem_cons,ih,hstep]
   constructor
   ·
    rintro (rfl | ⟨j,t',h⟩)
    ·
     exact ⟨0,t,rfl,hk,by simp⟩
    ·
     exact ⟨j + 1,t',h⟩
   ·
    rintro ⟨j,t',h1,h2,h3⟩
    cases j with
    | zero=>left; simpa using h3
    | succ j=>exact .inr ⟨j,t',h1,h2,h3⟩
  ·
   rename_i hk
   rw [ih,hstep]
   constructor
   ·
    rintro ⟨j,t',h⟩; exact ⟨j + 1,t',h⟩
   ·
    rintro ⟨j,t',h1,h2,h3⟩
    cases j with
    | zero=>simp at h1; subst h1; exact absurd h2 hk
    | succ j=>exact ⟨j,t',h1,h2,h3⟩
theorem pV (k:aY):∀ (l:List Tree) (i:Nat),(dY k l i).Nodup
 | [],i=>by simp [dY]
 | t :: l,i=>by
  simp only [dY]
  split
  ·
   refine List.nodup_cons.2 ⟨fun h=>?_,pV k l (i + 1)⟩
   obtain ⟨j,_,_,_,h3⟩:=(kW k l (i + 1) _).1 h
   omega
  ·
   exact pV k l (i + 1)
def kZ:List Tree→(aY→List Int)→List Int
 | [],_=>[]
 | t :: now,av=>match av (kd t) with
  | []=>-1 :: kZ now av
  | k :: r=>k :: kZ now (fun q=>if q=kd t then r else av q)
def l6 (old now:List Tree):List Int:=kZ now (fun k=>dY k old 0)
theorem xE (k:aY):∀ (l:List Tree) (i:Nat),(dY k l i).length ≤ l.length
 | [],i=>by simp [dY]
 | t :: l,i=>by
  have:=xE k l (i + 1)
  simp only [dY]
  split <;> simp <;> omega
theorem D9 {n:Nat} (now:List Tree) (hl:now.length ≤ 100000):∀ (rest done:List Tree) (m:List (aY × List Int)) (av:aY→List Int) (out:List Int) (f:Nat),now=done ++ rest→out.length=done.length→(∀ k,iT m k []=av k)→rest.length < f→dW n now f m out (done.length:Int)=some (out ++ kZ rest av)
 | [],done,m,av,out,f + 1,h,ho,hm,hf=>by
  rw [dW,if_neg (by rw [h]; simp)]
  simp [kZ]
 | t :: rest,done,m,av,out,f + 1,h,ho,hm,hf=>by
  have hnl:now.length=done.length + 1 + rest.length:=by rw [h]; simp; omega
  have hk:oM n t=some (kd t):=rfl
  rw [dW,if_pos (by rw [decide_eq_true_eq]; omega),iy h,Option.bind_some,hk,Option.bind_some,hm]
  have ih:=fun m' av' out' h1 h2=>D9 (n:=n) now hl rest (done ++ [t]) m' av' out' f (by rw [h]; simp) h1 h2 (by simpa using hf)
  cases ha:av (kd t) with
  | nil =>
   rw [if_pos (by simp),lU (by rw [bnd]; simp; omega),Option.bind_some]
   unfold iJ
   rw [mf (by omega) (by omega)]
   have:=ih m av (out ++ [-1]) (by simp [ho]) hm
   simp only [kZ,ha]
   simpa using this
  | cons k r =>
   have e0:idx (k :: r) (0:Int)=some k:=rfl
   have ec:cut (k :: r) 1 ((k :: r).length:Int)=some r:=by
    unfold cut; rw [if_pos ⟨by omega,by simp; omega,by omega⟩]; simp
   rw [if_neg (by simp; omega),e0,Option.bind_some,lU (by rw [bnd]; simp; omega),Option.bind_some,Option.bind_some,ec,Option.bind_some]
   unfold iJ
   rw [mf (by omega) (by omega)]
   have:=ih (jZ m (kd t) r) (fun q=>if q=kd t then r else av q) (out ++ [k]) (by simp [ho]) (fun q=>by
    rw [uy,hm]
    by_cases e:q=kd t
    ·
     rw [if_pos (by rw [e]; simp),if_pos e]
    ·
     rw [if_neg (by simpa using e),if_neg e])
   simp only [kZ,ha]
   simpa using this
theorem D8 {n:Nat} (old now:List Tree) (ho:old.length ≤ 100000) (hl:now.length ≤ 100000) (hn:now.length < n):∀ (rest done:List Tree) (m:List (aY × List Int)) (f:Nat),old=done ++ rest→(∀ k,iT m k []=dY k done 0)→rest.length < f→fO n old now f m (done.length:Int)=some (l6 old now)
 | [],done,m,f + 1,h,hm,hf=>by
  rw [fO,if_neg (by rw [h]; simp)]
  have:=D9 (n:=n) now hl now [] m (fun k=>dY k done 0) [] n rfl rfl hm hn
  rw [List.append_nil] at h
  subst h
  simpa [l6] using this
 | t :: rest,done,m,f + 1,h,hm,hf=>by
  have hnl:old.length=done.length + 1 + rest.length:=by rw [h]; simp; omega
  have hk:oM n t=some (kd t):=rfl
  have hpl:=xE (kd t) done 0
  rw [fO,if_pos (by rw [decide_eq_true_eq]; omega),iy h,Option.bind_some,hk,Option.bind_some,hm,lU (by rw [bnd]; simp; omega),Option.bind_some,mf (by omega) (by omega)]
  have:=D8 old now ho hl hn rest (done ++ [t]) (jZ m (kd t) (dY (kd t) done 0 ++ [(done.length:Int)])) f (by rw [h]; simp) (fun q=>by
   rw [uy,hm,xw]
   simp only [dY,Nat.zero_add]
   by_cases e:q=kd t
   ·
    rw [if_pos (by rw [e]; simp),e,if_pos rfl]
   ·
    rw [if_neg (by simpa using e),if_neg (Ne.symm e),List.append_nil]) (by simpa using hf)
  simpa using this
theorem Ga {n:Nat} {old now:List Tree} (ho:old.length ≤ 100000) (hl:now.length ≤ 100000) (hn:now.length < n) (hn2:old.length < n):mq n old now=some (l6 old now):=by
 unfold mq
 exact D8 old now ho hl hn old [] [] n rfl (fun k=>rfl) hn2
theorem wL:∀ (now:List Tree) (av:aY→List Int),(kZ now av).length=now.length
 | [],av=>rfl
 | t :: now,av=>by
  simp only [kZ]
  split <;> simp [wL]
theorem Aq:∀ (now:List Tree) (av:aY→List Int),(∀ k x,x ∈ av k→0 ≤ x)→(∀ k,(av k).Nodup)→(∀ k k' x,x ∈ av k→x ∈ av k'→k=k') →
  (∀ (i:Nat) (x:Int) (t:Tree),(kZ now av)[i]? = some x→now[i]? = some t→x = -1∨0 ≤ x∧x ∈ av (kd t))∧(∀ (i j:Nat) (x:Int),(kZ now av)[i]? = some x→(kZ now av)[j]? = some x→0 ≤ x→i=j)
 | [],av,h0,hn,hd=>⟨fun i x t h=>by simp [kZ] at h,fun i j x h=>by simp [kZ] at h⟩
 | t :: now,av,h0,hn,hd=>by
  simp only [kZ]
  split
  ·
   rename_i ha
   obtain ⟨q1,q2⟩:=Aq now av h0 hn hd
   refine ⟨fun i x t' h h'=>?_,fun i j x h h' hx=>?_⟩
   ·
    cases i with
    | zero=>left; simpa using h.symm
    | succ i=>exact q1 i x t' (by simpa using h) (by simpa using h')
   ·
    cases i with
    | zero=>simp at h; omega
    | succ i=>cases j with
     | zero=>simp at h'; omega
     | succ j=>have:=q2 i j x (by simpa using h) (by simpa using h') hx; omega
  ·
   rename_i k r ha
   have hnk:=hn (kd t)
   rw [ha] at hnk
   have hsub:∀ q x,x ∈ (fun q=>if q=kd t then r else av q) q→x ∈ av q:=fun q x hx=>by
    by_cases e:q=kd t
    ·
     have hx:x ∈ r:=by simpa [e] using hx
     rw [e,ha]; exact List.mem_cons_of_mem _ hx
    ·
     simpa [e] using hx
   have hkno:∀ q,k ∉ (fun q=>if q=kd t then r else av q) q:=fun q hx=>by
    by_cases e:q=kd t
    ·
     have hx:k ∈ r:=by simpa [e] using hx
     exact (List.nodup_cons.1 hnk).1 hx
    ·
     have hx:k ∈ av q:=by simpa [e] using hx
     exact e (hd q (kd t) k hx (by rw [ha]; exact List.mem_cons_self))
   obtain ⟨q1,q2⟩:=Aq now (fun q=>if q=kd t then r else av q) (fun q x hx=>h0 q x (hsub q x hx)) (fun q=>by
    split
    ·
     exact (List.nodup_cons.1 hnk).2
    ·
     exact hn q) (fun q q' x hx hx'=>hd q q' x (hsub q x hx) (hsub q' x hx'))
   have nok:∀ i,(kZ now (fun q=>if q=kd t then r else av q))[i]? ≠ some k:=fun i hi=>by
    have hlt:i < now.length:=by have:=(List.getElem?_eq_some_iff.1 hi).1; rwa [wL] at this
    rcases q1 i k _ hi (List.getElem?_eq_getElem hlt) with e | ⟨_,e⟩
    ·
     have:=h0 (kd t) k (by rw [ha]; exact List.mem_cons_self); omega
    ·
     exact hkno _ e
   refine ⟨fun i x t' h h'=>?_,fun i j x h h' hx=>?_⟩
   ·
    cases i with
    | zero =>
     simp at h h'
     subst h; subst h'
     have hm:k ∈ av (kd t):=by rw [ha]; exact List.mem_cons_self
     exact .inr ⟨h0 _ _ hm,hm⟩
    | succ i =>
     rcases q1 i x t' (by simpa using h) (by simpa using h') with e | ⟨e1,e2⟩
     ·
      exact .inl e
     ·
      exact .inr ⟨e1,hsub _ _ e2⟩
   ·
    cases i with
    | zero=>cases j with
     | zero=>rfl
     | succ j=>simp at h; subst h; exact absurd (by simpa using h') (nok j)
    | succ i=>cases j with
     | zero=>simp at h'; subst h'; exact absurd (by simpa using h) (nok i)
     | succ j=>have:=q2 i j x (by simpa using h) (by simpa using h') hx; omega
theorem vG (old now:List Tree):(l6 old now).length=now.length∧(∀ (i:Nat) (x:Int) (t:Tree),(l6 old now)[i]? = some x→now[i]? = some t→x = -1∨0 ≤ x∧∃ u,old[x.toNat]? = some u∧u.Tag=t.Tag∧u.Key=t.Key)∧(∀ (i j:Nat) (x:Int),(l6 old now)[i]? = some x→(l6 old now)[j]? = some x→0 ≤ x→i=j):=by
 obtain ⟨q1,q2⟩:=Aq now (fun k=>dY k old 0) (fun k x hx=>by obtain ⟨j,_,_,_,h⟩:=(kW k old 0 x).1 hx; omega) (fun k=>pV k old 0) (fun k k' x hx hx'=>by
  obtain ⟨j,u,h1,h2,h3⟩:=(kW k old 0 x).1 hx
  obtain ⟨j',u',h1',h2',h3'⟩:=(kW k' old 0 x).1 hx'
  have:j=j':=by omega
  subst this
  rw [h1] at h1'; cases h1'
  rw [← h2,← h2'])
 refine ⟨wL _ _,fun i x t h h'=>?_,q2⟩
 rcases q1 i x t h h' with e | ⟨e1,e2⟩
 ·
  exact .inl e
 ·
  obtain ⟨j,u,h1,h2,h3⟩:=(kW _ old 0 x).1 e2
  refine .inr ⟨e1,u,?_,?_⟩
  ·
   rw [h3]; simpa using h1
  ·
   unfold kd at h2
   simp only [aY.mk.injEq] at h2
   exact h2
end Pr
end Go.Ev

namespace Go.Ev
namespace Pr
set_option linter.unusedVariables false
set_option linter.unusedSimpArgs false
set_option linter.unusedSectionVars false
theorem y7 {n1:Nat} (m:List (Int × Int)) (a2:List Int) (hm:∀ k,iT m k 0=(a2.count k:Int)) (hn1:n1 ≤ 5000):∀ (r i:Nat) (out:List Int) (f:Nat),i + r=n1→out.length ≤ i→r < f →
  ∃ g,dX (n1:Int) m f out (i:Int)=some (out ++ g)∧g.Nodup∧(∀ x,x ∈ g↔(i:Int) ≤ x∧x < n1∧x ∉ a2)∧g.length ≤ r
 | 0,i,out,f + 1,h,ho,hf=>by
  rw [dX,if_neg (by simp [vk]; omega)]
  exact ⟨[],by simp,by simp,fun x=>by simp; omega,by simp⟩
 | r + 1,i,out,f + 1,h,ho,hf=>by
  rw [dX,if_pos (by simp [vk]; omega),hm]
  have hw:IntKind.wrap .i64 ((i:Int) + 1)=((i + 1:Nat):Int):=by rw [mf (by omega) (by omega)]; omega
  by_cases hc:(i:Int) ∈ a2
  ·
   have:a2.count (i:Int) ≠ 0:=by have:=List.count_pos_iff.2 hc; omega
   rw [if_neg (by simpa using this)]
   unfold iK
   rw [hw]
   obtain ⟨g,g1,g2,g3,g4⟩:=y7 m a2 hm hn1 r (i + 1) out f (by omega) (by omega) (by omega)
   refine ⟨g,g1,g2,fun x=>?_,by omega⟩
   rw [g3]
   constructor
   ·
    rintro ⟨h1,h2,h3⟩; exact ⟨by omega,h2,h3⟩
   ·
    rintro ⟨h1,h2,h3⟩
    have:x ≠ (i:Int):=fun q=>h3 (q ▸ hc)
    exact ⟨by omega,h2,h3⟩
  ·
   have:a2.count (i:Int)=0:=List.count_eq_zero.2 hc
   rw [if_pos (by simpa using this),lU (by rw [bnd]; simp; omega),Option.bind_some]
   unfold iK
   rw [hw]
   obtain ⟨g,g1,g2,g3,g4⟩:=y7 m a2 hm hn1 r (i + 1) (out ++ [(i:Int)]) f (by omega) (by simp; omega) (by omega)
   refine ⟨(i:Int) :: g,by rw [g1]; simp,List.nodup_cons.2 ⟨fun q=>?_,g2⟩,fun x=>?_,by simp; omega⟩
   ·
    have:=(g3 _).1 q; omega
   ·
    rw [List.mem_cons,g3]
    constructor
    ·
     rintro (rfl | ⟨h1,h2,h3⟩)
     ·
      exact ⟨by omega,by omega,hc⟩
     ·
      exact ⟨by omega,h2,h3⟩
    ·
     rintro ⟨h1,h2,h3⟩
     by_cases q:x=(i:Int)
     ·
      exact .inl q
     ·
      exact .inr ⟨by omega,h2,h3⟩
theorem Db {n n1:Nat} (a2:List Int) (hn:n1 < n) (hn1:n1 ≤ 5000) (ha:a2.length ≤ 5000):∀ (rest done:List Int) (m:List (Int × Int)) (f:Nat),a2=done ++ rest→(∀ k,iT m k 0=(done.count k:Int))→rest.length < f →
  ∃ g,fU n (n1:Int) a2 f m (done.length:Int)=some g∧g.Nodup∧(∀ x,x ∈ g↔0 ≤ x∧x < n1∧x ∉ a2)∧g.length ≤ n1
 | [],done,m,f + 1,h,hm,hf=>by
  rw [fU,if_neg (by rw [h]; simp)]
  rw [List.append_nil] at h
  subst h
  obtain ⟨g,g1,g2,g3,g4⟩:=y7 m a2 hm hn1 n1 0 [] n (by omega) (by simp) hn
  exact ⟨g,by simpa using g1,g2,by simpa using g3,g4⟩
 | x :: rest,done,m,f + 1,h,hm,hf=>by
  have hl:a2.length=done.length + 1 + rest.length:=by rw [h]; simp; omega
  have hcl:=List.count_le_length (a:=x) (l:=done)
  rw [fU,if_pos (by rw [decide_eq_true_eq]; omega),iy h,Option.bind_some,hm,mf (by omega) (by omega),mf (by omega) (by omega)]
  have:=Db a2 hn hn1 ha rest (done ++ [x]) (jZ m x ((done.count x:Int) + 1)) f (by rw [h]; simp) (fun k=>by
   rw [uy,hm,List.count_append,List.count_singleton]
   by_cases e:k=x
   ·
    subst e; simp
   ·
    have e':¬ x=k:=fun q=>e q.symm
    rw [if_neg (by simpa using e)]; simp [e']) (by simpa using hf)
  simpa using this
theorem JS {n n1:Nat} (a2:List Int) (hn:n1 < n) (hn1:n1 ≤ 5000) (ha:a2.length ≤ 5000) (hn2:a2.length < n):∃ g,oq n (n1:Int) a2=some g∧g.Nodup∧(∀ x,x ∈ g↔0 ≤ x∧x < n1∧x ∉ a2)∧g.length ≤ n1:=by
 unfold oq
 exact Db a2 hn hn1 ha a2 [] [] n rfl (fun k=>rfl) hn2
theorem Ef {n:Nat} {d:ay} (hW:WF d) {all:List Int} (ha:all.length ≤ 5000):∀ (rest done:List Int) (dts ts:List Tree) (F:List Int) (f:Nat),all=done ++ rest→dts.length=done.length→jy d rest ts F→ig ts < n→rest.length < f →
  fM n d all f dts (done.length:Int)=some (dts ++ ts)
 | [],done,dts,_,_,f + 1,h,hd,.nil,hn,hf=>by
  rw [fM,if_neg (by rw [h]; simp)]; simp
 | c :: rest,done,dts,_,_,f + 1,h,hd,.cons (t:=t) (ts:=ts) (G:=G) hk k,hn,hf=>by
  have hl:all.length=done.length + 1 + rest.length:=by rw [h]; simp; omega
  simp only [ig] at hn
  rw [fM,if_pos (by rw [decide_eq_true_eq]; omega),iy h,Option.bind_some,yA hW hk (show jL t < n by omega),Option.bind_some,lU (by rw [bnd]; simp; omega),Option.bind_some,mf (by omega) (by omega)]
  have:=Ef (n:=n) hW ha rest (done ++ [c]) (dts ++ [t]) ts G f (by rw [h]; simp) (by simp [hd]) k (by omega) (by simpa using hf)
  simpa using this
theorem IP {n:Nat} {d:ay} (hW:WF d) {ks:List Int} {ts:List Tree} {F:List Int} (ha:ks.length ≤ 5000) (h:jy d ks ts F) (hn:ig ts < n) (hn2:ks.length < n):oG n d ks=some ts:=by
 unfold oG
 exact Ef hW ha ks [] [] ts F n rfl rfl h hn hn2
theorem A9 {d:ay} (hW:WF d) {id c:Int} {y:ah} (hy:nd d id=some y) (hl:y.lives=true) (hc:c ∈ y.kids):∃ x l,nd d c=some x∧x.lives=true∧x.parent=id∧c ≠ 1∧Path d id l∧Path d c (c :: l)∧c ∉ l∧c ≠ id:=by
 obtain ⟨x,x1,x2,x3⟩:=hW.kid id y c hy hl hc
 obtain ⟨l,hp⟩:=hW.path id (by rw [dQ hy,hl])
 have hr:=cB hy
 have hpc:Path d c (c :: l):=.up x1 x2 (by omega) (by rw [x3]; exact hp)
 have hcl:c ∉ l:=(List.nodup_cons.1 hpc.nodup).1
 refine ⟨x,l,x1,x2,x3,?_,hp,hpc,hcl,?_⟩
 ·
  rintro rfl; obtain ⟨r,r1,_,r3,_⟩:=hW.root; rw [x1] at r1; cases r1; omega
 ·
  rintro rfl; obtain ⟨t,rfl⟩:=hp.head; exact hcl List.mem_cons_self
theorem jy.Cn {d:ay} (hW:WF d) {id:Int} {y:ah} (hy:nd d id=some y) (hl:y.lives=true) {A:List Int} {ts:List Tree} {F:List Int} (h:jy d A ts F) (hA:∀ c ∈ A,c ∈ y.kids):∀ j ∈ F,j ≠ id:=by
 rintro j hj rfl
 obtain ⟨l,hp⟩:=hW.path j (by rw [dQ hy,hl])
 obtain ⟨l1,c,q⟩:=h.I1 hW hp (fun c hc=>hW.kid _ _ c hy hl (hA c hc)) (cB hy).1 _ hj
 have:=congrArg List.length (q.uniq hp)
 simp at this
 omega
theorem jy.N9 {d:ay} (hW:WF d) {id:Int} {y:ah} (hy:nd d id=some y) (hl:y.lives=true) {A B:List Int} {ts us:List Tree} {F G:List Int} (h:jy d A ts F) (h2:jy d B us G) (hA:∀ c ∈ A,c ∈ y.kids) (hB:∀ c ∈ B,c ∈ y.kids) (hAB:∀ c ∈ A,c ∉ B):∀ j ∈ F,j ∉ G:=by
 intro j hj hg
 obtain ⟨l,hp⟩:=hW.path id (by rw [dQ hy,hl])
 obtain ⟨l1,c,hc,q⟩:=h.Ep hW hp (fun c hc=>hW.kid _ _ c hy hl (hA c hc)) (cB hy).1 _ hj
 obtain ⟨l2,c2,hc2,q2⟩:=h2.Ep hW hp (fun c hc=>hW.kid _ _ c hy hl (hB c hc)) (cB hy).1 _ hg
 have e:=q.uniq q2
 rw [show l1 ++ c :: l=(l1 ++ [c]) ++ l by simp,show l2 ++ c2 :: l=(l2 ++ [c2]) ++ l by simp] at e
 have:=List.append_cancel_right e
 have e2:=congrArg List.getLast? this
 simp at e2
 exact hAB c hc (e2 ▸ hc2)
theorem jy.split {d:ay}:∀ {r1:List Int} {c:Int} {r2:List Int} {ts:List Tree} {F:List Int},jy d (r1 ++ c :: r2) ts F→∃ s1 tc s2 F1 Fc F2,ts=s1 ++ tc :: s2∧F=F1 ++ (Fc ++ F2)∧jy d r1 s1 F1∧TA d c tc Fc∧jy d r2 s2 F2
 | [],c,r2,_,_,.cons h k=>⟨[],_,_,[],_,_,rfl,rfl,.nil,h,k⟩
 | a :: r1,c,r2,_,_,.cons (t:=t) (F:=F0) h k=>by
  obtain ⟨s1,tc,s2,F1,Fc,F2,e1,e2,k1,k2,k3⟩:=k.split
  exact ⟨t :: s1,tc,s2,F0 ++ F1,Fc,F2,by rw [e1]; rfl,by rw [e2]; simp,.cons h k1,k2,k3⟩
theorem jy.FO {d:ay} {c:Int} {t:Tree} {F:List Int} (h:jy d [c] [t] F):TA d c t F:=by
 cases h with
 | cons h k=>cases k; simpa using h
structure St (d:ay) (id:Int) (z:ah) (P rest:List Int) (pts rts:List Tree) (FP FR:List Int):Prop where
 wf:WF d
 hz:nd d id=some { z with kids:=P ++ rest }
 hl:z.lives=true
 ht:z.tag ≠ []
 tp:jy d P pts FP
 tr:jy d rest rts FR
theorem St.nodup {d:ay} {id:Int} {z:ah} {P rest:List Int} {pts rts:List Tree} {FP FR:List Int} (S:St d id z P rest pts rts FP FR):(P ++ rest).Nodup:=S.wf.kidN _ _ S.hz S.hl
theorem St.keep {d d':ay} {id:Int} {z:ah} {P rest:List Int} {pts rts:List Tree} {FP FR:List Int} (S:St d id z P rest pts rts FP FR) {C:List Int} {tc:List Tree} {Fc:List Int} (hC:jy d C tc Fc) (hCk:∀ c ∈ C,c ∈ P ++ rest) (fr:∀ j,j ≠ id→j ∉ Fc→kz d j=true→nd d' j=nd d j) {L:List Int} {ts:List Tree} {F:List Int} (h:jy d L ts F) (hL:∀ c ∈ L,c ∈ P ++ rest) (hd:∀ c ∈ L,c ∉ C):jy d' L ts F :=
 h.um fun j hj=>fr j (h.Cn S.wf S.hz S.hl hL j hj) (h.N9 S.wf S.hz S.hl hC hL hCk hd j hj) (by
  obtain ⟨x,x1,x2,_⟩:=h.live j hj
  rw [dQ x1,x2])
theorem St.KN {d d':ay} {id:Int} {z:ah} {P rest:List Int} {pts rts:List Tree} {FP FR:List Int} (S:St d id z P rest pts rts FP FR) {C:List Int} {tc:List Tree} {Fc:List Int} (hC:jy d C tc Fc) (hCk:∀ c ∈ C,c ∈ P ++ rest) (fr:∀ j,j ≠ id→j ∉ Fc→kz d j=true→nd d' j=nd d j) {c:Int} {t:Tree} {F:List Int} (h:TA d c t F) (hL:c ∈ P ++ rest) (hd:c ∉ C):TA d' c t F :=
 (S.keep hC hCk fr (.one h) (by simpa using hL) (by simpa using hd)).FO
theorem wF {d d':ay} {j:Int} (h:nd d' j=nd d j):kz d' j=kz d j:=by unfold kz; rw [h]
theorem St.drop {d:ay} {id:Int} {z:ah} {r1 r2:List Int} {c:Int} {rts FR} (S:St d id z [] (r1 ++ c :: r2) [] rts [] FR) {n:Nat} (hn:6000 ≤ n) :
  ∃ m d' s1 tc s2 F1 Fc F2,jN n d c=some (m,d')∧FR=F1 ++ (Fc ++ F2)∧TA d c tc Fc∧St d' id z [] (r1 ++ r2) [] (s1 ++ s2) [] (F1 ++ F2)∧cnt d'=cnt d - Fc.length∧d'.l.length=d.l.length∧(∀ j,j ≠ id→j ∉ Fc→kz d j=true→nd d' j=nd d j):=by
 obtain ⟨s1,tc,s2,F1,Fc,F2,e1,e2,k1,k2,k3⟩:=S.tr.split
 have hc:c ∈ ([]:List Int) ++ (r1 ++ c :: r2):=by simp
 obtain ⟨x,l,x1,x2,x3,x4,x5,x6,x7,x8⟩:=A9 S.wf S.hz S.hl hc
 obtain ⟨d',q1,q2,q3,q4,q5,q6⟩:=Gh S.wf hn k2 x4
 have hnd:=S.nodup
 rw [List.nil_append] at hnd
 have hC1:∀ c' ∈ [c],c' ∈ ([]:List Int) ++ (r1 ++ c :: r2):=fun c' h=>by rw [List.mem_singleton.1 h]; exact hc
 have fr:∀ j,j ≠ id→j ∉ Fc→kz d j=true→nd d' j=nd d j:=fun j hj hjF hlv=>by
  obtain ⟨y,y1,y2⟩:=fZ hlv
  have:=q6 j y hjF y1
  rw [if_pos y2,List.erase_of_not_mem (fun hm=>by
   obtain ⟨w,w1,w2,w3⟩:=S.wf.kid j y c y1 y2 hm
   rw [x1] at w1; cases w1
   exact hj (w3.symm.trans x3))] at this
  rw [this,y1]
 have hid:id ∉ Fc:=fun h=>(jy.one k2).Cn S.wf S.hz S.hl hC1 _ h rfl
 have hz':=q6 id _ hid S.hz
 rw [if_pos S.hl] at hz'
 have hera:(([]:List Int) ++ (r1 ++ c :: r2)).erase c=[] ++ (r1 ++ r2):=by
  have hn2:=List.nodup_append.1 hnd
  have:c ∉ r1:=fun h=>hn2.2.2 c h c List.mem_cons_self rfl
  rw [List.nil_append,List.nil_append,List.erase_append_right _ this,List.erase_cons_head]
 simp only [hera] at hz'
 have hd:∀ c' ∈ r1 ++ r2,c' ∉ [c]:=fun c' h hm=>by
  rw [List.mem_singleton.1 hm] at h
  have hn2:=List.nodup_append.1 hnd
  rcases List.mem_append.1 h with h | h
  ·
   exact hn2.2.2 c h c List.mem_cons_self rfl
  ·
   exact (List.nodup_cons.1 hn2.2.1).1 h
 refine ⟨_,d',s1,tc,s2,F1,Fc,F2,q1,e2,k2,⟨q2,hz',S.hl,S.ht,.nil,?_⟩,q3,q4,fr⟩
 exact S.keep (.one k2) hC1 fr (k1.app k3) (fun c' h=>by
  rcases List.mem_append.1 h with h | h <;> simp [h]) hd
end Pr
end Go.Ev

namespace Go.Ev
namespace Pr
set_option linter.unusedVariables false
set_option linter.unusedSimpArgs false
set_option linter.unusedSectionVars false
theorem Dl (P l:List Int) (c:Int):oQ (P ++ l) (P.length:Int) c=P ++ c :: l:=by
 unfold oQ
 have:wX (P.length:Int) (P ++ l).length=P.length:=by unfold wX; simp; omega
 rw [this,List.take_left,List.drop_left]
theorem Path.LW {d d':ay} (h:∀ j z,nd d j=some z→z.lives=true→nd d' j=some z) {i:Int} {l:List Int} (p:Path d i l):Path d' i l:=by
 induction p with
 | top q hl hp=>exact .top (h _ _ q hl) hl hp
 | up q hl hp k ih=>exact .up (h _ _ q hl) hl hp ih
theorem G6 {P r1 r2:List Int} {c:Int} (h:(P ++ (r1 ++ c :: r2)).Nodup):(P ++ (r1 ++ c :: r2)).erase c=P ++ (r1 ++ r2):=by
 have h1:=List.nodup_append.1 h
 have h2:=List.nodup_append.1 h1.2.1
 have n1:c ∉ P:=fun q=>h1.2.2 c q c (by simp) rfl
 have n2:c ∉ r1:=fun q=>h2.2.2 c q c (by simp) rfl
 rw [List.erase_append_right _ n1,List.erase_append_right _ n2,List.erase_cons_head]
theorem St.move {d:ay} {id:Int} {z:ah} {P r1 r2:List Int} {c:Int} {pts rts FP FR} (S:St d id z P (r1 ++ c :: r2) pts rts FP FR) {n:Nat} (hn:6000 ≤ n) :
  ∃ d' s1 tc s2 F1 Fc F2,fQ n d id c (P.length:Int)=some (true,d')∧FR=F1 ++ (Fc ++ F2)∧TA d c tc Fc∧TA d' c tc Fc∧St d' id z (P ++ [c]) (r1 ++ r2) (pts ++ [tc]) (s1 ++ s2) (FP ++ Fc) (F1 ++ F2)∧cnt d'=cnt d∧d'.l.length=d.l.length∧(∀ j,j ≠ id→kz d j=true→nd d' j=nd d j):=by
 obtain ⟨s1,tc,s2,F1,Fc,F2,e1,e2,k1,k2,k3⟩:=S.tr.split
 have hc:c ∈ P ++ (r1 ++ c :: r2):=by simp
 obtain ⟨x,l,x1,x2,x3,x4,x5,x6,x7,x8⟩:=A9 S.wf S.hz S.hl hc
 have hok:lM d id c=true:=by
  unfold lM
  have ht1:rZ d id=z.tag:=by unfold rZ; rw [S.hz]
  rw [dQ S.hz,dQ x1,x2,ht1,x5.of]
  simp [S.hl,S.ht,x4,x7]
 obtain ⟨hW2,hg2⟩:=ET S.wf (P.length:Int) hok
 have hi:=wS S.wf hn id c (P.length:Int)
 rw [if_pos hok] at hi
 have fr:∀ j,j ≠ id→kz d j=true→nd (iW (dB d c) id c (P.length:Int)) j=nd d j:=fun j hj hlv=>by
  obtain ⟨y,y1,y2⟩:=fZ hlv
  have:=hg2 j y y1 y2
  rw [if_neg hj,List.erase_of_not_mem (fun hm=>by
   obtain ⟨w,w1,w2,w3⟩:=S.wf.kid j y c y1 y2 hm
   rw [x1] at w1; cases w1
   exact hj (w3.symm.trans x3))] at this
  rw [this,y1]
  by_cases hjc:j=c
  ·
   subst hjc
   rw [x1] at y1; cases y1
   rw [if_pos rfl,← x3]
  ·
   rw [if_neg hjc]
 have hz':=hg2 id _ S.hz S.hl
 rw [if_pos rfl,if_neg (Ne.symm x8)] at hz'
 simp only [G6 S.nodup,Dl] at hz'
 have kk:∀ {L:List Int} {ts:List Tree} {F:List Int},jy d L ts F→(∀ c' ∈ L,c' ∈ P ++ (r1 ++ c :: r2))→jy (iW (dB d c) id c (P.length:Int)) L ts F:=fun h hL =>
  h.um fun j hj=>fr j (h.Cn S.wf S.hz S.hl hL j hj) (by
   obtain ⟨x,x1,x2,_⟩:=h.live j hj
   rw [dQ x1,x2])
 have kc:=kk (.one k2) (by simp)
 refine ⟨_,s1,tc,s2,F1,Fc,F2,hi,e2,k2,kc.FO,⟨hW2,by rw [hz']; simp,S.hl,S.ht,(kk S.tp (fun c' h=>by simp [h])).app kc,kk (k1.app k3) (fun c' h=>by
  rcases List.mem_append.1 h with h | h <;> simp [h])⟩,by unfold cnt; simp,by simp,fr⟩
theorem St.put {d:ay} {id:Int} {z:ah} {P rest:List Int} {pts rts FP FR} (S:St d id z P rest pts rts FP FR) {n:Nat} (hn:6000 ≤ n) {d1:ay} {kid:Int} {t:Tree} {Fk:List Int} (Q:Put d d1 kid t Fk) :
  ∃ d',fQ n d1 id kid (P.length:Int)=some (true,d')∧St d' id z (P ++ [kid]) rest (pts ++ [t]) rts (FP ++ Fk) FR∧cnt d'=cnt d1∧d'.l.length=d1.l.length∧(∀ j,j ≠ id→kz d j=true→nd d' j=nd d j):=by
 have hkF:kid ∈ Fk:=by obtain ⟨G,hG⟩:=Q.ta.head; rw [hG]; exact List.mem_cons_self
 have hkd:kz d kid=false:=Q.new kid hkF
 have hidl:kz d id=true:=by rw [dQ S.hz]; exact S.hl
 have hne:kid ≠ id:=fun q=>by rw [q,hidl] at hkd; cases hkd
 obtain ⟨l,hp⟩:=S.wf.path id hidl
 have hp1:Path d1 id l:=hp.LW Q.old
 have hkl:kid ∉ l:=fun h=>by
  obtain ⟨_,_,_,_,y,y1,y2⟩:=hp.mem kid h
  rw [dQ y1,y2] at hkd; cases hkd
 obtain ⟨zk,hzk,hkl1,hkp⟩:=Q.top
 have hz1:=Q.old _ _ S.hz S.hl
 have hok:lM d1 id kid=true:=by
  unfold lM
  have ht1:rZ d1 id=z.tag:=by unfold rZ; rw [hz1]
  rw [dQ hz1,dQ hzk,hkl1,ht1,hp1.of]
  simp [S.hl,S.ht,Q.ne1,hkl]
 obtain ⟨hW2,hg2⟩:=ET Q.wf (P.length:Int) hok
 have hi:=wS Q.wf hn id kid (P.length:Int)
 rw [if_pos hok] at hi
 have hkk:∀ j z,nd d1 j=some z→z.lives=true→kid ∉ z.kids:=fun j z hj hjl hm=>by
  obtain ⟨x,x1,x2,x3⟩:=Q.wf.kid j z kid hj hjl hm
  rw [hzk] at x1; cases x1
  have:=cB hj; omega
 have hg:∀ j z,nd d1 j=some z→z.lives=true→nd (iW (dB d1 kid) id kid (P.length:Int)) j=some { z with kids:=if j=id then oQ z.kids (P.length:Int) kid else z.kids,parent:=if j=kid then id else z.parent }:=fun j z hj hjl=>by
  rw [hg2 j z hj hjl,List.erase_of_not_mem (hkk j z hj hjl)]
 have fr:∀ j,j ≠ id→kz d j=true→nd (iW (dB d1 kid) id kid (P.length:Int)) j=nd d j:=fun j hj hlv=>by
  obtain ⟨y,y1,y2⟩:=fZ hlv
  have:=hg j y (Q.old j y y1 y2) y2
  have hjk:j ≠ kid:=fun q=>by rw [q,hkd] at hlv; cases hlv
  rw [if_neg hj,if_neg hjk] at this
  rw [this,y1]
 have hz':=hg id _ hz1 S.hl
 rw [if_pos rfl,if_neg (Ne.symm hne)] at hz'
 simp only [Dl] at hz'
 have kk:∀ {L:List Int} {ts:List Tree} {F:List Int},jy d L ts F→(∀ c' ∈ L,c' ∈ P ++ rest)→jy (iW (dB d1 kid) id kid (P.length:Int)) L ts F:=fun h hL =>
  h.um fun j hj=>fr j (h.Cn S.wf S.hz S.hl hL j hj) (by
   obtain ⟨x,x1,x2,_⟩:=h.live j hj
   rw [dQ x1,x2])
 have kc:TA (iW (dB d1 kid) id kid (P.length:Int)) kid t Fk:=Q.ta.keep (fun j hj z hz'=>by
  obtain ⟨z0,q2,q3,_⟩:=Q.ta.live j hj
  rw [hz'] at q2; cases q2
  have hj1:j ≠ id:=fun q=>by have:=Q.new j hj; rw [q,hidl] at this; cases this
  exact ⟨_,hg j z hz' q3,rfl,rfl,rfl,rfl,rfl,by simp [hj1]⟩)
 refine ⟨_,hi,⟨hW2,by rw [hz']; simp,S.hl,S.ht,(kk S.tp (fun c' h=>by simp [h])).app (.one kc),kk S.tr (fun c' h=>by simp [h])⟩,by unfold cnt; simp,by simp,fr⟩
structure Turned (d d':ay) (id:Int) (old t:Tree) (F F':List Int):Prop where
 wf:WF d'
 ta:TA d' id t F'
 fr:∀ j,j ∉ F→kz d j=true→nd d' j=nd d j
 cnt:cnt d' - F'.length=Pr.cnt d - F.length
 len:d'.l.length ≤ d.l.length + jL t
 kids:∃ z z',nd d id=some z∧nd d' id=some z'∧∀ (i:Nat) k,(l6 old.Kids t.Kids)[i]? = some k→0 ≤ k→z'.kids[i]? = idx z.kids k
theorem St.turn {d d':ay} {id:Int} {z:ah} {P rest:List Int} {c:Int} {pts rts FP FR} {tc t:Tree} {Fc F':List Int} (S:St d id z (P ++ [c]) rest (pts ++ [tc]) rts (FP ++ Fc) FR) (hP:jy d P pts FP) (hc:TA d c tc Fc) (T:Turned d d' c tc t Fc F') :
  St d' id z (P ++ [c]) rest (pts ++ [t]) rts (FP ++ F') FR:=by
 have hC1:∀ c' ∈ [c],c' ∈ (P ++ [c]) ++ rest:=by simp
 have fr:∀ j,j ≠ id→j ∉ Fc→kz d j=true→nd d' j=nd d j:=fun j _ h1 h2=>T.fr j h1 h2
 have hid:id ∉ Fc:=fun h=>(jy.one hc).Cn S.wf S.hz S.hl hC1 _ h rfl
 have hnd:=S.nodup
 have h1:=List.nodup_append.1 hnd
 have h2:=List.nodup_append.1 h1.1
 refine ⟨T.wf,by rw [T.fr id hid (by rw [dQ S.hz]; exact S.hl)]; exact S.hz,S.hl,S.ht,?_,?_⟩
 ·
  exact (S.keep (.one hc) hC1 fr hP (fun c' h=>by simp [h]) (fun c' h hm=>h2.2.2 c' h c' hm rfl)).app (.one T.ta)
 ·
  exact S.keep (.one hc) hC1 fr S.tr (fun c' h=>by simp [h]) (fun c' h hm=>h1.2.2 c' (by simp at hm; simp [hm]) c' h rfl)
end Pr
end Go.Ev

namespace Go.Ev
namespace Pr
set_option linter.unusedVariables false
set_option linter.unusedSimpArgs false
set_option linter.unusedSectionVars false
theorem wu {α:Type} {l:List α} {k:Int} {c:α}:idx l k=some c↔0 ≤ k∧l[k.toNat]? = some c:=by
 unfold idx
 split
 ·
  rename_i h; simp [h]
 ·
  rename_i h; simp [h]
theorem Cg {l:List Int} (h:l.Nodup) {k k' c:Int} (h1:idx l k=some c) (h2:idx l k'=some c):k=k':=by
 obtain ⟨a1,b1⟩:=wu.1 h1
 obtain ⟨a2,b2⟩:=wu.1 h2
 have:=(List.getElem?_inj (List.getElem?_eq_some_iff.1 b1).1 h).1 (b1.trans b2.symm)
 omega
theorem tT {r1 r2:List Int} {c x:Int} (h:(r1 ++ c :: r2).Nodup):x ∈ r1 ++ r2↔x ∈ r1 ++ c :: r2∧x ≠ c:=by
 have h1:=List.nodup_append.1 h
 constructor
 ·
  intro q
  rcases List.mem_append.1 q with q | q
  ·
   exact ⟨List.mem_append_left _ q,fun e=>h1.2.2 x q c List.mem_cons_self e⟩
  ·
   exact ⟨List.mem_append_right _ (List.mem_cons_of_mem _ q),fun e=>(List.nodup_cons.1 h1.2.1).1 (e ▸ q)⟩
 ·
  rintro ⟨q,e⟩
  rcases List.mem_append.1 q with q | q
  ·
   exact List.mem_append_left _ q
  ·
   rcases List.mem_cons.1 q with q | q
   ·
    exact absurd q e
   ·
    exact List.mem_append_right _ q
theorem Dq {n:Nat} (hn6:6000 ≤ n) {self:ay→Int→Tree→Option (Bool × ay)} {id:Int} {t:Tree} {ks fr gone:List Int} (hks:ks.Nodup) (hg:gone.length ≤ 5000) {z:ah} :
  ∀ (todo dn:List Int) (d:ay) (rest:List Int) (rts:List Tree) (FR:List Int) (f:Nat),gone=dn ++ todo→St d id z [] rest [] rts [] FR→todo.Nodup→(∀ k ∈ todo,∃ c,idx ks k=some c∧c ∈ rest)→todo.length < f →
  ∃ d' rest' rts' FR',gz n self id t ks fr gone f d (dn.length:Int)=dJ n self id t ks fr n d' 0∧St d' id z [] rest' [] rts' [] FR'∧cnt d' - FR'.length=cnt d - FR.length∧d'.l.length=d.l.length ∧
   (∀ c,c ∈ rest'↔c ∈ rest∧∀ k ∈ todo,idx ks k ≠ some c)∧(∀ j ∈ FR',j ∈ FR)∧(∀ j,j ≠ id→j ∉ FR→kz d j=true→nd d' j=nd d j)∧(∀ c ∈ rest',∀ u F,TA d c u F→TA d' c u F)
 | [],dn,d,rest,rts,FR,f + 1,h,S,hN,hc,hf=>by
  rw [gz,if_neg (by rw [h]; simp)]
  exact ⟨d,rest,rts,FR,rfl,S,rfl,rfl,fun c=>by simp,fun j hj=>hj,fun j _ _ _=>rfl,fun c _ u F q=>q⟩
 | k :: todo,dn,d,rest,rts,FR,f + 1,h,S,hN,hc,hf=>by
  have hl:gone.length=dn.length + 1 + todo.length:=by rw [h]; simp; omega
  obtain ⟨c,c1,c2⟩:=hc k List.mem_cons_self
  obtain ⟨r1,r2,rfl⟩:=List.append_of_mem c2
  obtain ⟨m,d1,s1,tc,s2,F1,Fc,F2,q1,q2,q3,q4,q5,q6,q7⟩:=S.drop hn6
  have hnd:=S.nodup
  rw [List.nil_append] at hnd
  obtain ⟨hN1,hN2⟩:=List.nodup_cons.1 hN
  obtain ⟨d',rest',rts',FR',p1,p2,p3,p4,p5,p6,p7,p8⟩:=Dq (fr:=fr) (t:=t) (self:=self) hn6 hks hg todo (dn ++ [k]) d1 _ _ _ f (by rw [h]; simp) q4 hN2 (fun k' hk'=>by
   obtain ⟨c',e1,e2⟩:=hc k' (List.mem_cons_of_mem _ hk')
   refine ⟨c',e1,(tT hnd).2 ⟨e2,fun e=>?_⟩⟩
   rw [e] at e1
   exact hN1 (Cg hks c1 e1 ▸ hk')) (by simpa using hf)
  have hC1:∀ c' ∈ [c],c' ∈ ([]:List Int) ++ (r1 ++ c :: r2):=by simp
  refine ⟨d',rest',rts',FR',?_,p2,?_,by omega,fun c'=>?_,fun j hj=>?_,fun j j1 j2 j3=>?_,fun c' hc' u F hu=>?_⟩
  ·
   rw [gz,if_pos (by rw [decide_eq_true_eq]; omega),iy h,Option.bind_some,c1,Option.bind_some,q1,Option.bind_some,mf (by omega) (by omega)]
   simpa using p1
  ·
   rw [q2]; simp at p3 ⊢; omega
  ·
   rw [p5,tT hnd]
   constructor
   ·
    rintro ⟨⟨a1,a2⟩,a3⟩
    refine ⟨a1,fun k' hk' e=>?_⟩
    rcases List.mem_cons.1 hk' with rfl | hk'
    ·
     rw [c1] at e; cases e; exact a2 rfl
    ·
     exact a3 k' hk' e
   ·
    rintro ⟨a1,a3⟩
    exact ⟨⟨a1,fun e=>a3 k List.mem_cons_self (by rw [e]; exact c1)⟩,fun k' hk'=>a3 k' (List.mem_cons_of_mem _ hk')⟩
  ·
   have:=p6 j hj
   rw [q2]
   rcases List.mem_append.1 this with h | h <;> simp [h]
  ·
   have jc:j ∉ Fc:=fun q=>j2 (by rw [q2]; simp [q])
   have e1:=q7 j j1 jc j3
   rw [p7 j j1 (fun q=>j2 (by
    rw [q2]
    rcases List.mem_append.1 q with h | h <;> simp [h])) (by rw [wF e1]; exact j3),e1]
  ·
   have hm:=(tT hnd).1 ((p5 c').1 hc').1
   exact p8 c' hc' u F (S.KN (.one q3) hC1 q7 hu (by simpa using hm.1) (by simpa using hm.2))
theorem yS {n:Nat} (hn6:6000 ≤ n) {self:ay→Int→Tree→Option (Bool × ay)} {id:Int} {t:Tree} {ks fr:List Int} (hks:ks.Nodup) (htl:t.Kids.length ≤ 5000) {z:ah}
  (ih:∀ (t old:Tree) (d:ay) (id:Int) (F:List Int),WF d→TA d id old F→Rt old→Rt t→old.Tag=t.Tag→old.Key=t.Key→jL t + 6000 < n→d.l.length + jL t ≤ 5000→∃ d' F',self d id t=some (true,d')∧Turned d d' id old t F F') :
  ∀ (todo dn:List Tree) (frs frd:List Int) (d:ay) (P rest:List Int) (rts:List Tree) (FP FR:List Int) (f:Nat),t.Kids=dn ++ todo→fr=frd ++ frs→frd.length=dn.length→frs.length=todo.length→St d id z P rest dn rts FP FR→KG todo→ig todo + 6000 < n→d.l.length + ig todo ≤ 5000 →
   (∀ p ∈ frs.zip todo,0 ≤ p.1→∃ c u Fc,idx ks p.1=some c∧c ∈ rest∧TA d c u Fc∧Rt u∧u.Tag=p.2.Tag∧u.Key=p.2.Key) →
   (frs.Pairwise fun a b=>0 ≤ a→a ≠ b)→(∀ c ∈ rest,∃ k ∈ frs,0 ≤ k∧idx ks k=some c)→todo.length < f →
  ∃ d' P2 F',dJ n self id t ks fr f d (dn.length:Int)=some (true,d')∧St d' id z (P ++ P2) [] (dn ++ todo) [] F' []∧cnt d' - F'.length=cnt d - FP.length - FR.length∧d'.l.length ≤ d.l.length + ig todo ∧
   (∀ j,j ≠ id→j ∉ FR→kz d j=true→nd d' j=nd d j)∧(∀ (i:Nat) k,frs[i]? = some k→0 ≤ k→P2[i]? = idx ks k)
 | [],dn,frs,frd,d,P,rest,rts,FP,FR,f + 1,h,hfr,hfd,hfl,S,hR,hb,hlen,hcs,hpw,hcm,hf=>by
  have:frs=[]:=List.length_eq_zero_iff.1 (by simpa using hfl)
  subst this
  have:rest=[]:=by
   cases rest with
   | nil=>rfl
   | cons c r=>obtain ⟨k,hk,_⟩:=hcm c List.mem_cons_self; cases hk
  subst this
  obtain ⟨S1,S2,S3,S4,S5,S6⟩:=S
  cases S6
  rw [dJ,if_neg (by rw [h]; simp)]
  exact ⟨d,[],FP,rfl,⟨S1,by simpa using S2,S3,S4,by simpa using S5,.nil⟩,by simp,by simp,fun j _ _ _=>rfl,fun i k hk=>by simp at hk⟩
 | u0 :: todo,dn,frs,frd,d,P,rest,rts,FP,FR,f + 1,h,hfr,hfd,hfl,S,hR,hb,hlen,hcs,hpw,hcm,hf=>by
  cases frs with
  | nil=>simp at hfl
  | cons k frs =>
  have hkl:t.Kids.length=dn.length + 1 + todo.length:=by rw [h]; simp; omega
  simp only [ig] at hb hlen
  obtain ⟨hR1,hR2⟩:=hR
  obtain ⟨hp1,hp2⟩:=List.pairwise_cons.1 hpw
  have hPl:=S.tp.lens
  have e1:idx t.Kids (dn.length:Int)=some u0:=iy h
  have e2:idx fr (dn.length:Int)=some k:=by rw [← hfd]; exact iy hfr
  have hw:IntKind.wrap .i64 ((dn.length:Int) + 1)=((dn ++ [u0]).length:Int):=by rw [mf (by omega) (by omega)]; simp
  by_cases hk:k < 0
  ·
   obtain ⟨kid,d1,Fk,g1,Q⟩:=EI n u0 d S.wf hR1 (by omega) (by omega)
   obtain ⟨d2,g2,S2,g3,g4,g5⟩:=S.put hn6 Q
   have hQl:=Q.len
   have hQc:=Q.cnt
   have hQF:=Q.ta.len
   obtain ⟨d',P2,F',r1,r2,r3,r4,r5,r6⟩:=yS (fr:=fr) hn6 hks htl ih todo (dn ++ [u0]) frs (frd ++ [k]) d2 (P ++ [kid]) rest rts (FP ++ Fk) FR f (by rw [h]; simp) (by rw [hfr]; simp) (by simp [hfd]) (by simpa using hfl) S2 hR2 (by omega) (by omega) (fun p hp hp0=>by
     obtain ⟨c,u,Fc,a1,a2,a3,a4⟩:=hcs p (by rw [List.zip_cons_cons]; exact List.mem_cons_of_mem _ hp) hp0
     refine ⟨c,u,Fc,a1,a2,a3.um (fun j hj=>g5 j ((jy.one a3).Cn S.wf S.hz S.hl (by simp [a2]) j hj) ?_),a4⟩
     obtain ⟨x,x1,x2,_⟩:=a3.live j hj
     rw [dQ x1,x2]) hp2 (fun c hc=>by
     obtain ⟨k',a1,a2,a3⟩:=hcm c hc
     rcases List.mem_cons.1 a1 with rfl | a1
     ·
      omega
     ·
      exact ⟨k',a1,a2,a3⟩) (by simpa using hf)
   refine ⟨d',kid :: P2,F',?_,by simpa using r2,?_,by simp only [ig]; omega,fun j j1 j2 j3=>?_,fun i k' hk' hk0=>?_⟩
   ·
    rw [dJ,if_pos (by rw [decide_eq_true_eq]; omega),e1,Option.bind_some,e2,Option.bind_some,if_pos (by simpa using hk),g1,Option.bind_some]
    simp only
    rw [hPl] at g2
    rw [g2,Option.bind_some]
    simp only
    unfold iF
    rw [hw]; exact r1
   ·
    simp at r3; omega
   ·
    have e:=g5 j j1 j3
    rw [r5 j j1 j2 (by rw [wF e]; exact j3),e]
   ·
    cases i with
    | zero=>simp at hk'; omega
    | succ i=>exact r6 i k' (by simpa using hk') hk0
  ·
   obtain ⟨c,u,Fc,a1,a2,a3,a4,a5,a6⟩:=hcs (k,u0) (by rw [List.zip_cons_cons]; exact List.mem_cons_self) (by simpa using hk)
   simp only at a1 a5 a6
   obtain ⟨r1,r2,rfl⟩:=List.append_of_mem a2
   obtain ⟨d1,s1,tc,s2,F1,Fc',F2,g1,g2,g3,g4,S1,g5,g6,g7⟩:=S.move hn6
   obtain ⟨rfl,rfl⟩:=a3.uniq g3
   obtain ⟨d2,Fk,t1,T⟩:=ih u0 u d1 c Fc S1.wf g4 a4 hR1 a5 a6 (by omega) (by omega)
   have hPk:jy d1 P dn FP:=S.tp.um (fun j hj=>g7 j (S.tp.Cn S.wf S.hz S.hl (fun c h=>by simp [h]) j hj) (by
    obtain ⟨x,x1,x2,_⟩:=S.tp.live j hj
    rw [dQ x1,x2]))
   have S2:=S1.turn hPk g4 T
   have hTl:=T.len
   have hTc:=T.cnt
   have hnd:(r1 ++ c :: r2).Nodup:=(List.nodup_append.1 S.nodup).2.1
   have hC1:∀ c' ∈ [c],c' ∈ (P ++ [c]) ++ (r1 ++ r2):=by simp
   obtain ⟨d',P2,F',q1,q2,q3,q4,q5,q6⟩:=yS (fr:=fr) hn6 hks htl ih todo (dn ++ [u0]) frs (frd ++ [k]) d2 (P ++ [c]) (r1 ++ r2) _ (FP ++ Fk) (F1 ++ F2) f (by rw [h]; simp) (by rw [hfr]; simp) (by simp [hfd]) (by simpa using hfl) S2 hR2 (by omega) (by omega) (fun p hp hp0=>by
     obtain ⟨c',u',Fc',b1,b2,b3,b4⟩:=hcs p (by rw [List.zip_cons_cons]; exact List.mem_cons_of_mem _ hp) hp0
     have hpf:=(List.of_mem_zip hp).1
     have hne:c' ≠ c:=fun e=>by
      rw [e] at b1
      exact hp1 p.1 hpf (by omega) (Cg hks a1 b1)
     refine ⟨c',u',Fc',b1,(tT hnd).2 ⟨b2,hne⟩,?_,b4⟩
     have b5:TA d1 c' u' Fc':=b3.um (fun j hj=>g7 j ((jy.one b3).Cn S.wf S.hz S.hl (by simpa using .inr (by simpa using b2)) j hj) (by
      obtain ⟨x,x1,x2,_⟩:=b3.live j hj
      rw [dQ x1,x2]))
     exact S1.KN (.one g4) hC1 (fun j _ h1 h2=>T.fr j h1 h2) b5 (List.mem_append_right _ ((tT hnd).2 ⟨b2,hne⟩)) (by simpa using hne)) hp2 (fun c' hc'=>by
     obtain ⟨m1,m2⟩:=(tT hnd).1 hc'
     obtain ⟨k',b1,b2,b3⟩:=hcm c' m1
     rcases List.mem_cons.1 b1 with rfl | b1
     ·
      rw [a1] at b3; cases b3; exact absurd rfl m2
     ·
      exact ⟨k',b1,b2,b3⟩) (by simpa using hf)
   refine ⟨d',c :: P2,F',?_,by simpa using q2,?_,by simp only [ig]; omega,fun j j1 j2 j3=>?_,fun i k' hk' hk0=>?_⟩
   ·
    rw [dJ,if_pos (by rw [decide_eq_true_eq]; omega),e1,Option.bind_some,e2,Option.bind_some,if_neg (by simpa using hk),Option.bind_some,a1,Option.bind_some]
    rw [hPl] at g1
    simp only [g1,Option.bind_some,a1,t1]
    unfold iF
    rw [hw]; exact q1
   ·
    rw [g2]; simp at q3 ⊢; omega
   ·
    have jc:j ∉ Fc:=fun q=>j2 (by rw [g2]; simp [q])
    have e:=g7 j j1 j3
    have l1:kz d1 j=true:=by rw [wF e]; exact j3
    have e':=T.fr j jc l1
    rw [q5 j j1 (fun q=>j2 (by
     rw [g2]
     rcases List.mem_append.1 q with h | h <;> simp [h])) (by rw [wF e']; exact l1),e',e]
   ·
    cases i with
    | zero =>
     simp at hk'
     subst hk'
     rw [a1]; rfl
    | succ i=>exact q6 i k' (by simpa using hk') hk0
end Pr
end Go.Ev

namespace Go.Ev
namespace Pr
set_option linter.unusedVariables false
set_option linter.unusedSimpArgs false
set_option linter.unusedSectionVars false
theorem jy.at {d:ay}:∀ {is:List Int} {ts:List Tree} {F:List Int},jy d is ts F→∀ (i:Nat) (t:Tree),ts[i]? = some t→∃ c Fc,is[i]? = some c∧TA d c t Fc∧∀ j ∈ Fc,j ∈ F
 | _,_,_,.nil,i,t,h=>by simp at h
 | _,_,_,.cons (i:=c0) (F:=F0) h0 k,i,t,h=>by
  cases i with
  | zero=>simp at h; subst h; exact ⟨c0,F0,rfl,h0,fun j hj=>List.mem_append_left _ hj⟩
  | succ i =>
   obtain ⟨c,Fc,h1,h2,h3⟩:=k.at i t (by simpa using h)
   exact ⟨c,Fc,by simpa using h1,h2,fun j hj=>List.mem_append_right _ (h3 j hj)⟩
theorem KG.at:∀ {l:List Tree},KG l→∀ (i:Nat) (t:Tree),l[i]? = some t→Rt t:=fun {l} h i t hi=>h.mem t (List.mem_of_getElem? hi)
theorem yw:∀ (n:Nat) (t old:Tree) (d:ay) (id:Int) (F:List Int),WF d→TA d id old F→Rt old→Rt t→old.Tag=t.Tag→old.Key=t.Key→jL t + 6000 < n→d.l.length + jL t ≤ 5000→∃ d' F',eB n d id t=some (true,d')∧Turned d d' id old t F F'
 | 0,t,old,d,id,F,hW,hT,hRo,hR,e1,e2,hn,hl=>by omega
 | n + 1,.mk tag key text at_ ks,_,d,id,_,hW,.mk (z:=z) (ts:=ts) (F:=G) hz hzl hk,hRo,hR,e1,e2,hn,hl=>by
  simp only [Tree.Tag,Tree.Key] at e1 e2
  simp only [jL] at hn hl
  have hT:TA d id (Tree.mk z.tag z.key z.text z.attrs ts) (id :: G):=.mk hz hzl hk
  obtain ⟨l,hp⟩:=hW.path id (by rw [dQ hz,hzl])
  have hlen:=hW.len
  have hFl:(id :: G).length ≤ d.l.length:=iQ _ _ (hT.nodup hW hp) hT.KH
  have hTl:=hT.len
  have htn:jL (Tree.mk z.tag z.key z.text z.attrs ts) < n:=by omega
  have htns:ig ts < n:=by simp only [jL] at htn; omega
  have hkl:=si hW hz hzl
  have hklen:=hk.lens
  have hksl:=qm ks
  simp only [Rt] at hRo hR
  rw [eB,yA hW hT htn,Option.bind_some,if_neg (by simp [Tree.Tag,Tree.Key,e1,e2])]
  by_cases ht:tag=[]
  ·
   obtain ⟨ko,ao,to_⟩:=hRo.1 (by rw [e1]; exact ht)
   obtain ⟨kn,an,tn⟩:=hR.1 ht
   subst to_; subst tn
   have hkn:z.kids=[]:=List.length_eq_zero_iff.1 (by simpa using hklen)
   obtain ⟨q1,q2⟩:=K6 hW n hz hzl (by rw [e1]; exact ht) text
   rw [if_pos (by simpa [Tree.Tag] using ht)]
   simp only [Tree.Text]
   rw [q1,Option.bind_some]
   have hz2:nd (jC d id { z with text:=text }) id=some { z with text:=text }:=by rw [iY hz,if_pos rfl]
   refine ⟨_,[id],rfl,q2,?_,fun j hj hlv=>?_,?_,by simp,z,_,hz,hz2,fun i k hi=>?_⟩
   ·
    have:=TA.mk (d:=jC d id { z with text:=text }) (F:=[]) (ts:=[]) hz2 hzl (by simp only [hkn]; exact .nil)
    have e:Tree.mk tag key text at_ []=Tree.mk z.tag z.key text z.attrs []:=by rw [e1,e2,ao,an]
    rw [e]; exact this
   ·
    rw [iY hz,if_neg (fun e=>hj (by simp [e]))]
   ·
    have hG:G=[]:=by have:=hk.len; simpa [ig] using this
    subst hG
    unfold cnt; simp
   ·
    simp [l6,kZ,Tree.Kids] at hi
  ·
   obtain ⟨tx,_,hRts⟩:=hRo.2 (by rw [e1]; exact ht)
   obtain ⟨txn,atl,hRks⟩:=hR.2 ht
   obtain ⟨q1,q2⟩:=Ei hW n hz hzl (by rw [e1]; exact ht) atl
   rw [if_neg (by simpa [Tree.Tag] using ht)]
   simp only [Tree.aL,Tree.Kids]
   rw [q1,Option.bind_some]
   simp only
   have hz2:nd (jC d id { z with attrs:=at_ }) id=some { z with attrs:=at_ }:=by rw [iY hz,if_pos rfl]
   have fr0:∀ j,j ≠ id→nd (jC d id { z with attrs:=at_ }) j=nd d j:=fun j hj=>by rw [iY hz,if_neg hj]
   have hk1:jy (jC d id { z with attrs:=at_ }) z.kids ts G:=hk.um fun j hj=>fr0 j (hk.Cn hW hz hzl (fun c h=>h) j hj)
   rw [yu q2,hz2]
   dsimp only
   rw [if_pos hzl,Option.bind_some]
   rw [IP q2 hkl hk1 htns (by omega),Option.bind_some,Ga (by omega) (by omega) (by omega) (by omega),Option.bind_some]
   obtain ⟨f1,f2,f3⟩:=vG ts ks
   obtain ⟨gone,g1,g2,g3,g4⟩:=JS (n:=n) (n1:=z.kids.length) (l6 ts ks) (by omega) hkl (by omega) (by omega)
   rw [g1,Option.bind_some]
   have hnd:=hW.kidN id z hz hzl
   have S:St (jC d id { z with attrs:=at_ }) id { z with attrs:=at_ } [] z.kids [] ts [] G:=⟨q2,by simpa using hz2,hzl,by rw [show ({ z with attrs:=at_ }:ah).tag=z.tag from rfl,e1]; exact ht,.nil,hk1⟩
   obtain ⟨d1,rest,rts,FR,p1,p2,p3,p4,p5,p6,p7,p8⟩:=Dq (n:=n) (t:=.mk tag key text at_ ks) (fr:=l6 ts ks) (gone:=gone) (self:=eB n) (by omega) hnd (by omega) gone [] _ z.kids ts G n rfl S g2 (fun k hk'=>by
    obtain ⟨a1,a2,a3⟩:=(g3 k).1 hk'
    have hlt:k.toNat < z.kids.length:=by omega
    exact ⟨z.kids[k.toNat],wu.2 ⟨a1,List.getElem?_eq_getElem hlt⟩,List.getElem_mem hlt⟩) (by omega)
   simp only [lQ] at p4
   obtain ⟨d2,P2,F',r1,r2,r3,r4,r5,r6⟩:=yS (n:=n) (self:=eB n) (ks:=z.kids) (t:=.mk tag key text at_ ks) (by omega) hnd (show ks.length ≤ 5000 by omega) (yw n) ks [] (l6 ts ks) [] d1 [] rest rts [] FR n rfl rfl rfl f1 p2 hRks (by omega) (by omega) (fun p hp hp0=>by
     obtain ⟨i,hi⟩:=List.getElem?_of_mem hp
     rw [List.getElem?_zip_eq_some] at hi
     rcases f2 i p.1 p.2 hi.1 hi.2 with e | ⟨_,u,u1,u2,u3⟩
     ·
      omega
     ·
      obtain ⟨c,Fc,c1,c2,c3⟩:=hk1.at _ u u1
      have hci:idx z.kids p.1=some c:=wu.2 ⟨hp0,c1⟩
      have hcr:c ∈ rest:=(p5 c).2 ⟨List.mem_of_getElem? c1,fun k' hk' e=>by
       have:=Cg hnd hci e
       exact ((g3 k').1 hk').2.2 (this ▸ List.mem_of_getElem? hi.1)⟩
      exact ⟨c,u,Fc,hci,hcr,p8 c hcr u Fc c2,hRts.at _ u u1,u2,u3⟩) (List.pairwise_iff_getElem.2 fun i j hi hj hij h0 e=>by
     have:=f3 i j _ (List.getElem?_eq_getElem hi) (by rw [e]; exact List.getElem?_eq_getElem hj) h0
     omega) (fun c hc=>by
     obtain ⟨m1,m2⟩:=(p5 c).1 hc
     obtain ⟨i,hi⟩:=List.getElem?_of_mem m1
     have hlt:=(List.getElem?_eq_some_iff.1 hi).1
     have hci:idx z.kids (i:Int)=some c:=wu.2 ⟨by omega,by simpa using hi⟩
     refine ⟨(i:Int),?_,by omega,hci⟩
     by_cases hm:(i:Int) ∈ l6 ts ks
     ·
      exact hm
     ·
      exact absurd hci (m2 _ ((g3 _).2 ⟨by omega,by omega,hm⟩))) (by omega)
   have hrz:=r2.hz
   have hta:=TA.mk (d:=d2) (F:=F') (ts:=ks) hrz r2.hl (by simpa using r2.tp)
   refine ⟨d2,id :: F',by simp only [List.length_nil,Int.natCast_zero] at p1; exact p1.trans r1,r2.wf,?_,fun j hj hlv=>?_,?_,by simp only [jL]; omega,z,_,hz,hrz,fun i k hi h0=>?_⟩
   ·
    rw [txn]; rw [tx] at hta; simpa [e1,e2] using hta
   ·
    have j1:j ≠ id:=fun e=>hj (by simp [e])
    have j2:j ∉ G:=fun e=>hj (by simp [e])
    have e:=fr0 j j1
    have l0:kz (jC d id { z with attrs:=at_ }) j=true:=by rw [wF e]; exact hlv
    have e':=p7 j j1 j2 l0
    rw [r5 j j1 (fun q=>j2 (p6 j q)) (by rw [wF e']; exact l0),e',e]
   ·
    have:cnt (jC d id { z with attrs:=at_ })=cnt d:=by unfold cnt; simp
    simp at r3 ⊢
    omega
   ·
    simpa using r6 i k hi h0
end Pr
end Go.Ev

namespace Go.Ev
namespace Pr
namespace W
set_option linter.unusedVariables false
set_option linter.unusedSimpArgs false
set_option linter.unusedSectionVars false
mutual
def oz:Tree→Nat
 | .mk _ _ _ _ ks=>1 + pJ ks
def pJ:List Tree→Nat
 | []=>0
 | t :: l=>oz t + pJ l
end
mutual
def Hw:Tree→Nat
 | .mk _ _ _ _ ks=>1 + Jm ks
def Jm:List Tree→Nat
 | []=>0
 | t :: l=>max (Hw t) (Jm l)
end
theorem kV (t:Tree):oz t=1 + pJ t.Kids:=by cases t; rw [oz]; rfl
theorem sK:∀ (l:List Tree),l.length ≤ pJ l
 | []=>Nat.le_refl _
 | x :: l=>by
  have:=sK l
  have:=kV x
  simp only [List.length_cons,pJ]; omega
theorem DX:∀ {l:List Tree} {z:Tree},z ∈ l→oz z ≤ pJ l
 | x :: l,z,h=>by
  rcases List.mem_cons.1 h with rfl | h
  ·
   simp only [pJ]; omega
  ·
   have:=DX h
   simp only [pJ]; omega
theorem BI {t z:Tree} (h:z ∈ t.Kids):oz z < oz t:=by
 have:=DX h
 have:=kV t; omega
theorem JZ {t:Tree} {m:Nat} {α:Type} {f:Nat→Tree→Option α} {g:Tree→α} (ht:oz t ≤ m + 1) (ih:∀ z,oz z ≤ m→∀ n,m < n→f n z=some (g z)) {n:Nat} (hn:m < n):∀ z ∈ t.Kids,f n z=some (g z) :=
 fun z hz=>ih z (by have:=BI hz; omega) n hn
theorem zT (self:Tree→Option Int) (t:Tree) (hs:∀ z ∈ t.Kids,self z=some (oz z:Int)) (hb:pJ t.Kids < 1000000000):∀ (rest done:List Tree) (k:Nat) (acc:Int),t.Kids=done ++ rest→rest.length < k→0 ≤ acc→acc + pJ rest < 2000000000 →
  fF self t k acc (done.length:Int)=some (acc + pJ rest)
 | [],done,k + 1,acc,hk,_,h0,h1=>by
  rw [fF,if_neg (by rw [hk]; simp)]
  simp [pJ]
 | z :: rest,done,k + 1,acc,hk,hl,h0,h1=>by
  have hlen:=sK t.Kids
  have hkl:t.Kids.length=done.length + rest.length + 1:=by rw [hk]; simp; omega
  have hz:z ∈ t.Kids:=by rw [hk]; simp
  simp only [pJ] at h1
  rw [fF,if_pos (by rw [decide_eq_true_eq,hkl]; omega),iy hk,Option.bind_some,hs z hz,Option.bind_some]
  rw [mf (by omega) (by omega),mf (by omega) (by omega)]
  have:=zT self t hs hb rest (done ++ [z]) k (acc + oz z) (by rw [hk]; simp) (by simp at hl; omega) (by omega) (by omega)
  rw [List.length_append,List.length_singleton] at this
  push_cast at this
  rw [this,pJ]
  congr 1
  push_cast; omega
theorem oO:∀ (m:Nat) (t:Tree),oz t ≤ m→m < 1000000000→∀ n,m < n→gH n t=some (oz t:Int)
 | 0,t,h,_,n,_=>by rw [kV] at h; omega
 | m + 1,t,h,hm,n + 1,hn=>by
  have hs:=JZ (f:=gH) (g:=fun z=>(oz z:Int)) h (fun z hz n hn=>oO m z hz (by omega) n hn) (show m < n by omega)
  have hk:=kV t
  have hlen:=sK t.Kids
  rw [gH]
  have:=zT (gH n) t hs (by omega) t.Kids [] n 1 rfl (by omega) (by omega) (by omega)
  simp only [List.length_nil] at this
  rw [show ((0:Nat):Int)=0 from rfl] at this
  rw [this,hk]; push_cast; rfl
def nk:Tree→Nat
 | .mk _ _ _ ats ks=>1 + ats.length + lsz ks
  where lsz:List Tree→Nat
 | []=>0
 | t :: l=>nk t + lsz l
theorem sN (t:Tree):nk t=1 + t.aL.length + nk.lsz t.Kids:=by cases t; rw [nk]; rfl
theorem Gn:∀ {l:List Tree} {z:Tree},z ∈ l→nk z ≤ nk.lsz l
 | x :: l,z,h=>by
  rcases List.mem_cons.1 h with rfl | h
  ·
   simp only [nk.lsz]; omega
  ·
   have:=Gn h
   simp only [nk.lsz]; omega
theorem Gp:∀ (l:List Tree),l.length ≤ nk.lsz l
 | []=>Nat.zero_le _
 | x :: l=>by
  have:=Gp l
  have:=sN x
  simp only [List.length_cons,nk.lsz]; omega
theorem Jo {t z:Tree} (h:z ∈ t.Kids):nk z < nk t:=by
 have:=Gn h
 have:=sN t; omega
def vF:List Attr→List Attr→Bool
 | [],[]=>true
 | a :: l,b :: m=>Attr.beq a b && vF l m
 | _,_=>false
def pY:Tree→Tree→Bool
 | .mk a b c d e,.mk a' b' c' d' e'=>(a == a') && (b == b') && (c == c') && vF d d' && lbeq e e'
  where lbeq:List Tree→List Tree→Bool
 | [],[]=>true
 | x :: l,y :: m=>pY x y && lbeq l m
 | _,_=>false
theorem Dv:∀ {a b:List Attr},vF a b=true→a.length=b.length
 | [],[],_=>rfl
 | x :: l,y :: m,h=>by
  simp only [vF,Bool.and_eq_true] at h
  simp [Dv h.2]
 | [],_ :: _,h=>by cases h
 | _ :: _,[],h=>by cases h
theorem El:∀ {a b:List Tree},pY.lbeq a b=true→a.length=b.length
 | [],[],_=>rfl
 | x :: l,y :: m,h=>by
  simp only [pY.lbeq,Bool.and_eq_true] at h
  simp [El h.2]
 | [],_ :: _,h=>by cases h
 | _ :: _,[],h=>by cases h
theorem Kt {a b:List Attr} (h:a.length ≠ b.length):vF a b=false:=by
 cases hq:vF a b
 ·
  rfl
 ·
  exact absurd (Dv hq) h
theorem Kr {a b:List Tree} (h:a.length ≠ b.length):pY.lbeq a b=false:=by
 cases hq:pY.lbeq a b
 ·
  rfl
 ·
  exact absurd (El hq) h
theorem KE (a b:Tree):pY a b=((a.Tag == b.Tag) && (a.Key == b.Key) && (a.Text == b.Text) && vF a.aL b.aL && pY.lbeq a.Kids b.Kids):=by cases a; cases b; rw [pY]; rfl
theorem zg (l m:List Attr) (hb:l.length < 1000000000):∀ (r s d e:List Attr) (k:Nat),l=d ++ r→m=e ++ s→d.length=e.length→r.length=s.length→r.length < k →
  bJ l m k (d.length:Int)=some (vF r s)
 | [],[],d,e,k + 1,hl,hm,_,_,_=>by
  rw [bJ,if_neg (by rw [hl]; simp)]; rfl
 | z :: r,y :: s,d,e,k + 1,hl,hm,hd,hr,hk=>by
  have hkl:l.length=d.length + r.length + 1:=by rw [hl]; simp; omega
  rw [bJ,if_pos (by rw [decide_eq_true_eq,hkl]; omega),iy hl,Option.bind_some,hd,iy hm,Option.bind_some]
  cases hq:Attr.beq z y
  ·
   simp [vF,hq]
  ·
   simp only [Bool.not_true,Bool.false_eq_true,if_false]
   rw [mf (by omega) (by omega)]
   have:=zg l m hb r s (d ++ [z]) (e ++ [y]) k (by rw [hl]; simp) (by rw [hm]; simp) (by simp [hd]) (by simpa using hr) (by simp at hk; omega)
   rw [List.length_append,List.length_singleton,hd] at this
   push_cast at this
   rw [this]; simp [vF,hq]
 | [],_ :: _,d,e,k + 1,_,_,_,hr,_=>by simp at hr
 | _ :: _,[],d,e,k + 1,_,_,_,hr,_=>by simp at hr
theorem Ju (n:Nat) (l m:List Attr) (hb:l.length < 1000000000) (hn:l.length < n):fq n l m=some (vF l m):=by
 unfold fq
 by_cases h:l.length=m.length
 ·
  rw [if_neg (by simp [h])]
  exact zg l m hb l m [] [] n rfl rfl rfl h hn
 ·
  rw [if_pos (by simp; omega),Kt h]
theorem Ah (f:Tree→Tree→Option Bool) (a b:Tree) (hf:∀ x ∈ a.Kids,∀ y,f x y=some (pY x y)) (hb:a.Kids.length < 1000000000):∀ (r s d e:List Tree) (k:Nat),a.Kids=d ++ r→b.Kids=e ++ s→d.length=e.length→r.length=s.length→r.length < k →
  dA f a b k (d.length:Int)=some (pY.lbeq r s)
 | [],[],d,e,k + 1,hl,hm,_,_,_=>by
  rw [dA,if_neg (by rw [hl]; simp)]; rfl
 | z :: r,y :: s,d,e,k + 1,hl,hm,hd,hr,hk=>by
  have hkl:a.Kids.length=d.length + r.length + 1:=by rw [hl]; simp; omega
  rw [dA,if_pos (by rw [decide_eq_true_eq,hkl]; omega),iy hl,Option.bind_some,hd,iy hm,Option.bind_some,hf z (by rw [hl]; simp),Option.bind_some]
  cases hq:pY z y
  ·
   simp [pY.lbeq,hq]
  ·
   simp only [Bool.not_true,Bool.false_eq_true,if_false]
   rw [mf (by omega) (by omega)]
   have:=Ah f a b hf hb r s (d ++ [z]) (e ++ [y]) k (by rw [hl]; simp) (by rw [hm]; simp) (by simp [hd]) (by simpa using hr) (by simp at hk; omega)
   rw [List.length_append,List.length_singleton,hd] at this
   push_cast at this
   rw [this]; simp [pY.lbeq,hq]
 | [],_ :: _,d,e,k + 1,_,_,_,hr,_=>by simp at hr
 | _ :: _,[],d,e,k + 1,_,_,_,hr,_=>by simp at hr
theorem zP:∀ (m:Nat) (t u:Tree),nk t ≤ m→m < 1000000→∀ n,m < n→dh n t u=some (pY t u)
 | 0,t,u,h,_,n,_=>by rw [sN] at h; omega
 | m + 1,t,u,h,hm,n + 1,hn=>by
  have hk:=sN t
  have hlen:=Gp t.Kids
  have hf:∀ x ∈ t.Kids,∀ y,dh n x y=some (pY x y):=fun x hx y=>zP m x y (by have:=Jo hx; omega) (by omega) n (by omega)
  rw [dh,KE]
  cases h1:(t.Tag == u.Tag) <;> cases h2:(t.Key == u.Key) <;> cases h3:(t.Text == u.Text) <;> simp only [Bool.not_true,Bool.not_false,Bool.or_self,Bool.or_true,Bool.true_or,Bool.or_false,if_true,Option.bind_some,Bool.false_eq_true,if_false,Bool.and_false,Bool.false_and,Bool.and_self,Bool.true_and]
  rw [Ju n _ _ (by omega) (by omega),Option.bind_some,Option.bind_some]
  cases h4:vF t.aL u.aL
  ·
   simp
  ·
   simp only [Bool.not_true,Bool.false_or,Bool.true_and]
   by_cases hl:t.Kids.length=u.Kids.length
   ·
    rw [if_neg (by simp [hl])]
    have:=Ah (dh n) t u hf (by omega) t.Kids u.Kids [] [] n rfl rfl rfl hl (by omega)
    simp only [List.length_nil] at this
    rw [show ((0:Nat):Int)=0 from rfl] at this
    rw [this]
   ·
    rw [if_pos (by simp; omega),Kr hl]
theorem GD (a:Attr):Attr.beq a a=true:=by simp [Attr.beq]
theorem Bo:∀ (l:List Attr),vF l l=true
 | []=>rfl
 | a :: l=>by simp [vF,GD,Bo l]
theorem wY:∀ (t:Tree),pY t t=true
 | .mk a b c d e=>by
  rw [pY,Bo]
  have:=go e
  simp [this]
  where go:∀ (l:List Tree),pY.lbeq l l=true
 | []=>rfl
 | x :: l=>by rw [pY.lbeq,wY x,go l]; rfl
def DI (s:Str):Bool:=!(s == []) && decide (s.length ≤ 16)
def CE (l:List Attr):Prop:=l=[]∨∃ a,l=[a]∧a.Name ≠ []∧a.Name.length ≤ 64∧a.Value.length ≤ 64
def Iu (t:Tree):Prop:=(t.Tag=[]∧t.Key=[]∧t.aL=[]∧t.Kids=[]∧t.Text.length ≤ 64)∨(DI t.Tag=true∧t.Text=[]∧t.Key.length ≤ 64∧CE t.aL∧t.Kids.length ≤ 24)
def om:Tree→Prop
 | .mk a b c d e=>Iu (.mk a b c d e)∧lg e
  where lg:List Tree→Prop
 | []=>True
 | x :: l=>om x∧lg l
theorem wB (t:Tree):om t↔Iu t∧om.lg t.Kids:=by cases t; rw [om]; rfl
theorem EJ:∀ {l:List Tree},om.lg l↔∀ z ∈ l,om z
 | []=>⟨fun _ z h=>(by cases h),fun _=>trivial⟩
 | x :: l=>by
  rw [om.lg,EJ]
  exact ⟨fun h z hz=>by rcases List.mem_cons.1 hz with rfl | hz; exact h.1; exact h.2 z hz,fun h=>⟨h x List.mem_cons_self,fun z hz=>h z (List.mem_cons_of_mem _ hz)⟩⟩
theorem EM:∀ (m:Nat) (t:Tree),oz t ≤ m→om t→nk t ≤ 2 * oz t
 | 0,t,h,_=>by rw [kV] at h; omega
 | m + 1,t,h,hg=>by
  obtain ⟨h1,h2⟩:=(wB t).1 hg
  have hl:∀ (l:List Tree),(∀ z ∈ l,z ∈ t.Kids)→nk.lsz l ≤ 2 * pJ l:=by
   intro l
   induction l with
   | nil=>intro _; simp [nk.lsz,pJ]
   | cons x l ih =>
    intro hm
    have hx:=hm x List.mem_cons_self
    have:=EM m x (by have:=BI hx; omega) (EJ.1 h2 x hx)
    have:=ih (fun z hz=>hm z (List.mem_cons_of_mem _ hz))
    simp only [nk.lsz,pJ]; omega
  have ha:t.aL.length ≤ 1:=by
   rcases h1 with h1 | h1
   ·
    rw [h1.2.2.1]; simp
   ·
    rcases h1.2.2.2.1 with h | ⟨a,h,_⟩ <;> rw [h] <;> simp
  have:=hl t.Kids (fun z hz=>hz)
  rw [sN,kV]; omega
theorem nQ (n:Nat) (a lo hi:Int) (h1:lo ≤ hi) (h2:-1000000000000 ≤ lo) (h3:hi ≤ 1000000000000000):∃ r,di n a lo hi=some r∧lo ≤ r∧r ≤ hi:=by
 unfold di
 rw [mf (n:=hi - lo) (by omega) (by omega),mf (by omega) (by omega),BV (by omega),Option.bind_some]
 have k1:=Int.tmod_lt_of_pos a (show 0 < hi - lo + 1 by omega)
 have k2:=Int.lt_tmod_of_pos a (show 0 < hi - lo + 1 by omega)
 unfold eu
 by_cases hz:a.tmod (hi - lo + 1) < 0
 ·
  rw [if_pos (by simpa using hz)]
  rw [mf (n:=a.tmod (hi - lo + 1) + hi) (by omega) (by omega),mf (n:=a.tmod (hi - lo + 1) + hi - lo) (by omega) (by omega),mf (n:=a.tmod (hi - lo + 1) + hi - lo + 1) (by omega) (by omega),mf (by omega) (by omega)]
  exact ⟨_,rfl,by omega,by omega⟩
 ·
  rw [if_neg (by simpa using hz),mf (by omega) (by omega)]
  exact ⟨_,rfl,by omega,by omega⟩
theorem vO (n:Nat) (l:List Int) (i:Int) (h:0 ≤ i):∃ r,eX n l i=some r:=by
 unfold eX
 by_cases h0:l.length=0
 ·
  rw [if_pos (by simp; exact List.eq_nil_of_length_eq_zero h0)]; exact ⟨_,rfl⟩
 ·
  rw [if_neg (by simp; intro q; exact h0 (by rw [q]; rfl)),BV (by omega),Option.bind_some]
  have hp:(0:Int) < (l.length:Int):=by omega
  obtain ⟨x,hx,_⟩:=wT l (i:=i.tmod l.length) (Int.tmod_nonneg _ h) (Int.tmod_lt_of_pos _ hp)
  exact ⟨x,by rw [hx]; rfl⟩
def Kw (t:bf):Prop:=(t.Tag=[]∧t.Key=[]∧t.aL=[]∧t.Text.length ≤ 64)∨(DI t.Tag=true∧t.Text=[]∧t.Key.length ≤ 64∧CE t.aL)
structure Wd (nodes:List bf) (under:List Int) (lv:List Nat):Prop where
 lu:under.length=nodes.length
 ll:lv.length=nodes.length
 pos:0 < nodes.length
 le:nodes.length ≤ 13
 ok:∀ (j:Nat) (t:bf),nodes[j]? = some t→Kw t
 root:under[0]? = some (-1)∧lv[0]? = some 1
 par:∀ (j:Nat),0 < j→j < nodes.length→∃ (p:Nat) (t:bf) (v:Nat),under[j]? = some (p:Int)∧p < j∧nodes[p]? = some t∧t.Tag ≠ []∧lv[p]? = some v∧lv[j]? = some (v + 1)
 lim:∀ (j v:Nat),lv[j]? = some v→v ≤ 7∧1 ≤ v
section
variable {nodes:List bf} {under:List Int} {lv:List Nat}
theorem Gm (h:Wd nodes under lv):∀ (m j v:Nat),j ≤ m→lv[j]? = some v→∀ (k:Nat) (acc:Int),v + 1 < k→0 ≤ acc→acc + v ≤ 60→df under k (j:Int) acc=some (acc + v)
 | m,0,v,_,hv,k + 2,acc,hk,h0,h1=>by
  have hr:=h.root
  rw [hr.2] at hv; cases hv
  rw [df,if_pos (by simp; omega)]
  have:idx under ((0:Nat):Int)=some (-1):=by rw [nL]; exact hr.1
  rw [this,Option.bind_some,mf (by omega) (by omega),df,if_neg (by simp)]
  rfl
 | m + 1,j + 1,v,hj,hv,k + 1,acc,hk,h0,h1=>by
  have hjl:j + 1 < nodes.length:=by
   have:=(List.getElem?_eq_some_iff.1 hv).1
   rw [h.ll] at this; exact this
  obtain ⟨p,t,v',hu,hp,_,_,hvp,hvj⟩:=h.par (j + 1) (by omega) hjl
  rw [hv] at hvj; cases hvj
  have hl:=(h.lim (j + 1) (v' + 1) hv).1
  rw [df,if_pos (by simp; omega)]
  have:idx under ((j + 1:Nat):Int)=some (p:Int):=by rw [nL]; exact hu
  rw [this,Option.bind_some,mf (by omega) (by omega)]
  rw [Gm h m p v' (by omega) hvp k (acc + 1) (by omega) (by omega) (by omega)]
  congr 1
  push_cast; omega
 | m,0,v,_,hv,1,acc,hk,_,_=>by omega
theorem IL (h:Wd nodes under lv) (n:Nat) (hn:20 < n) {j v:Nat} (hv:lv[j]? = some v):iZ n under (j:Int)=some (v:Int):=by
 have hl:=(h.lim j v hv).1
 unfold iZ
 rw [Gm h j j v (Nat.le_refl _) hv n 0 (by omega) (by omega) (by omega)]
 simp
def lZ (under:List Int) (at_:Nat) (l:List Nat):List Nat:=l.filter fun j=>under[j]? == some (at_:Int)
def zX (nodes:List bf) (under:List Int):Nat→Nat→Tree
 | 0,_=>.mk [] [] [] [] []
 | f + 1,j=>match nodes[j]? with
  | some t=>.mk t.Tag t.Key t.Text t.aL ((lZ under j (List.range nodes.length)).map (zX nodes under f))
  | none=>.mk [] [] [] [] []
theorem tO (h:Wd nodes under lv) {j i:Nat} {l:List Nat} (hi:i ∈ lZ under j l):i < nodes.length∧j < i∧∃ v,lv[j]? = some v∧lv[i]? = some (v + 1)∧∃ t,nodes[j]? = some t∧t.Tag ≠ []:=by
 obtain ⟨_,h2⟩:=List.mem_filter.1 hi
 have h2:=eq_of_beq h2
 have hil:i < nodes.length:=by rw [← h.lu]; exact (List.getElem?_eq_some_iff.1 h2).1
 cases i with
 | zero=>rw [h.root.1] at h2; cases h2
 | succ i =>
  obtain ⟨p,t,v,hu,hp,ht,htg,hvp,hvj⟩:=h.par (i + 1) (by omega) hil
  rw [hu] at h2
  have:p=j:=by have:=Option.some.inj h2; omega
  subst this
  exact ⟨hil,hp,v,hvp,hvj,t,ht,htg⟩
theorem Ee (h:Wd nodes under lv):∀ (f g j:Nat),j < nodes.length→nodes.length ≤ j + f→nodes.length ≤ j + g→zX nodes under f j=zX nodes under g j
 | 0,g,j,hj,hf,_=>by omega
 | f + 1,0,j,hj,_,hg=>by omega
 | f + 1,g + 1,j,hj,hf,hg=>by
  rw [zX,zX]
  split
  ·
   congr 1
   apply List.map_congr_left
   intro i hi
   obtain ⟨h1,h2,_⟩:=tO h hi
   exact Ee h f g i h1 (by omega) (by omega)
  ·
   rfl
def gt (nodes:List bf) (under:List Int) (j:Nat):Tree:=zX nodes under (nodes.length + 1) j
theorem En (h:Wd nodes under lv) {j:Nat} {t:bf} (ht:nodes[j]? = some t):gt nodes under j=.mk t.Tag t.Key t.Text t.aL ((lZ under j (List.range nodes.length)).map (gt nodes under)):=by
 unfold gt
 rw [zX]
 simp only [ht]
 congr 1
 apply List.map_congr_left
 intro i hi
 obtain ⟨h1,h2,_⟩:=tO h hi
 exact Ee h _ _ i h1 (by omega) (by omega)
theorem wZ (h:Wd nodes under lv) (self:List bf→List Int→Int→Option Tree) (j:Nat) (z:bf) (hs:∀ i,i < nodes.length→j < i→self nodes under (i:Int)=some (gt nodes under i)):∀ (m i k:Nat) (acc:List Tree),nodes.length=i + m→m < k→acc.length ≤ i →
  bV self nodes under (j:Int) z k acc (i:Int)=some (.mk z.Tag z.Key z.Text z.aL (acc ++ (lZ under j (List.range' i m)).map (gt nodes under)))
 | 0,i,k + 1,acc,hm,_,_=>by
  rw [bV,if_neg (by rw [hm]; simp)]
  simp [lZ]
 | m + 1,i,k + 1,acc,hm,hk,ha=>by
  have hle:=h.le
  have hil:i < under.length:=by rw [h.lu]; omega
  rw [bV,if_pos (by rw [hm]; simp; omega),nL,List.getElem?_eq_getElem hil,Option.bind_some]
  rw [List.range'_succ]
  by_cases hu:under[i]=(j:Int)
  ·
   have hin:i ∈ lZ under j [i]:=by simp [lZ,hil,hu]
   obtain ⟨g1,g2,_⟩:=tO h hin
   rw [if_pos (by simpa using hu),hs i g1 g2,Option.bind_some,lU (by rw [bnd]; simp; omega),Option.bind_some]
   unfold eO
   rw [mf (by omega) (by omega)]
   have:=wZ h self j z hs m (i + 1) k (acc ++ [gt nodes under i]) (by omega) (by omega) (by simp; omega)
   push_cast at this
   rw [this]
   have:lZ under j (i :: List.range' (i + 1) m)=i :: lZ under j (List.range' (i + 1) m):=by
    unfold lZ; rw [List.filter_cons,if_pos (by simp [hil,hu])]
   rw [this]; simp
  ·
   rw [if_neg (by simpa using hu)]
   unfold eO
   rw [mf (by omega) (by omega)]
   have:=wZ h self j z hs m (i + 1) k acc (by omega) (by omega) (by omega)
   push_cast at this
   rw [this]
   have:lZ under j (i :: List.range' (i + 1) m)=lZ under j (List.range' (i + 1) m):=by
    unfold lZ; rw [List.filter_cons,if_neg (by simp [hil,hu])]
   rw [this]
theorem F8 (h:Wd nodes under lv):∀ (n j:Nat),j < nodes.length→2 * nodes.length + 2 ≤ j + n→bW n nodes under (j:Int)=some (gt nodes under j)
 | 0,j,hj,hn=>by omega
 | n + 1,j,hj,hn=>by
  rw [bW,nL,List.getElem?_eq_getElem hj,Option.bind_some]
  have:=wZ h (bW n) j nodes[j] (fun i hi hji=>F8 h n i hi (by omega)) nodes.length 0 n [] (by omega) (by omega) (by simp)
  rw [show ((0:Nat):Int)=0 from rfl] at this
  rw [this,En h (List.getElem?_eq_getElem hj),List.range_eq_range']
  rfl
theorem F9 (h:Wd nodes under lv):∀ (m j v:Nat),nodes.length ≤ j + m→lv[j]? = some v→om (gt nodes under j)∧Hw (gt nodes under j) + v ≤ 8
 | 0,j,v,hm,hv=>by
  have:=(List.getElem?_eq_some_iff.1 hv).1
  rw [h.ll] at this; omega
 | m + 1,j,v,hm,hv=>by
  have hj:j < nodes.length:=by rw [← h.ll]; exact (List.getElem?_eq_some_iff.1 hv).1
  have ht:=List.getElem?_eq_getElem hj
  have hv7:=h.lim j v hv
  rw [En h ht]
  have hk:∀ i ∈ lZ under j (List.range nodes.length),om (gt nodes under i)∧Hw (gt nodes under i) + (v + 1) ≤ 8:=fun i hi=>by
   obtain ⟨g1,g2,v',g3,g4,_⟩:=tO h hi
   rw [hv] at g3; cases g3
   exact F9 h m i (v + 1) (by omega) g4
  have hlen:(lZ under j (List.range nodes.length)).length ≤ 13:=by
   have:=List.length_filter_le (fun i=>under[i]? == some (j:Int)) (List.range nodes.length)
   rw [List.length_range] at this
   have:=h.le
   unfold lZ; omega
  refine ⟨(wB _).2 ⟨?_,?_⟩,?_⟩
  ·
   rcases h.ok j _ ht with ⟨a1,a2,a3,a4⟩ | ⟨a1,a2,a3,a4⟩
   ·
    refine .inl ⟨a1,a2,a3,?_,a4⟩
    show List.map _ _=[]
    rw [List.map_eq_nil_iff]
    cases hq:lZ under j (List.range nodes.length) with
    | nil=>rfl
    | cons i l =>
     obtain ⟨_,_,_,_,_,t,q1,q2⟩:=tO h (l:=List.range nodes.length) (i:=i) (j:=j) (by rw [hq]; simp)
     rw [ht] at q1; cases q1
     exact absurd a1 q2
   ·
    refine .inr ⟨a1,a2,a3,a4,?_⟩
    show (List.map _ _).length ≤ 24
    rw [List.length_map]; omega
  ·
   show om.lg (List.map _ _)
   rw [EJ]
   intro z hz
   obtain ⟨i,hi,rfl⟩:=List.mem_map.1 hz
   exact (hk i hi).1
  ·
   rw [Hw]
   have:∀ (l:List Nat),(∀ i ∈ l,Hw (gt nodes under i) + (v + 1) ≤ 8)→Jm (l.map (gt nodes under)) + (v + 1) ≤ 8:=by
    intro l
    induction l with
    | nil=>intro _; simp only [List.map_nil,Jm]; omega
    | cons i l ih =>
     intro hl
     have h1:=hl i List.mem_cons_self
     have h2:=ih (fun i hi=>hl i (List.mem_cons_of_mem _ hi))
     simp only [List.map_cons,Jm]; omega
   have:=this _ (fun i hi=>(hk i hi).2)
   omega
def kX (p:Nat→Bool) (f:Nat→Nat):List Nat→Nat
 | []=>0
 | i :: l=>(if p i then f i else 0) + kX p f l
theorem uA (f:Nat→Tree) (p:Nat→Bool):∀ (l:List Nat),pJ ((l.filter p).map f)=kX p (fun i=>oz (f i)) l
 | []=>rfl
 | i :: l=>by
  rw [List.filter_cons,kX]
  by_cases h:p i=true
  ·
   rw [if_pos h,if_pos h,List.map_cons,pJ,uA f p l]
  ·
   rw [if_neg h,if_neg h,uA f p l]; omega
theorem w9 (f:Nat→Nat) (p q r:Nat→Bool):∀ (l:List Nat),(∀ i ∈ l,p i=(q i || r i)∧(q i && r i)=false)→kX p f l=kX q f l + kX r f l
 | [],_=>rfl
 | i :: l,h=>by
  obtain ⟨h1,h2⟩:=h i List.mem_cons_self
  have ih:=w9 f p q r l (fun i hi=>h i (List.mem_cons_of_mem _ hi))
  rw [kX,kX,kX,h1,ih]
  cases hq:q i <;> cases hr:r i <;> simp_all <;> omega
theorem uS (f:Nat→Nat) (p:Nat→Bool):∀ (l:List Nat),(∀ i ∈ l,p i=false)→kX p f l=0
 | [],_=>rfl
 | i :: l,h=>by
  rw [kX,h i List.mem_cons_self,uS f p l (fun i hi=>h i (List.mem_cons_of_mem _ hi))]; simp
theorem Bn (f:Nat→Nat) (p:Nat→Bool):∀ (l m:List Nat),kX p f (l ++ m)=kX p f l + kX p f m
 | [],m=>by simp [kX]
 | i :: l,m=>by rw [List.cons_append,kX,kX,Bn f p l m]; omega
def ahead (under:List Int) (m:Nat) (j:Nat):Bool:=match under[j]? with
 | some u=>decide (u < (m:Int))
 | none=>false
theorem Jl (h:Wd nodes under lv):∀ (d m:Nat),m + d=nodes.length→kX (ahead under m) (fun i=>oz (gt nodes under i)) (List.range' m d)=d
 | 0,m,_=>rfl
 | d + 1,m,hm=>by
  have ih:=Jl h d (m + 1) (by omega)
  have hml:m < nodes.length:=by omega
  have hmu:m < under.length:=by rw [h.lu]; exact hml
  rw [List.range'_succ,kX]
  have hself:ahead under m m=true:=by
   unfold ahead
   cases m with
   | zero=>rw [h.root.1]; rfl
   | succ m =>
    obtain ⟨p,_,_,hu,hp,_⟩:=h.par (m + 1) (by omega) hml
    rw [hu]; simp; omega
  rw [if_pos hself,En h (List.getElem?_eq_getElem hml),oz]
  unfold lZ
  rw [uA]
  have hr:List.range nodes.length=List.range' 0 (m + 1) ++ List.range' (m + 1) d:=by
   have hq:=List.range'_append_1 (s:=0) (m:=m + 1) (n:=d)
   rw [Nat.zero_add] at hq
   rw [List.range_eq_range',hq]
   congr 1; omega
  rw [hr,Bn,uS _ _ (List.range' 0 (m + 1)) (fun i hi=>?_)]
  ·
   have hsp:=w9 (fun i=>oz (gt nodes under i)) (ahead under (m + 1)) (ahead under m) (fun j=>under[j]? == some (m:Int)) (List.range' (m + 1) d) (fun i hi=>?_)
   ·
    rw [hsp] at ih
    omega
   ·
    have hil:i < under.length:=by
     have:=List.mem_range'_1.1 hi
     rw [h.lu]; omega
    unfold ahead
    rw [List.getElem?_eq_getElem hil]
    generalize under[i]=u
    simp only
    rcases Int.lt_trichotomy u (m:Int) with q | q | q
    ·
     have q1:u < ((m + 1:Nat):Int):=by omega
     have q2:u ≠ (m:Int):=by omega
     simp only [q,q1,decide_true,Bool.true_or,Bool.true_and,true_and]
     simpa using q2
    ·
     subst q
     have q1:(m:Int) < ((m + 1:Nat):Int):=by omega
     have q2:¬ (m:Int) < (m:Int):=by omega
     simp only [q1,q2,decide_true,decide_false,Bool.false_or,Bool.false_and,and_true,beq_self_eq_true]
    ·
     have q1:¬ u < ((m + 1:Nat):Int):=by omega
     have q2:¬ u < (m:Int):=by omega
     have q3:u ≠ (m:Int):=by omega
     simp only [q1,q2,decide_false,Bool.false_or,Bool.false_and,and_true]
     symm; simpa using q3
  ·
   cases hc:under[i]? == some (m:Int) with
   | false=>rfl
   | true =>
    have him:=List.mem_range'_1.1 hi
    obtain ⟨_,q,_⟩:=tO h (l:=[i]) (i:=i) (j:=m) (by simp [lZ,hc])
    omega
theorem Lm (h:Wd nodes under lv):oz (gt nodes under 0)=nodes.length:=by
 obtain ⟨d,hd⟩:∃ d,nodes.length=d + 1:=⟨nodes.length - 1,by have:=h.pos; omega⟩
 have:=Jl h nodes.length 0 (by omega)
 rw [hd,List.range'_succ,kX] at this
 have h0:ahead under 0 0=true:=by unfold ahead; rw [h.root.1]; rfl
 rw [if_pos h0,uS _ _ _ (fun i hi=>?_)] at this
 ·
  rw [hd]; omega
 ·
  have hi':=List.mem_range'_1.1 hi
  obtain ⟨p,_,_,hu,_⟩:=h.par i (by omega) (by omega)
  unfold ahead
  rw [hu]; simp
end
def words:List Str:=[[97],[98],[105,116,101,109],[120,32,121],[37],[97,47,98],[46,46],[122],[49],[108,105,115,116],[255],[63,61,38]]
theorem Bz:∀ w ∈ words,w.length ≤ 64:=by decide
theorem Kj:∀ s ∈ ([[97],[98],[108,105],[111,117,116,108,101,116]]:List Str),DI s=true:=by decide +kernel
theorem LG:DI [100,105,118]=true:=by decide +kernel
section
variable {nodes:List bf} {under:List Int} {lv:List Nat}
theorem getElem?_push {α:Type} (l:List α) (x:α) (j:Nat):(l ++ [x])[j]? = if j < l.length then l[j]? else if j=l.length then some x else none:=by
 by_cases h:j < l.length
 ·
  rw [if_pos h,List.getElem?_append_left h]
 ·
  rw [if_neg h,List.getElem?_append_right (by omega)]
  by_cases h2:j=l.length
  ·
   rw [if_pos h2,h2]; simp
  ·
   rw [if_neg h2]
   have:∃ k,j - l.length=k + 1:=⟨j - l.length - 1,by omega⟩
   obtain ⟨k,hk⟩:=this
   rw [hk]; rfl
theorem lY {α:Type} {l:List α} {x y:α} {j:Nat} (h:l[j]? = some y):(l ++ [x])[j]? = some y:=by
 rw [List.getElem?_append_left (List.getElem?_eq_some_iff.1 h).1]; exact h
theorem F5 (h:Wd nodes under lv) (hl:nodes.length ≤ 12) {t:bf} (ht:Kw t) {p v:Nat} {tp:bf} (hp:nodes[p]? = some tp) (htp:tp.Tag ≠ []) (hv:lv[p]? = some v) (h6:v ≤ 6):Wd (nodes ++ [t]) (under ++ [(p:Int)]) (lv ++ [v + 1]) where
 lu:=by simp [h.lu]
 ll:=by simp [h.ll]
 pos:=by simp
 le:=by simp; omega
 ok:=fun j u hu=>by
  rw [getElem?_push] at hu
  split at hu
  ·
   exact h.ok j u hu
  ·
   split at hu
   ·
    cases hu; exact ht
   ·
    cases hu
 root:=⟨lY h.root.1,lY h.root.2⟩
 par:=fun j h0 hj=>by
  simp only [List.length_append,List.length_singleton] at hj
  by_cases hjl:j < nodes.length
  ·
   obtain ⟨q,tq,vq,h1,h2,h3,h4,h5,h6⟩:=h.par j h0 hjl
   exact ⟨q,tq,vq,lY h1,h2,lY h3,h4,lY h5,lY h6⟩
  ·
   have hj:j=nodes.length:=by omega
   subst hj
   have hpl:=(List.getElem?_eq_some_iff.1 hp).1
   refine ⟨p,tp,v,?_,hpl,lY hp,htp,lY hv,?_⟩
   ·
    rw [getElem?_push,h.lu,if_neg (by omega),if_pos rfl]
   ·
    rw [getElem?_push,h.ll,if_neg (by omega),if_pos rfl]
 lim:=fun j w hw=>by
  rw [getElem?_push] at hw
  split at hw
  ·
   exact h.lim j w hw
  ·
   split at hw
   ·
    cases hw; omega
   ·
    cases hw
def uI (nodes:List bf):Prop:=∃ t,nodes[0]? = some t∧t.Tag=[100,105,118]∧t.Key=[]
theorem FI (h:Wd nodes under lv) (hr:uI nodes) (n:Nat) (hn:20 < n) (hl:nodes.length ≤ 12) {i:Int} (again:List bf→List Int→Int→Option Tree) {p:Nat} {tp:bf} (hp:nodes[p]? = some tp) (htp:tp.Tag ≠ []) (a b c:Str) (ats:List Attr) (ht:Kw ⟨a,b,c,ats⟩) :
  ∃ (u:Int) (w:Nat),Wd (nodes ++ [⟨a,b,c,ats⟩]) (under ++ [u]) (lv ++ [w])∧cZ n nodes under i again (p:Int) a b c ats=again (nodes ++ [⟨a,b,c,ats⟩]) (under ++ [u]) (IntKind.wrap .i64 (i + 1)):=by
 have hpl:p < lv.length:=by rw [h.ll]; exact (List.getElem?_eq_some_iff.1 hp).1
 have hv:=List.getElem?_eq_getElem hpl
 have key:∀ (q:Nat) (u:Int),u=(q:Int)→dD nodes under i again a b c ats u=again (nodes ++ [⟨a,b,c,ats⟩]) (under ++ [u]) (IntKind.wrap .i64 (i + 1)):=fun q u hu=>by
  unfold dD
  rw [lU (by rw [bnd]; simp; omega),Option.bind_some,lU (by rw [bnd,h.lu]; simp; omega),Option.bind_some]
 unfold cZ
 rw [IL h n hn hv,Option.bind_some]
 by_cases h6:6 < lv[p]
 ·
  obtain ⟨t0,h1,h2,_⟩:=hr
  refine ⟨((0:Nat):Int),2,F5 h hl ht h1 (by rw [h2]; simp) h.root.2 (by omega),?_⟩
  rw [if_pos (by rw [decide_eq_true_eq]; omega)]
  exact key 0 _ rfl
 ·
  refine ⟨(p:Int),lv[p] + 1,F5 h hl ht hp htp hv (by omega),?_⟩
  rw [if_neg (by rw [decide_eq_true_eq]; omega)]
  exact key p _ rfl
theorem Kb:(words.length:Int)=12:=rfl
theorem I5 {tag key:Str} (h1:tag ∈ ([[97],[98],[108,105],[111,117,116,108,101,116]]:List Str)) (h2:key.length ≤ 64) {ats:List Attr} (h3:CE ats):Kw ⟨tag,key,[],ats⟩:=.inr ⟨Kj tag h1,rfl,h2,h3⟩
theorem Jk (h:Wd nodes under lv) (hr:uI nodes) (n:Nat) (hn:20 < n) (hl:nodes.length ≤ 12) (k:dP) {i:Nat} (hi:i ≤ 20) (again:List bf→List Int→Int→Option Tree) {p:Nat} {tp:bf} (hp:nodes[p]? = some tp) (htp:tp.Tag ≠ []) {tag key:Str} (h1:tag ∈ ([[97],[98],[108,105],[111,117,116,108,101,116]]:List Str)) (h2:key.length ≤ 64) :
  ∃ (t:bf) (u:Int) (w:Nat),Wd (nodes ++ [t]) (under ++ [u]) (lv ++ [w])∧dC n k words nodes under (i:Int) again (p:Int) tag key=again (nodes ++ [t]) (under ++ [u]) ((i + 1:Nat):Int):=by
 obtain ⟨r,hr1⟩:=vO n k.Texts (i:Int) (by omega)
 unfold dC
 rw [hr1,Option.bind_some]
 by_cases hb:(LM .i64 r 1 == 1)=true
 ·
  rw [if_pos hb,mf (by omega) (by omega)]
  obtain ⟨r2,hr2⟩:=vO n k.Texts ((i:Int) + 1) (by omega)
  rw [hr2,Option.bind_some,Kb,mf (by omega) (by omega)]
  obtain ⟨q,q1,q2,q3⟩:=nQ n r2 0 (12 - 1) (by omega) (by omega) (by omega)
  obtain ⟨w,w1,w2,_⟩:=wT words q2 (by rw [Kb]; omega)
  rw [q1,Option.bind_some,w1,Option.bind_some]
  obtain ⟨u,v,k1,k2⟩:=FI h hr n hn hl (i:=(i:Int)) again hp htp tag key [] [Attr.mk [120] w] (I5 h1 h2 (.inr ⟨_,rfl,by simp,by simp,Bz w w2⟩))
  rw [mf (by omega) (by omega)] at k2
  exact ⟨_,u,v,k1,k2⟩
 ·
  rw [if_neg hb]
  obtain ⟨u,v,k1,k2⟩:=FI h hr n hn hl (i:=(i:Int)) again hp htp tag key [] [] (I5 h1 h2 (.inl rfl))
  rw [mf (by omega) (by omega)] at k2
  exact ⟨_,u,v,k1,k2⟩
theorem Lx (h:Wd nodes under lv) (hr:uI nodes) (n:Nat) (hn:20 < n) (hl:nodes.length ≤ 12) (k:dP) {i:Nat} (hi:i ≤ 20) (again:List bf→List Int→Int→Option Tree) {p:Nat} {tp:bf} (hp:nodes[p]? = some tp) (htp:tp.Tag ≠ []) :
  ∃ (t:bf) (u:Int) (w:Nat),Wd (nodes ++ [t]) (under ++ [u]) (lv ++ [w])∧cO n k words nodes under (i:Int) again (p:Int)=again (nodes ++ [t]) (under ++ [u]) ((i + 1:Nat):Int):=by
 obtain ⟨r,hr1⟩:=vO n k.Texts (i:Int) (by omega)
 obtain ⟨q,q1,q2,q3⟩:=nQ n r 0 (12 - 1) (by omega) (by omega) (by omega)
 obtain ⟨w,w1,w2,_⟩:=wT words q2 (by rw [Kb]; omega)
 obtain ⟨r2,hr2⟩:=vO n k.Kinds (i:Int) (by omega)
 obtain ⟨c,c1,c2,c3⟩:=nQ n r2 0 5 (by omega) (by omega) (by omega)
 unfold cO
 rw [hr1,Option.bind_some,Kb,mf (by omega) (by omega),q1,Option.bind_some,w1,Option.bind_some,hr2,Option.bind_some,c1,Option.bind_some]
 by_cases hc:c < 4
 ·
  rw [if_pos (by rw [decide_eq_true_eq]; exact hc)]
  obtain ⟨tag,t1,t2,_⟩:=wT ([[97],[98],[108,105],[111,117,116,108,101,116]]:List Str) c2 (by simp; omega)
  obtain ⟨r3,hr3⟩:=vO n k.Keys (i:Int) (by omega)
  obtain ⟨d,d1,d2,d3⟩:=nQ n r3 0 6 (by omega) (by omega) (by omega)
  rw [t1,Option.bind_some,hr3,Option.bind_some,d1,Option.bind_some]
  by_cases hd:d < 4
  ·
   rw [if_pos (by rw [decide_eq_true_eq]; exact hd)]
   exact Jk h hr n hn hl k hi again hp htp t2 (by simp)
  ·
   rw [if_neg (by rw [decide_eq_true_eq]; exact hd)]
   exact Jk h hr n hn hl k hi again hp htp t2 (by simp)
 ·
  rw [if_neg (by rw [decide_eq_true_eq]; exact hc)]
  obtain ⟨u,v,k1,k2⟩:=FI h hr n hn hl (i:=(i:Int)) again hp htp [] [] w [] (.inl ⟨rfl,rfl,rfl,Bz w w2⟩)
  rw [mf (by omega) (by omega)] at k2
  exact ⟨_,u,v,k1,k2⟩
theorem BA (n:Nat) (hn:100 < n) (k:dP):∀ (m i f:Nat) (nodes:List bf) (under:List Int) (lv:List Nat),Wd nodes under lv→uI nodes→nodes.length=i + 1→i + m=12→m < f →
  ∃ nodes' under' lv',Wd nodes' under' lv'∧uI nodes'∧aT n k words f nodes under (i:Int)=bW n nodes' under' 0
 | m,i,f + 1,nodes,under,lv,h,hr,hl,hm,hf=>by
  rw [aT]
  by_cases hc:i < k.Under.length∧i < 12
  ·
   obtain ⟨m,rfl⟩:∃ m',m=m' + 1:=⟨m - 1,by omega⟩
   rw [if_pos (by simp; omega),nL,List.getElem?_eq_getElem hc.1,Option.bind_some]
   rw [mf (n:=(nodes.length:Int) - 1) (by omega) (by omega)]
   obtain ⟨q,q1,q2,q3⟩:=nQ n k.Under[i] 0 ((nodes.length:Int) - 1) (by omega) (by omega) (by omega)
   obtain ⟨t,t1,t2,t3⟩:=wT nodes q2 (by omega)
   rw [q1,Option.bind_some,t1,Option.bind_some]
   have go:∀ (p:Nat) (tp:bf),nodes[p]? = some tp→tp.Tag ≠ []→∃ nodes' under' lv',Wd nodes' under' lv'∧uI nodes'∧cO n k words nodes under (i:Int) (aT n k words f) (p:Int)=bW n nodes' under' 0:=fun p tp hp htp=>by
    obtain ⟨t',u,w,k1,k2⟩:=Lx (i:=i) h hr n (by omega) (by omega) k (by omega) (aT n k words f) hp htp
    have hr':uI (nodes ++ [t']):=by
     obtain ⟨t0,h1,h2⟩:=hr
     exact ⟨t0,lY h1,h2⟩
    obtain ⟨n',u',l',g1,g2,g3⟩:=BA n hn k m (i + 1) f _ _ _ k1 hr' (by simp; omega) (by omega) (by omega)
    exact ⟨n',u',l',g1,g2,by rw [k2,g3]⟩
   by_cases hb:(t.Tag == [])=true
   ·
    rw [if_pos hb]
    obtain ⟨t0,h1,h2,h3⟩:=hr
    exact go 0 t0 h1 (by rw [h2]; simp)
   ·
    rw [if_neg hb]
    have hqn:q=(q.toNat:Int):=by omega
    rw [hqn]
    exact go q.toNat t t3 (by simpa using hb)
  ·
   rw [if_neg (by simp; omega)]
   exact ⟨nodes,under,lv,h,hr,by cases bW n nodes under 0 <;> rfl⟩
end
theorem Gj (k:dP) (n:Nat) (hn:100 < n):∃ t,fB n k=some t∧om t∧oz t ≤ 13∧Hw t ≤ 7∧t.Tag=[100,105,118]∧t.Key=[]:=by
 have h0:Wd [⟨[100,105,118],[],[],[]⟩] [-1] [1]:=by
  refine ⟨rfl,rfl,by simp,by simp,fun j t ht=>?_,⟨rfl,rfl⟩,fun j h1 h2=>?_,fun j v hv=>?_⟩
  ·
   cases j with
   | zero=>simp at ht; subst ht; exact .inr ⟨LG,rfl,by simp,.inl rfl⟩
   | succ j=>simp at ht
  ·
   simp at h2; omega
  ·
   cases j with
   | zero=>simp at hv; subst hv; omega
   | succ j=>simp at hv
 obtain ⟨nodes,under,lv,h,hr,he⟩:=BA n hn k 12 0 n _ _ _ h0 ⟨_,rfl,rfl,rfl⟩ rfl rfl (by omega)
 have hle:=h.le
 have hg:=F9 h nodes.length 0 1 (by omega) h.root.2
 have hc:=Lm h
 obtain ⟨t0,r1,r2,r3⟩:=hr
 refine ⟨gt nodes under 0,?_,hg.1,by rw [hc]; exact hle,by omega,by rw [En h r1]; exact r2,by rw [En h r1]; exact r3⟩
 unfold fB jK
 rw [Option.bind_some]
 have:=F8 h n 0 h.pos (by omega)
 rw [show ((0:Nat):Int)=0 from rfl] at this he
 rw [← this,← he]
 rfl
end W
end Pr
end Go.Ev

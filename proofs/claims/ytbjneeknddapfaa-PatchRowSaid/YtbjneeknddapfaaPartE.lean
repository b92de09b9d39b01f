import Derived.Test.YtbjneeknddapfaaPartD
import Derived.IntWalk
namespace Go.Ev
namespace Pr
set_option linter.unusedVariables false
set_option linter.unusedSimpArgs false
open Go.Proofs
section
variable {R:bK} (E:Jm R)
include E
set_option maxRecDepth 20000 in
set_option maxHeartbeats 4000000 in
theorem nD:∀ (n:Nat) (a2:au) (a6:Int) (a7:Tree) (r:(Bool × au)),dP n a2 a6 a7=some r→∀ (b1:Nat) (v3:AV) (ws4:List (List AV)) (w5:AV),cK R cfg.P 40 [.ptr b1 0 0,.d (.int .i64 a6),.d (ax a7)] [.box b1 [v3,w5],ay ae ah.kids 7 5 v3 ws4 a2.l none,aG w5 a2.freed] (fun v l=>v=.d (.bool r.1)∧∃ dv0 dws0 dw0,l=[.box b1 [dv0,dw0],ay ae ah.kids 7 5 dv0 dws0 r.2.l none,aG dw0 r.2.freed])
 | 0,a2,a6,a7,r,h,b1,v3,ws4,w5=>by simp [dP] at h
 | n + 1,a2,a6,a7,r,h,b1,v3,ws4,w5=>by
  have ih:=nD n
  unfold dP at h
  refine cK.of_wp (C:=cfg) Try.func40 rfl JM rfl (fun B0 S0 H0=>?_)
  replace H0:Has B0 S0 [.box b1 [v3,w5],ay ae ah.kids 7 5 v3 ws4 a2.l none,aG w5 a2.freed]:=H0
  refine aA.seq ?_
  refine aA.region E.obj rfl ?_
  refine ai.box H0 rfl rfl rfl (Tree.gu _) rfl (fun b8 S9 H10=>?_)
  refine ai.val rfl (aj rfl) rfl ?_
  refine ai.nil ?_
  refine aA.seq ?_
  refine aA.region E.obj rfl ?_
  refine ai.val rfl (aa rfl) rfl ?_
  refine ai.val rfl (aa rfl) rfl ?_
  obtain ⟨z11,hzz11,h⟩:=bind_some h
  refine ai.eB (ins:=[.box b1 [v3,w5],ay ae ah.kids 7 5 v3 ws4 a2.l none,aG w5 a2.freed]) (more:=[.box b8 [(.d (.str a7.Tag)),(.d (.str a7.Key)),(.d (.str a7.Text)),(.d (.sl ((a7.aV).map aD) false)),(.d (.sl ((a7.Kids).map ax) false))]]) (H10.sl [1,2,3,0] rfl rfl) rfl (aI rfl rfl) (lu E n _ _ _ hzz11 b1 v3 ws4 w5) (.cons (.refl _) (.cons (.refl _) .nil)) rfl ?_
  rintro _ S12 _ ⟨rfl,rfl⟩ H13
  have H14:Has B0 S12 [.box b8 [(.d (.str a7.Tag)),(.d (.str a7.Key)),(.d (.str a7.Text)),(.d (.sl ((a7.aV).map aD) false)),(.d (.sl ((a7.Kids).map ax) false))],.box b1 [v3,w5],ay ae ah.kids 7 5 v3 ws4 a2.l none,aG w5 a2.freed]:=H13.sl [3,0,1,2] rfl rfl
  refine ai.val rfl (aa rfl) rfl ?_
  refine ai.val rfl (dX rfl rfl) rfl ?_
  refine ai.val rfl (dX rfl rfl) rfl ?_
  refine ai.alloc H14 rfl yg jZ rfl rfl (fun b15 S16 H17=>?_)
  refine ai.store H17 (i:=0) rfl rfl rfl rfl (Tree.gu _) rfl fw rfl ow rfl rfl rfl (fun S18 H19=>?_)
  refine ai.val rfl (aj rfl) rfl ?_
  refine ai.nil ?_
  refine aA.seq ?_
  refine aA.seq ?_
  refine aA.region E.obj rfl ?_
  refine ai.val rfl (aa rfl) rfl ?_
  refine ai.val rfl (kr rfl) rfl ?_
  refine ai.val rfl (aa rfl) rfl ?_
  refine ai.jr 6 29 (.d (.bool ((!z11.2) || (!(z11.1.Tag == a7.Tag))))) ?_ ?_
  ·
   rcases Bool.eq_false_or_eq_true ((!z11.2)) with hB20 | hB20
   ·
    refine ai.bool hB20 ?_
    refine ai.no rfl rfl ?_
    refine ai.no rfl rfl ?_
    refine ai.no rfl rfl ?_
    refine ai.no rfl rfl ?_
    refine ai.no rfl rfl ?_
    refine ai.val rfl (aF (b:=true) rfl rfl) rfl ?_
    exact ai.nil ⟨_,rfl,(ak.put (ak.push rfl (ak.push rfl (ak.push rfl (ak.push rfl (ak.push rfl (ak.put (.refl _) (Less.eq (by rw [hB20])))))))) (Less.eq (by rw [hB20]; rw [Bool.true_or])))⟩
   ·
    refine ai.bool hB20 ?_
    refine ai.val rfl (aC rfl qo uf rfl) rfl ?_
    refine ai.val rfl (aL H19 (i:=0) rfl rfl (aQ uF rfl)) rfl ?_
    refine ai.val rfl (aC rfl qo uf rfl) rfl ?_
    refine ai.val rfl (aL H19 (i:=1) rfl rfl (aQ uF rfl)) rfl ?_
    refine ai.val rfl (aB rfl rfl lT) rfl ?_
    refine ai.val rfl (aF (b:=false) rfl rfl) rfl ?_
    exact ai.nil ⟨_,rfl,(ak.put (ak.push rfl (ak.push rfl (ak.push rfl (ak.push rfl (ak.push rfl (ak.put (.refl _) (Less.eq (by rw [hB20])))))))) (Less.eq (by rw [hB20]; rw [Bool.false_or])))⟩
  ·
   refine ai.val rfl (aa rfl) rfl ?_
   refine ai.jr 6 36 (.d (.bool (((!z11.2) || (!(z11.1.Tag == a7.Tag))) || (!(z11.1.Key == a7.Key))))) ?_ ?_
   ·
    rcases Bool.eq_false_or_eq_true (((!z11.2) || (!(z11.1.Tag == a7.Tag)))) with hB21 | hB21
    ·
     refine ai.bool hB21 ?_
     refine ai.no rfl rfl ?_
     refine ai.no rfl rfl ?_
     refine ai.no rfl rfl ?_
     refine ai.no rfl rfl ?_
     refine ai.no rfl rfl ?_
     refine ai.val rfl (aF (b:=true) rfl rfl) rfl ?_
     exact ai.nil ⟨_,rfl,(ak.put (ak.push rfl (ak.push rfl (ak.push rfl (ak.push rfl (ak.push rfl (ak.put (.refl _) (Less.eq (by rw [hB21])))))))) (Less.eq (by rw [hB21]; rw [Bool.true_or])))⟩
    ·
     refine ai.bool hB21 ?_
     refine ai.val rfl (aC rfl uD uf rfl) rfl ?_
     refine ai.val rfl (aL H19 (i:=0) rfl rfl (aQ uF rfl)) rfl ?_
     refine ai.val rfl (aC rfl uD uf rfl) rfl ?_
     refine ai.val rfl (aL H19 (i:=1) rfl rfl (aQ uF rfl)) rfl ?_
     refine ai.val rfl (aB rfl rfl lT) rfl ?_
     refine ai.val rfl (aF (b:=false) rfl rfl) rfl ?_
     exact ai.nil ⟨_,rfl,(ak.put (ak.push rfl (ak.push rfl (ak.push rfl (ak.push rfl (ak.push rfl (ak.put (.refl _) (Less.eq (by rw [hB21])))))))) (Less.eq (by rw [hB21]; rw [Bool.false_or])))⟩
   ·
    refine ai.nil ?_
    refine aA.cond rfl (fun hb22=>?_) (fun hb22=>?_)
    ·
     replace h:=dF hb22 h
     refine aA.seq ?_
     refine aA.region E.obj rfl ?_
     refine ai.val rfl (aj rfl) rfl ?_
     refine ai.nil ?_
     have hr:=Option.some.inj h
     subst hr
     exact aA.ret ⟨_,rfl,rfl,_,_,_,.refl _,(.refl _),⟨rfl,v3,ws4,w5,rfl⟩,H19.sl [2,3,4] rfl rfl⟩
    ·
     replace h:=dH hb22 h
     refine aA.skip ?_
     refine aA.seq ?_
     refine aA.seq ?_
     refine aA.region E.obj rfl ?_
     refine ai.val rfl (aC rfl qo uf rfl) rfl ?_
     refine ai.val rfl (aL H19 (i:=1) rfl rfl (aQ uF rfl)) rfl ?_
     refine ai.val rfl (aB rfl rfl om) rfl ?_
     refine ai.nil ?_
     refine aA.cond rfl (fun hb23=>?_) (fun hb23=>?_)
     ·
      replace h:=dF hb23 h
      refine aA.seq ?_
      refine aA.region E.obj rfl ?_
      refine ai.val rfl (aa rfl) rfl ?_
      refine ai.val rfl (aa rfl) rfl ?_
      refine ai.val rfl (aC rfl zG uf rfl) rfl ?_
      refine ai.val rfl (aL H19 (i:=1) rfl rfl (aQ uF rfl)) rfl ?_
      obtain ⟨z24,hzz24,h⟩:=bind_some h
      refine ai.eB (ins:=[.box b1 [v3,w5],ay ae ah.kids 7 5 v3 ws4 a2.l none,aG w5 a2.freed]) (more:=[.box b15 [(.d (.str z11.1.Tag)),(.d (.str z11.1.Key)),(.d (.str z11.1.Text)),(.d (.sl ((z11.1.aV).map aD) false)),(.d (.sl ((z11.1.Kids).map ax) false))],.box b8 [(.d (.str a7.Tag)),(.d (.str a7.Key)),(.d (.str a7.Text)),(.d (.sl ((a7.aV).map aD) false)),(.d (.sl ((a7.Kids).map ax) false))]]) (H19.sl [2,3,4,0,1] rfl rfl) rfl (aI rfl rfl) (xB E n _ _ _ _ hzz24 b1 v3 ws4 w5) (.cons (.refl _) (.cons (.refl _) (.cons (.refl _) .nil))) rfl ?_
      rintro _ S27 _ ⟨rfl,ws25,w26,rfl⟩ H28
      have H29:Has B0 S27 [.box b15 [(.d (.str z11.1.Tag)),(.d (.str z11.1.Key)),(.d (.str z11.1.Text)),(.d (.sl ((z11.1.aV).map aD) false)),(.d (.sl ((z11.1.Kids).map ax) false))],.box b8 [(.d (.str a7.Tag)),(.d (.str a7.Key)),(.d (.str a7.Text)),(.d (.sl ((a7.aV).map aD) false)),(.d (.sl ((a7.Kids).map ax) false))],.box b1 [v3,w26],ay ae ah.kids 7 5 v3 ws25 z24.2.l none,aG w26 z24.2.freed]:=H28.sl [3,4,0,1,2] rfl rfl
      refine ai.val rfl (aj rfl) rfl ?_
      refine ai.nil ?_
      have hr:=Option.some.inj h
      subst hr
      exact aA.ret ⟨_,rfl,rfl,_,_,_,.refl _,(.refl _),⟨rfl,v3,ws25,w26,rfl⟩,H29.sl [2,3,4] rfl rfl⟩
     ·
      replace h:=dH hb23 h
      refine aA.skip ?_
      refine aA.seq ?_
      refine aA.region E.obj rfl ?_
      refine ai.val rfl (aa rfl) rfl ?_
      refine ai.val rfl (aa rfl) rfl ?_
      refine ai.val rfl (aC rfl zJ Co rfl) rfl ?_
      refine ai.val rfl (aL H19 (i:=1) rfl rfl (aQ DJ rfl)) rfl ?_
      obtain ⟨z30,hzz30,h⟩:=bind_some h
      refine ai.eB (ins:=[.box b1 [v3,w5],ay ae ah.kids 7 5 v3 ws4 a2.l none,aG w5 a2.freed]) (more:=[.box b15 [(.d (.str z11.1.Tag)),(.d (.str z11.1.Key)),(.d (.str z11.1.Text)),(.d (.sl ((z11.1.aV).map aD) false)),(.d (.sl ((z11.1.Kids).map ax) false))],.box b8 [(.d (.str a7.Tag)),(.d (.str a7.Key)),(.d (.str a7.Text)),(.d (.sl ((a7.aV).map aD) false)),(.d (.sl ((a7.Kids).map ax) false))]]) (H19.sl [2,3,4,0,1] rfl rfl) rfl (aI rfl rfl) (ou E n _ _ _ _ hzz30 b1 v3 ws4 w5) (.cons (.refl _) (.cons (.refl _) (.cons (.refl _) .nil))) rfl ?_
      rintro _ S33 _ ⟨rfl,ws31,w32,rfl⟩ H34
      have H35:Has B0 S33 [.box b15 [(.d (.str z11.1.Tag)),(.d (.str z11.1.Key)),(.d (.str z11.1.Text)),(.d (.sl ((z11.1.aV).map aD) false)),(.d (.sl ((z11.1.Kids).map ax) false))],.box b8 [(.d (.str a7.Tag)),(.d (.str a7.Key)),(.d (.str a7.Text)),(.d (.sl ((a7.aV).map aD) false)),(.d (.sl ((a7.Kids).map ax) false))],.box b1 [v3,w32],ay ae ah.kids 7 5 v3 ws31 z30.2.l none,aG w32 z30.2.freed]:=H34.sl [3,4,0,1,2] rfl rfl
      refine ai.nil ?_
      refine aA.seq ?_
      refine aA.region E.obj rfl ?_
      refine ai.val rfl (aa rfl) rfl ?_
      refine ai.val rfl (aa rfl) rfl ?_
      obtain ⟨z36,hzz36,h⟩:=bind_some h
      refine ai.eB (ins:=[.box b1 [v3,w32],ay ae ah.kids 7 5 v3 ws31 z30.2.l none,aG w32 z30.2.freed]) (more:=[.box b15 [(.d (.str z11.1.Tag)),(.d (.str z11.1.Key)),(.d (.str z11.1.Text)),(.d (.sl ((z11.1.aV).map aD) false)),(.d (.sl ((z11.1.Kids).map ax) false))],.box b8 [(.d (.str a7.Tag)),(.d (.str a7.Key)),(.d (.str a7.Text)),(.d (.sl ((a7.aV).map aD) false)),(.d (.sl ((a7.Kids).map ax) false))]]) (H35.sl [2,3,4,0,1] rfl rfl) rfl (aI rfl rfl) (iN E n _ _ _ hzz36 b1 v3 ws31 w32) (.cons (.refl _) (.cons (.refl _) .nil)) rfl ?_
      rintro _ S37 _ ⟨rfl,rfl⟩ H38
      have H39:Has B0 S37 [.box b15 [(.d (.str z11.1.Tag)),(.d (.str z11.1.Key)),(.d (.str z11.1.Text)),(.d (.sl ((z11.1.aV).map aD) false)),(.d (.sl ((z11.1.Kids).map ax) false))],.box b8 [(.d (.str a7.Tag)),(.d (.str a7.Key)),(.d (.str a7.Text)),(.d (.sl ((a7.aV).map aD) false)),(.d (.sl ((a7.Kids).map ax) false))],.box b1 [v3,w32],ay ae ah.kids 7 5 v3 ws31 z30.2.l none,aG w32 z30.2.freed]:=H38.sl [3,4,0,1,2] rfl rfl
      refine ai.val rfl (aj rfl) rfl ?_
      refine ai.nil ?_
      refine aA.seq ?_
      obtain ⟨z40,hzz40,h⟩:=bind_some h
      obtain ⟨z44,hzz44,h⟩:=bind_some h
      refine aA.iV E.obj lG KH [(0,none),(1,none),(5,none),(9,none),(10,some 6)] (by kernel_rfl) [2] (by decide) [some (.ptr b1 0 0),some (.d (.sl ((z36).map (D.int .i64)) false)),none,some (.ptr b8 0 4),some (.d (.sl ((a7.Kids).map ax) false)),none,none] ?_
      refine ⟨[0,1,3,4],by kernel_rfl,?_,_,_,rfl,rfl,.step ?_⟩
      ·
       refine .v rfl rfl rfl rfl (aa rfl) ?_
       refine .v rfl rfl rfl rfl (aa rfl) ?_
       refine .v rfl rfl rfl rfl (aC rfl lq vM rfl) ?_
       refine .v rfl rfl rfl rfl (aL H39 (i:=1) rfl rfl (aQ xO rfl)) ?_
       exact .nil
      refine ai.eB (ins:=[.box b1 [v3,w32],ay ae ah.kids 7 5 v3 ws31 z30.2.l none,aG w32 z30.2.freed]) (more:=[.box b15 [(.d (.str z11.1.Tag)),(.d (.str z11.1.Key)),(.d (.str z11.1.Text)),(.d (.sl ((z11.1.aV).map aD) false)),(.d (.sl ((z11.1.Kids).map ax) false))],.box b8 [(.d (.str a7.Tag)),(.d (.str a7.Key)),(.d (.str a7.Text)),(.d (.sl ((a7.aV).map aD) false)),(.d (.sl ((a7.Kids).map ax) false))]]) (H39.sl [2,3,4,0,1] rfl rfl) rfl (aI rfl rfl) (yh E n _ _ _ hzz40 b1 v3 ws31 w32) (.cons (.refl _) (.cons (.refl _) .nil)) rfl ?_
      rintro _ S45 _ ⟨rfl,rfl⟩ H46
      have H47:Has B0 S45 [.box b15 [(.d (.str z11.1.Tag)),(.d (.str z11.1.Key)),(.d (.str z11.1.Text)),(.d (.sl ((z11.1.aV).map aD) false)),(.d (.sl ((z11.1.Kids).map ax) false))],.box b8 [(.d (.str a7.Tag)),(.d (.str a7.Key)),(.d (.str a7.Text)),(.d (.sl ((a7.aV).map aD) false)),(.d (.sl ((a7.Kids).map ax) false))],.box b1 [v3,w32],ay ae ah.kids 7 5 v3 ws31 z30.2.l none,aG w32 z30.2.freed]:=H46.sl [3,4,0,1,2] rfl rfl
      refine ai.nil ⟨_,_,_,rfl,(fun _ ht=>by cases ht; rfl),[some (.ptr b1 0 0),some (.d (.sl ((z36).map (D.int .i64)) false)),some (.d (.sl ((z40).map ax) false)),some (.ptr b8 0 4),some (.d (.sl ((a7.Kids).map ax) false)),some (.d (.sl ((z44).map (D.int .i64)) false)),some (.d (.sl ((z44).map (D.int .i64)) false))],(.o (.o (.new (.o (.o (.new (.new .nil))))))),(fun _ ht=>by cases ht; exact ⟨_,rfl,.refl _⟩),?_⟩
      refine ⟨[3,4,5,6],by kernel_rfl,?_,_,rfl,?_⟩
      ·
       refine .v rfl rfl rfl rfl (aC rfl lq vM rfl) ?_
       refine .v rfl rfl rfl rfl (aL H47 (i:=1) rfl rfl (aQ xO rfl)) ?_
       refine .cons rfl rfl rfl (.step ?_) ?_
       ·
        refine ai.ret rfl (aI rfl rfl) (yf E _ _ _ _ hzz44 _ _ (bO.eq (bO.eq .nil))) rfl ?_
        exact ai.nil ⟨_,_,rfl,fun _ ht=>by cases ht; exact ⟨rfl,.refl _⟩⟩
       refine .v rfl rfl rfl rfl (aj rfl) ?_
       exact .nil
      refine aA.seq ?_
      refine aA.seq ?_
      refine aA.region E.obj rfl ?_
      refine ai.val rfl (aa rfl) rfl ?_
      refine ai.val rfl (bE rfl iZ) rfl ?_
      refine ai.val rfl (aa rfl) rfl ?_
      obtain ⟨z48,hzz48,h⟩:=bind_some h
      refine ai.ret rfl (aI rfl rfl) (yn E _ _ _ _ hzz48 _ _ (bO.eq (bO.eq .nil))) rfl ?_
      refine ai.val rfl (bE rfl iZ) rfl ?_
      refine ai.val rfl (aa rfl) rfl ?_
      refine ai.nil ?_
      refine aA.block ?_
      refine pM.start (B:=B0) (α:=au × (List (List AV)) × AV × Int) (fun k a=>eU n (dP n) a6 a7 z36 z44 z48 k a.1 a.2.2.2=some r) (fun a=>[(0,(.ptr b1 0 0)),(1,(.d (.int .i64 a6))),(5,(.ptr b8 0 0)),(9,(.d (.sl ((z36).map (D.int .i64)) false))),(10,(.d (.sl ((z44).map (D.int .i64)) false))),(62,(.d (.sl ((z48).map (D.int .i64)) false))),(63,(.d (.int .i64 ((z48).length:Int)))),(64,(.d (.int .i64 a.2.2.2)))]) (fun a=>[.box b8 [(.d (.str a7.Tag)),(.d (.str a7.Key)),(.d (.str a7.Text)),(.d (.sl ((a7.aV).map aD) false)),(.d (.sl ((a7.Kids).map ax) false))],.box b1 [v3,a.2.2.1],ay ae ah.kids 7 5 v3 a.2.1 a.1.l none,aG a.2.2.1 a.1.freed]) ?_ ?_ n ⟨⟨z30.2,ws31,w32,0⟩,_,_,S45,.refl _ _,.refl _,(ak.r rfl (ak.r rfl (ak.r rfl (ak.r rfl (ak.r rfl (ak.r rfl (ak.r rfl (ak.r rfl ak.nil)))))))),H47.sl [1,2,3,4] rfl rfl,h⟩
      ·
       intro a h; simp [eU] at h
      ·
       intro k63 a S57 H58 h
       obtain ⟨x59,ws60,w61,x62⟩:=a
       replace h:eU n (dP n) a6 a7 z36 z44 z48 (k63 + 1) x59 x62=some r:=h
       replace H58:Has B0 S57 [.box b8 [(.d (.str a7.Tag)),(.d (.str a7.Key)),(.d (.str a7.Text)),(.d (.sl ((a7.aV).map aD) false)),(.d (.sl ((a7.Kids).map ax) false))],.box b1 [v3,w61],ay ae ah.kids 7 5 v3 ws60 x59.l none,aG w61 x59.freed]:=H58
       unfold eU at h
       refine aA.seq ?_
       refine aA.region E.obj rfl ?_
       refine ai.val rfl (aB rfl rfl dN) rfl ?_
       refine ai.nil ?_
       refine aA.seq ?_
       refine aA.cond rfl (fun hb64=>?_) (fun hb64=>?_)
       ·
        replace h:=dF hb64 h
        refine aA.skip ?_
        refine aA.seq ?_
        refine aA.block ?_
        refine aA.seq ?_
        refine aA.region E.obj rfl ?_
        obtain ⟨z65,hzz65,h⟩:=bind_some h
        refine ai.val rfl (bD rfl rfl (bU (enc:=(D.int .i64)) hzz65 eH nZ (((fun _=>rfl) _).trans jL.symm))) rfl ?_
        refine ai.val rfl (aX rfl (bP ni rfl)) rfl ?_
        refine ai.val rfl (aj rfl) rfl ?_
        refine ai.nil ?_
        refine aA.region E.obj rfl ?_
        refine ai.val rfl (aa rfl) rfl ?_
        refine ai.val rfl (aa rfl) rfl ?_
        refine ai.val rfl (aa rfl) rfl ?_
        obtain ⟨z66,hzz66,h⟩:=bind_some h
        refine ai.val rfl (bD rfl rfl (bU (enc:=(D.int .i64)) hzz66 eH nZ (((fun _=>rfl) _).trans jL.symm))) rfl ?_
        refine ai.val rfl (aX rfl (bP ni rfl)) rfl ?_
        obtain ⟨z67,hzz67,h⟩:=bind_some h
        refine ai.eB (ins:=[.box b1 [v3,w61],ay ae ah.kids 7 5 v3 ws60 x59.l none,aG w61 x59.freed]) (more:=[.box b8 [(.d (.str a7.Tag)),(.d (.str a7.Key)),(.d (.str a7.Text)),(.d (.sl ((a7.aV).map aD) false)),(.d (.sl ((a7.Kids).map ax) false))]]) (H58.sl [1,2,3,0] rfl rfl) rfl (aI rfl rfl) (nG E n _ _ _ hzz67 b1 v3 ws60 w61) (.cons (.refl _) (.cons (.refl _) .nil)) rfl ?_
        rintro _ S70 _ ⟨rfl,ws68,w69,rfl⟩ H71
        have H72:Has B0 S70 [.box b8 [(.d (.str a7.Tag)),(.d (.str a7.Key)),(.d (.str a7.Text)),(.d (.sl ((a7.aV).map aD) false)),(.d (.sl ((a7.Kids).map ax) false))],.box b1 [v3,w69],ay ae ah.kids 7 5 v3 ws68 z67.2.l none,aG w69 z67.2.freed]:=H71.sl [3,0,1,2] rfl rfl
        refine ai.nil ?_
        refine aA.region E.obj rfl ?_
        refine ai.val rfl (aB rfl rfl cO) rfl ?_
        refine ai.val rfl (aa rfl) rfl ?_
        refine ai.nil ?_
        exact ⟨⟨z67.2,ws68,w69,(IntKind.wrap .i64 (x62 + 1))⟩,_,_,S70,.refl _ _,.refl _,(ak.r rfl (ak.r rfl (ak.r rfl (ak.r rfl (ak.r rfl (ak.r rfl (ak.r rfl (ak.r rfl ak.nil)))))))),H72.sl [0,1,2,3] rfl rfl,h⟩
       ·
        replace h:=dH hb64 h
        refine aA.exit ?_
        refine aA.seq ?_
        refine aA.seq ?_
        refine aA.region E.obj rfl ?_
        refine ai.val rfl (aC rfl lq vM rfl) rfl ?_
        refine ai.val rfl (aL H58 (i:=0) rfl rfl (aQ xO rfl)) rfl ?_
        refine ai.val rfl (bE rfl Ct) rfl ?_
        refine ai.val rfl (aa rfl) rfl ?_
        refine ai.nil ?_
        refine aA.block ?_
        refine pM.start (B:=B0) (α:=au × AV × (List (List AV)) × AV × Int) (fun k a=>cB n (dP n) a6 a7 z36 z44 k a.1 a.2.2.2.2=some r) (fun a=>[(0,(.ptr b1 0 0)),(1,(.d (.int .i64 a6))),(9,(.d (.sl ((z36).map (D.int .i64)) false))),(10,(.d (.sl ((z44).map (D.int .i64)) false))),(76,(.d (.sl ((a7.Kids).map ax) false))),(77,(.d (.int .i64 ((a7.Kids).length:Int)))),(78,(.d (.int .i64 a.2.2.2.2)))]) (fun a=>[.box b1 [a.2.1,a.2.2.2.1],ay ae ah.kids 7 5 a.2.1 a.2.2.1 a.1.l none,aG a.2.2.2.1 a.1.freed]) ?_ ?_ n ⟨⟨x59,v3,ws60,w61,0⟩,_,_,S57,.refl _ _,.refl _,(ak.r rfl (ak.r rfl (ak.r rfl (ak.r rfl (ak.r rfl (ak.r rfl (ak.r rfl ak.nil))))))),H58.sl [1,2,3] rfl rfl,h⟩
        ·
         intro a h; simp [cB] at h
        ·
         intro k89 a S82 H83 h
         obtain ⟨x84,v87,ws85,w86,x88⟩:=a
         replace h:cB n (dP n) a6 a7 z36 z44 (k89 + 1) x84 x88=some r:=h
         replace H83:Has B0 S82 [.box b1 [v87,w86],ay ae ah.kids 7 5 v87 ws85 x84.l none,aG w86 x84.freed]:=H83
         unfold cB at h
         refine aA.seq ?_
         refine aA.region E.obj rfl ?_
         refine ai.val rfl (aB rfl rfl dN) rfl ?_
         refine ai.nil ?_
         refine aA.seq ?_
         refine aA.cond rfl (fun hb90=>?_) (fun hb90=>?_)
         ·
          replace h:=dF hb90 h
          refine aA.skip ?_
          refine aA.join (B:=B0) (α:=au × AV × (List (List AV)) × AV) (fun a=>gL x88 (cB n (dP n) a6 a7 z36 z44 k89) a.1=some r) (fun a=>[(0,(.ptr b1 0 0)),(1,(.d (.int .i64 a6))),(9,(.d (.sl ((z36).map (D.int .i64)) false))),(10,(.d (.sl ((z44).map (D.int .i64)) false))),(76,(.d (.sl ((a7.Kids).map ax) false))),(77,(.d (.int .i64 ((a7.Kids).length:Int)))),(78,(.d (.int .i64 x88)))]) (fun a=>[.box b1 [a.2.1,a.2.2.2],ay ae ah.kids 7 5 a.2.1 a.2.2.1 a.1.l none,aG a.2.2.2 a.1.freed]) ?_ ?_
          ·
           intro a S91 H92 h
           obtain ⟨x93,v96,ws94,w95⟩:=a
           replace h:gL x88 (cB n (dP n) a6 a7 z36 z44 k89) x93=some r:=h
           replace H92:Has B0 S91 [.box b1 [v96,w95],ay ae ah.kids 7 5 v96 ws94 x93.l none,aG w95 x93.freed]:=H92
           unfold gL at h
           refine aA.region E.obj rfl ?_
           refine ai.val rfl (aB rfl rfl cO) rfl ?_
           refine ai.val rfl (aa rfl) rfl ?_
           refine ai.nil ?_
           exact ⟨⟨x93,v96,ws94,w95,(IntKind.wrap .i64 (x88 + 1))⟩,_,_,S91,.refl _ _,.refl _,(ak.r rfl (ak.r rfl (ak.r rfl (ak.r rfl (ak.r rfl (ak.r rfl (ak.r rfl ak.nil))))))),H92.sl [0,1,2] rfl rfl,h⟩
          ·
           refine aA.block ?_
           refine aA.seq ?_
           refine aA.region E.obj rfl ?_
           refine ai.val rfl (aa rfl) rfl ?_
           obtain ⟨z98,hzz98,h⟩:=bind_some h
           refine ai.val rfl (bD rfl rfl (bU (enc:=ax) hzz98 qY ow ((Tree.len _).trans fw.symm))) rfl ?_
           refine ai.val rfl (aX rfl (Tree.rq jA fw)) rfl ?_
           refine ai.alloc H83 rfl yg jZ rfl rfl (fun b99 S100 H101=>?_)
           refine ai.val rfl (aj rfl) rfl ?_
           refine ai.store H101 (i:=0) rfl rfl rfl rfl (Tree.gu _) rfl fw rfl ow rfl rfl rfl (fun S102 H103=>?_)
           refine ai.nil ?_
           refine aA.seq ?_
           refine aA.seq ?_
           refine aA.region E.obj rfl ?_
           refine ai.val rfl (aa rfl) rfl ?_
           refine ai.val rfl (aa rfl) rfl ?_
           obtain ⟨z104,hzz104,h⟩:=bind_some h
           refine ai.val rfl (bD rfl rfl (bU (enc:=(D.int .i64)) hzz104 eH nZ (((fun _=>rfl) _).trans jL.symm))) rfl ?_
           refine ai.val rfl (aX rfl (bP ni rfl)) rfl ?_
           refine ai.val rfl (aB rfl rfl dN) rfl ?_
           refine ai.nil ?_
           refine aA.cond rfl (fun hb105=>?_) (fun hb105=>?_)
           ·
            replace h:=dF hb105 h
            refine aA.seq ?_
            refine aA.region E.obj rfl ?_
            refine ai.val rfl (aa rfl) rfl ?_
            refine ai.val rfl (aa rfl) rfl ?_
            refine ai.val rfl (aa rfl) rfl ?_
            refine ai.val rfl (aL H103 (i:=0) rfl rfl (dO jA fw rfl)) rfl ?_
            refine ai.less (Less.agg' (d:=ax z98) (aH.eq rfl (aH.eq rfl (aH.eq rfl (aH.eq rfl (aH.eq rfl .nil))))) ((Tree.eq _).trans rfl)) ?_
            obtain ⟨z106,hzz106,h⟩:=bind_some h
            refine ai.eB (ins:=[.box b1 [v87,w86],ay ae ah.kids 7 5 v87 ws85 x84.l none,aG w86 x84.freed]) (more:=[.box b99 [(.d (.str z98.Tag)),(.d (.str z98.Key)),(.d (.str z98.Text)),(.d (.sl ((z98.aV).map aD) false)),(.d (.sl ((z98.Kids).map ax) false))]]) (H103.sl [1,2,3,0] rfl rfl) rfl (aI rfl rfl) (lL E n _ _ _ hzz106 b1 v87 ws85 w86) (.cons (.refl _) (.cons (.refl _) .nil)) rfl ?_
            rintro _ S110 _ ⟨rfl,v107,ws108,w109,rfl⟩ H111
            have H112:Has B0 S110 [.box b99 [(.d (.str z98.Tag)),(.d (.str z98.Key)),(.d (.str z98.Text)),(.d (.sl ((z98.aV).map aD) false)),(.d (.sl ((z98.Kids).map ax) false))],.box b1 [v107,w109],ay ae ah.kids 7 5 v107 ws108 z106.2.l none,aG w109 z106.2.freed]:=H111.sl [3,0,1,2] rfl rfl
            refine ai.val rfl (aa rfl) rfl ?_
            obtain ⟨z113,hzz113,h⟩:=bind_some h
            refine ai.eB (ins:=[.box b1 [v107,w109],ay ae ah.kids 7 5 v107 ws108 z106.2.l none,aG w109 z106.2.freed]) (more:=[.box b99 [(.d (.str z98.Tag)),(.d (.str z98.Key)),(.d (.str z98.Text)),(.d (.sl ((z98.aV).map aD) false)),(.d (.sl ((z98.Kids).map ax) false))]]) (H112.sl [1,2,3,0] rfl rfl) rfl (aI rfl rfl) (jT E n _ _ _ _ _ hzz113 b1 v107 ws108 w109) (.cons (.refl _) (.cons (.refl _) (.cons (.refl _) (.cons (.refl _) .nil)))) rfl ?_
            rintro _ S116 _ ⟨rfl,ws114,w115,rfl⟩ H117
            have H118:Has B0 S116 [.box b99 [(.d (.str z98.Tag)),(.d (.str z98.Key)),(.d (.str z98.Text)),(.d (.sl ((z98.aV).map aD) false)),(.d (.sl ((z98.Kids).map ax) false))],.box b1 [v107,w115],ay ae ah.kids 7 5 v107 ws114 z113.2.l none,aG w115 z113.2.freed]:=H117.sl [3,0,1,2] rfl rfl
            refine ai.nil ?_
            refine aA.exit ?_
            exact ⟨⟨z113.2,v107,ws114,w115⟩,_,_,S116,.refl _ _,.refl _,(ak.r rfl (ak.r rfl (ak.r rfl (ak.r rfl (ak.r rfl (ak.r rfl (ak.r rfl ak.nil))))))),H118.sl [1,2,3] rfl rfl,h⟩
           ·
            replace h:=dH hb105 h
            refine aA.skip ?_
            refine aA.seq ?_
            refine aA.region E.obj rfl ?_
            refine ai.val rfl (aa rfl) rfl ?_
            refine ai.val rfl (aa rfl) rfl ?_
            refine ai.val rfl (aa rfl) rfl ?_
            refine ai.val rfl (aa rfl) rfl ?_
            refine ai.val rfl (aa rfl) rfl ?_
            obtain ⟨z119,hzz119,h⟩:=bind_some h
            refine ai.val rfl (bD rfl rfl (bU (enc:=(D.int .i64)) hzz119 eH nZ (((fun _=>rfl) _).trans jL.symm))) rfl ?_
            refine ai.val rfl (aX rfl (bP ni rfl)) rfl ?_
            obtain ⟨z120,hzz120,h⟩:=bind_some h
            refine ai.val rfl (bD rfl rfl (bU (enc:=(D.int .i64)) hzz120 eH nZ (((fun _=>rfl) _).trans jL.symm))) rfl ?_
            refine ai.val rfl (aX rfl (bP ni rfl)) rfl ?_
            refine ai.val rfl (aa rfl) rfl ?_
            obtain ⟨z121,hzz121,h⟩:=bind_some h
            refine ai.eB (ins:=[.box b1 [v87,w86],ay ae ah.kids 7 5 v87 ws85 x84.l none,aG w86 x84.freed]) (more:=[.box b99 [(.d (.str z98.Tag)),(.d (.str z98.Key)),(.d (.str z98.Text)),(.d (.sl ((z98.aV).map aD) false)),(.d (.sl ((z98.Kids).map ax) false))]]) (H103.sl [1,2,3,0] rfl rfl) rfl (aI rfl rfl) (jT E n _ _ _ _ _ hzz121 b1 v87 ws85 w86) (.cons (.refl _) (.cons (.refl _) (.cons (.refl _) (.cons (.refl _) .nil)))) rfl ?_
            rintro _ S124 _ ⟨rfl,ws122,w123,rfl⟩ H125
            have H126:Has B0 S124 [.box b99 [(.d (.str z98.Tag)),(.d (.str z98.Key)),(.d (.str z98.Text)),(.d (.sl ((z98.aV).map aD) false)),(.d (.sl ((z98.Kids).map ax) false))],.box b1 [v87,w123],ay ae ah.kids 7 5 v87 ws122 z121.2.l none,aG w123 z121.2.freed]:=H125.sl [3,0,1,2] rfl rfl
            refine ai.nil ?_
            obtain ⟨z127,hzz127,h⟩:=bind_some h
            obtain ⟨z128,hzz128,h⟩:=bind_some h
            obtain ⟨z129,hzz129,h⟩:=bind_some h
            refine aA.iV E.obj lG Kt [(0,none),(1,none),(9,none),(10,none),(76,none),(77,none),(78,none)] (by kernel_rfl) [9] (by decide) [some (.ptr b1 0 0),some (.d (.sl ((z36).map (D.int .i64)) false)),some (.d (.sl ((z44).map (D.int .i64)) false)),some (.d (.int .i64 x88)),some (.eptr (.int .i64 z127) 0),some (.d (.int .i64 z127)),some (.eptr (.int .i64 z128) 0),some (.d (.int .i64 z128)),some (.d (ax z98)),none] ?_
            refine ⟨[0,1,2,3,4,5,6,7,8],by kernel_rfl,?_,_,_,rfl,rfl,.step ?_⟩
            ·
             refine .v rfl rfl rfl rfl (aa rfl) ?_
             refine .v rfl rfl rfl rfl (aa rfl) ?_
             refine .v rfl rfl rfl rfl (aa rfl) ?_
             refine .v rfl rfl rfl rfl (aa rfl) ?_
             refine .v rfl rfl rfl rfl (bD rfl rfl (bU (enc:=(D.int .i64)) hzz127 eH nZ (((fun _=>rfl) _).trans jL.symm))) ?_
             refine .v rfl rfl rfl rfl (aX rfl (bP ni rfl)) ?_
             refine .v rfl rfl rfl rfl (bD rfl rfl (bU (enc:=(D.int .i64)) hzz128 eH nZ (((fun _=>rfl) _).trans jL.symm))) ?_
             refine .v rfl rfl rfl rfl (aX rfl (bP ni rfl)) ?_
             refine .cons rfl rfl rfl (.step ?_) ?_
             ·
              refine ai.val rfl (aL H126 (i:=0) rfl rfl (dO jA fw rfl)) rfl ?_
              refine ai.less (Less.agg' (d:=ax z98) (aH.eq rfl (aH.eq rfl (aH.eq rfl (aH.eq rfl (aH.eq rfl .nil))))) ((Tree.eq _).trans rfl)) ?_
              exact ai.nil ⟨_,_,rfl,fun _ ht=>by cases ht; exact ⟨rfl,.refl _⟩⟩
             exact .nil
            refine ai.eB (ins:=[.box b1 [v87,w123],ay ae ah.kids 7 5 v87 ws122 z121.2.l none,aG w123 z121.2.freed]) (more:=[.box b99 [(.d (.str z98.Tag)),(.d (.str z98.Key)),(.d (.str z98.Text)),(.d (.sl ((z98.aV).map aD) false)),(.d (.sl ((z98.Kids).map ax) false))]]) (H126.sl [1,2,3,0] rfl rfl) rfl (aI rfl rfl) (ih _ _ _ _ hzz129 b1 v87 ws122 w123) (.cons (.refl _) (.cons (.refl _) (.cons (.refl _) .nil))) rfl ?_
            rintro _ S139 _ ⟨rfl,v136,ws137,w138,rfl⟩ H140
            have H141:Has B0 S139 [.box b99 [(.d (.str z98.Tag)),(.d (.str z98.Key)),(.d (.str z98.Text)),(.d (.sl ((z98.aV).map aD) false)),(.d (.sl ((z98.Kids).map ax) false))],.box b1 [v136,w138],ay ae ah.kids 7 5 v136 ws137 z129.2.l none,aG w138 z129.2.freed]:=H140.sl [3,0,1,2] rfl rfl
            refine ai.nil ⟨_,_,_,rfl,(fun _ ht=>by cases ht; rfl),[some (.ptr b1 0 0),some (.d (.sl ((z36).map (D.int .i64)) false)),some (.d (.sl ((z44).map (D.int .i64)) false)),some (.d (.int .i64 x88)),some (.eptr (.int .i64 z127) 0),some (.d (.int .i64 z127)),some (.eptr (.int .i64 z128) 0),some (.d (.int .i64 z128)),some (.d (ax z98)),some (.d (.bool z129.1))],(.o (.o (.o (.o (.o (.o (.o (.o (.o (.new .nil)))))))))),(fun _ ht=>by cases ht; exact ⟨_,rfl,.refl _⟩),?_⟩
            refine ⟨[],by kernel_rfl,?_,_,rfl,?_⟩
            ·
             exact .nil
            exact ⟨⟨z129.2,v136,ws137,w138⟩,_,_,S139,.refl _ _,.refl _,(ak.r rfl (ak.r rfl (ak.r rfl (ak.r rfl (ak.r rfl (ak.r rfl (ak.r rfl ak.nil))))))),H141.sl [1,2,3] rfl rfl,h⟩
         ·
          replace h:=dH hb90 h
          refine aA.exit ?_
          refine aA.seq ?_
          refine aA.region E.obj rfl ?_
          refine ai.val rfl (aj rfl) rfl ?_
          refine ai.nil ?_
          have hr:=Option.some.inj h
          subst hr
          exact aA.ret ⟨_,rfl,rfl,_,_,_,.refl _,(.refl _),⟨rfl,v87,ws85,w86,rfl⟩,H83.sl [0,1,2] rfl rfl⟩
set_option maxRecDepth 20000 in
set_option maxHeartbeats 4000000 in
theorem lh (n:Nat) (a1:(List Attr)) (a2:(List Attr)) (r:Bool) (h:dL n a1 a2=some r):gY R cfg.P 75 [(.sl ((a1).map aD) false),(.sl ((a2).map aD) false)] (.d (.bool r)):=by
 unfold dL at h
 refine gY.of_wp E.obj.toObjOk (C:=cfg) Try.func75 rfl J4 rfl ?_
 have H0:Has aM aM []:=Has.pure
 refine aA.seq ?_
 refine aA.region E.obj rfl ?_
 refine ai.val rfl (aj rfl) rfl ?_
 refine ai.nil ?_
 refine aA.seq ?_
 refine aA.seq ?_
 refine aA.region E.obj rfl ?_
 refine ai.val rfl (aa rfl) rfl ?_
 refine ai.val rfl (bE rfl Hy) rfl ?_
 refine ai.val rfl (aa rfl) rfl ?_
 refine ai.val rfl (bE rfl Hy) rfl ?_
 refine ai.val rfl (aB rfl rfl ku) rfl ?_
 refine ai.nil ?_
 refine aA.cond rfl (fun hb3=>?_) (fun hb3=>?_)
 ·
  replace h:=dF hb3 h
  refine aA.seq ?_
  refine aA.region E.obj rfl ?_
  refine ai.val rfl (aj rfl) rfl ?_
  refine ai.nil ?_
  have hr:=Option.some.inj h
  subst hr
  exact aA.ret ⟨_,rfl,rfl,lM (bO.eq .nil)⟩
 ·
  replace h:=dH hb3 h
  refine aA.skip ?_
  refine aA.seq ?_
  refine aA.seq ?_
  refine aA.region E.obj rfl ?_
  refine ai.val rfl (aj rfl) rfl ?_
  refine ai.nil ?_
  refine aA.block ?_
  refine pM.start (B:=aM) (α:=Int) (fun k a=>bz a1 a2 k a=some r) (fun a=>[(0,(.d (.sl ((a1).map aD) false))),(1,(.d (.sl ((a2).map aD) false))),(5,(.d (.int .i64 a)))]) (fun a=>[]) ?_ ?_ n ⟨0,_,_,aM,.refl _ _,.refl _,(ak.r rfl (ak.r rfl (ak.r rfl ak.nil))),H0.sl [] rfl rfl,h⟩
  ·
   intro a h; simp [bz] at h
  ·
   intro k12 x11 S9 H10 h
   replace h:bz a1 a2 (k12 + 1) x11=some r:=h
   replace H10:Has aM S9 []:=H10
   unfold bz at h
   refine aA.seq ?_
   refine aA.seq ?_
   refine aA.region E.obj rfl ?_
   refine ai.val rfl (aa rfl) rfl ?_
   refine ai.val rfl (aa rfl) rfl ?_
   refine ai.val rfl (bE rfl Hy) rfl ?_
   refine ai.val rfl (aB rfl rfl dN) rfl ?_
   refine ai.nil ?_
   refine aA.cond rfl (fun hb13=>?_) (fun hb13=>?_)
   ·
    replace h:=dF hb13 h
    refine aA.skip ?_
    refine aA.seq ?_
    refine aA.block ?_
    refine aA.seq ?_
    obtain ⟨z14,hzz14,h⟩:=bind_some h
    obtain ⟨z15,hzz15,h⟩:=bind_some h
    refine aA.iV E.obj lG Le [(0,none),(1,none),(5,none),(25,some 8)] (by kernel_rfl) [] (by decide) [some (.d (.sl ((a1).map aD) false)),some (.d (.int .i64 x11)),some (.eptr (aD z14) 0),some (.d (aD z14)),some (.d (.sl ((a2).map aD) false)),some (.d (.int .i64 x11)),some (.eptr (aD z15) 0),some (.d (aD z15)),some (.d (.bool (!(Attr.beq z14 z15))))] ?_
    refine ⟨[0,1,2,3,4,5,6,7,8],by kernel_rfl,?_,_,rfl,?_⟩
    ·
     refine .v rfl rfl rfl rfl (aa rfl) ?_
     refine .v rfl rfl rfl rfl (aa rfl) ?_
     refine .v rfl rfl rfl rfl (bD rfl rfl (bU (enc:=aD) hzz14 Gu IV ((Attr.len _).trans Eh.symm))) ?_
     refine .v rfl rfl rfl rfl (aX rfl (Attr.rq Iz Eh)) ?_
     refine .v rfl rfl rfl rfl (aa rfl) ?_
     refine .v rfl rfl rfl rfl (aa rfl) ?_
     refine .v rfl rfl rfl rfl (bD rfl rfl (bU (enc:=aD) hzz15 Gu IV ((Attr.len _).trans Eh.symm))) ?_
     refine .v rfl rfl rfl rfl (aX rfl (Attr.rq Iz Eh)) ?_
     refine .v rfl rfl rfl rfl (aB rfl rfl (BM (Attr.eq _) (Attr.eq _) (I8 _ _))) ?_
     exact .nil
    refine aA.cond rfl (fun hb16=>?_) (fun hb16=>?_)
    ·
     replace h:=dF hb16 h
     refine aA.seq ?_
     refine aA.region E.obj rfl ?_
     refine ai.val rfl (aj rfl) rfl ?_
     refine ai.nil ?_
     have hr:=Option.some.inj h
     subst hr
     exact aA.ret ⟨_,rfl,rfl,lM (bO.eq .nil)⟩
    ·
     replace h:=dH hb16 h
     refine aA.skip ?_
     refine aA.region E.obj rfl ?_
     refine ai.val rfl (aa rfl) rfl ?_
     refine ai.val rfl (aB rfl rfl cO) rfl ?_
     refine ai.val rfl (aj rfl) rfl ?_
     refine ai.nil ?_
     exact ⟨(IntKind.wrap .i64 (x11 + 1)),_,_,S9,.refl _ _,.refl _,(ak.r rfl (ak.r rfl (ak.r rfl ak.nil))),H10.sl [] rfl rfl,h⟩
   ·
    replace h:=dH hb13 h
    refine aA.exit ?_
    refine aA.seq ?_
    refine aA.region E.obj rfl ?_
    refine ai.val rfl (aj rfl) rfl ?_
    refine ai.nil ?_
    have hr:=Option.some.inj h
    subst hr
    exact aA.ret ⟨_,rfl,rfl,lM (bO.eq .nil)⟩
set_option maxRecDepth 20000 in
set_option maxHeartbeats 4000000 in
theorem kT:∀ (n:Nat) (a1:Tree) (a2:Tree) (r:Bool),cu n a1 a2=some r→gY R cfg.P 41 [(ax a1),(ax a2)] (.d (.bool r))
 | 0,a1,a2,r,h=>by simp [cu] at h
 | n + 1,a1,a2,r,h=>by
  have ih:=kT n
  unfold cu at h
  refine gY.of_wp E.obj.toObjOk (C:=cfg) Try.func41 rfl KF rfl ?_
  have H0:Has aM aM []:=Has.pure
  refine aA.seq ?_
  refine aA.region E.obj rfl ?_
  refine ai.box H0 rfl rfl rfl (Tree.gu _) rfl (fun b3 S4 H5=>?_)
  refine ai.box H5 rfl rfl rfl (Tree.gu _) rfl (fun b6 S7 H8=>?_)
  refine ai.val rfl (aj rfl) rfl ?_
  refine ai.nil ?_
  refine aA.seq ?_
  refine aA.seq ?_
  refine aA.region E.obj rfl ?_
  refine ai.val rfl (aC rfl qo uf rfl) rfl ?_
  refine ai.val rfl (aL H8 (i:=1) rfl rfl (aQ uF rfl)) rfl ?_
  refine ai.val rfl (aC rfl qo uf rfl) rfl ?_
  refine ai.val rfl (aL H8 (i:=0) rfl rfl (aQ uF rfl)) rfl ?_
  refine ai.val rfl (aB rfl rfl lT) rfl ?_
  refine ai.val rfl (aa rfl) rfl ?_
  refine ai.jr 6 17 (.d (.bool ((!(a1.Tag == a2.Tag)) || (!(a1.Key == a2.Key))))) ?_ ?_
  ·
   rcases Bool.eq_false_or_eq_true ((!(a1.Tag == a2.Tag))) with hB9 | hB9
   ·
    refine ai.bool hB9 ?_
    refine ai.no rfl rfl ?_
    refine ai.no rfl rfl ?_
    refine ai.no rfl rfl ?_
    refine ai.no rfl rfl ?_
    refine ai.no rfl rfl ?_
    refine ai.val rfl (aF (b:=true) rfl rfl) rfl ?_
    exact ai.nil ⟨_,rfl,(ak.put (ak.push rfl (ak.push rfl (ak.push rfl (ak.push rfl (ak.push rfl (ak.put (.refl _) (Less.eq (by rw [hB9])))))))) (Less.eq (by rw [hB9]; rw [Bool.true_or])))⟩
   ·
    refine ai.bool hB9 ?_
    refine ai.val rfl (aC rfl uD uf rfl) rfl ?_
    refine ai.val rfl (aL H8 (i:=1) rfl rfl (aQ uF rfl)) rfl ?_
    refine ai.val rfl (aC rfl uD uf rfl) rfl ?_
    refine ai.val rfl (aL H8 (i:=0) rfl rfl (aQ uF rfl)) rfl ?_
    refine ai.val rfl (aB rfl rfl lT) rfl ?_
    refine ai.val rfl (aF (b:=false) rfl rfl) rfl ?_
    exact ai.nil ⟨_,rfl,(ak.put (ak.push rfl (ak.push rfl (ak.push rfl (ak.push rfl (ak.push rfl (ak.put (.refl _) (Less.eq (by rw [hB9])))))))) (Less.eq (by rw [hB9]; rw [Bool.false_or])))⟩
  ·
   refine ai.val rfl (aa rfl) rfl ?_
   refine ai.jr 6 24 (.d (.bool (((!(a1.Tag == a2.Tag)) || (!(a1.Key == a2.Key))) || (!(a1.Text == a2.Text))))) ?_ ?_
   ·
    rcases Bool.eq_false_or_eq_true (((!(a1.Tag == a2.Tag)) || (!(a1.Key == a2.Key)))) with hB10 | hB10
    ·
     refine ai.bool hB10 ?_
     refine ai.no rfl rfl ?_
     refine ai.no rfl rfl ?_
     refine ai.no rfl rfl ?_
     refine ai.no rfl rfl ?_
     refine ai.no rfl rfl ?_
     refine ai.val rfl (aF (b:=true) rfl rfl) rfl ?_
     exact ai.nil ⟨_,rfl,(ak.put (ak.push rfl (ak.push rfl (ak.push rfl (ak.push rfl (ak.push rfl (ak.put (.refl _) (Less.eq (by rw [hB10])))))))) (Less.eq (by rw [hB10]; rw [Bool.true_or])))⟩
    ·
     refine ai.bool hB10 ?_
     refine ai.val rfl (aC rfl zG uf rfl) rfl ?_
     refine ai.val rfl (aL H8 (i:=1) rfl rfl (aQ uF rfl)) rfl ?_
     refine ai.val rfl (aC rfl zG uf rfl) rfl ?_
     refine ai.val rfl (aL H8 (i:=0) rfl rfl (aQ uF rfl)) rfl ?_
     refine ai.val rfl (aB rfl rfl lT) rfl ?_
     refine ai.val rfl (aF (b:=false) rfl rfl) rfl ?_
     exact ai.nil ⟨_,rfl,(ak.put (ak.push rfl (ak.push rfl (ak.push rfl (ak.push rfl (ak.push rfl (ak.put (.refl _) (Less.eq (by rw [hB10])))))))) (Less.eq (by rw [hB10]; rw [Bool.false_or])))⟩
   ·
    refine ai.val rfl (aa rfl) rfl ?_
    obtain ⟨z12,hzz12,h⟩:=bind_some h
    refine ai.jr 7 32 (.d (.bool z12)) ?_ ?_
    ·
     rcases Bool.eq_false_or_eq_true ((((!(a1.Tag == a2.Tag)) || (!(a1.Key == a2.Key))) || (!(a1.Text == a2.Text)))) with hB11 | hB11
     ·
      refine ai.bool hB11 ?_
      refine ai.no rfl rfl ?_
      refine ai.no rfl rfl ?_
      refine ai.no rfl rfl ?_
      refine ai.no rfl rfl ?_
      refine ai.no rfl rfl ?_
      refine ai.no rfl rfl ?_
      refine ai.val rfl (aF (b:=true) rfl rfl) rfl ?_
      replace hzz12:=dF hB11 hzz12
      cases hzz12
      exact ai.nil ⟨_,rfl,(ak.put (ak.push rfl (ak.push rfl (ak.push rfl (ak.push rfl (ak.push rfl (ak.push rfl (ak.put (.refl _) (Less.eq (by rw [hB11]))))))))) (.refl _))⟩
     ·
      refine ai.bool hB11 ?_
      replace hzz12:=dH hB11 hzz12
      refine ai.val rfl (aC rfl zJ Co rfl) rfl ?_
      refine ai.val rfl (aL H8 (i:=1) rfl rfl (aQ DJ rfl)) rfl ?_
      refine ai.val rfl (aC rfl zJ Co rfl) rfl ?_
      refine ai.val rfl (aL H8 (i:=0) rfl rfl (aQ DJ rfl)) rfl ?_
      obtain ⟨z13,hzz13,hzz12⟩:=bind_some hzz12
      refine ai.ret rfl (aI rfl rfl) (lh E _ _ _ _ hzz13 _ _ (bO.eq (bO.eq .nil))) rfl ?_
      refine ai.val rfl (kr rfl) rfl ?_
      refine ai.val rfl (aF (b:=false) rfl rfl) rfl ?_
      cases hzz12
      exact ai.nil ⟨_,rfl,(ak.put (ak.push rfl (ak.push rfl (ak.push rfl (ak.push rfl (ak.push rfl (ak.push rfl (ak.put (.refl _) (Less.eq (by rw [hB11]))))))))) (.refl _))⟩
    ·
     refine ai.val rfl (aa rfl) rfl ?_
     refine ai.jr 8 41 (.d (.bool (z12 || (((a1.Kids).length:Int) != ((a2.Kids).length:Int))))) ?_ ?_
     ·
      rcases Bool.eq_false_or_eq_true (z12) with hB14 | hB14
      ·
       refine ai.bool hB14 ?_
       refine ai.no rfl rfl ?_
       refine ai.no rfl rfl ?_
       refine ai.no rfl rfl ?_
       refine ai.no rfl rfl ?_
       refine ai.no rfl rfl ?_
       refine ai.no rfl rfl ?_
       refine ai.no rfl rfl ?_
       refine ai.val rfl (aF (b:=true) rfl rfl) rfl ?_
       exact ai.nil ⟨_,rfl,(ak.put (ak.push rfl (ak.push rfl (ak.push rfl (ak.push rfl (ak.push rfl (ak.push rfl (ak.push rfl (ak.put (.refl _) (Less.eq (by rw [hB14])))))))))) (Less.eq (by rw [hB14]; rw [Bool.true_or])))⟩
      ·
       refine ai.bool hB14 ?_
       refine ai.val rfl (aC rfl lq vM rfl) rfl ?_
       refine ai.val rfl (aL H8 (i:=1) rfl rfl (aQ xO rfl)) rfl ?_
       refine ai.val rfl (bE rfl Ct) rfl ?_
       refine ai.val rfl (aC rfl lq vM rfl) rfl ?_
       refine ai.val rfl (aL H8 (i:=0) rfl rfl (aQ xO rfl)) rfl ?_
       refine ai.val rfl (bE rfl Ct) rfl ?_
       refine ai.val rfl (aB rfl rfl ku) rfl ?_
       refine ai.val rfl (aF (b:=false) rfl rfl) rfl ?_
       exact ai.nil ⟨_,rfl,(ak.put (ak.push rfl (ak.push rfl (ak.push rfl (ak.push rfl (ak.push rfl (ak.push rfl (ak.push rfl (ak.put (.refl _) (Less.eq (by rw [hB14])))))))))) (Less.eq (by rw [hB14]; rw [Bool.false_or])))⟩
     ·
      refine ai.nil ?_
      refine aA.cond rfl (fun hb15=>?_) (fun hb15=>?_)
      ·
       replace h:=dF hb15 h
       refine aA.seq ?_
       refine aA.region E.obj rfl ?_
       refine ai.val rfl (aj rfl) rfl ?_
       refine ai.nil ?_
       have hr:=Option.some.inj h
       subst hr
       exact aA.ret ⟨_,rfl,rfl,lM (bO.eq .nil)⟩
      ·
       replace h:=dH hb15 h
       refine aA.skip ?_
       refine aA.seq ?_
       refine aA.seq ?_
       refine aA.region E.obj rfl ?_
       refine ai.val rfl (aC rfl lq vM rfl) rfl ?_
       refine ai.val rfl (aL H8 (i:=1) rfl rfl (aQ xO rfl)) rfl ?_
       refine ai.val rfl (bE rfl Ct) rfl ?_
       refine ai.val rfl (aa rfl) rfl ?_
       refine ai.nil ?_
       refine aA.block ?_
       refine pM.start (B:=aM) (α:=Int) (fun k a=>bY (cu n) a1 a2 k a=some r) (fun a=>[(2,(.ptr b3 0 0)),(3,(.ptr b6 0 0)),(44,(.d (.int .i64 ((a1.Kids).length:Int)))),(45,(.d (.int .i64 a)))]) (fun a=>[.box b6 [(.d (.str a2.Tag)),(.d (.str a2.Key)),(.d (.str a2.Text)),(.d (.sl ((a2.aV).map aD) false)),(.d (.sl ((a2.Kids).map ax) false))],.box b3 [(.d (.str a1.Tag)),(.d (.str a1.Key)),(.d (.str a1.Text)),(.d (.sl ((a1.aV).map aD) false)),(.d (.sl ((a1.Kids).map ax) false))]]) ?_ ?_ n ⟨0,_,_,S7,.refl _ _,.refl _,(ak.r rfl (ak.r rfl (ak.r rfl (ak.r rfl ak.nil)))),H8.sl [0,1] rfl rfl,h⟩
       ·
        intro a h; simp [bY] at h
       ·
        intro k24 x23 S21 H22 h
        replace h:bY (cu n) a1 a2 (k24 + 1) x23=some r:=h
        replace H22:Has aM S21 [.box b6 [(.d (.str a2.Tag)),(.d (.str a2.Key)),(.d (.str a2.Text)),(.d (.sl ((a2.aV).map aD) false)),(.d (.sl ((a2.Kids).map ax) false))],.box b3 [(.d (.str a1.Tag)),(.d (.str a1.Key)),(.d (.str a1.Text)),(.d (.sl ((a1.aV).map aD) false)),(.d (.sl ((a1.Kids).map ax) false))]]:=H22
        unfold bY at h
        refine aA.seq ?_
        refine aA.region E.obj rfl ?_
        refine ai.val rfl (aB rfl rfl dN) rfl ?_
        refine ai.nil ?_
        refine aA.seq ?_
        refine aA.cond rfl (fun hb25=>?_) (fun hb25=>?_)
        ·
         replace h:=dF hb25 h
         refine aA.skip ?_
         refine aA.seq ?_
         refine aA.block ?_
         refine aA.seq ?_
         refine aA.region E.obj rfl ?_
         refine ai.val rfl (aa rfl) rfl ?_
         refine ai.val rfl (aj rfl) rfl ?_
         refine ai.nil ?_
         refine aA.seq ?_
         obtain ⟨z26,hzz26,h⟩:=bind_some h
         obtain ⟨z27,hzz27,h⟩:=bind_some h
         obtain ⟨z28,hzz28,h⟩:=bind_some h
         refine aA.iV E.obj lG JI [(2,none),(3,none),(44,none),(45,none),(59,some 11)] (by kernel_rfl) [] (by decide) [some (.ptr b3 0 4),some (.d (.sl ((a1.Kids).map ax) false)),some (.d (.int .i64 x23)),some (.eptr (ax z26) 0),some (.d (ax z26)),some (.ptr b6 0 4),some (.d (.sl ((a2.Kids).map ax) false)),some (.d (.int .i64 x23)),some (.eptr (ax z27) 0),some (.d (ax z27)),some (.d (.bool z28)),some (.d (.bool (!z28)))] ?_
         refine ⟨[0,1,2,3,4,5,6,7,8,9,10,11],by kernel_rfl,?_,_,rfl,?_⟩
         ·
          refine .v rfl rfl rfl rfl (aC rfl lq vM rfl) ?_
          refine .v rfl rfl rfl rfl (aL H22 (i:=1) rfl rfl (aQ xO rfl)) ?_
          refine .v rfl rfl rfl rfl (aa rfl) ?_
          refine .v rfl rfl rfl rfl (bD rfl rfl (bU (enc:=ax) hzz26 qY ow ((Tree.len _).trans fw.symm))) ?_
          refine .v rfl rfl rfl rfl (aX rfl (Tree.rq jA fw)) ?_
          refine .v rfl rfl rfl rfl (aC rfl lq vM rfl) ?_
          refine .v rfl rfl rfl rfl (aL H22 (i:=0) rfl rfl (aQ xO rfl)) ?_
          refine .v rfl rfl rfl rfl (aa rfl) ?_
          refine .v rfl rfl rfl rfl (bD rfl rfl (bU (enc:=ax) hzz27 qY ow ((Tree.len _).trans fw.symm))) ?_
          refine .v rfl rfl rfl rfl (aX rfl (Tree.rq jA fw)) ?_
          refine .cons rfl rfl rfl (.step ?_) ?_
          ·
           refine ai.ret rfl (aI rfl rfl) (ih _ _ _ hzz28 _ _ (bO.eq (bO.eq .nil))) rfl ?_
           exact ai.nil ⟨_,_,rfl,fun _ ht=>by cases ht; exact ⟨rfl,.refl _⟩⟩
          refine .v rfl rfl rfl rfl (kr rfl) ?_
          exact .nil
         refine aA.cond rfl (fun hb29=>?_) (fun hb29=>?_)
         ·
          replace h:=dF hb29 h
          refine aA.seq ?_
          refine aA.region E.obj rfl ?_
          refine ai.val rfl (aj rfl) rfl ?_
          refine ai.nil ?_
          have hr:=Option.some.inj h
          subst hr
          exact aA.ret ⟨_,rfl,rfl,lM (bO.eq .nil)⟩
         ·
          replace h:=dH hb29 h
          refine aA.skip ?_
          refine aA.region E.obj rfl ?_
          refine ai.val rfl (aB rfl rfl cO) rfl ?_
          refine ai.val rfl (aa rfl) rfl ?_
          refine ai.nil ?_
          exact ⟨(IntKind.wrap .i64 (x23 + 1)),_,_,S21,.refl _ _,.refl _,(ak.r rfl (ak.r rfl (ak.r rfl (ak.r rfl ak.nil)))),H22.sl [0,1] rfl rfl,h⟩
        ·
         replace h:=dH hb25 h
         refine aA.exit ?_
         refine aA.seq ?_
         refine aA.region E.obj rfl ?_
         refine ai.val rfl (aj rfl) rfl ?_
         refine ai.nil ?_
         have hr:=Option.some.inj h
         subst hr
         exact aA.ret ⟨_,rfl,rfl,lM (bO.eq .nil)⟩
set_option maxRecDepth 20000 in
set_option maxHeartbeats 4000000 in
theorem pY (n:Nat) (a1:Int) (a2:Int) (a3:Int) (r:Int) (h:gH n a1 a2 a3=some r):gY R cfg.P 24 [(.int .i64 a1),(.int .i64 a2),(.int .i64 a3)] (.d (.int .i64 r)):=by
 unfold gH at h
 refine gY.of_wp E.obj.toObjOk (C:=cfg) Try.func24 rfl Jz rfl ?_
 have H0:Has aM aM []:=Has.pure
 refine aA.seq ?_
 refine aA.region E.obj rfl ?_
 refine ai.val rfl (aj rfl) rfl ?_
 refine ai.nil ?_
 refine aA.seq ?_
 refine aA.region E.obj rfl ?_
 refine ai.val rfl (aa rfl) rfl ?_
 refine ai.val rfl (aa rfl) rfl ?_
 refine ai.val rfl (aa rfl) rfl ?_
 refine ai.val rfl (aB rfl rfl gV) rfl ?_
 refine ai.val rfl (aB rfl rfl cO) rfl ?_
 obtain ⟨z4,hzz4,h⟩:=bind_some h
 refine ai.val rfl (aB rfl rfl (Eb hzz4)) rfl ?_
 refine ai.val rfl (aj rfl) rfl ?_
 refine ai.nil ?_
 refine aA.join (B:=aM) (α:=Int) (fun a=>dS a2 a=some r) (fun a=>[(0,(.d (.int .i64 a))),(1,(.d (.int .i64 a2)))]) (fun a=>[]) ?_ ?_
 ·
  intro x7 S5 H6 h
  replace h:dS a2 x7=some r:=h
  replace H6:Has aM S5 []:=H6
  unfold dS at h
  refine aA.seq ?_
  refine aA.region E.obj rfl ?_
  refine ai.val rfl (aa rfl) rfl ?_
  refine ai.val rfl (aa rfl) rfl ?_
  refine ai.val rfl (aB rfl rfl cO) rfl ?_
  refine ai.val rfl (aj rfl) rfl ?_
  refine ai.nil ?_
  have hr:=Option.some.inj h
  subst hr
  exact aA.ret ⟨_,rfl,rfl,lM (bO.eq .nil)⟩
 ·
  refine aA.seq ?_
  refine aA.region E.obj rfl ?_
  refine ai.val rfl (aa rfl) rfl ?_
  refine ai.val rfl (aB rfl rfl dN) rfl ?_
  refine ai.nil ?_
  refine aA.cond rfl (fun hb9=>?_) (fun hb9=>?_)
  ·
   replace h:=dF hb9 h
   refine aA.region E.obj rfl ?_
   refine ai.val rfl (aa rfl) rfl ?_
   refine ai.val rfl (aa rfl) rfl ?_
   refine ai.val rfl (aB rfl rfl cO) rfl ?_
   refine ai.val rfl (aa rfl) rfl ?_
   refine ai.val rfl (aB rfl rfl gV) rfl ?_
   refine ai.val rfl (aB rfl rfl cO) rfl ?_
   refine ai.val rfl (aj rfl) rfl ?_
   refine ai.nil ?_
   exact ⟨(IntKind.wrap .i64 ((IntKind.wrap .i64 ((IntKind.wrap .i64 (z4 + a3)) - a2)) + 1)),_,_,aM,.refl _ _,.refl _,(ak.r rfl (ak.r rfl ak.nil)),H0.sl [] rfl rfl,h⟩
  ·
   replace h:=dH hb9 h
   refine aA.skip ?_
   exact ⟨z4,_,_,aM,.refl _ _,.refl _,(ak.r rfl (ak.r rfl ak.nil)),H0.sl [] rfl rfl,h⟩
set_option maxRecDepth 20000 in
set_option maxHeartbeats 4000000 in
theorem jf (n:Nat) (a1:(List Int)) (r:((List Tree) × (List Int))) (h:dD n a1=some r):gY R cfg.P 51 [(.sl ((a1).map (D.int .i64)) false)] (.tup [.d (.sl ((r.1).map ax) false),.d (.sl ((r.2).map (D.int .i64)) false)]):=by
 unfold dD at h
 refine gY.of_wp E.obj.toObjOk (C:=cfg) Try.func51 rfl JD rfl ?_
 have H0:Has aM aM []:=Has.pure
 refine aA.seq ?_
 refine aA.region E.obj rfl ?_
 refine ai.val rfl (aj rfl) rfl ?_
 refine ai.val rfl (aj rfl) rfl ?_
 refine ai.nil ?_
 refine aA.seq ?_
 refine aA.region E.obj rfl ?_
 refine ai.val rfl (aj rfl) rfl ?_
 refine ai.nil ?_
 refine aA.seq ?_
 refine aA.region E.obj rfl ?_
 refine ai.val rfl (aj rfl) rfl ?_
 refine ai.nil ?_
 refine aA.seq ?_
 refine aA.region E.obj rfl ?_
 refine ai.makeMap (D.int .i64) D.bool H0 rfl Hz rfl (fun b2 S3 H4=>?_)
 refine ai.val rfl (aj rfl) rfl ?_
 refine ai.nil ?_
 refine aA.seq ?_
 refine aA.seq ?_
 refine aA.region E.obj rfl ?_
 refine ai.val rfl (aj rfl) rfl ?_
 refine ai.nil ?_
 refine aA.block ?_
 have H47:=H4.Ei
 have H48:=H47.Ei
 refine pM.start (B:=aM) (α:=(List (Int × Bool)) × (List Tree) × AV × (List Int) × AV × Int) (fun k a=>aW n a1 k a.1 a.2.1 a.2.2.2.1 a.2.2.2.2.2=some r) (fun a=>[(0,(.d (.sl ((a1).map (D.int .i64)) false))),(4,a.2.2.1),(5,a.2.2.2.2.1),(6,(.map b2)),(7,(.d (.int .i64 a.2.2.2.2.2)))]) (fun a=>[.map b2 (mD (D.int .i64) D.bool a.1),.grow a.2.2.1 ((a.2.1).map ax),.grow a.2.2.2.2.1 ((a.2.2.2.1).map (D.int .i64))]) ?_ ?_ n ⟨⟨[],[],(.d .aT),[],(.d .aT),0⟩,_,_,S3,.refl _ _,.refl _,(ak.r rfl (ak.r rfl (ak.r rfl (ak.r rfl (ak.r rfl ak.nil))))),H48.sl [2,1,0] rfl rfl,h⟩
 ·
  intro a h; simp [aW] at h
 ·
  intro k23 a S15 H16 h
  obtain ⟨x17,x18,v19,x20,v21,x22⟩:=a
  replace h:aW n a1 (k23 + 1) x17 x18 x20 x22=some r:=h
  replace H16:Has aM S15 [.map b2 (mD (D.int .i64) D.bool x17),.grow v19 ((x18).map ax),.grow v21 ((x20).map (D.int .i64))]:=H16
  unfold aW at h
  refine aA.seq ?_
  refine aA.seq ?_
  refine aA.region E.obj rfl ?_
  refine ai.val rfl (aa rfl) rfl ?_
  refine ai.val rfl (aa rfl) rfl ?_
  refine ai.val rfl (bE rfl iZ) rfl ?_
  refine ai.val rfl (aB rfl rfl dN) rfl ?_
  refine ai.val rfl (aa rfl) rfl ?_
  refine ai.jr 3 17 (.d (.bool ((decide (x22 < ((a1).length:Int))) && (decide (x22 < 9))))) ?_ ?_
  ·
   rcases Bool.eq_false_or_eq_true ((decide (x22 < ((a1).length:Int)))) with hB24 | hB24
   ·
    refine ai.bool hB24 ?_
    refine ai.val rfl (aa rfl) rfl ?_
    refine ai.val rfl (aB rfl rfl dN) rfl ?_
    refine ai.val rfl (aF (b:=true) rfl rfl) rfl ?_
    exact ai.nil ⟨_,rfl,(ak.put (ak.push rfl (ak.push rfl (ak.put (.refl _) (Less.eq (by rw [hB24]))))) (Less.eq (by rw [hB24]; rw [Bool.true_and])))⟩
   ·
    refine ai.bool hB24 ?_
    refine ai.no rfl rfl ?_
    refine ai.no rfl rfl ?_
    refine ai.val rfl (aF (b:=false) rfl rfl) rfl ?_
    exact ai.nil ⟨_,rfl,(ak.put (ak.push rfl (ak.push rfl (ak.put (.refl _) (Less.eq (by rw [hB24]))))) (Less.eq (by rw [hB24]; rw [Bool.false_and])))⟩
  ·
   refine ai.nil ?_
   refine aA.cond rfl (fun hb25=>?_) (fun hb25=>?_)
   ·
    replace h:=dF hb25 h
    refine aA.skip ?_
    refine aA.join (B:=aM) (α:=(List (Int × Bool)) × (List Tree) × AV × (List Int) × AV) (fun a=>bT x22 (aW n a1 k23) a.1 a.2.1 a.2.2.2.1=some r) (fun a=>[(0,(.d (.sl ((a1).map (D.int .i64)) false))),(4,a.2.2.1),(5,a.2.2.2.2),(6,(.map b2)),(7,(.d (.int .i64 x22)))]) (fun a=>[.map b2 (mD (D.int .i64) D.bool a.1),.grow a.2.2.1 ((a.2.1).map ax),.grow a.2.2.2.2 ((a.2.2.2.1).map (D.int .i64))]) ?_ ?_
    ·
     intro a S26 H27 h
     obtain ⟨x28,x29,v30,x31,v32⟩:=a
     replace h:bT x22 (aW n a1 k23) x28 x29 x31=some r:=h
     replace H27:Has aM S26 [.map b2 (mD (D.int .i64) D.bool x28),.grow v30 ((x29).map ax),.grow v32 ((x31).map (D.int .i64))]:=H27
     unfold bT at h
     refine aA.region E.obj rfl ?_
     refine ai.val rfl (aa rfl) rfl ?_
     refine ai.val rfl (aB rfl rfl cO) rfl ?_
     refine ai.val rfl (aj rfl) rfl ?_
     refine ai.nil ?_
     exact ⟨⟨x28,x29,v30,x31,v32,(IntKind.wrap .i64 (x22 + 1))⟩,_,_,S26,.refl _ _,.refl _,(ak.r rfl (ak.r rfl (ak.r rfl (ak.r rfl (ak.r rfl ak.nil))))),H27.sl [0,1,2] rfl rfl,h⟩
    ·
     refine aA.block ?_
     refine aA.seq ?_
     refine aA.region E.obj rfl ?_
     refine ai.val rfl (aa rfl) rfl ?_
     refine ai.val rfl (aa rfl) rfl ?_
     obtain ⟨z34,hzz34,h⟩:=bind_some h
     refine ai.val rfl (bD rfl rfl (bU (enc:=(D.int .i64)) hzz34 eH nZ (((fun _=>rfl) _).trans jL.symm))) rfl ?_
     refine ai.val rfl (aX rfl (bP ni rfl)) rfl ?_
     obtain ⟨z35,hzz35,h⟩:=bind_some h
     refine ai.ret rfl (aI rfl rfl) (pY E _ _ _ _ _ hzz35 _ _ (bO.eq (bO.eq (bO.eq .nil)))) rfl ?_
     refine ai.val rfl (aj rfl) rfl ?_
     refine ai.nil ?_
     refine aA.seq ?_
     refine aA.region E.obj rfl ?_
     refine ai.val rfl (aa rfl) rfl ?_
     refine ai.val rfl (aa rfl) rfl ?_
     refine ai.val rfl (o7 (ek:=(D.int .i64)) (ev:=D.bool) (k:=z35) (z:=false) H16 (i:=0) rfl rfl rfl Hz (rZ Ir) K9) rfl ?_
     refine ai.val rfl (kr rfl) rfl ?_
     refine ai.nil ?_
     refine aA.cond rfl (fun hb36=>?_) (fun hb36=>?_)
     ·
      replace h:=dF hb36 h
      refine aA.seq ?_
      refine aA.region E.obj rfl ?_
      refine ai.val rfl (aa rfl) rfl ?_
      refine ai.val rfl (aa rfl) rfl ?_
      refine ai.mapUpdate (ek:=(D.int .i64)) (ev:=D.bool) (k:=z35) (v:=true) H16 rfl (i:=0) rfl rfl rfl rfl Hz (rZ Ir) (fun S37 H38=>?_)
      refine ai.nil ?_
      refine aA.seq ?_
      refine aA.region E.obj rfl ?_
      refine ai.val rfl (aa rfl) rfl ?_
      refine ai.val rfl (aa rfl) rfl ?_
      refine ai.val rfl (dz (vs:=[(.d (.int .i64 z35))]) (ds:=[(.int .i64 z35)]) D7 eH ni Ex jL rfl (by decide) (.cons rfl rfl .nil) rfl (by intro d hd; simp only [List.mem_cons,List.not_mem_nil,or_false] at hd; rcases hd with rfl <;> rfl) rfl) rfl ?_
      obtain ⟨z39,hzz39,h⟩:=bind_some h
      refine ai.append (xs:=(x20).map (D.int .i64)) (ys:=([z35]).map (D.int .i64)) (zs:=(z39).map (D.int .i64)) H38 rfl rfl rfl (i:=2) rfl rfl D7 Gc eH (kE hzz39) Hd rfl (fC (enc:=(D.int .i64)) (fun _=>jL.symm) _) (fC (enc:=(D.int .i64)) (fun _=>jL.symm) _) Jw rfl (rQ hzz39) (fun v40 S41 H42=>?_)
      refine ai.val rfl (aj rfl) rfl ?_
      refine ai.nil ?_
      refine aA.region E.obj rfl ?_
      refine ai.val rfl (aa rfl) rfl ?_
      refine ai.val rfl (aa rfl) rfl ?_
      refine ai.val rfl (aB rfl rfl cO) rfl ?_
      refine ai.val rfl (ru rfl KQ KR) rfl ?_
      refine ai.val rfl (dz (vs:=[(.d (.int .u8 (IntKind.wrap .u8 (IntKind.wrap .i64 (48 + z35)))))]) (ds:=[(.int .u8 (IntKind.wrap .u8 (IntKind.wrap .i64 (48 + z35))))]) Jo Jk KT KP KS rfl (by decide) (.cons rfl rfl .nil) rfl (by intro d hd; simp only [List.mem_cons,List.not_mem_nil,or_false] at hd; rcases hd with rfl <;> rfl) rfl) rfl ?_
      refine ai.val rfl (pW (l:=[(IntKind.wrap .u8 (IntKind.wrap .i64 (48 + z35)))]) rfl KN I4) rfl ?_
      refine ai.val rfl (aa rfl) rfl ?_
      refine ai.val rfl (aB rfl rfl cO) rfl ?_
      refine ai.val rfl (ru rfl KQ KR) rfl ?_
      refine ai.val rfl (dz (vs:=[(.d (.int .u8 (IntKind.wrap .u8 (IntKind.wrap .i64 (97 + z35)))))]) (ds:=[(.int .u8 (IntKind.wrap .u8 (IntKind.wrap .i64 (97 + z35))))]) Jo Jk KT KP KS rfl (by decide) (.cons rfl rfl .nil) rfl (by intro d hd; simp only [List.mem_cons,List.not_mem_nil,or_false] at hd; rcases hd with rfl <;> rfl) rfl) rfl ?_
      refine ai.val rfl (pW (l:=[(IntKind.wrap .u8 (IntKind.wrap .i64 (97 + z35)))]) rfl KN I4) rfl ?_
      refine ai.val rfl (dR (cs:=[(.d (.str [])),(.d (.str [])),(.d (.str (([(IntKind.wrap .u8 (IntKind.wrap .i64 (97 + z35)))]).map fun (n:Int)=>UInt8.ofNat n.toNat))),(.d .aT),(.d .aT)]) jZ rfl (dI) (gQ rfl rfl rfl rfl rfl)) rfl ?_
      refine ai.less (Less.agg' (d:=ax (Tree.mk [] [] (([(IntKind.wrap .u8 (IntKind.wrap .i64 (97 + z35)))]).map fun (n:Int)=>UInt8.ofNat n.toNat) [] [])) (aH.eq rfl (aH.eq rfl (aH.eq rfl (aH.iJ rfl (.aT false) rfl rfl (aH.iJ rfl (.aT false) rfl rfl .nil))))) ((Tree.eq _).trans rfl)) ?_
      refine ai.val rfl (dz (vs:=[(.d (ax (Tree.mk [] [] (([(IntKind.wrap .u8 (IntKind.wrap .i64 (97 + z35)))]).map fun (n:Int)=>UInt8.ofNat n.toNat) [] [])))]) (ds:=[(ax (Tree.mk [] [] (([(IntKind.wrap .u8 (IntKind.wrap .i64 (97 + z35)))]).map fun (n:Int)=>UInt8.ofNat n.toNat) [] []))]) zT qY jA jZ fw rfl (by decide) (.cons rfl (Tree.len _) .nil) rfl (by intro d hd; simp only [List.mem_cons,List.not_mem_nil,or_false] at hd; rcases hd with rfl <;> exact Tree.agg _) rfl) rfl ?_
      refine ai.val rfl (dR (cs:=[(.d (.str [108,105])),(.d (.str (([(IntKind.wrap .u8 (IntKind.wrap .i64 (48 + z35)))]).map fun (n:Int)=>UInt8.ofNat n.toNat))),(.d (.str [])),(.d .aT),(.d (.sl (([(Tree.mk [] [] (([(IntKind.wrap .u8 (IntKind.wrap .i64 (97 + z35)))]).map fun (n:Int)=>UInt8.ofNat n.toNat) [] [])]).map ax) true))]) jZ rfl (dI) (gQ rfl rfl rfl rfl (gQ rfl rfl rfl rfl (gQ rfl rfl rfl rfl rfl)))) rfl ?_
      refine ai.less (Less.agg' (d:=ax (Tree.mk [108,105] (([(IntKind.wrap .u8 (IntKind.wrap .i64 (48 + z35)))]).map fun (n:Int)=>UInt8.ofNat n.toNat) [] [] [(Tree.mk [] [] (([(IntKind.wrap .u8 (IntKind.wrap .i64 (97 + z35)))]).map fun (n:Int)=>UInt8.ofNat n.toNat) [] [])])) (aH.eq rfl (aH.eq rfl (aH.eq rfl (aH.iJ rfl (.aT false) rfl rfl (aH.iJ rfl (.sV _ _) rfl rfl .nil))))) ((Tree.eq _).trans rfl)) ?_
      refine ai.val rfl (dz (vs:=[(.d (ax (Tree.mk [108,105] (([(IntKind.wrap .u8 (IntKind.wrap .i64 (48 + z35)))]).map fun (n:Int)=>UInt8.ofNat n.toNat) [] [] [(Tree.mk [] [] (([(IntKind.wrap .u8 (IntKind.wrap .i64 (97 + z35)))]).map fun (n:Int)=>UInt8.ofNat n.toNat) [] [])])))]) (ds:=[(ax (Tree.mk [108,105] (([(IntKind.wrap .u8 (IntKind.wrap .i64 (48 + z35)))]).map fun (n:Int)=>UInt8.ofNat n.toNat) [] [] [(Tree.mk [] [] (([(IntKind.wrap .u8 (IntKind.wrap .i64 (97 + z35)))]).map fun (n:Int)=>UInt8.ofNat n.toNat) [] [])]))]) zT qY jA jZ fw rfl (by decide) (.cons rfl (Tree.len _) .nil) rfl (by intro d hd; simp only [List.mem_cons,List.not_mem_nil,or_false] at hd; rcases hd with rfl <;> exact Tree.agg _) rfl) rfl ?_
      obtain ⟨z43,hzz43,h⟩:=bind_some h
      refine ai.append (xs:=(x18).map ax) (ys:=([(Tree.mk [108,105] (([(IntKind.wrap .u8 (IntKind.wrap .i64 (48 + z35)))]).map fun (n:Int)=>UInt8.ofNat n.toNat) [] [] [(Tree.mk [] [] (([(IntKind.wrap .u8 (IntKind.wrap .i64 (97 + z35)))]).map fun (n:Int)=>UInt8.ofNat n.toNat) [] [])])]).map ax) (zs:=(z43).map ax) H42 rfl rfl rfl (i:=1) rfl rfl zT IE qY (kE hzz43) Iw rfl (fC (enc:=ax) (fun z=>(Tree.len z).trans fw.symm) _) (fC (enc:=ax) (fun z=>(Tree.len z).trans fw.symm) _) IA rfl (rQ hzz43) (fun v44 S45 H46=>?_)
      refine ai.val rfl (aj rfl) rfl ?_
      refine ai.nil ?_
      exact ⟨⟨(iD x17 z35 true),z43,v44,z39,v40⟩,_,_,S45,.refl _ _,.refl _,(ak.r rfl (ak.r rfl (ak.r rfl (ak.r rfl (ak.r rfl ak.nil))))),H46.sl [0,1,2] rfl rfl,h⟩
     ·
      replace h:=dH hb36 h
      refine aA.skip ?_
      exact ⟨⟨x17,x18,v19,x20,v21⟩,_,_,S15,.refl _ _,.refl _,(ak.r rfl (ak.r rfl (ak.r rfl (ak.r rfl (ak.r rfl ak.nil))))),H16.sl [0,1,2] rfl rfl,h⟩
   ·
    replace h:=dH hb25 h
    refine aA.exit ?_
    refine aA.seq ?_
    refine aA.region E.obj rfl ?_
    refine ai.val rfl (aa rfl) rfl ?_
    refine ai.val rfl (aa rfl) rfl ?_
    refine ai.val rfl (aj rfl) rfl ?_
    refine ai.val rfl (aj rfl) rfl ?_
    refine ai.nil ?_
    have hr:=Option.some.inj h
    subst hr
    exact aA.ret ⟨_,rfl,rfl,JV (vs:=[v19,v21]) (ds:=[(.sl ((x18).map ax) false),(.sl ((x20).map (D.int .i64)) false)]) (bO.grow H16 (i:=1) rfl (bO.grow H16 (i:=2) rfl .nil))⟩
set_option maxRecDepth 20000 in
set_option maxHeartbeats 4000000 in
theorem mR (n:Nat)  (r:Bool) (h:fZ n  = some r):gY R cfg.P 42 [] (.d (.bool r)):=by
 unfold fZ at h
 refine gY.of_wp E.obj.toObjOk (C:=cfg) Try.func42 rfl JK rfl ?_
 have H0:Has aM aM []:=Has.pure
 refine aA.seq ?_
 refine aA.region E.obj rfl ?_
 refine ai.val rfl (aj rfl) rfl ?_
 refine ai.nil ?_
 refine aA.seq ?_
 refine aA.region E.obj rfl ?_
 obtain ⟨z1,hzz1,h⟩:=bind_some h
 refine ai.eB (ins:=[]) (more:=[]) (H0.sl [] rfl rfl) rfl (aI rfl rfl) (wH E n  _ hzz1 ) .nil rfl ?_
 rintro v2 S3 l4 hr5 H6
 rcases z1 with _ | x7
 ·
  obtain ⟨rfl,rfl⟩:=hr5
  replace h:=IQ h
  replace H6:Has aM S3 []:=H6
  refine ai.val rfl (aj rfl) rfl ?_
  refine ai.nil ?_
  refine aA.seq ?_
  refine aA.seq ?_
  refine aA.region E.obj rfl ?_
  refine ai.val rfl (aa rfl) rfl ?_
  refine ai.val rfl (aB rfl rfl (jP F8)) rfl ?_
  refine ai.nil ?_
  refine aA.cond rfl (fun hb=>?_) (fun hb=>?_)
  ·
   refine aA.seq ?_
   refine aA.region E.obj rfl ?_
   refine ai.val rfl (aj rfl) rfl ?_
   refine ai.nil ?_
   have hr:=Option.some.inj h
   subst hr
   exact aA.ret ⟨_,rfl,rfl,lM (bO.eq .nil)⟩
  ·
   cases hb
 ·
  obtain ⟨b8,v9,ws10,w11,rfl,rfl⟩:=hr5
  replace h:=Jn h
  have H12:Has aM S3 [.box b8 [v9,w11],ay ae ah.kids 7 5 v9 ws10 x7.l none,aG w11 x7.freed]:=H6.sl [0,1,2] rfl rfl
  refine ai.val rfl (aj rfl) rfl ?_
  refine ai.nil ?_
  refine aA.seq ?_
  refine aA.seq ?_
  refine aA.region E.obj rfl ?_
  refine ai.val rfl (aa rfl) rfl ?_
  refine ai.val rfl (aB rfl rfl (zZ F8)) rfl ?_
  refine ai.nil ?_
  refine aA.cond rfl (fun hb=>?_) (fun hb=>?_)
  ·
   cases hb
  ·
   refine aA.skip ?_
   refine aA.seq ?_
   refine aA.region E.obj rfl ?_
   refine ai.val rfl (dR (cs:=[(.d (.str [108,105])),(.d (.str [49])),(.d (.str [])),(.d .aT),(.d .aT)]) jZ rfl (dI) (gQ rfl rfl rfl rfl (gQ rfl rfl rfl rfl rfl))) rfl ?_
   refine ai.less (Less.agg' (d:=ax (Tree.mk [108,105] [49] [] [] [])) (aH.eq rfl (aH.eq rfl (aH.eq rfl (aH.iJ rfl (.aT false) rfl rfl (aH.iJ rfl (.aT false) rfl rfl .nil))))) ((Tree.eq _).trans rfl)) ?_
   refine ai.val rfl (dR (cs:=[(.d (.str [108,105])),(.d (.str [50])),(.d (.str [])),(.d .aT),(.d .aT)]) jZ rfl (dI) (gQ rfl rfl rfl rfl (gQ rfl rfl rfl rfl rfl))) rfl ?_
   refine ai.less (Less.agg' (d:=ax (Tree.mk [108,105] [50] [] [] [])) (aH.eq rfl (aH.eq rfl (aH.eq rfl (aH.iJ rfl (.aT false) rfl rfl (aH.iJ rfl (.aT false) rfl rfl .nil))))) ((Tree.eq _).trans rfl)) ?_
   refine ai.alloc H12 rfl yg jZ rfl rfl (fun b13 S14 H15=>?_)
   refine ai.alloc H15 rfl yg jZ rfl rfl (fun b16 S17 H18=>?_)
   refine ai.store H18 (i:=1) rfl rfl rfl rfl (Tree.gu _) rfl fw rfl ow rfl rfl rfl (fun S19 H20=>?_)
   refine ai.store H20 (i:=0) rfl rfl rfl rfl (Tree.gu _) rfl fw rfl ow rfl rfl rfl (fun S21 H22=>?_)
   refine ai.nil ?_
   refine aA.seq ?_
   refine aA.region E.obj rfl ?_
   refine ai.val rfl (aa rfl) rfl ?_
   refine ai.val rfl (aL H22 (i:=1) rfl rfl (dO jA fw rfl)) rfl ?_
   refine ai.less (Less.agg' (d:=ax (Tree.mk [108,105] [49] [] [] [])) (aH.eq rfl (aH.eq rfl (aH.eq rfl (aH.eq rfl (aH.eq rfl .nil))))) ((Tree.eq _).trans rfl)) ?_
   refine ai.val rfl (aL H22 (i:=0) rfl rfl (dO jA fw rfl)) rfl ?_
   refine ai.less (Less.agg' (d:=ax (Tree.mk [108,105] [50] [] [] [])) (aH.eq rfl (aH.eq rfl (aH.eq rfl (aH.eq rfl (aH.eq rfl .nil))))) ((Tree.eq _).trans rfl)) ?_
   refine ai.val rfl (dz (vs:=[(.d (ax (Tree.mk [108,105] [49] [] [] []))),(.d (ax (Tree.mk [108,105] [50] [] [] [])))]) (ds:=[(ax (Tree.mk [108,105] [49] [] [] [])),(ax (Tree.mk [108,105] [50] [] [] []))]) zT qY jA jZ fw rfl (by decide) (.cons rfl (Tree.len _) (.cons rfl (Tree.len _) .nil)) rfl (by intro d hd; simp only [List.mem_cons,List.not_mem_nil,or_false] at hd; rcases hd with rfl | rfl <;> exact Tree.agg _) rfl) rfl ?_
   refine ai.val rfl (dR (cs:=[(.d (.str [117,108])),(.d (.str [])),(.d (.str [])),(.d .aT),(.d (.sl (([(Tree.mk [108,105] [49] [] [] []),(Tree.mk [108,105] [50] [] [] [])]).map ax) true))]) jZ rfl (dI) (gQ rfl rfl rfl rfl (gQ rfl rfl rfl rfl rfl))) rfl ?_
   refine ai.less (Less.agg' (d:=ax (Tree.mk [117,108] [] [] [] [(Tree.mk [108,105] [49] [] [] []),(Tree.mk [108,105] [50] [] [] [])])) (aH.eq rfl (aH.eq rfl (aH.eq rfl (aH.iJ rfl (.aT false) rfl rfl (aH.iJ rfl (.sV _ _) rfl rfl .nil))))) ((Tree.eq _).trans rfl)) ?_
   obtain ⟨z23,hzz23,h⟩:=bind_some h
   refine ai.eB (ins:=[.box b8 [v9,w11],ay ae ah.kids 7 5 v9 ws10 x7.l none,aG w11 x7.freed]) (more:=[.box b16 [(.d (.str (Tree.mk [108,105] [50] [] [] []).Tag)),(.d (.str (Tree.mk [108,105] [50] [] [] []).Key)),(.d (.str (Tree.mk [108,105] [50] [] [] []).Text)),(.d (.sl (((Tree.mk [108,105] [50] [] [] []).aV).map aD) false)),(.d (.sl (((Tree.mk [108,105] [50] [] [] []).Kids).map ax) false))],.box b13 [(.d (.str (Tree.mk [108,105] [49] [] [] []).Tag)),(.d (.str (Tree.mk [108,105] [49] [] [] []).Key)),(.d (.str (Tree.mk [108,105] [49] [] [] []).Text)),(.d (.sl (((Tree.mk [108,105] [49] [] [] []).aV).map aD) false)),(.d (.sl (((Tree.mk [108,105] [49] [] [] []).Kids).map ax) false))]]) (H22.sl [2,3,4,0,1] rfl rfl) rfl (aI rfl rfl) (lL E n _ _ _ hzz23 b8 v9 ws10 w11) (.cons (.refl _) (.cons (.refl _) .nil)) rfl ?_
   rintro _ S27 _ ⟨rfl,v24,ws25,w26,rfl⟩ H28
   have H29:Has aM S27 [.box b16 [(.d (.str (Tree.mk [108,105] [50] [] [] []).Tag)),(.d (.str (Tree.mk [108,105] [50] [] [] []).Key)),(.d (.str (Tree.mk [108,105] [50] [] [] []).Text)),(.d (.sl (((Tree.mk [108,105] [50] [] [] []).aV).map aD) false)),(.d (.sl (((Tree.mk [108,105] [50] [] [] []).Kids).map ax) false))],.box b13 [(.d (.str (Tree.mk [108,105] [49] [] [] []).Tag)),(.d (.str (Tree.mk [108,105] [49] [] [] []).Key)),(.d (.str (Tree.mk [108,105] [49] [] [] []).Text)),(.d (.sl (((Tree.mk [108,105] [49] [] [] []).aV).map aD) false)),(.d (.sl (((Tree.mk [108,105] [49] [] [] []).Kids).map ax) false))],.box b8 [v24,w26],ay ae ah.kids 7 5 v24 ws25 z23.2.l none,aG w26 z23.2.freed]:=H28.sl [3,4,0,1,2] rfl rfl
   refine ai.val rfl (aj rfl) rfl ?_
   refine ai.nil ?_
   refine aA.seq ?_
   refine aA.region E.obj rfl ?_
   refine ai.val rfl (aa rfl) rfl ?_
   refine ai.val rfl (aa rfl) rfl ?_
   obtain ⟨z30,hzz30,h⟩:=bind_some h
   refine ai.eB (ins:=[.box b8 [v24,w26],ay ae ah.kids 7 5 v24 ws25 z23.2.l none,aG w26 z23.2.freed]) (more:=[.box b16 [(.d (.str (Tree.mk [108,105] [50] [] [] []).Tag)),(.d (.str (Tree.mk [108,105] [50] [] [] []).Key)),(.d (.str (Tree.mk [108,105] [50] [] [] []).Text)),(.d (.sl (((Tree.mk [108,105] [50] [] [] []).aV).map aD) false)),(.d (.sl (((Tree.mk [108,105] [50] [] [] []).Kids).map ax) false))],.box b13 [(.d (.str (Tree.mk [108,105] [49] [] [] []).Tag)),(.d (.str (Tree.mk [108,105] [49] [] [] []).Key)),(.d (.str (Tree.mk [108,105] [49] [] [] []).Text)),(.d (.sl (((Tree.mk [108,105] [49] [] [] []).aV).map aD) false)),(.d (.sl (((Tree.mk [108,105] [49] [] [] []).Kids).map ax) false))]]) (H29.sl [2,3,4,0,1] rfl rfl) rfl (aI rfl rfl) (iN E n _ _ _ hzz30 b8 v24 ws25 w26) (.cons (.refl _) (.cons (.refl _) .nil)) rfl ?_
   rintro _ S31 _ ⟨rfl,rfl⟩ H32
   have H33:Has aM S31 [.box b16 [(.d (.str (Tree.mk [108,105] [50] [] [] []).Tag)),(.d (.str (Tree.mk [108,105] [50] [] [] []).Key)),(.d (.str (Tree.mk [108,105] [50] [] [] []).Text)),(.d (.sl (((Tree.mk [108,105] [50] [] [] []).aV).map aD) false)),(.d (.sl (((Tree.mk [108,105] [50] [] [] []).Kids).map ax) false))],.box b13 [(.d (.str (Tree.mk [108,105] [49] [] [] []).Tag)),(.d (.str (Tree.mk [108,105] [49] [] [] []).Key)),(.d (.str (Tree.mk [108,105] [49] [] [] []).Text)),(.d (.sl (((Tree.mk [108,105] [49] [] [] []).aV).map aD) false)),(.d (.sl (((Tree.mk [108,105] [49] [] [] []).Kids).map ax) false))],.box b8 [v24,w26],ay ae ah.kids 7 5 v24 ws25 z23.2.l none,aG w26 z23.2.freed]:=H32.sl [3,4,0,1,2] rfl rfl
   refine ai.val rfl (aj rfl) rfl ?_
   refine ai.nil ?_
   refine aA.seq ?_
   refine aA.region E.obj rfl ?_
   refine ai.val rfl (aa rfl) rfl ?_
   refine ai.val rfl (aa rfl) rfl ?_
   refine ai.val rfl (aL H33 (i:=0) rfl rfl (dO jA fw rfl)) rfl ?_
   refine ai.less (Less.agg' (d:=ax (Tree.mk [108,105] [50] [] [] [])) (aH.eq rfl (aH.eq rfl (aH.eq rfl (aH.eq rfl (aH.eq rfl .nil))))) ((Tree.eq _).trans rfl)) ?_
   refine ai.val rfl (aL H33 (i:=1) rfl rfl (dO jA fw rfl)) rfl ?_
   refine ai.less (Less.agg' (d:=ax (Tree.mk [108,105] [49] [] [] [])) (aH.eq rfl (aH.eq rfl (aH.eq rfl (aH.eq rfl (aH.eq rfl .nil))))) ((Tree.eq _).trans rfl)) ?_
   refine ai.val rfl (dz (vs:=[(.d (ax (Tree.mk [108,105] [50] [] [] []))),(.d (ax (Tree.mk [108,105] [49] [] [] [])))]) (ds:=[(ax (Tree.mk [108,105] [50] [] [] [])),(ax (Tree.mk [108,105] [49] [] [] []))]) zT qY jA jZ fw rfl (by decide) (.cons rfl (Tree.len _) (.cons rfl (Tree.len _) .nil)) rfl (by intro d hd; simp only [List.mem_cons,List.not_mem_nil,or_false] at hd; rcases hd with rfl | rfl <;> exact Tree.agg _) rfl) rfl ?_
   refine ai.val rfl (dR (cs:=[(.d (.str [117,108])),(.d (.str [])),(.d (.str [])),(.d .aT),(.d (.sl (([(Tree.mk [108,105] [50] [] [] []),(Tree.mk [108,105] [49] [] [] [])]).map ax) true))]) jZ rfl (dI) (gQ rfl rfl rfl rfl (gQ rfl rfl rfl rfl rfl))) rfl ?_
   refine ai.less (Less.agg' (d:=ax (Tree.mk [117,108] [] [] [] [(Tree.mk [108,105] [50] [] [] []),(Tree.mk [108,105] [49] [] [] [])])) (aH.eq rfl (aH.eq rfl (aH.eq rfl (aH.iJ rfl (.aT false) rfl rfl (aH.iJ rfl (.sV _ _) rfl rfl .nil))))) ((Tree.eq _).trans rfl)) ?_
   obtain ⟨z34,hzz34,h⟩:=bind_some h
   refine ai.eB (ins:=[.box b8 [v24,w26],ay ae ah.kids 7 5 v24 ws25 z23.2.l none,aG w26 z23.2.freed]) (more:=[.box b16 [(.d (.str (Tree.mk [108,105] [50] [] [] []).Tag)),(.d (.str (Tree.mk [108,105] [50] [] [] []).Key)),(.d (.str (Tree.mk [108,105] [50] [] [] []).Text)),(.d (.sl (((Tree.mk [108,105] [50] [] [] []).aV).map aD) false)),(.d (.sl (((Tree.mk [108,105] [50] [] [] []).Kids).map ax) false))],.box b13 [(.d (.str (Tree.mk [108,105] [49] [] [] []).Tag)),(.d (.str (Tree.mk [108,105] [49] [] [] []).Key)),(.d (.str (Tree.mk [108,105] [49] [] [] []).Text)),(.d (.sl (((Tree.mk [108,105] [49] [] [] []).aV).map aD) false)),(.d (.sl (((Tree.mk [108,105] [49] [] [] []).Kids).map ax) false))]]) (H33.sl [2,3,4,0,1] rfl rfl) rfl (aI rfl rfl) (nD E n _ _ _ _ hzz34 b8 v24 ws25 w26) (.cons (.refl _) (.cons (.refl _) (.cons (.refl _) .nil))) rfl ?_
   rintro _ S38 _ ⟨rfl,v35,ws36,w37,rfl⟩ H39
   have H40:Has aM S38 [.box b16 [(.d (.str (Tree.mk [108,105] [50] [] [] []).Tag)),(.d (.str (Tree.mk [108,105] [50] [] [] []).Key)),(.d (.str (Tree.mk [108,105] [50] [] [] []).Text)),(.d (.sl (((Tree.mk [108,105] [50] [] [] []).aV).map aD) false)),(.d (.sl (((Tree.mk [108,105] [50] [] [] []).Kids).map ax) false))],.box b13 [(.d (.str (Tree.mk [108,105] [49] [] [] []).Tag)),(.d (.str (Tree.mk [108,105] [49] [] [] []).Key)),(.d (.str (Tree.mk [108,105] [49] [] [] []).Text)),(.d (.sl (((Tree.mk [108,105] [49] [] [] []).aV).map aD) false)),(.d (.sl (((Tree.mk [108,105] [49] [] [] []).Kids).map ax) false))],.box b8 [v35,w37],ay ae ah.kids 7 5 v35 ws36 z34.2.l none,aG w37 z34.2.freed]:=H39.sl [3,4,0,1,2] rfl rfl
   refine ai.val rfl (aj rfl) rfl ?_
   refine ai.nil ?_
   refine aA.seq ?_
   refine aA.region E.obj rfl ?_
   refine ai.val rfl (aa rfl) rfl ?_
   refine ai.val rfl (aa rfl) rfl ?_
   obtain ⟨z41,hzz41,h⟩:=bind_some h
   refine ai.eB (ins:=[.box b8 [v35,w37],ay ae ah.kids 7 5 v35 ws36 z34.2.l none,aG w37 z34.2.freed]) (more:=[.box b16 [(.d (.str (Tree.mk [108,105] [50] [] [] []).Tag)),(.d (.str (Tree.mk [108,105] [50] [] [] []).Key)),(.d (.str (Tree.mk [108,105] [50] [] [] []).Text)),(.d (.sl (((Tree.mk [108,105] [50] [] [] []).aV).map aD) false)),(.d (.sl (((Tree.mk [108,105] [50] [] [] []).Kids).map ax) false))],.box b13 [(.d (.str (Tree.mk [108,105] [49] [] [] []).Tag)),(.d (.str (Tree.mk [108,105] [49] [] [] []).Key)),(.d (.str (Tree.mk [108,105] [49] [] [] []).Text)),(.d (.sl (((Tree.mk [108,105] [49] [] [] []).aV).map aD) false)),(.d (.sl (((Tree.mk [108,105] [49] [] [] []).Kids).map ax) false))]]) (H40.sl [2,3,4,0,1] rfl rfl) rfl (aI rfl rfl) (iN E n _ _ _ hzz41 b8 v35 ws36 w37) (.cons (.refl _) (.cons (.refl _) .nil)) rfl ?_
   rintro _ S42 _ ⟨rfl,rfl⟩ H43
   have H44:Has aM S42 [.box b16 [(.d (.str (Tree.mk [108,105] [50] [] [] []).Tag)),(.d (.str (Tree.mk [108,105] [50] [] [] []).Key)),(.d (.str (Tree.mk [108,105] [50] [] [] []).Text)),(.d (.sl (((Tree.mk [108,105] [50] [] [] []).aV).map aD) false)),(.d (.sl (((Tree.mk [108,105] [50] [] [] []).Kids).map ax) false))],.box b13 [(.d (.str (Tree.mk [108,105] [49] [] [] []).Tag)),(.d (.str (Tree.mk [108,105] [49] [] [] []).Key)),(.d (.str (Tree.mk [108,105] [49] [] [] []).Text)),(.d (.sl (((Tree.mk [108,105] [49] [] [] []).aV).map aD) false)),(.d (.sl (((Tree.mk [108,105] [49] [] [] []).Kids).map ax) false))],.box b8 [v35,w37],ay ae ah.kids 7 5 v35 ws36 z34.2.l none,aG w37 z34.2.freed]:=H43.sl [3,4,0,1,2] rfl rfl
   refine ai.val rfl (aj rfl) rfl ?_
   refine ai.nil ?_
   refine aA.join (B:=aM) (α:=au × (List (List AV)) × AV × Bool) (fun a=>bg a.1 a.2.2.2=some r) (fun a=>[(0,(.d (.bool a.2.2.2)))]) (fun a=>[]) ?_ ?_
   ·
    intro a S45 H46 h
    obtain ⟨x47,ws48,w49,x50⟩:=a
    replace h:bg x47 x50=some r:=h
    replace H46:Has aM S45 []:=H46
    unfold bg at h
    have hr:=Option.some.inj h
    subst hr
    exact aA.ret ⟨_,rfl,rfl,lM (bO.eq .nil)⟩
   ·
    rcases Bool.eq_false_or_eq_true ((z23.1 == 2)) with hb52 | hb52
    ·
     replace h:=dF hb52 h
     rcases Bool.eq_false_or_eq_true (z34.1) with hb53 | hb53
     ·
      replace h:=dF hb53 h
      rcases Bool.eq_false_or_eq_true ((((z30).length:Int) == 2)) with hb54 | hb54
      ·
       replace h:=dF hb54 h
       rcases Bool.eq_false_or_eq_true ((((z41).length:Int) == 2)) with hb55 | hb55
       ·
        replace h:=dF hb55 h
        obtain ⟨z56,hzz56,h⟩:=bind_some h
        obtain ⟨z57,hzz57,h⟩:=bind_some h
        rcases Bool.eq_false_or_eq_true ((z56 == z57)) with hb58 | hb58
        ·
         replace h:=dF hb58 h
         obtain ⟨z59,hzz59,h⟩:=bind_some h
         obtain ⟨z60,hzz60,h⟩:=bind_some h
         rcases Bool.eq_false_or_eq_true ((z59 == z60)) with hb61 | hb61
         ·
          replace h:=dF hb61 h
          obtain ⟨z62,hzz62,h⟩:=bind_some h
          rcases Bool.eq_false_or_eq_true ((z62.1 == 3)) with hb68 | hb68
          ·
           replace h:=dF hb68 h
           obtain ⟨z69,hzz69,h⟩:=bind_some h
           refine aA.iV E.obj lG Bp [(0,some 44)] (by kernel_rfl) [36,41] (by decide) [some (.d (.int .i64 z23.1)),some (.d (.bool (z23.1 == 2))),some (.d (.bool true)),some (.d (.bool z34.1)),some (.d (.bool z34.1)),some (.d (.bool true)),some (.d (.sl ((z30).map (D.int .i64)) false)),some (.d (.int .i64 ((z30).length:Int))),some (.d (.bool (((z30).length:Int) == 2))),some (.d (.bool (((z30).length:Int) == 2))),some (.d (.bool true)),some (.d (.sl ((z41).map (D.int .i64)) false)),some (.d (.int .i64 ((z41).length:Int))),some (.d (.bool (((z41).length:Int) == 2))),some (.d (.bool (((z41).length:Int) == 2))),some (.d (.bool true)),some (.d (.sl ((z30).map (D.int .i64)) false)),some (.eptr (.int .i64 z56) 0),some (.d (.int .i64 z56)),some (.d (.sl ((z41).map (D.int .i64)) false)),some (.eptr (.int .i64 z57) 0),some (.d (.int .i64 z57)),some (.d (.bool (z56 == z57))),some (.d (.bool (z56 == z57))),some (.d (.bool true)),some (.d (.sl ((z30).map (D.int .i64)) false)),some (.eptr (.int .i64 z59) 0),some (.d (.int .i64 z59)),some (.d (.sl ((z41).map (D.int .i64)) false)),some (.eptr (.int .i64 z60) 0),some (.d (.int .i64 z60)),some (.d (.bool (z59 == z60))),some (.d (.bool (z59 == z60))),some (.d (.bool true)),some (.ptr b8 0 0),some (.d (.int .i64 z23.1)),none,none,none,none,none,none,none,none,none] ?_
           refine ⟨[0,1,2,3,4,5,6,7,8,9,10,11,12,13,14,15,16,17,18,19,20,21,22,23,24,25,26,27,28,29,30,31,32,33,34,35],by kernel_rfl,?_,_,_,rfl,rfl,.step ?_⟩
           ·
            refine .v rfl rfl rfl rfl (aa rfl) ?_
            refine .v rfl rfl rfl rfl (aB rfl rfl bC) ?_
            refine .cons rfl rfl rfl (.val rfl (aa rfl) (.eq (by rw [hb52]))) ?_
            refine .v rfl rfl rfl rfl (aa rfl) ?_
            refine .v rfl rfl rfl rfl (aF (b:=true) rfl rfl) ?_
            refine .cons rfl rfl rfl (.val rfl (aa rfl) (.eq (by rw [hb53]))) ?_
            refine .v rfl rfl rfl rfl (aa rfl) ?_
            refine .v rfl rfl rfl rfl (bE rfl iZ) ?_
            refine .v rfl rfl rfl rfl (aB rfl rfl bC) ?_
            refine .v rfl rfl rfl rfl (aF (b:=true) rfl rfl) ?_
            refine .cons rfl rfl rfl (.val rfl (aa rfl) (.eq (by rw [hb54]))) ?_
            refine .v rfl rfl rfl rfl (aa rfl) ?_
            refine .v rfl rfl rfl rfl (bE rfl iZ) ?_
            refine .v rfl rfl rfl rfl (aB rfl rfl bC) ?_
            refine .v rfl rfl rfl rfl (aF (b:=true) rfl rfl) ?_
            refine .cons rfl rfl rfl (.val rfl (aa rfl) (.eq (by rw [hb55]))) ?_
            refine .v rfl rfl rfl rfl (aa rfl) ?_
            refine .v rfl rfl rfl rfl (bD rfl rfl (bU (enc:=(D.int .i64)) hzz56 eH nZ (((fun _=>rfl) _).trans jL.symm))) ?_
            refine .v rfl rfl rfl rfl (aX rfl (bP ni rfl)) ?_
            refine .v rfl rfl rfl rfl (aa rfl) ?_
            refine .v rfl rfl rfl rfl (bD rfl rfl (bU (enc:=(D.int .i64)) hzz57 eH nZ (((fun _=>rfl) _).trans jL.symm))) ?_
            refine .v rfl rfl rfl rfl (aX rfl (bP ni rfl)) ?_
            refine .v rfl rfl rfl rfl (aB rfl rfl bC) ?_
            refine .v rfl rfl rfl rfl (aF (b:=true) rfl rfl) ?_
            refine .cons rfl rfl rfl (.val rfl (aa rfl) (.eq (by rw [hb58]))) ?_
            refine .v rfl rfl rfl rfl (aa rfl) ?_
            refine .v rfl rfl rfl rfl (bD rfl rfl (bU (enc:=(D.int .i64)) hzz59 eH nZ (((fun _=>rfl) _).trans jL.symm))) ?_
            refine .v rfl rfl rfl rfl (aX rfl (bP ni rfl)) ?_
            refine .v rfl rfl rfl rfl (aa rfl) ?_
            refine .v rfl rfl rfl rfl (bD rfl rfl (bU (enc:=(D.int .i64)) hzz60 eH nZ (((fun _=>rfl) _).trans jL.symm))) ?_
            refine .v rfl rfl rfl rfl (aX rfl (bP ni rfl)) ?_
            refine .v rfl rfl rfl rfl (aB rfl rfl bC) ?_
            refine .v rfl rfl rfl rfl (aF (b:=true) rfl rfl) ?_
            refine .cons rfl rfl rfl (.val rfl (aa rfl) (.eq (by rw [hb61]))) ?_
            refine .v rfl rfl rfl rfl (aa rfl) ?_
            refine .v rfl rfl rfl rfl (aa rfl) ?_
            exact .nil
           refine ai.eB (ins:=[.box b8 [v35,w37],ay ae ah.kids 7 5 v35 ws36 z34.2.l none,aG w37 z34.2.freed]) (more:=[.box b16 [(.d (.str (Tree.mk [108,105] [50] [] [] []).Tag)),(.d (.str (Tree.mk [108,105] [50] [] [] []).Key)),(.d (.str (Tree.mk [108,105] [50] [] [] []).Text)),(.d (.sl (((Tree.mk [108,105] [50] [] [] []).aV).map aD) false)),(.d (.sl (((Tree.mk [108,105] [50] [] [] []).Kids).map ax) false))],.box b13 [(.d (.str (Tree.mk [108,105] [49] [] [] []).Tag)),(.d (.str (Tree.mk [108,105] [49] [] [] []).Key)),(.d (.str (Tree.mk [108,105] [49] [] [] []).Text)),(.d (.sl (((Tree.mk [108,105] [49] [] [] []).aV).map aD) false)),(.d (.sl (((Tree.mk [108,105] [49] [] [] []).Kids).map ax) false))]]) (H44.sl [2,3,4,0,1] rfl rfl) rfl (aI rfl rfl) (nG E n _ _ _ hzz62 b8 v35 ws36 w37) (.cons (.refl _) (.cons (.refl _) .nil)) rfl ?_
           rintro _ S75 _ ⟨rfl,ws73,w74,rfl⟩ H76
           have H77:Has aM S75 [.box b16 [(.d (.str (Tree.mk [108,105] [50] [] [] []).Tag)),(.d (.str (Tree.mk [108,105] [50] [] [] []).Key)),(.d (.str (Tree.mk [108,105] [50] [] [] []).Text)),(.d (.sl (((Tree.mk [108,105] [50] [] [] []).aV).map aD) false)),(.d (.sl (((Tree.mk [108,105] [50] [] [] []).Kids).map ax) false))],.box b13 [(.d (.str (Tree.mk [108,105] [49] [] [] []).Tag)),(.d (.str (Tree.mk [108,105] [49] [] [] []).Key)),(.d (.str (Tree.mk [108,105] [49] [] [] []).Text)),(.d (.sl (((Tree.mk [108,105] [49] [] [] []).aV).map aD) false)),(.d (.sl (((Tree.mk [108,105] [49] [] [] []).Kids).map ax) false))],.box b8 [v35,w74],ay ae ah.kids 7 5 v35 ws73 z62.2.l none,aG w74 z62.2.freed]:=H76.sl [3,4,0,1,2] rfl rfl
           refine ai.nil ⟨_,_,_,rfl,(fun _ ht=>by cases ht; rfl),[some (.d (.int .i64 z23.1)),some (.d (.bool (z23.1 == 2))),some (.d (.bool true)),some (.d (.bool z34.1)),some (.d (.bool z34.1)),some (.d (.bool true)),some (.d (.sl ((z30).map (D.int .i64)) false)),some (.d (.int .i64 ((z30).length:Int))),some (.d (.bool (((z30).length:Int) == 2))),some (.d (.bool (((z30).length:Int) == 2))),some (.d (.bool true)),some (.d (.sl ((z41).map (D.int .i64)) false)),some (.d (.int .i64 ((z41).length:Int))),some (.d (.bool (((z41).length:Int) == 2))),some (.d (.bool (((z41).length:Int) == 2))),some (.d (.bool true)),some (.d (.sl ((z30).map (D.int .i64)) false)),some (.eptr (.int .i64 z56) 0),some (.d (.int .i64 z56)),some (.d (.sl ((z41).map (D.int .i64)) false)),some (.eptr (.int .i64 z57) 0),some (.d (.int .i64 z57)),some (.d (.bool (z56 == z57))),some (.d (.bool (z56 == z57))),some (.d (.bool true)),some (.d (.sl ((z30).map (D.int .i64)) false)),some (.eptr (.int .i64 z59) 0),some (.d (.int .i64 z59)),some (.d (.sl ((z41).map (D.int .i64)) false)),some (.eptr (.int .i64 z60) 0),some (.d (.int .i64 z60)),some (.d (.bool (z59 == z60))),some (.d (.bool (z59 == z60))),some (.d (.bool true)),some (.ptr b8 0 0),some (.d (.int .i64 z23.1)),some (.d (.int .i64 z62.1)),some (.d (.bool (z62.1 == 3))),some (.d (.bool (z62.1 == 3))),some (.d (.bool true)),some (.ptr b8 0 0),none,none,none,none],(.o (.o (.o (.o (.o (.o (.o (.o (.o (.o (.o (.o (.o (.o (.o (.o (.o (.o (.o (.o (.o (.o (.o (.o (.o (.o (.o (.o (.o (.o (.o (.o (.o (.o (.o (.o (.new (.new (.new (.new (.new (.new (.new (.new (.new .nil))))))))))))))))))))))))))))))))))))))))))))),(fun _ ht=>by cases ht; exact ⟨_,rfl,.refl _⟩),?_⟩
           refine ⟨[37,38,39,40],by kernel_rfl,?_,_,_,rfl,rfl,.step ?_⟩
           ·
            refine .v rfl rfl rfl rfl (aB rfl rfl bC) ?_
            refine .v rfl rfl rfl rfl (aF (b:=true) rfl rfl) ?_
            refine .cons rfl rfl rfl (.val rfl (aa rfl) (.eq (by rw [hb68]))) ?_
            refine .v rfl rfl rfl rfl (aa rfl) ?_
            exact .nil
           refine ai.eB (ins:=[.box b8 [v35,w74],ay ae ah.kids 7 5 v35 ws73 z62.2.l none,aG w74 z62.2.freed]) (more:=[.box b16 [(.d (.str (Tree.mk [108,105] [50] [] [] []).Tag)),(.d (.str (Tree.mk [108,105] [50] [] [] []).Key)),(.d (.str (Tree.mk [108,105] [50] [] [] []).Text)),(.d (.sl (((Tree.mk [108,105] [50] [] [] []).aV).map aD) false)),(.d (.sl (((Tree.mk [108,105] [50] [] [] []).Kids).map ax) false))],.box b13 [(.d (.str (Tree.mk [108,105] [49] [] [] []).Tag)),(.d (.str (Tree.mk [108,105] [49] [] [] []).Key)),(.d (.str (Tree.mk [108,105] [49] [] [] []).Text)),(.d (.sl (((Tree.mk [108,105] [49] [] [] []).aV).map aD) false)),(.d (.sl (((Tree.mk [108,105] [49] [] [] []).Kids).map ax) false))]]) (H77.sl [2,3,4,0,1] rfl rfl) rfl (aI rfl rfl) (jk E n _ _ hzz69 b8 v35 ws73 w74) (.cons (.refl _) .nil) rfl ?_
           rintro _ S78 _ ⟨rfl,rfl⟩ H79
           have H80:Has aM S78 [.box b16 [(.d (.str (Tree.mk [108,105] [50] [] [] []).Tag)),(.d (.str (Tree.mk [108,105] [50] [] [] []).Key)),(.d (.str (Tree.mk [108,105] [50] [] [] []).Text)),(.d (.sl (((Tree.mk [108,105] [50] [] [] []).aV).map aD) false)),(.d (.sl (((Tree.mk [108,105] [50] [] [] []).Kids).map ax) false))],.box b13 [(.d (.str (Tree.mk [108,105] [49] [] [] []).Tag)),(.d (.str (Tree.mk [108,105] [49] [] [] []).Key)),(.d (.str (Tree.mk [108,105] [49] [] [] []).Text)),(.d (.sl (((Tree.mk [108,105] [49] [] [] []).aV).map aD) false)),(.d (.sl (((Tree.mk [108,105] [49] [] [] []).Kids).map ax) false))],.box b8 [v35,w74],ay ae ah.kids 7 5 v35 ws73 z62.2.l none,aG w74 z62.2.freed]:=H79.sl [3,4,0,1,2] rfl rfl
           refine ai.nil ⟨_,_,_,rfl,(fun _ ht=>by cases ht; rfl),[some (.d (.int .i64 z23.1)),some (.d (.bool (z23.1 == 2))),some (.d (.bool true)),some (.d (.bool z34.1)),some (.d (.bool z34.1)),some (.d (.bool true)),some (.d (.sl ((z30).map (D.int .i64)) false)),some (.d (.int .i64 ((z30).length:Int))),some (.d (.bool (((z30).length:Int) == 2))),some (.d (.bool (((z30).length:Int) == 2))),some (.d (.bool true)),some (.d (.sl ((z41).map (D.int .i64)) false)),some (.d (.int .i64 ((z41).length:Int))),some (.d (.bool (((z41).length:Int) == 2))),some (.d (.bool (((z41).length:Int) == 2))),some (.d (.bool true)),some (.d (.sl ((z30).map (D.int .i64)) false)),some (.eptr (.int .i64 z56) 0),some (.d (.int .i64 z56)),some (.d (.sl ((z41).map (D.int .i64)) false)),some (.eptr (.int .i64 z57) 0),some (.d (.int .i64 z57)),some (.d (.bool (z56 == z57))),some (.d (.bool (z56 == z57))),some (.d (.bool true)),some (.d (.sl ((z30).map (D.int .i64)) false)),some (.eptr (.int .i64 z59) 0),some (.d (.int .i64 z59)),some (.d (.sl ((z41).map (D.int .i64)) false)),some (.eptr (.int .i64 z60) 0),some (.d (.int .i64 z60)),some (.d (.bool (z59 == z60))),some (.d (.bool (z59 == z60))),some (.d (.bool true)),some (.ptr b8 0 0),some (.d (.int .i64 z23.1)),some (.d (.int .i64 z62.1)),some (.d (.bool (z62.1 == 3))),some (.d (.bool (z62.1 == 3))),some (.d (.bool true)),some (.ptr b8 0 0),some (.d (.int .i64 z69)),some (.d (.bool (z69 == 1))),some (.d (.bool (z69 == 1))),some (.d (.bool (z69 == 1)))],(.o (.o (.o (.o (.o (.o (.o (.o (.o (.o (.o (.o (.o (.o (.o (.o (.o (.o (.o (.o (.o (.o (.o (.o (.o (.o (.o (.o (.o (.o (.o (.o (.o (.o (.o (.o (.o (.o (.o (.o (.o (.new (.new (.new (.new .nil))))))))))))))))))))))))))))))))))))))))))))),(fun _ ht=>by cases ht; exact ⟨_,rfl,.refl _⟩),?_⟩
           refine ⟨[42,43,44],by kernel_rfl,?_,_,rfl,?_⟩
           ·
            refine .v rfl rfl rfl rfl (aB rfl rfl bC) ?_
            refine .v rfl rfl rfl rfl (aF (b:=true) rfl rfl) ?_
            refine .v rfl rfl rfl rfl (aj rfl) ?_
            exact .nil
           exact ⟨⟨z62.2,ws73,w74,(z69 == 1)⟩,_,_,S78,.refl _ _,.refl _,(ak.r rfl ak.nil),H80.sl [] rfl rfl,h⟩
          ·
           replace h:=dH hb68 h
           refine aA.iV E.obj lG Bp [(0,some 44)] (by kernel_rfl) [36,41] (by decide) [some (.d (.int .i64 z23.1)),some (.d (.bool (z23.1 == 2))),some (.d (.bool true)),some (.d (.bool z34.1)),some (.d (.bool z34.1)),some (.d (.bool true)),some (.d (.sl ((z30).map (D.int .i64)) false)),some (.d (.int .i64 ((z30).length:Int))),some (.d (.bool (((z30).length:Int) == 2))),some (.d (.bool (((z30).length:Int) == 2))),some (.d (.bool true)),some (.d (.sl ((z41).map (D.int .i64)) false)),some (.d (.int .i64 ((z41).length:Int))),some (.d (.bool (((z41).length:Int) == 2))),some (.d (.bool (((z41).length:Int) == 2))),some (.d (.bool true)),some (.d (.sl ((z30).map (D.int .i64)) false)),some (.eptr (.int .i64 z56) 0),some (.d (.int .i64 z56)),some (.d (.sl ((z41).map (D.int .i64)) false)),some (.eptr (.int .i64 z57) 0),some (.d (.int .i64 z57)),some (.d (.bool (z56 == z57))),some (.d (.bool (z56 == z57))),some (.d (.bool true)),some (.d (.sl ((z30).map (D.int .i64)) false)),some (.eptr (.int .i64 z59) 0),some (.d (.int .i64 z59)),some (.d (.sl ((z41).map (D.int .i64)) false)),some (.eptr (.int .i64 z60) 0),some (.d (.int .i64 z60)),some (.d (.bool (z59 == z60))),some (.d (.bool (z59 == z60))),some (.d (.bool true)),some (.ptr b8 0 0),some (.d (.int .i64 z23.1)),none,none,none,none,none,none,none,none,none] ?_
           refine ⟨[0,1,2,3,4,5,6,7,8,9,10,11,12,13,14,15,16,17,18,19,20,21,22,23,24,25,26,27,28,29,30,31,32,33,34,35],by kernel_rfl,?_,_,_,rfl,rfl,.step ?_⟩
           ·
            refine .v rfl rfl rfl rfl (aa rfl) ?_
            refine .v rfl rfl rfl rfl (aB rfl rfl bC) ?_
            refine .cons rfl rfl rfl (.val rfl (aa rfl) (.eq (by rw [hb52]))) ?_
            refine .v rfl rfl rfl rfl (aa rfl) ?_
            refine .v rfl rfl rfl rfl (aF (b:=true) rfl rfl) ?_
            refine .cons rfl rfl rfl (.val rfl (aa rfl) (.eq (by rw [hb53]))) ?_
            refine .v rfl rfl rfl rfl (aa rfl) ?_
            refine .v rfl rfl rfl rfl (bE rfl iZ) ?_
            refine .v rfl rfl rfl rfl (aB rfl rfl bC) ?_
            refine .v rfl rfl rfl rfl (aF (b:=true) rfl rfl) ?_
            refine .cons rfl rfl rfl (.val rfl (aa rfl) (.eq (by rw [hb54]))) ?_
            refine .v rfl rfl rfl rfl (aa rfl) ?_
            refine .v rfl rfl rfl rfl (bE rfl iZ) ?_
            refine .v rfl rfl rfl rfl (aB rfl rfl bC) ?_
            refine .v rfl rfl rfl rfl (aF (b:=true) rfl rfl) ?_
            refine .cons rfl rfl rfl (.val rfl (aa rfl) (.eq (by rw [hb55]))) ?_
            refine .v rfl rfl rfl rfl (aa rfl) ?_
            refine .v rfl rfl rfl rfl (bD rfl rfl (bU (enc:=(D.int .i64)) hzz56 eH nZ (((fun _=>rfl) _).trans jL.symm))) ?_
            refine .v rfl rfl rfl rfl (aX rfl (bP ni rfl)) ?_
            refine .v rfl rfl rfl rfl (aa rfl) ?_
            refine .v rfl rfl rfl rfl (bD rfl rfl (bU (enc:=(D.int .i64)) hzz57 eH nZ (((fun _=>rfl) _).trans jL.symm))) ?_
            refine .v rfl rfl rfl rfl (aX rfl (bP ni rfl)) ?_
            refine .v rfl rfl rfl rfl (aB rfl rfl bC) ?_
            refine .v rfl rfl rfl rfl (aF (b:=true) rfl rfl) ?_
            refine .cons rfl rfl rfl (.val rfl (aa rfl) (.eq (by rw [hb58]))) ?_
            refine .v rfl rfl rfl rfl (aa rfl) ?_
            refine .v rfl rfl rfl rfl (bD rfl rfl (bU (enc:=(D.int .i64)) hzz59 eH nZ (((fun _=>rfl) _).trans jL.symm))) ?_
            refine .v rfl rfl rfl rfl (aX rfl (bP ni rfl)) ?_
            refine .v rfl rfl rfl rfl (aa rfl) ?_
            refine .v rfl rfl rfl rfl (bD rfl rfl (bU (enc:=(D.int .i64)) hzz60 eH nZ (((fun _=>rfl) _).trans jL.symm))) ?_
            refine .v rfl rfl rfl rfl (aX rfl (bP ni rfl)) ?_
            refine .v rfl rfl rfl rfl (aB rfl rfl bC) ?_
            refine .v rfl rfl rfl rfl (aF (b:=true) rfl rfl) ?_
            refine .cons rfl rfl rfl (.val rfl (aa rfl) (.eq (by rw [hb61]))) ?_
            refine .v rfl rfl rfl rfl (aa rfl) ?_
            refine .v rfl rfl rfl rfl (aa rfl) ?_
            exact .nil
           refine ai.eB (ins:=[.box b8 [v35,w37],ay ae ah.kids 7 5 v35 ws36 z34.2.l none,aG w37 z34.2.freed]) (more:=[.box b16 [(.d (.str (Tree.mk [108,105] [50] [] [] []).Tag)),(.d (.str (Tree.mk [108,105] [50] [] [] []).Key)),(.d (.str (Tree.mk [108,105] [50] [] [] []).Text)),(.d (.sl (((Tree.mk [108,105] [50] [] [] []).aV).map aD) false)),(.d (.sl (((Tree.mk [108,105] [50] [] [] []).Kids).map ax) false))],.box b13 [(.d (.str (Tree.mk [108,105] [49] [] [] []).Tag)),(.d (.str (Tree.mk [108,105] [49] [] [] []).Key)),(.d (.str (Tree.mk [108,105] [49] [] [] []).Text)),(.d (.sl (((Tree.mk [108,105] [49] [] [] []).aV).map aD) false)),(.d (.sl (((Tree.mk [108,105] [49] [] [] []).Kids).map ax) false))]]) (H44.sl [2,3,4,0,1] rfl rfl) rfl (aI rfl rfl) (nG E n _ _ _ hzz62 b8 v35 ws36 w37) (.cons (.refl _) (.cons (.refl _) .nil)) rfl ?_
           rintro _ S83 _ ⟨rfl,ws81,w82,rfl⟩ H84
           have H85:Has aM S83 [.box b16 [(.d (.str (Tree.mk [108,105] [50] [] [] []).Tag)),(.d (.str (Tree.mk [108,105] [50] [] [] []).Key)),(.d (.str (Tree.mk [108,105] [50] [] [] []).Text)),(.d (.sl (((Tree.mk [108,105] [50] [] [] []).aV).map aD) false)),(.d (.sl (((Tree.mk [108,105] [50] [] [] []).Kids).map ax) false))],.box b13 [(.d (.str (Tree.mk [108,105] [49] [] [] []).Tag)),(.d (.str (Tree.mk [108,105] [49] [] [] []).Key)),(.d (.str (Tree.mk [108,105] [49] [] [] []).Text)),(.d (.sl (((Tree.mk [108,105] [49] [] [] []).aV).map aD) false)),(.d (.sl (((Tree.mk [108,105] [49] [] [] []).Kids).map ax) false))],.box b8 [v35,w82],ay ae ah.kids 7 5 v35 ws81 z62.2.l none,aG w82 z62.2.freed]:=H84.sl [3,4,0,1,2] rfl rfl
           refine ai.nil ⟨_,_,_,rfl,(fun _ ht=>by cases ht; rfl),[some (.d (.int .i64 z23.1)),some (.d (.bool (z23.1 == 2))),some (.d (.bool true)),some (.d (.bool z34.1)),some (.d (.bool z34.1)),some (.d (.bool true)),some (.d (.sl ((z30).map (D.int .i64)) false)),some (.d (.int .i64 ((z30).length:Int))),some (.d (.bool (((z30).length:Int) == 2))),some (.d (.bool (((z30).length:Int) == 2))),some (.d (.bool true)),some (.d (.sl ((z41).map (D.int .i64)) false)),some (.d (.int .i64 ((z41).length:Int))),some (.d (.bool (((z41).length:Int) == 2))),some (.d (.bool (((z41).length:Int) == 2))),some (.d (.bool true)),some (.d (.sl ((z30).map (D.int .i64)) false)),some (.eptr (.int .i64 z56) 0),some (.d (.int .i64 z56)),some (.d (.sl ((z41).map (D.int .i64)) false)),some (.eptr (.int .i64 z57) 0),some (.d (.int .i64 z57)),some (.d (.bool (z56 == z57))),some (.d (.bool (z56 == z57))),some (.d (.bool true)),some (.d (.sl ((z30).map (D.int .i64)) false)),some (.eptr (.int .i64 z59) 0),some (.d (.int .i64 z59)),some (.d (.sl ((z41).map (D.int .i64)) false)),some (.eptr (.int .i64 z60) 0),some (.d (.int .i64 z60)),some (.d (.bool (z59 == z60))),some (.d (.bool (z59 == z60))),some (.d (.bool true)),some (.ptr b8 0 0),some (.d (.int .i64 z23.1)),some (.d (.int .i64 z62.1)),some (.d (.bool (z62.1 == 3))),some (.d (.bool (z62.1 == 3))),some (.d (.bool false)),some (.tup []),none,none,none,none],(.o (.o (.o (.o (.o (.o (.o (.o (.o (.o (.o (.o (.o (.o (.o (.o (.o (.o (.o (.o (.o (.o (.o (.o (.o (.o (.o (.o (.o (.o (.o (.o (.o (.o (.o (.o (.new (.new (.new (.new (.new (.new (.new (.new (.new .nil))))))))))))))))))))))))))))))))))))))))))))),(fun _ ht=>by cases ht; exact ⟨_,rfl,.refl _⟩),?_⟩
           refine ⟨[37,38,39,40],by kernel_rfl,?_,_,_,rfl,rfl,.no rfl ?_⟩
           ·
            refine .v rfl rfl rfl rfl (aB rfl rfl bC) ?_
            refine .v rfl rfl rfl rfl (aF (b:=true) rfl rfl) ?_
            refine .cons rfl rfl rfl (.val rfl (aa rfl) (.eq (by rw [hb68]))) ?_
            refine .cons rfl rfl rfl (.no rfl (.refl _)) ?_
            exact .nil
           refine ⟨[some (.d (.int .i64 z23.1)),some (.d (.bool (z23.1 == 2))),some (.d (.bool true)),some (.d (.bool z34.1)),some (.d (.bool z34.1)),some (.d (.bool true)),some (.d (.sl ((z30).map (D.int .i64)) false)),some (.d (.int .i64 ((z30).length:Int))),some (.d (.bool (((z30).length:Int) == 2))),some (.d (.bool (((z30).length:Int) == 2))),some (.d (.bool true)),some (.d (.sl ((z41).map (D.int .i64)) false)),some (.d (.int .i64 ((z41).length:Int))),some (.d (.bool (((z41).length:Int) == 2))),some (.d (.bool (((z41).length:Int) == 2))),some (.d (.bool true)),some (.d (.sl ((z30).map (D.int .i64)) false)),some (.eptr (.int .i64 z56) 0),some (.d (.int .i64 z56)),some (.d (.sl ((z41).map (D.int .i64)) false)),some (.eptr (.int .i64 z57) 0),some (.d (.int .i64 z57)),some (.d (.bool (z56 == z57))),some (.d (.bool (z56 == z57))),some (.d (.bool true)),some (.d (.sl ((z30).map (D.int .i64)) false)),some (.eptr (.int .i64 z59) 0),some (.d (.int .i64 z59)),some (.d (.sl ((z41).map (D.int .i64)) false)),some (.eptr (.int .i64 z60) 0),some (.d (.int .i64 z60)),some (.d (.bool (z59 == z60))),some (.d (.bool (z59 == z60))),some (.d (.bool true)),some (.ptr b8 0 0),some (.d (.int .i64 z23.1)),some (.d (.int .i64 z62.1)),some (.d (.bool (z62.1 == 3))),some (.d (.bool (z62.1 == 3))),some (.d (.bool false)),some (.tup []),some (.tup []),some (.tup []),some (.d (.bool false)),some (.d (.bool false))],(.o (.o (.o (.o (.o (.o (.o (.o (.o (.o (.o (.o (.o (.o (.o (.o (.o (.o (.o (.o (.o (.o (.o (.o (.o (.o (.o (.o (.o (.o (.o (.o (.o (.o (.o (.o (.o (.o (.o (.o (.o (.new (.new (.new (.new .nil))))))))))))))))))))))))))))))))))))))))))))),(fun _ ht=>by cases ht; exact ⟨_,rfl,.refl _⟩),?_⟩
           refine ⟨[42,43,44],by kernel_rfl,?_,_,rfl,?_⟩
           ·
            refine .cons rfl rfl rfl (.no rfl (.refl _)) ?_
            refine .v rfl rfl rfl rfl (aF (b:=false) rfl rfl) ?_
            refine .v rfl rfl rfl rfl (aj rfl) ?_
            exact .nil
           exact ⟨⟨z62.2,ws81,w82,false⟩,_,_,S83,.refl _ _,.refl _,(ak.r rfl ak.nil),H85.sl [] rfl rfl,h⟩
         ·
          replace h:=dH hb61 h
          refine aA.iV E.obj lG Bp [(0,some 44)] (by kernel_rfl) [36,41] (by decide) [some (.d (.int .i64 z23.1)),some (.d (.bool (z23.1 == 2))),some (.d (.bool true)),some (.d (.bool z34.1)),some (.d (.bool z34.1)),some (.d (.bool true)),some (.d (.sl ((z30).map (D.int .i64)) false)),some (.d (.int .i64 ((z30).length:Int))),some (.d (.bool (((z30).length:Int) == 2))),some (.d (.bool (((z30).length:Int) == 2))),some (.d (.bool true)),some (.d (.sl ((z41).map (D.int .i64)) false)),some (.d (.int .i64 ((z41).length:Int))),some (.d (.bool (((z41).length:Int) == 2))),some (.d (.bool (((z41).length:Int) == 2))),some (.d (.bool true)),some (.d (.sl ((z30).map (D.int .i64)) false)),some (.eptr (.int .i64 z56) 0),some (.d (.int .i64 z56)),some (.d (.sl ((z41).map (D.int .i64)) false)),some (.eptr (.int .i64 z57) 0),some (.d (.int .i64 z57)),some (.d (.bool (z56 == z57))),some (.d (.bool (z56 == z57))),some (.d (.bool true)),some (.d (.sl ((z30).map (D.int .i64)) false)),some (.eptr (.int .i64 z59) 0),some (.d (.int .i64 z59)),some (.d (.sl ((z41).map (D.int .i64)) false)),some (.eptr (.int .i64 z60) 0),some (.d (.int .i64 z60)),some (.d (.bool (z59 == z60))),some (.d (.bool (z59 == z60))),some (.d (.bool false)),some (.tup []),some (.tup []),none,none,none,none,none,none,none,none,none] ?_
          refine ⟨[0,1,2,3,4,5,6,7,8,9,10,11,12,13,14,15,16,17,18,19,20,21,22,23,24,25,26,27,28,29,30,31,32,33,34,35],by kernel_rfl,?_,_,_,rfl,rfl,.no rfl ?_⟩
          ·
           refine .v rfl rfl rfl rfl (aa rfl) ?_
           refine .v rfl rfl rfl rfl (aB rfl rfl bC) ?_
           refine .cons rfl rfl rfl (.val rfl (aa rfl) (.eq (by rw [hb52]))) ?_
           refine .v rfl rfl rfl rfl (aa rfl) ?_
           refine .v rfl rfl rfl rfl (aF (b:=true) rfl rfl) ?_
           refine .cons rfl rfl rfl (.val rfl (aa rfl) (.eq (by rw [hb53]))) ?_
           refine .v rfl rfl rfl rfl (aa rfl) ?_
           refine .v rfl rfl rfl rfl (bE rfl iZ) ?_
           refine .v rfl rfl rfl rfl (aB rfl rfl bC) ?_
           refine .v rfl rfl rfl rfl (aF (b:=true) rfl rfl) ?_
           refine .cons rfl rfl rfl (.val rfl (aa rfl) (.eq (by rw [hb54]))) ?_
           refine .v rfl rfl rfl rfl (aa rfl) ?_
           refine .v rfl rfl rfl rfl (bE rfl iZ) ?_
           refine .v rfl rfl rfl rfl (aB rfl rfl bC) ?_
           refine .v rfl rfl rfl rfl (aF (b:=true) rfl rfl) ?_
           refine .cons rfl rfl rfl (.val rfl (aa rfl) (.eq (by rw [hb55]))) ?_
           refine .v rfl rfl rfl rfl (aa rfl) ?_
           refine .v rfl rfl rfl rfl (bD rfl rfl (bU (enc:=(D.int .i64)) hzz56 eH nZ (((fun _=>rfl) _).trans jL.symm))) ?_
           refine .v rfl rfl rfl rfl (aX rfl (bP ni rfl)) ?_
           refine .v rfl rfl rfl rfl (aa rfl) ?_
           refine .v rfl rfl rfl rfl (bD rfl rfl (bU (enc:=(D.int .i64)) hzz57 eH nZ (((fun _=>rfl) _).trans jL.symm))) ?_
           refine .v rfl rfl rfl rfl (aX rfl (bP ni rfl)) ?_
           refine .v rfl rfl rfl rfl (aB rfl rfl bC) ?_
           refine .v rfl rfl rfl rfl (aF (b:=true) rfl rfl) ?_
           refine .cons rfl rfl rfl (.val rfl (aa rfl) (.eq (by rw [hb58]))) ?_
           refine .v rfl rfl rfl rfl (aa rfl) ?_
           refine .v rfl rfl rfl rfl (bD rfl rfl (bU (enc:=(D.int .i64)) hzz59 eH nZ (((fun _=>rfl) _).trans jL.symm))) ?_
           refine .v rfl rfl rfl rfl (aX rfl (bP ni rfl)) ?_
           refine .v rfl rfl rfl rfl (aa rfl) ?_
           refine .v rfl rfl rfl rfl (bD rfl rfl (bU (enc:=(D.int .i64)) hzz60 eH nZ (((fun _=>rfl) _).trans jL.symm))) ?_
           refine .v rfl rfl rfl rfl (aX rfl (bP ni rfl)) ?_
           refine .v rfl rfl rfl rfl (aB rfl rfl bC) ?_
           refine .v rfl rfl rfl rfl (aF (b:=true) rfl rfl) ?_
           refine .cons rfl rfl rfl (.val rfl (aa rfl) (.eq (by rw [hb61]))) ?_
           refine .cons rfl rfl rfl (.no rfl (.refl _)) ?_
           refine .cons rfl rfl rfl (.no rfl (.refl _)) ?_
           exact .nil
          refine ⟨[some (.d (.int .i64 z23.1)),some (.d (.bool (z23.1 == 2))),some (.d (.bool true)),some (.d (.bool z34.1)),some (.d (.bool z34.1)),some (.d (.bool true)),some (.d (.sl ((z30).map (D.int .i64)) false)),some (.d (.int .i64 ((z30).length:Int))),some (.d (.bool (((z30).length:Int) == 2))),some (.d (.bool (((z30).length:Int) == 2))),some (.d (.bool true)),some (.d (.sl ((z41).map (D.int .i64)) false)),some (.d (.int .i64 ((z41).length:Int))),some (.d (.bool (((z41).length:Int) == 2))),some (.d (.bool (((z41).length:Int) == 2))),some (.d (.bool true)),some (.d (.sl ((z30).map (D.int .i64)) false)),some (.eptr (.int .i64 z56) 0),some (.d (.int .i64 z56)),some (.d (.sl ((z41).map (D.int .i64)) false)),some (.eptr (.int .i64 z57) 0),some (.d (.int .i64 z57)),some (.d (.bool (z56 == z57))),some (.d (.bool (z56 == z57))),some (.d (.bool true)),some (.d (.sl ((z30).map (D.int .i64)) false)),some (.eptr (.int .i64 z59) 0),some (.d (.int .i64 z59)),some (.d (.sl ((z41).map (D.int .i64)) false)),some (.eptr (.int .i64 z60) 0),some (.d (.int .i64 z60)),some (.d (.bool (z59 == z60))),some (.d (.bool (z59 == z60))),some (.d (.bool false)),some (.tup []),some (.tup []),some (.tup []),some (.tup []),some (.d (.bool false)),some (.d (.bool false)),some (.tup []),none,none,none,none],(.o (.o (.o (.o (.o (.o (.o (.o (.o (.o (.o (.o (.o (.o (.o (.o (.o (.o (.o (.o (.o (.o (.o (.o (.o (.o (.o (.o (.o (.o (.o (.o (.o (.o (.o (.o (.new (.new (.new (.new (.new (.new (.new (.new (.new .nil))))))))))))))))))))))))))))))))))))))))))))),(fun _ ht=>by cases ht; exact ⟨_,rfl,.refl _⟩),?_⟩
          refine ⟨[37,38,39,40],by kernel_rfl,?_,_,_,rfl,rfl,.no rfl ?_⟩
          ·
           refine .cons rfl rfl rfl (.no rfl (.refl _)) ?_
           refine .v rfl rfl rfl rfl (aF (b:=false) rfl rfl) ?_
           refine .v rfl rfl rfl rfl (aa rfl) ?_
           refine .cons rfl rfl rfl (.no rfl (.refl _)) ?_
           exact .nil
          refine ⟨[some (.d (.int .i64 z23.1)),some (.d (.bool (z23.1 == 2))),some (.d (.bool true)),some (.d (.bool z34.1)),some (.d (.bool z34.1)),some (.d (.bool true)),some (.d (.sl ((z30).map (D.int .i64)) false)),some (.d (.int .i64 ((z30).length:Int))),some (.d (.bool (((z30).length:Int) == 2))),some (.d (.bool (((z30).length:Int) == 2))),some (.d (.bool true)),some (.d (.sl ((z41).map (D.int .i64)) false)),some (.d (.int .i64 ((z41).length:Int))),some (.d (.bool (((z41).length:Int) == 2))),some (.d (.bool (((z41).length:Int) == 2))),some (.d (.bool true)),some (.d (.sl ((z30).map (D.int .i64)) false)),some (.eptr (.int .i64 z56) 0),some (.d (.int .i64 z56)),some (.d (.sl ((z41).map (D.int .i64)) false)),some (.eptr (.int .i64 z57) 0),some (.d (.int .i64 z57)),some (.d (.bool (z56 == z57))),some (.d (.bool (z56 == z57))),some (.d (.bool true)),some (.d (.sl ((z30).map (D.int .i64)) false)),some (.eptr (.int .i64 z59) 0),some (.d (.int .i64 z59)),some (.d (.sl ((z41).map (D.int .i64)) false)),some (.eptr (.int .i64 z60) 0),some (.d (.int .i64 z60)),some (.d (.bool (z59 == z60))),some (.d (.bool (z59 == z60))),some (.d (.bool false)),some (.tup []),some (.tup []),some (.tup []),some (.tup []),some (.d (.bool false)),some (.d (.bool false)),some (.tup []),some (.tup []),some (.tup []),some (.d (.bool false)),some (.d (.bool false))],(.o (.o (.o (.o (.o (.o (.o (.o (.o (.o (.o (.o (.o (.o (.o (.o (.o (.o (.o (.o (.o (.o (.o (.o (.o (.o (.o (.o (.o (.o (.o (.o (.o (.o (.o (.o (.o (.o (.o (.o (.o (.new (.new (.new (.new .nil))))))))))))))))))))))))))))))))))))))))))))),(fun _ ht=>by cases ht; exact ⟨_,rfl,.refl _⟩),?_⟩
          refine ⟨[42,43,44],by kernel_rfl,?_,_,rfl,?_⟩
          ·
           refine .cons rfl rfl rfl (.no rfl (.refl _)) ?_
           refine .v rfl rfl rfl rfl (aF (b:=false) rfl rfl) ?_
           refine .v rfl rfl rfl rfl (aj rfl) ?_
           exact .nil
          exact ⟨⟨z34.2,ws36,w37,false⟩,_,_,S42,.refl _ _,.refl _,(ak.r rfl ak.nil),H44.sl [] rfl rfl,h⟩
        ·
         replace h:=dH hb58 h
         refine aA.iV E.obj lG Bp [(0,some 44)] (by kernel_rfl) [36,41] (by decide) [some (.d (.int .i64 z23.1)),some (.d (.bool (z23.1 == 2))),some (.d (.bool true)),some (.d (.bool z34.1)),some (.d (.bool z34.1)),some (.d (.bool true)),some (.d (.sl ((z30).map (D.int .i64)) false)),some (.d (.int .i64 ((z30).length:Int))),some (.d (.bool (((z30).length:Int) == 2))),some (.d (.bool (((z30).length:Int) == 2))),some (.d (.bool true)),some (.d (.sl ((z41).map (D.int .i64)) false)),some (.d (.int .i64 ((z41).length:Int))),some (.d (.bool (((z41).length:Int) == 2))),some (.d (.bool (((z41).length:Int) == 2))),some (.d (.bool true)),some (.d (.sl ((z30).map (D.int .i64)) false)),some (.eptr (.int .i64 z56) 0),some (.d (.int .i64 z56)),some (.d (.sl ((z41).map (D.int .i64)) false)),some (.eptr (.int .i64 z57) 0),some (.d (.int .i64 z57)),some (.d (.bool (z56 == z57))),some (.d (.bool (z56 == z57))),some (.d (.bool false)),some (.tup []),some (.tup []),some (.tup []),some (.tup []),some (.tup []),some (.tup []),some (.tup []),some (.d (.bool false)),some (.d (.bool false)),some (.tup []),some (.tup []),none,none,none,none,none,none,none,none,none] ?_
         refine ⟨[0,1,2,3,4,5,6,7,8,9,10,11,12,13,14,15,16,17,18,19,20,21,22,23,24,25,26,27,28,29,30,31,32,33,34,35],by kernel_rfl,?_,_,_,rfl,rfl,.no rfl ?_⟩
         ·
          refine .v rfl rfl rfl rfl (aa rfl) ?_
          refine .v rfl rfl rfl rfl (aB rfl rfl bC) ?_
          refine .cons rfl rfl rfl (.val rfl (aa rfl) (.eq (by rw [hb52]))) ?_
          refine .v rfl rfl rfl rfl (aa rfl) ?_
          refine .v rfl rfl rfl rfl (aF (b:=true) rfl rfl) ?_
          refine .cons rfl rfl rfl (.val rfl (aa rfl) (.eq (by rw [hb53]))) ?_
          refine .v rfl rfl rfl rfl (aa rfl) ?_
          refine .v rfl rfl rfl rfl (bE rfl iZ) ?_
          refine .v rfl rfl rfl rfl (aB rfl rfl bC) ?_
          refine .v rfl rfl rfl rfl (aF (b:=true) rfl rfl) ?_
          refine .cons rfl rfl rfl (.val rfl (aa rfl) (.eq (by rw [hb54]))) ?_
          refine .v rfl rfl rfl rfl (aa rfl) ?_
          refine .v rfl rfl rfl rfl (bE rfl iZ) ?_
          refine .v rfl rfl rfl rfl (aB rfl rfl bC) ?_
          refine .v rfl rfl rfl rfl (aF (b:=true) rfl rfl) ?_
          refine .cons rfl rfl rfl (.val rfl (aa rfl) (.eq (by rw [hb55]))) ?_
          refine .v rfl rfl rfl rfl (aa rfl) ?_
          refine .v rfl rfl rfl rfl (bD rfl rfl (bU (enc:=(D.int .i64)) hzz56 eH nZ (((fun _=>rfl) _).trans jL.symm))) ?_
          refine .v rfl rfl rfl rfl (aX rfl (bP ni rfl)) ?_
          refine .v rfl rfl rfl rfl (aa rfl) ?_
          refine .v rfl rfl rfl rfl (bD rfl rfl (bU (enc:=(D.int .i64)) hzz57 eH nZ (((fun _=>rfl) _).trans jL.symm))) ?_
          refine .v rfl rfl rfl rfl (aX rfl (bP ni rfl)) ?_
          refine .v rfl rfl rfl rfl (aB rfl rfl bC) ?_
          refine .v rfl rfl rfl rfl (aF (b:=true) rfl rfl) ?_
          refine .cons rfl rfl rfl (.val rfl (aa rfl) (.eq (by rw [hb58]))) ?_
          refine .cons rfl rfl rfl (.no rfl (.refl _)) ?_
          refine .cons rfl rfl rfl (.no rfl (.refl _)) ?_
          refine .cons rfl rfl rfl (.no rfl (.refl _)) ?_
          refine .cons rfl rfl rfl (.no rfl (.refl _)) ?_
          refine .cons rfl rfl rfl (.no rfl (.refl _)) ?_
          refine .cons rfl rfl rfl (.no rfl (.refl _)) ?_
          refine .cons rfl rfl rfl (.no rfl (.refl _)) ?_
          refine .v rfl rfl rfl rfl (aF (b:=false) rfl rfl) ?_
          refine .v rfl rfl rfl rfl (aa rfl) ?_
          refine .cons rfl rfl rfl (.no rfl (.refl _)) ?_
          refine .cons rfl rfl rfl (.no rfl (.refl _)) ?_
          exact .nil
         refine ⟨[some (.d (.int .i64 z23.1)),some (.d (.bool (z23.1 == 2))),some (.d (.bool true)),some (.d (.bool z34.1)),some (.d (.bool z34.1)),some (.d (.bool true)),some (.d (.sl ((z30).map (D.int .i64)) false)),some (.d (.int .i64 ((z30).length:Int))),some (.d (.bool (((z30).length:Int) == 2))),some (.d (.bool (((z30).length:Int) == 2))),some (.d (.bool true)),some (.d (.sl ((z41).map (D.int .i64)) false)),some (.d (.int .i64 ((z41).length:Int))),some (.d (.bool (((z41).length:Int) == 2))),some (.d (.bool (((z41).length:Int) == 2))),some (.d (.bool true)),some (.d (.sl ((z30).map (D.int .i64)) false)),some (.eptr (.int .i64 z56) 0),some (.d (.int .i64 z56)),some (.d (.sl ((z41).map (D.int .i64)) false)),some (.eptr (.int .i64 z57) 0),some (.d (.int .i64 z57)),some (.d (.bool (z56 == z57))),some (.d (.bool (z56 == z57))),some (.d (.bool false)),some (.tup []),some (.tup []),some (.tup []),some (.tup []),some (.tup []),some (.tup []),some (.tup []),some (.d (.bool false)),some (.d (.bool false)),some (.tup []),some (.tup []),some (.tup []),some (.tup []),some (.d (.bool false)),some (.d (.bool false)),some (.tup []),none,none,none,none],(.o (.o (.o (.o (.o (.o (.o (.o (.o (.o (.o (.o (.o (.o (.o (.o (.o (.o (.o (.o (.o (.o (.o (.o (.o (.o (.o (.o (.o (.o (.o (.o (.o (.o (.o (.o (.new (.new (.new (.new (.new (.new (.new (.new (.new .nil))))))))))))))))))))))))))))))))))))))))))))),(fun _ ht=>by cases ht; exact ⟨_,rfl,.refl _⟩),?_⟩
         refine ⟨[37,38,39,40],by kernel_rfl,?_,_,_,rfl,rfl,.no rfl ?_⟩
         ·
          refine .cons rfl rfl rfl (.no rfl (.refl _)) ?_
          refine .v rfl rfl rfl rfl (aF (b:=false) rfl rfl) ?_
          refine .v rfl rfl rfl rfl (aa rfl) ?_
          refine .cons rfl rfl rfl (.no rfl (.refl _)) ?_
          exact .nil
         refine ⟨[some (.d (.int .i64 z23.1)),some (.d (.bool (z23.1 == 2))),some (.d (.bool true)),some (.d (.bool z34.1)),some (.d (.bool z34.1)),some (.d (.bool true)),some (.d (.sl ((z30).map (D.int .i64)) false)),some (.d (.int .i64 ((z30).length:Int))),some (.d (.bool (((z30).length:Int) == 2))),some (.d (.bool (((z30).length:Int) == 2))),some (.d (.bool true)),some (.d (.sl ((z41).map (D.int .i64)) false)),some (.d (.int .i64 ((z41).length:Int))),some (.d (.bool (((z41).length:Int) == 2))),some (.d (.bool (((z41).length:Int) == 2))),some (.d (.bool true)),some (.d (.sl ((z30).map (D.int .i64)) false)),some (.eptr (.int .i64 z56) 0),some (.d (.int .i64 z56)),some (.d (.sl ((z41).map (D.int .i64)) false)),some (.eptr (.int .i64 z57) 0),some (.d (.int .i64 z57)),some (.d (.bool (z56 == z57))),some (.d (.bool (z56 == z57))),some (.d (.bool false)),some (.tup []),some (.tup []),some (.tup []),some (.tup []),some (.tup []),some (.tup []),some (.tup []),some (.d (.bool false)),some (.d (.bool false)),some (.tup []),some (.tup []),some (.tup []),some (.tup []),some (.d (.bool false)),some (.d (.bool false)),some (.tup []),some (.tup []),some (.tup []),some (.d (.bool false)),some (.d (.bool false))],(.o (.o (.o (.o (.o (.o (.o (.o (.o (.o (.o (.o (.o (.o (.o (.o (.o (.o (.o (.o (.o (.o (.o (.o (.o (.o (.o (.o (.o (.o (.o (.o (.o (.o (.o (.o (.o (.o (.o (.o (.o (.new (.new (.new (.new .nil))))))))))))))))))))))))))))))))))))))))))))),(fun _ ht=>by cases ht; exact ⟨_,rfl,.refl _⟩),?_⟩
         refine ⟨[42,43,44],by kernel_rfl,?_,_,rfl,?_⟩
         ·
          refine .cons rfl rfl rfl (.no rfl (.refl _)) ?_
          refine .v rfl rfl rfl rfl (aF (b:=false) rfl rfl) ?_
          refine .v rfl rfl rfl rfl (aj rfl) ?_
          exact .nil
         exact ⟨⟨z34.2,ws36,w37,false⟩,_,_,S42,.refl _ _,.refl _,(ak.r rfl ak.nil),H44.sl [] rfl rfl,h⟩
       ·
        replace h:=dH hb55 h
        refine aA.iV E.obj lG Bp [(0,some 44)] (by kernel_rfl) [36,41] (by decide) [some (.d (.int .i64 z23.1)),some (.d (.bool (z23.1 == 2))),some (.d (.bool true)),some (.d (.bool z34.1)),some (.d (.bool z34.1)),some (.d (.bool true)),some (.d (.sl ((z30).map (D.int .i64)) false)),some (.d (.int .i64 ((z30).length:Int))),some (.d (.bool (((z30).length:Int) == 2))),some (.d (.bool (((z30).length:Int) == 2))),some (.d (.bool true)),some (.d (.sl ((z41).map (D.int .i64)) false)),some (.d (.int .i64 ((z41).length:Int))),some (.d (.bool (((z41).length:Int) == 2))),some (.d (.bool (((z41).length:Int) == 2))),some (.d (.bool false)),some (.tup []),some (.tup []),some (.tup []),some (.tup []),some (.tup []),some (.tup []),some (.tup []),some (.d (.bool false)),some (.d (.bool false)),some (.tup []),some (.tup []),some (.tup []),some (.tup []),some (.tup []),some (.tup []),some (.tup []),some (.d (.bool false)),some (.d (.bool false)),some (.tup []),some (.tup []),none,none,none,none,none,none,none,none,none] ?_
        refine ⟨[0,1,2,3,4,5,6,7,8,9,10,11,12,13,14,15,16,17,18,19,20,21,22,23,24,25,26,27,28,29,30,31,32,33,34,35],by kernel_rfl,?_,_,_,rfl,rfl,.no rfl ?_⟩
        ·
         refine .v rfl rfl rfl rfl (aa rfl) ?_
         refine .v rfl rfl rfl rfl (aB rfl rfl bC) ?_
         refine .cons rfl rfl rfl (.val rfl (aa rfl) (.eq (by rw [hb52]))) ?_
         refine .v rfl rfl rfl rfl (aa rfl) ?_
         refine .v rfl rfl rfl rfl (aF (b:=true) rfl rfl) ?_
         refine .cons rfl rfl rfl (.val rfl (aa rfl) (.eq (by rw [hb53]))) ?_
         refine .v rfl rfl rfl rfl (aa rfl) ?_
         refine .v rfl rfl rfl rfl (bE rfl iZ) ?_
         refine .v rfl rfl rfl rfl (aB rfl rfl bC) ?_
         refine .v rfl rfl rfl rfl (aF (b:=true) rfl rfl) ?_
         refine .cons rfl rfl rfl (.val rfl (aa rfl) (.eq (by rw [hb54]))) ?_
         refine .v rfl rfl rfl rfl (aa rfl) ?_
         refine .v rfl rfl rfl rfl (bE rfl iZ) ?_
         refine .v rfl rfl rfl rfl (aB rfl rfl bC) ?_
         refine .v rfl rfl rfl rfl (aF (b:=true) rfl rfl) ?_
         refine .cons rfl rfl rfl (.val rfl (aa rfl) (.eq (by rw [hb55]))) ?_
         refine .cons rfl rfl rfl (.no rfl (.refl _)) ?_
         refine .cons rfl rfl rfl (.no rfl (.refl _)) ?_
         refine .cons rfl rfl rfl (.no rfl (.refl _)) ?_
         refine .cons rfl rfl rfl (.no rfl (.refl _)) ?_
         refine .cons rfl rfl rfl (.no rfl (.refl _)) ?_
         refine .cons rfl rfl rfl (.no rfl (.refl _)) ?_
         refine .cons rfl rfl rfl (.no rfl (.refl _)) ?_
         refine .v rfl rfl rfl rfl (aF (b:=false) rfl rfl) ?_
         refine .v rfl rfl rfl rfl (aa rfl) ?_
         refine .cons rfl rfl rfl (.no rfl (.refl _)) ?_
         refine .cons rfl rfl rfl (.no rfl (.refl _)) ?_
         refine .cons rfl rfl rfl (.no rfl (.refl _)) ?_
         refine .cons rfl rfl rfl (.no rfl (.refl _)) ?_
         refine .cons rfl rfl rfl (.no rfl (.refl _)) ?_
         refine .cons rfl rfl rfl (.no rfl (.refl _)) ?_
         refine .cons rfl rfl rfl (.no rfl (.refl _)) ?_
         refine .v rfl rfl rfl rfl (aF (b:=false) rfl rfl) ?_
         refine .v rfl rfl rfl rfl (aa rfl) ?_
         refine .cons rfl rfl rfl (.no rfl (.refl _)) ?_
         refine .cons rfl rfl rfl (.no rfl (.refl _)) ?_
         exact .nil
        refine ⟨[some (.d (.int .i64 z23.1)),some (.d (.bool (z23.1 == 2))),some (.d (.bool true)),some (.d (.bool z34.1)),some (.d (.bool z34.1)),some (.d (.bool true)),some (.d (.sl ((z30).map (D.int .i64)) false)),some (.d (.int .i64 ((z30).length:Int))),some (.d (.bool (((z30).length:Int) == 2))),some (.d (.bool (((z30).length:Int) == 2))),some (.d (.bool true)),some (.d (.sl ((z41).map (D.int .i64)) false)),some (.d (.int .i64 ((z41).length:Int))),some (.d (.bool (((z41).length:Int) == 2))),some (.d (.bool (((z41).length:Int) == 2))),some (.d (.bool false)),some (.tup []),some (.tup []),some (.tup []),some (.tup []),some (.tup []),some (.tup []),some (.tup []),some (.d (.bool false)),some (.d (.bool false)),some (.tup []),some (.tup []),some (.tup []),some (.tup []),some (.tup []),some (.tup []),some (.tup []),some (.d (.bool false)),some (.d (.bool false)),some (.tup []),some (.tup []),some (.tup []),some (.tup []),some (.d (.bool false)),some (.d (.bool false)),some (.tup []),none,none,none,none],(.o (.o (.o (.o (.o (.o (.o (.o (.o (.o (.o (.o (.o (.o (.o (.o (.o (.o (.o (.o (.o (.o (.o (.o (.o (.o (.o (.o (.o (.o (.o (.o (.o (.o (.o (.o (.new (.new (.new (.new (.new (.new (.new (.new (.new .nil))))))))))))))))))))))))))))))))))))))))))))),(fun _ ht=>by cases ht; exact ⟨_,rfl,.refl _⟩),?_⟩
        refine ⟨[37,38,39,40],by kernel_rfl,?_,_,_,rfl,rfl,.no rfl ?_⟩
        ·
         refine .cons rfl rfl rfl (.no rfl (.refl _)) ?_
         refine .v rfl rfl rfl rfl (aF (b:=false) rfl rfl) ?_
         refine .v rfl rfl rfl rfl (aa rfl) ?_
         refine .cons rfl rfl rfl (.no rfl (.refl _)) ?_
         exact .nil
        refine ⟨[some (.d (.int .i64 z23.1)),some (.d (.bool (z23.1 == 2))),some (.d (.bool true)),some (.d (.bool z34.1)),some (.d (.bool z34.1)),some (.d (.bool true)),some (.d (.sl ((z30).map (D.int .i64)) false)),some (.d (.int .i64 ((z30).length:Int))),some (.d (.bool (((z30).length:Int) == 2))),some (.d (.bool (((z30).length:Int) == 2))),some (.d (.bool true)),some (.d (.sl ((z41).map (D.int .i64)) false)),some (.d (.int .i64 ((z41).length:Int))),some (.d (.bool (((z41).length:Int) == 2))),some (.d (.bool (((z41).length:Int) == 2))),some (.d (.bool false)),some (.tup []),some (.tup []),some (.tup []),some (.tup []),some (.tup []),some (.tup []),some (.tup []),some (.d (.bool false)),some (.d (.bool false)),some (.tup []),some (.tup []),some (.tup []),some (.tup []),some (.tup []),some (.tup []),some (.tup []),some (.d (.bool false)),some (.d (.bool false)),some (.tup []),some (.tup []),some (.tup []),some (.tup []),some (.d (.bool false)),some (.d (.bool false)),some (.tup []),some (.tup []),some (.tup []),some (.d (.bool false)),some (.d (.bool false))],(.o (.o (.o (.o (.o (.o (.o (.o (.o (.o (.o (.o (.o (.o (.o (.o (.o (.o (.o (.o (.o (.o (.o (.o (.o (.o (.o (.o (.o (.o (.o (.o (.o (.o (.o (.o (.o (.o (.o (.o (.o (.new (.new (.new (.new .nil))))))))))))))))))))))))))))))))))))))))))))),(fun _ ht=>by cases ht; exact ⟨_,rfl,.refl _⟩),?_⟩
        refine ⟨[42,43,44],by kernel_rfl,?_,_,rfl,?_⟩
        ·
         refine .cons rfl rfl rfl (.no rfl (.refl _)) ?_
         refine .v rfl rfl rfl rfl (aF (b:=false) rfl rfl) ?_
         refine .v rfl rfl rfl rfl (aj rfl) ?_
         exact .nil
        exact ⟨⟨z34.2,ws36,w37,false⟩,_,_,S42,.refl _ _,.refl _,(ak.r rfl ak.nil),H44.sl [] rfl rfl,h⟩
      ·
       replace h:=dH hb54 h
       refine aA.iV E.obj lG Bp [(0,some 44)] (by kernel_rfl) [36,41] (by decide) [some (.d (.int .i64 z23.1)),some (.d (.bool (z23.1 == 2))),some (.d (.bool true)),some (.d (.bool z34.1)),some (.d (.bool z34.1)),some (.d (.bool true)),some (.d (.sl ((z30).map (D.int .i64)) false)),some (.d (.int .i64 ((z30).length:Int))),some (.d (.bool (((z30).length:Int) == 2))),some (.d (.bool (((z30).length:Int) == 2))),some (.d (.bool false)),some (.tup []),some (.tup []),some (.tup []),some (.d (.bool false)),some (.d (.bool false)),some (.tup []),some (.tup []),some (.tup []),some (.tup []),some (.tup []),some (.tup []),some (.tup []),some (.d (.bool false)),some (.d (.bool false)),some (.tup []),some (.tup []),some (.tup []),some (.tup []),some (.tup []),some (.tup []),some (.tup []),some (.d (.bool false)),some (.d (.bool false)),some (.tup []),some (.tup []),none,none,none,none,none,none,none,none,none] ?_
       refine ⟨[0,1,2,3,4,5,6,7,8,9,10,11,12,13,14,15,16,17,18,19,20,21,22,23,24,25,26,27,28,29,30,31,32,33,34,35],by kernel_rfl,?_,_,_,rfl,rfl,.no rfl ?_⟩
       ·
        refine .v rfl rfl rfl rfl (aa rfl) ?_
        refine .v rfl rfl rfl rfl (aB rfl rfl bC) ?_
        refine .cons rfl rfl rfl (.val rfl (aa rfl) (.eq (by rw [hb52]))) ?_
        refine .v rfl rfl rfl rfl (aa rfl) ?_
        refine .v rfl rfl rfl rfl (aF (b:=true) rfl rfl) ?_
        refine .cons rfl rfl rfl (.val rfl (aa rfl) (.eq (by rw [hb53]))) ?_
        refine .v rfl rfl rfl rfl (aa rfl) ?_
        refine .v rfl rfl rfl rfl (bE rfl iZ) ?_
        refine .v rfl rfl rfl rfl (aB rfl rfl bC) ?_
        refine .v rfl rfl rfl rfl (aF (b:=true) rfl rfl) ?_
        refine .cons rfl rfl rfl (.val rfl (aa rfl) (.eq (by rw [hb54]))) ?_
        refine .cons rfl rfl rfl (.no rfl (.refl _)) ?_
        refine .cons rfl rfl rfl (.no rfl (.refl _)) ?_
        refine .cons rfl rfl rfl (.no rfl (.refl _)) ?_
        refine .v rfl rfl rfl rfl (aF (b:=false) rfl rfl) ?_
        refine .v rfl rfl rfl rfl (aa rfl) ?_
        refine .cons rfl rfl rfl (.no rfl (.refl _)) ?_
        refine .cons rfl rfl rfl (.no rfl (.refl _)) ?_
        refine .cons rfl rfl rfl (.no rfl (.refl _)) ?_
        refine .cons rfl rfl rfl (.no rfl (.refl _)) ?_
        refine .cons rfl rfl rfl (.no rfl (.refl _)) ?_
        refine .cons rfl rfl rfl (.no rfl (.refl _)) ?_
        refine .cons rfl rfl rfl (.no rfl (.refl _)) ?_
        refine .v rfl rfl rfl rfl (aF (b:=false) rfl rfl) ?_
        refine .v rfl rfl rfl rfl (aa rfl) ?_
        refine .cons rfl rfl rfl (.no rfl (.refl _)) ?_
        refine .cons rfl rfl rfl (.no rfl (.refl _)) ?_
        refine .cons rfl rfl rfl (.no rfl (.refl _)) ?_
        refine .cons rfl rfl rfl (.no rfl (.refl _)) ?_
        refine .cons rfl rfl rfl (.no rfl (.refl _)) ?_
        refine .cons rfl rfl rfl (.no rfl (.refl _)) ?_
        refine .cons rfl rfl rfl (.no rfl (.refl _)) ?_
        refine .v rfl rfl rfl rfl (aF (b:=false) rfl rfl) ?_
        refine .v rfl rfl rfl rfl (aa rfl) ?_
        refine .cons rfl rfl rfl (.no rfl (.refl _)) ?_
        refine .cons rfl rfl rfl (.no rfl (.refl _)) ?_
        exact .nil
       refine ⟨[some (.d (.int .i64 z23.1)),some (.d (.bool (z23.1 == 2))),some (.d (.bool true)),some (.d (.bool z34.1)),some (.d (.bool z34.1)),some (.d (.bool true)),some (.d (.sl ((z30).map (D.int .i64)) false)),some (.d (.int .i64 ((z30).length:Int))),some (.d (.bool (((z30).length:Int) == 2))),some (.d (.bool (((z30).length:Int) == 2))),some (.d (.bool false)),some (.tup []),some (.tup []),some (.tup []),some (.d (.bool false)),some (.d (.bool false)),some (.tup []),some (.tup []),some (.tup []),some (.tup []),some (.tup []),some (.tup []),some (.tup []),some (.d (.bool false)),some (.d (.bool false)),some (.tup []),some (.tup []),some (.tup []),some (.tup []),some (.tup []),some (.tup []),some (.tup []),some (.d (.bool false)),some (.d (.bool false)),some (.tup []),some (.tup []),some (.tup []),some (.tup []),some (.d (.bool false)),some (.d (.bool false)),some (.tup []),none,none,none,none],(.o (.o (.o (.o (.o (.o (.o (.o (.o (.o (.o (.o (.o (.o (.o (.o (.o (.o (.o (.o (.o (.o (.o (.o (.o (.o (.o (.o (.o (.o (.o (.o (.o (.o (.o (.o (.new (.new (.new (.new (.new (.new (.new (.new (.new .nil))))))))))))))))))))))))))))))))))))))))))))),(fun _ ht=>by cases ht; exact ⟨_,rfl,.refl _⟩),?_⟩
       refine ⟨[37,38,39,40],by kernel_rfl,?_,_,_,rfl,rfl,.no rfl ?_⟩
       ·
        refine .cons rfl rfl rfl (.no rfl (.refl _)) ?_
        refine .v rfl rfl rfl rfl (aF (b:=false) rfl rfl) ?_
        refine .v rfl rfl rfl rfl (aa rfl) ?_
        refine .cons rfl rfl rfl (.no rfl (.refl _)) ?_
        exact .nil
       refine ⟨[some (.d (.int .i64 z23.1)),some (.d (.bool (z23.1 == 2))),some (.d (.bool true)),some (.d (.bool z34.1)),some (.d (.bool z34.1)),some (.d (.bool true)),some (.d (.sl ((z30).map (D.int .i64)) false)),some (.d (.int .i64 ((z30).length:Int))),some (.d (.bool (((z30).length:Int) == 2))),some (.d (.bool (((z30).length:Int) == 2))),some (.d (.bool false)),some (.tup []),some (.tup []),some (.tup []),some (.d (.bool false)),some (.d (.bool false)),some (.tup []),some (.tup []),some (.tup []),some (.tup []),some (.tup []),some (.tup []),some (.tup []),some (.d (.bool false)),some (.d (.bool false)),some (.tup []),some (.tup []),some (.tup []),some (.tup []),some (.tup []),some (.tup []),some (.tup []),some (.d (.bool false)),some (.d (.bool false)),some (.tup []),some (.tup []),some (.tup []),some (.tup []),some (.d (.bool false)),some (.d (.bool false)),some (.tup []),some (.tup []),some (.tup []),some (.d (.bool false)),some (.d (.bool false))],(.o (.o (.o (.o (.o (.o (.o (.o (.o (.o (.o (.o (.o (.o (.o (.o (.o (.o (.o (.o (.o (.o (.o (.o (.o (.o (.o (.o (.o (.o (.o (.o (.o (.o (.o (.o (.o (.o (.o (.o (.o (.new (.new (.new (.new .nil))))))))))))))))))))))))))))))))))))))))))))),(fun _ ht=>by cases ht; exact ⟨_,rfl,.refl _⟩),?_⟩
       refine ⟨[42,43,44],by kernel_rfl,?_,_,rfl,?_⟩
       ·
        refine .cons rfl rfl rfl (.no rfl (.refl _)) ?_
        refine .v rfl rfl rfl rfl (aF (b:=false) rfl rfl) ?_
        refine .v rfl rfl rfl rfl (aj rfl) ?_
        exact .nil
       exact ⟨⟨z34.2,ws36,w37,false⟩,_,_,S42,.refl _ _,.refl _,(ak.r rfl ak.nil),H44.sl [] rfl rfl,h⟩
     ·
      replace h:=dH hb53 h
      refine aA.iV E.obj lG Bp [(0,some 44)] (by kernel_rfl) [36,41] (by decide) [some (.d (.int .i64 z23.1)),some (.d (.bool (z23.1 == 2))),some (.d (.bool true)),some (.d (.bool z34.1)),some (.d (.bool z34.1)),some (.d (.bool false)),some (.tup []),some (.tup []),some (.tup []),some (.d (.bool false)),some (.d (.bool false)),some (.tup []),some (.tup []),some (.tup []),some (.d (.bool false)),some (.d (.bool false)),some (.tup []),some (.tup []),some (.tup []),some (.tup []),some (.tup []),some (.tup []),some (.tup []),some (.d (.bool false)),some (.d (.bool false)),some (.tup []),some (.tup []),some (.tup []),some (.tup []),some (.tup []),some (.tup []),some (.tup []),some (.d (.bool false)),some (.d (.bool false)),some (.tup []),some (.tup []),none,none,none,none,none,none,none,none,none] ?_
      refine ⟨[0,1,2,3,4,5,6,7,8,9,10,11,12,13,14,15,16,17,18,19,20,21,22,23,24,25,26,27,28,29,30,31,32,33,34,35],by kernel_rfl,?_,_,_,rfl,rfl,.no rfl ?_⟩
      ·
       refine .v rfl rfl rfl rfl (aa rfl) ?_
       refine .v rfl rfl rfl rfl (aB rfl rfl bC) ?_
       refine .cons rfl rfl rfl (.val rfl (aa rfl) (.eq (by rw [hb52]))) ?_
       refine .v rfl rfl rfl rfl (aa rfl) ?_
       refine .v rfl rfl rfl rfl (aF (b:=true) rfl rfl) ?_
       refine .cons rfl rfl rfl (.val rfl (aa rfl) (.eq (by rw [hb53]))) ?_
       refine .cons rfl rfl rfl (.no rfl (.refl _)) ?_
       refine .cons rfl rfl rfl (.no rfl (.refl _)) ?_
       refine .cons rfl rfl rfl (.no rfl (.refl _)) ?_
       refine .v rfl rfl rfl rfl (aF (b:=false) rfl rfl) ?_
       refine .v rfl rfl rfl rfl (aa rfl) ?_
       refine .cons rfl rfl rfl (.no rfl (.refl _)) ?_
       refine .cons rfl rfl rfl (.no rfl (.refl _)) ?_
       refine .cons rfl rfl rfl (.no rfl (.refl _)) ?_
       refine .v rfl rfl rfl rfl (aF (b:=false) rfl rfl) ?_
       refine .v rfl rfl rfl rfl (aa rfl) ?_
       refine .cons rfl rfl rfl (.no rfl (.refl _)) ?_
       refine .cons rfl rfl rfl (.no rfl (.refl _)) ?_
       refine .cons rfl rfl rfl (.no rfl (.refl _)) ?_
       refine .cons rfl rfl rfl (.no rfl (.refl _)) ?_
       refine .cons rfl rfl rfl (.no rfl (.refl _)) ?_
       refine .cons rfl rfl rfl (.no rfl (.refl _)) ?_
       refine .cons rfl rfl rfl (.no rfl (.refl _)) ?_
       refine .v rfl rfl rfl rfl (aF (b:=false) rfl rfl) ?_
       refine .v rfl rfl rfl rfl (aa rfl) ?_
       refine .cons rfl rfl rfl (.no rfl (.refl _)) ?_
       refine .cons rfl rfl rfl (.no rfl (.refl _)) ?_
       refine .cons rfl rfl rfl (.no rfl (.refl _)) ?_
       refine .cons rfl rfl rfl (.no rfl (.refl _)) ?_
       refine .cons rfl rfl rfl (.no rfl (.refl _)) ?_
       refine .cons rfl rfl rfl (.no rfl (.refl _)) ?_
       refine .cons rfl rfl rfl (.no rfl (.refl _)) ?_
       refine .v rfl rfl rfl rfl (aF (b:=false) rfl rfl) ?_
       refine .v rfl rfl rfl rfl (aa rfl) ?_
       refine .cons rfl rfl rfl (.no rfl (.refl _)) ?_
       refine .cons rfl rfl rfl (.no rfl (.refl _)) ?_
       exact .nil
      refine ⟨[some (.d (.int .i64 z23.1)),some (.d (.bool (z23.1 == 2))),some (.d (.bool true)),some (.d (.bool z34.1)),some (.d (.bool z34.1)),some (.d (.bool false)),some (.tup []),some (.tup []),some (.tup []),some (.d (.bool false)),some (.d (.bool false)),some (.tup []),some (.tup []),some (.tup []),some (.d (.bool false)),some (.d (.bool false)),some (.tup []),some (.tup []),some (.tup []),some (.tup []),some (.tup []),some (.tup []),some (.tup []),some (.d (.bool false)),some (.d (.bool false)),some (.tup []),some (.tup []),some (.tup []),some (.tup []),some (.tup []),some (.tup []),some (.tup []),some (.d (.bool false)),some (.d (.bool false)),some (.tup []),some (.tup []),some (.tup []),some (.tup []),some (.d (.bool false)),some (.d (.bool false)),some (.tup []),none,none,none,none],(.o (.o (.o (.o (.o (.o (.o (.o (.o (.o (.o (.o (.o (.o (.o (.o (.o (.o (.o (.o (.o (.o (.o (.o (.o (.o (.o (.o (.o (.o (.o (.o (.o (.o (.o (.o (.new (.new (.new (.new (.new (.new (.new (.new (.new .nil))))))))))))))))))))))))))))))))))))))))))))),(fun _ ht=>by cases ht; exact ⟨_,rfl,.refl _⟩),?_⟩
      refine ⟨[37,38,39,40],by kernel_rfl,?_,_,_,rfl,rfl,.no rfl ?_⟩
      ·
       refine .cons rfl rfl rfl (.no rfl (.refl _)) ?_
       refine .v rfl rfl rfl rfl (aF (b:=false) rfl rfl) ?_
       refine .v rfl rfl rfl rfl (aa rfl) ?_
       refine .cons rfl rfl rfl (.no rfl (.refl _)) ?_
       exact .nil
      refine ⟨[some (.d (.int .i64 z23.1)),some (.d (.bool (z23.1 == 2))),some (.d (.bool true)),some (.d (.bool z34.1)),some (.d (.bool z34.1)),some (.d (.bool false)),some (.tup []),some (.tup []),some (.tup []),some (.d (.bool false)),some (.d (.bool false)),some (.tup []),some (.tup []),some (.tup []),some (.d (.bool false)),some (.d (.bool false)),some (.tup []),some (.tup []),some (.tup []),some (.tup []),some (.tup []),some (.tup []),some (.tup []),some (.d (.bool false)),some (.d (.bool false)),some (.tup []),some (.tup []),some (.tup []),some (.tup []),some (.tup []),some (.tup []),some (.tup []),some (.d (.bool false)),some (.d (.bool false)),some (.tup []),some (.tup []),some (.tup []),some (.tup []),some (.d (.bool false)),some (.d (.bool false)),some (.tup []),some (.tup []),some (.tup []),some (.d (.bool false)),some (.d (.bool false))],(.o (.o (.o (.o (.o (.o (.o (.o (.o (.o (.o (.o (.o (.o (.o (.o (.o (.o (.o (.o (.o (.o (.o (.o (.o (.o (.o (.o (.o (.o (.o (.o (.o (.o (.o (.o (.o (.o (.o (.o (.o (.new (.new (.new (.new .nil))))))))))))))))))))))))))))))))))))))))))))),(fun _ ht=>by cases ht; exact ⟨_,rfl,.refl _⟩),?_⟩
      refine ⟨[42,43,44],by kernel_rfl,?_,_,rfl,?_⟩
      ·
       refine .cons rfl rfl rfl (.no rfl (.refl _)) ?_
       refine .v rfl rfl rfl rfl (aF (b:=false) rfl rfl) ?_
       refine .v rfl rfl rfl rfl (aj rfl) ?_
       exact .nil
      exact ⟨⟨z34.2,ws36,w37,false⟩,_,_,S42,.refl _ _,.refl _,(ak.r rfl ak.nil),H44.sl [] rfl rfl,h⟩
    ·
     replace h:=dH hb52 h
     refine aA.iV E.obj lG Bp [(0,some 44)] (by kernel_rfl) [36,41] (by decide) [some (.d (.int .i64 z23.1)),some (.d (.bool (z23.1 == 2))),some (.d (.bool false)),some (.tup []),some (.d (.bool false)),some (.d (.bool false)),some (.tup []),some (.tup []),some (.tup []),some (.d (.bool false)),some (.d (.bool false)),some (.tup []),some (.tup []),some (.tup []),some (.d (.bool false)),some (.d (.bool false)),some (.tup []),some (.tup []),some (.tup []),some (.tup []),some (.tup []),some (.tup []),some (.tup []),some (.d (.bool false)),some (.d (.bool false)),some (.tup []),some (.tup []),some (.tup []),some (.tup []),some (.tup []),some (.tup []),some (.tup []),some (.d (.bool false)),some (.d (.bool false)),some (.tup []),some (.tup []),none,none,none,none,none,none,none,none,none] ?_
     refine ⟨[0,1,2,3,4,5,6,7,8,9,10,11,12,13,14,15,16,17,18,19,20,21,22,23,24,25,26,27,28,29,30,31,32,33,34,35],by kernel_rfl,?_,_,_,rfl,rfl,.no rfl ?_⟩
     ·
      refine .v rfl rfl rfl rfl (aa rfl) ?_
      refine .v rfl rfl rfl rfl (aB rfl rfl bC) ?_
      refine .cons rfl rfl rfl (.val rfl (aa rfl) (.eq (by rw [hb52]))) ?_
      refine .cons rfl rfl rfl (.no rfl (.refl _)) ?_
      refine .v rfl rfl rfl rfl (aF (b:=false) rfl rfl) ?_
      refine .v rfl rfl rfl rfl (aa rfl) ?_
      refine .cons rfl rfl rfl (.no rfl (.refl _)) ?_
      refine .cons rfl rfl rfl (.no rfl (.refl _)) ?_
      refine .cons rfl rfl rfl (.no rfl (.refl _)) ?_
      refine .v rfl rfl rfl rfl (aF (b:=false) rfl rfl) ?_
      refine .v rfl rfl rfl rfl (aa rfl) ?_
      refine .cons rfl rfl rfl (.no rfl (.refl _)) ?_
      refine .cons rfl rfl rfl (.no rfl (.refl _)) ?_
      refine .cons rfl rfl rfl (.no rfl (.refl _)) ?_
      refine .v rfl rfl rfl rfl (aF (b:=false) rfl rfl) ?_
      refine .v rfl rfl rfl rfl (aa rfl) ?_
      refine .cons rfl rfl rfl (.no rfl (.refl _)) ?_
      refine .cons rfl rfl rfl (.no rfl (.refl _)) ?_
      refine .cons rfl rfl rfl (.no rfl (.refl _)) ?_
      refine .cons rfl rfl rfl (.no rfl (.refl _)) ?_
      refine .cons rfl rfl rfl (.no rfl (.refl _)) ?_
      refine .cons rfl rfl rfl (.no rfl (.refl _)) ?_
      refine .cons rfl rfl rfl (.no rfl (.refl _)) ?_
      refine .v rfl rfl rfl rfl (aF (b:=false) rfl rfl) ?_
      refine .v rfl rfl rfl rfl (aa rfl) ?_
      refine .cons rfl rfl rfl (.no rfl (.refl _)) ?_
      refine .cons rfl rfl rfl (.no rfl (.refl _)) ?_
      refine .cons rfl rfl rfl (.no rfl (.refl _)) ?_
      refine .cons rfl rfl rfl (.no rfl (.refl _)) ?_
      refine .cons rfl rfl rfl (.no rfl (.refl _)) ?_
      refine .cons rfl rfl rfl (.no rfl (.refl _)) ?_
      refine .cons rfl rfl rfl (.no rfl (.refl _)) ?_
      refine .v rfl rfl rfl rfl (aF (b:=false) rfl rfl) ?_
      refine .v rfl rfl rfl rfl (aa rfl) ?_
      refine .cons rfl rfl rfl (.no rfl (.refl _)) ?_
      refine .cons rfl rfl rfl (.no rfl (.refl _)) ?_
      exact .nil
     refine ⟨[some (.d (.int .i64 z23.1)),some (.d (.bool (z23.1 == 2))),some (.d (.bool false)),some (.tup []),some (.d (.bool false)),some (.d (.bool false)),some (.tup []),some (.tup []),some (.tup []),some (.d (.bool false)),some (.d (.bool false)),some (.tup []),some (.tup []),some (.tup []),some (.d (.bool false)),some (.d (.bool false)),some (.tup []),some (.tup []),some (.tup []),some (.tup []),some (.tup []),some (.tup []),some (.tup []),some (.d (.bool false)),some (.d (.bool false)),some (.tup []),some (.tup []),some (.tup []),some (.tup []),some (.tup []),some (.tup []),some (.tup []),some (.d (.bool false)),some (.d (.bool false)),some (.tup []),some (.tup []),some (.tup []),some (.tup []),some (.d (.bool false)),some (.d (.bool false)),some (.tup []),none,none,none,none],(.o (.o (.o (.o (.o (.o (.o (.o (.o (.o (.o (.o (.o (.o (.o (.o (.o (.o (.o (.o (.o (.o (.o (.o (.o (.o (.o (.o (.o (.o (.o (.o (.o (.o (.o (.o (.new (.new (.new (.new (.new (.new (.new (.new (.new .nil))))))))))))))))))))))))))))))))))))))))))))),(fun _ ht=>by cases ht; exact ⟨_,rfl,.refl _⟩),?_⟩
     refine ⟨[37,38,39,40],by kernel_rfl,?_,_,_,rfl,rfl,.no rfl ?_⟩
     ·
      refine .cons rfl rfl rfl (.no rfl (.refl _)) ?_
      refine .v rfl rfl rfl rfl (aF (b:=false) rfl rfl) ?_
      refine .v rfl rfl rfl rfl (aa rfl) ?_
      refine .cons rfl rfl rfl (.no rfl (.refl _)) ?_
      exact .nil
     refine ⟨[some (.d (.int .i64 z23.1)),some (.d (.bool (z23.1 == 2))),some (.d (.bool false)),some (.tup []),some (.d (.bool false)),some (.d (.bool false)),some (.tup []),some (.tup []),some (.tup []),some (.d (.bool false)),some (.d (.bool false)),some (.tup []),some (.tup []),some (.tup []),some (.d (.bool false)),some (.d (.bool false)),some (.tup []),some (.tup []),some (.tup []),some (.tup []),some (.tup []),some (.tup []),some (.tup []),some (.d (.bool false)),some (.d (.bool false)),some (.tup []),some (.tup []),some (.tup []),some (.tup []),some (.tup []),some (.tup []),some (.tup []),some (.d (.bool false)),some (.d (.bool false)),some (.tup []),some (.tup []),some (.tup []),some (.tup []),some (.d (.bool false)),some (.d (.bool false)),some (.tup []),some (.tup []),some (.tup []),some (.d (.bool false)),some (.d (.bool false))],(.o (.o (.o (.o (.o (.o (.o (.o (.o (.o (.o (.o (.o (.o (.o (.o (.o (.o (.o (.o (.o (.o (.o (.o (.o (.o (.o (.o (.o (.o (.o (.o (.o (.o (.o (.o (.o (.o (.o (.o (.o (.new (.new (.new (.new .nil))))))))))))))))))))))))))))))))))))))))))))),(fun _ ht=>by cases ht; exact ⟨_,rfl,.refl _⟩),?_⟩
     refine ⟨[42,43,44],by kernel_rfl,?_,_,rfl,?_⟩
     ·
      refine .cons rfl rfl rfl (.no rfl (.refl _)) ?_
      refine .v rfl rfl rfl rfl (aF (b:=false) rfl rfl) ?_
      refine .v rfl rfl rfl rfl (aj rfl) ?_
      exact .nil
     exact ⟨⟨z34.2,ws36,w37,false⟩,_,_,S42,.refl _ _,.refl _,(ak.r rfl ak.nil),H44.sl [] rfl rfl,h⟩
set_option maxRecDepth 20000 in
set_option maxHeartbeats 4000000 in
theorem yw (n:Nat) (a1:(List Int)) (a2:(List Int)) (r:Bool) (h:gM n a1 a2=some r):gY R cfg.P 9 [(.sl ((a1).map (D.int .i64)) false),(.sl ((a2).map (D.int .i64)) false)] (.d (.bool r)):=by
 unfold gM at h
 refine gY.of_wp E.obj.toObjOk (C:=cfg) Try.func9 rfl K7 rfl ?_
 have H0:Has aM aM []:=Has.pure
 refine aA.seq ?_
 refine aA.region E.obj rfl ?_
 refine ai.val rfl (aj rfl) rfl ?_
 refine ai.nil ?_
 refine aA.seq ?_
 refine aA.region E.obj rfl ?_
 refine ai.val rfl (aj rfl) rfl ?_
 refine ai.nil ?_
 refine aA.seq ?_
 refine aA.region E.obj rfl ?_
 refine ai.val rfl (aa rfl) rfl ?_
 refine ai.val rfl (aa rfl) rfl ?_
 obtain ⟨z3,hzz3,h⟩:=bind_some h
 refine ai.ret rfl (vC rfl rfl) (jf E _ _ _ hzz3 _ _ (bO.eq .nil)) rfl ?_
 refine ai.val rfl (aa rfl) rfl ?_
 refine ai.val rfl (dX rfl rfl) rfl ?_
 refine ai.val rfl (dX rfl rfl) rfl ?_
 refine ai.val rfl (aj rfl) rfl ?_
 refine ai.val rfl (aj rfl) rfl ?_
 refine ai.nil ?_
 refine aA.seq ?_
 refine aA.region E.obj rfl ?_
 refine ai.val rfl (aa rfl) rfl ?_
 refine ai.val rfl (aa rfl) rfl ?_
 obtain ⟨z4,hzz4,h⟩:=bind_some h
 refine ai.ret rfl (vC rfl rfl) (jf E _ _ _ hzz4 _ _ (bO.eq .nil)) rfl ?_
 refine ai.val rfl (aa rfl) rfl ?_
 refine ai.val rfl (dX rfl rfl) rfl ?_
 refine ai.val rfl (dX rfl rfl) rfl ?_
 refine ai.val rfl (aj rfl) rfl ?_
 refine ai.val rfl (aj rfl) rfl ?_
 refine ai.nil ?_
 refine aA.seq ?_
 refine aA.region E.obj rfl ?_
 obtain ⟨z5,hzz5,h⟩:=bind_some h
 refine ai.eB (ins:=[]) (more:=[]) (H0.sl [] rfl rfl) rfl (aI rfl rfl) (wH E n  _ hzz5 ) .nil rfl ?_
 rintro v6 S7 l8 hr9 H10
 rcases z5 with _ | x11
 ·
  obtain ⟨rfl,rfl⟩:=hr9
  replace h:=IQ h
  replace H10:Has aM S7 []:=H10
  refine ai.val rfl (aj rfl) rfl ?_
  refine ai.nil ?_
  refine aA.seq ?_
  refine aA.seq ?_
  refine aA.region E.obj rfl ?_
  refine ai.val rfl (aa rfl) rfl ?_
  refine ai.val rfl (aB rfl rfl (jP F8)) rfl ?_
  refine ai.nil ?_
  refine aA.cond rfl (fun hb=>?_) (fun hb=>?_)
  ·
   refine aA.seq ?_
   refine aA.region E.obj rfl ?_
   refine ai.val rfl (aj rfl) rfl ?_
   refine ai.nil ?_
   have hr:=Option.some.inj h
   subst hr
   exact aA.ret ⟨_,rfl,rfl,lM (bO.eq .nil)⟩
  ·
   cases hb
 ·
  obtain ⟨b12,v13,ws14,w15,rfl,rfl⟩:=hr9
  replace h:=Jn h
  have H16:Has aM S7 [.box b12 [v13,w15],ay ae ah.kids 7 5 v13 ws14 x11.l none,aG w15 x11.freed]:=H10.sl [0,1,2] rfl rfl
  refine ai.val rfl (aj rfl) rfl ?_
  refine ai.nil ?_
  refine aA.seq ?_
  refine aA.seq ?_
  refine aA.region E.obj rfl ?_
  refine ai.val rfl (aa rfl) rfl ?_
  refine ai.val rfl (aB rfl rfl (zZ F8)) rfl ?_
  refine ai.nil ?_
  refine aA.cond rfl (fun hb=>?_) (fun hb=>?_)
  ·
   cases hb
  ·
   refine aA.skip ?_
   refine aA.seq ?_
   refine aA.region E.obj rfl ?_
   refine ai.val rfl (aa rfl) rfl ?_
   refine ai.val rfl (aa rfl) rfl ?_
   refine ai.val rfl (dR (cs:=[(.d (.str [117,108])),(.d (.str [])),(.d (.str [])),(.d .aT),(.d (.sl ((z3.1).map ax) false))]) jZ rfl (dI) (gQ rfl rfl rfl rfl (gQ rfl rfl rfl rfl rfl))) rfl ?_
   refine ai.less (Less.agg' (d:=ax (Tree.mk [117,108] [] [] [] z3.1)) (aH.eq rfl (aH.eq rfl (aH.eq rfl (aH.iJ rfl (.aT false) rfl rfl (aH.eq rfl .nil))))) ((Tree.eq _).trans rfl)) ?_
   obtain ⟨z17,hzz17,h⟩:=bind_some h
   refine ai.eB (ins:=[.box b12 [v13,w15],ay ae ah.kids 7 5 v13 ws14 x11.l none,aG w15 x11.freed]) (more:=[]) (H16.sl [0,1,2] rfl rfl) rfl (aI rfl rfl) (lL E n _ _ _ hzz17 b12 v13 ws14 w15) (.cons (.refl _) (.cons (.refl _) .nil)) rfl ?_
   rintro _ S21 _ ⟨rfl,v18,ws19,w20,rfl⟩ H22
   have H23:Has aM S21 [.box b12 [v18,w20],ay ae ah.kids 7 5 v18 ws19 z17.2.l none,aG w20 z17.2.freed]:=H22.sl [0,1,2] rfl rfl
   refine ai.val rfl (aj rfl) rfl ?_
   refine ai.nil ?_
   refine aA.seq ?_
   refine aA.region E.obj rfl ?_
   refine ai.val rfl (aa rfl) rfl ?_
   refine ai.val rfl (aa rfl) rfl ?_
   obtain ⟨z24,hzz24,h⟩:=bind_some h
   refine ai.eB (ins:=[.box b12 [v18,w20],ay ae ah.kids 7 5 v18 ws19 z17.2.l none,aG w20 z17.2.freed]) (more:=[]) (H23.sl [0,1,2] rfl rfl) rfl (aI rfl rfl) (iN E n _ _ _ hzz24 b12 v18 ws19 w20) (.cons (.refl _) (.cons (.refl _) .nil)) rfl ?_
   rintro _ S25 _ ⟨rfl,rfl⟩ H26
   have H27:Has aM S25 [.box b12 [v18,w20],ay ae ah.kids 7 5 v18 ws19 z17.2.l none,aG w20 z17.2.freed]:=H26.sl [0,1,2] rfl rfl
   refine ai.val rfl (aj rfl) rfl ?_
   refine ai.nil ?_
   refine aA.seq ?_
   refine aA.seq ?_
   refine aA.region E.obj rfl ?_
   refine ai.val rfl (aa rfl) rfl ?_
   refine ai.val rfl (bE rfl iZ) rfl ?_
   refine ai.val rfl (aa rfl) rfl ?_
   refine ai.val rfl (bE rfl iZ) rfl ?_
   refine ai.val rfl (aB rfl rfl ku) rfl ?_
   refine ai.val rfl (aa rfl) rfl ?_
   rcases Bool.eq_false_or_eq_true ((((z24).length:Int) != ((z3.2).length:Int))) with hB28 | hB28
   ·
    replace h:=dF hB28 h
    refine ai.bool hB28 ?_
    refine ai.no rfl rfl ?_
    refine ai.no rfl rfl ?_
    refine ai.no rfl rfl ?_
    refine ai.no rfl rfl ?_
    refine ai.no rfl rfl ?_
    refine ai.no rfl rfl ?_
    refine ai.val rfl (aF (b:=true) rfl rfl) rfl ?_
    refine ai.nil ?_
    refine aA.cond rfl (fun hb=>?_) (fun hb=>?_)
    ·
     refine aA.seq ?_
     refine aA.region E.obj rfl ?_
     refine ai.val rfl (aj rfl) rfl ?_
     refine ai.nil ?_
     have hr:=Option.some.inj h
     subst hr
     exact aA.ret ⟨_,rfl,rfl,lM (bO.eq .nil)⟩
    ·
     cases hb
   ·
    replace h:=dH hB28 h
    refine ai.bool hB28 ?_
    refine ai.val rfl (aa rfl) rfl ?_
    refine ai.val rfl (aa rfl) rfl ?_
    refine ai.val rfl (aa rfl) rfl ?_
    refine ai.val rfl (dR (cs:=[(.d (.str [117,108])),(.d (.str [])),(.d (.str [])),(.d .aT),(.d (.sl ((z4.1).map ax) false))]) jZ rfl (dI) (gQ rfl rfl rfl rfl (gQ rfl rfl rfl rfl rfl))) rfl ?_
    refine ai.less (Less.agg' (d:=ax (Tree.mk [117,108] [] [] [] z4.1)) (aH.eq rfl (aH.eq rfl (aH.eq rfl (aH.iJ rfl (.aT false) rfl rfl (aH.eq rfl .nil))))) ((Tree.eq _).trans rfl)) ?_
    obtain ⟨z29,hzz29,h⟩:=bind_some h
    refine ai.eB (ins:=[.box b12 [v18,w20],ay ae ah.kids 7 5 v18 ws19 z17.2.l none,aG w20 z17.2.freed]) (more:=[]) (H27.sl [0,1,2] rfl rfl) rfl (aI rfl rfl) (nD E n _ _ _ _ hzz29 b12 v18 ws19 w20) (.cons (.refl _) (.cons (.refl _) (.cons (.refl _) .nil))) rfl ?_
    rintro _ S33 _ ⟨rfl,v30,ws31,w32,rfl⟩ H34
    have H35:Has aM S33 [.box b12 [v30,w32],ay ae ah.kids 7 5 v30 ws31 z29.2.l none,aG w32 z29.2.freed]:=H34.sl [0,1,2] rfl rfl
    refine ai.val rfl (kr rfl) rfl ?_
    refine ai.val rfl (aF (b:=false) rfl rfl) rfl ?_
    refine ai.nil ?_
    refine aA.cond rfl (fun hb36=>?_) (fun hb36=>?_)
    ·
     replace h:=dF hb36 h
     refine aA.seq ?_
     refine aA.region E.obj rfl ?_
     refine ai.val rfl (aj rfl) rfl ?_
     refine ai.nil ?_
     have hr:=Option.some.inj h
     subst hr
     exact aA.ret ⟨_,rfl,rfl,lM (bO.eq .nil)⟩
    ·
     replace h:=dH hb36 h
     refine aA.skip ?_
     refine aA.seq ?_
     refine aA.region E.obj rfl ?_
     refine ai.val rfl (aa rfl) rfl ?_
     refine ai.val rfl (aa rfl) rfl ?_
     obtain ⟨z37,hzz37,h⟩:=bind_some h
     refine ai.eB (ins:=[.box b12 [v30,w32],ay ae ah.kids 7 5 v30 ws31 z29.2.l none,aG w32 z29.2.freed]) (more:=[]) (H35.sl [0,1,2] rfl rfl) rfl (aI rfl rfl) (iN E n _ _ _ hzz37 b12 v30 ws31 w32) (.cons (.refl _) (.cons (.refl _) .nil)) rfl ?_
     rintro _ S38 _ ⟨rfl,rfl⟩ H39
     have H40:Has aM S38 [.box b12 [v30,w32],ay ae ah.kids 7 5 v30 ws31 z29.2.l none,aG w32 z29.2.freed]:=H39.sl [0,1,2] rfl rfl
     refine ai.val rfl (aj rfl) rfl ?_
     refine ai.nil ?_
     refine aA.seq ?_
     refine aA.seq ?_
     refine aA.region E.obj rfl ?_
     refine ai.val rfl (aa rfl) rfl ?_
     refine ai.val rfl (bE rfl iZ) rfl ?_
     refine ai.val rfl (aa rfl) rfl ?_
     refine ai.val rfl (bE rfl iZ) rfl ?_
     refine ai.val rfl (aB rfl rfl ku) rfl ?_
     refine ai.nil ?_
     refine aA.cond rfl (fun hb41=>?_) (fun hb41=>?_)
     ·
      replace h:=dF hb41 h
      refine aA.seq ?_
      refine aA.region E.obj rfl ?_
      refine ai.val rfl (aj rfl) rfl ?_
      refine ai.nil ?_
      have hr:=Option.some.inj h
      subst hr
      exact aA.ret ⟨_,rfl,rfl,lM (bO.eq .nil)⟩
     ·
      replace h:=dH hb41 h
      refine aA.skip ?_
      refine aA.seq ?_
      refine aA.region E.obj rfl ?_
      refine ai.makeMap (D.int .i64) (D.int .i64) H40 rfl Ce rfl (fun b42 S43 H44=>?_)
      refine ai.val rfl (aj rfl) rfl ?_
      refine ai.nil ?_
      refine aA.seq ?_
      refine aA.seq ?_
      refine aA.region E.obj rfl ?_
      refine ai.val rfl (aa rfl) rfl ?_
      refine ai.val rfl (bE rfl iZ) rfl ?_
      refine ai.val rfl (aa rfl) rfl ?_
      refine ai.nil ?_
      refine aA.block ?_
      refine pM.start (B:=aM) (α:=(List (Int × Int)) × Int) (fun k a=>bJ n z3 z4 z24 z29 z37 k a.1 a.2=some r) (fun a=>[(8,(.d (.sl ((z4.1).map ax) false))),(9,(.d (.sl ((z4.2).map (D.int .i64)) false))),(10,(.ptr b12 0 0)),(12,(.d (.sl ((z24).map (D.int .i64)) false))),(13,(.d (.sl ((z37).map (D.int .i64)) false))),(14,(.map b42)),(67,(.d (.sl ((z3.2).map (D.int .i64)) false))),(68,(.d (.int .i64 ((z3.2).length:Int)))),(69,(.d (.int .i64 a.2)))]) (fun a=>[.map b42 (mD (D.int .i64) (D.int .i64) a.1),.box b12 [v30,w32],ay ae ah.kids 7 5 v30 ws31 z29.2.l none,aG w32 z29.2.freed]) ?_ ?_ n ⟨⟨[],0⟩,_,_,S43,.refl _ _,.refl _,(ak.r rfl (ak.r rfl (ak.r rfl (ak.r rfl (ak.r rfl (ak.r rfl (ak.r rfl (ak.r rfl (ak.r rfl ak.nil))))))))),H44.sl [0,1,2,3] rfl rfl,h⟩
      ·
       intro a h; simp [bJ] at h
      ·
       intro k55 a S51 H52 h
       obtain ⟨x53,x54⟩:=a
       replace h:bJ n z3 z4 z24 z29 z37 (k55 + 1) x53 x54=some r:=h
       replace H52:Has aM S51 [.map b42 (mD (D.int .i64) (D.int .i64) x53),.box b12 [v30,w32],ay ae ah.kids 7 5 v30 ws31 z29.2.l none,aG w32 z29.2.freed]:=H52
       unfold bJ at h
       refine aA.seq ?_
       refine aA.region E.obj rfl ?_
       refine ai.val rfl (aB rfl rfl dN) rfl ?_
       refine ai.nil ?_
       refine aA.seq ?_
       refine aA.cond rfl (fun hb56=>?_) (fun hb56=>?_)
       ·
        replace h:=dF hb56 h
        refine aA.skip ?_
        refine aA.seq ?_
        refine aA.block ?_
        refine aA.seq ?_
        refine aA.region E.obj rfl ?_
        refine ai.val rfl (aa rfl) rfl ?_
        obtain ⟨z57,hzz57,h⟩:=bind_some h
        refine ai.val rfl (bD rfl rfl (bU (enc:=(D.int .i64)) hzz57 eH nZ (((fun _=>rfl) _).trans jL.symm))) rfl ?_
        refine ai.val rfl (aX rfl (bP ni rfl)) rfl ?_
        refine ai.val rfl (aj rfl) rfl ?_
        refine ai.val rfl (aj rfl) rfl ?_
        refine ai.nil ?_
        refine aA.region E.obj rfl ?_
        refine ai.val rfl (aa rfl) rfl ?_
        refine ai.val rfl (aa rfl) rfl ?_
        refine ai.val rfl (aa rfl) rfl ?_
        refine ai.val rfl (aa rfl) rfl ?_
        obtain ⟨z58,hzz58,h⟩:=bind_some h
        refine ai.val rfl (bD rfl rfl (bU (enc:=(D.int .i64)) hzz58 eH nZ (((fun _=>rfl) _).trans jL.symm))) rfl ?_
        refine ai.val rfl (aX rfl (bP ni rfl)) rfl ?_
        refine ai.mapUpdate (ek:=(D.int .i64)) (ev:=(D.int .i64)) (k:=z57) (v:=z58) H52 rfl (i:=0) rfl rfl rfl rfl Ce (rZ Ir) (fun S59 H60=>?_)
        refine ai.nil ?_
        refine aA.region E.obj rfl ?_
        refine ai.val rfl (aB rfl rfl cO) rfl ?_
        refine ai.val rfl (aa rfl) rfl ?_
        refine ai.nil ?_
        exact ⟨⟨(iD x53 z57 z58),(IntKind.wrap .i64 (x54 + 1))⟩,_,_,S59,.refl _ _,.refl _,(ak.r rfl (ak.r rfl (ak.r rfl (ak.r rfl (ak.r rfl (ak.r rfl (ak.r rfl (ak.r rfl (ak.r rfl ak.nil))))))))),H60.sl [0,1,2,3] rfl rfl,h⟩
       ·
        replace h:=dH hb56 h
        refine aA.exit ?_
        refine aA.seq ?_
        refine aA.seq ?_
        refine aA.region E.obj rfl ?_
        refine ai.val rfl (aa rfl) rfl ?_
        refine ai.val rfl (bE rfl iZ) rfl ?_
        refine ai.val rfl (aa rfl) rfl ?_
        refine ai.nil ?_
        refine aA.block ?_
        refine pM.start (B:=aM) (α:=Int) (fun k a=>aU n z4 z29 z37 x53 k a=some r) (fun a=>[(8,(.d (.sl ((z4.1).map ax) false))),(9,(.d (.sl ((z4.2).map (D.int .i64)) false))),(10,(.ptr b12 0 0)),(13,(.d (.sl ((z37).map (D.int .i64)) false))),(14,(.map b42)),(81,(.d (.sl ((z4.2).map (D.int .i64)) false))),(82,(.d (.int .i64 ((z4.2).length:Int)))),(83,(.d (.int .i64 a)))]) (fun a=>[.map b42 (mD (D.int .i64) (D.int .i64) x53),.box b12 [v30,w32],ay ae ah.kids 7 5 v30 ws31 z29.2.l none,aG w32 z29.2.freed]) ?_ ?_ n ⟨0,_,_,S51,.refl _ _,.refl _,(ak.r rfl (ak.r rfl (ak.r rfl (ak.r rfl (ak.r rfl (ak.r rfl (ak.r rfl (ak.r rfl ak.nil)))))))),H52.sl [0,1,2,3] rfl rfl,h⟩
        ·
         intro a h; simp [aU] at h
        ·
         intro k69 x68 S66 H67 h
         replace h:aU n z4 z29 z37 x53 (k69 + 1) x68=some r:=h
         replace H67:Has aM S66 [.map b42 (mD (D.int .i64) (D.int .i64) x53),.box b12 [v30,w32],ay ae ah.kids 7 5 v30 ws31 z29.2.l none,aG w32 z29.2.freed]:=H67
         unfold aU at h
         refine aA.seq ?_
         refine aA.region E.obj rfl ?_
         refine ai.val rfl (aB rfl rfl dN) rfl ?_
         refine ai.nil ?_
         refine aA.seq ?_
         refine aA.cond rfl (fun hb70=>?_) (fun hb70=>?_)
         ·
          replace h:=dF hb70 h
          refine aA.skip ?_
          refine aA.seq ?_
          refine aA.block ?_
          refine aA.seq ?_
          refine aA.region E.obj rfl ?_
          refine ai.val rfl (aa rfl) rfl ?_
          obtain ⟨z71,hzz71,h⟩:=bind_some h
          refine ai.val rfl (bD rfl rfl (bU (enc:=(D.int .i64)) hzz71 eH nZ (((fun _=>rfl) _).trans jL.symm))) rfl ?_
          refine ai.val rfl (aX rfl (bP ni rfl)) rfl ?_
          refine ai.val rfl (aj rfl) rfl ?_
          refine ai.val rfl (aj rfl) rfl ?_
          refine ai.nil ?_
          refine aA.seq ?_
          refine aA.seq ?_
          refine aA.region E.obj rfl ?_
          refine ai.val rfl (aa rfl) rfl ?_
          refine ai.val rfl (aa rfl) rfl ?_
          refine ai.val rfl (xZ (ek:=(D.int .i64)) (ev:=(D.int .i64)) (k:=z71) (z:=0) H67 (i:=0) rfl rfl rfl Ce (rZ Ir) Ex) rfl ?_
          refine ai.val rfl (aa rfl) rfl ?_
          refine ai.val rfl (dX rfl rfl) rfl ?_
          refine ai.val rfl (dX rfl rfl) rfl ?_
          refine ai.val rfl (aj rfl) rfl ?_
          refine ai.val rfl (aj rfl) rfl ?_
          refine ai.nil ?_
          refine aA.seq ?_
          refine aA.region E.obj rfl ?_
          refine ai.val rfl (aa rfl) rfl ?_
          refine ai.val rfl (aa rfl) rfl ?_
          obtain ⟨z73,hzz73,h⟩:=bind_some h
          refine ai.jr 7 102 (.d (.bool z73)) ?_ ?_
          ·
           rcases Bool.eq_false_or_eq_true ((oq x53 z71).isSome) with hB72 | hB72
           ·
            refine ai.bool hB72 ?_
            replace hzz73:=dF hB72 hzz73
            refine ai.val rfl (aa rfl) rfl ?_
            refine ai.val rfl (aa rfl) rfl ?_
            obtain ⟨z74,hzz74,hzz73⟩:=bind_some hzz73
            refine ai.val rfl (bD rfl rfl (bU (enc:=(D.int .i64)) hzz74 eH nZ (((fun _=>rfl) _).trans jL.symm))) rfl ?_
            refine ai.val rfl (aX rfl (bP ni rfl)) rfl ?_
            refine ai.val rfl (aa rfl) rfl ?_
            refine ai.val rfl (aB rfl rfl ku) rfl ?_
            refine ai.val rfl (aF (b:=true) rfl rfl) rfl ?_
            cases hzz73
            exact ai.nil ⟨_,rfl,(ak.put (ak.push rfl (ak.push rfl (ak.push rfl (ak.push rfl (ak.push rfl (ak.push rfl (ak.put (.refl _) (Less.eq (by rw [hB72]))))))))) (.refl _))⟩
           ·
            refine ai.bool hB72 ?_
            refine ai.no rfl rfl ?_
            refine ai.no rfl rfl ?_
            refine ai.no rfl rfl ?_
            refine ai.no rfl rfl ?_
            refine ai.no rfl rfl ?_
            refine ai.no rfl rfl ?_
            refine ai.val rfl (aF (b:=false) rfl rfl) rfl ?_
            replace hzz73:=dH hB72 hzz73
            cases hzz73
            exact ai.nil ⟨_,rfl,(ak.put (ak.push rfl (ak.push rfl (ak.push rfl (ak.push rfl (ak.push rfl (ak.push rfl (ak.put (.refl _) (Less.eq (by rw [hB72]))))))))) (.refl _))⟩
          ·
           refine ai.nil ?_
           refine aA.cond rfl (fun hb75=>?_) (fun hb75=>?_)
           ·
            replace h:=dF hb75 h
            refine aA.seq ?_
            refine aA.region E.obj rfl ?_
            refine ai.val rfl (aj rfl) rfl ?_
            refine ai.nil ?_
            have hr:=Option.some.inj h
            subst hr
            exact aA.ret ⟨_,rfl,rfl,lM (bO.eq .nil)⟩
           ·
            replace h:=dH hb75 h
            refine aA.skip ?_
            refine aA.seq ?_
            refine aA.region E.obj rfl ?_
            refine ai.val rfl (aa rfl) rfl ?_
            refine ai.val rfl (aa rfl) rfl ?_
            refine ai.val rfl (aa rfl) rfl ?_
            obtain ⟨z76,hzz76,h⟩:=bind_some h
            refine ai.val rfl (bD rfl rfl (bU (enc:=(D.int .i64)) hzz76 eH nZ (((fun _=>rfl) _).trans jL.symm))) rfl ?_
            refine ai.val rfl (aX rfl (bP ni rfl)) rfl ?_
            obtain ⟨z77,hzz77,h⟩:=bind_some h
            refine ai.eB (ins:=[.box b12 [v30,w32],ay ae ah.kids 7 5 v30 ws31 z29.2.l none,aG w32 z29.2.freed]) (more:=[.map b42 (mD (D.int .i64) (D.int .i64) x53)]) (H67.sl [1,2,3,0] rfl rfl) rfl (aI rfl rfl) (lu E n _ _ _ hzz77 b12 v30 ws31 w32) (.cons (.refl _) (.cons (.refl _) .nil)) rfl ?_
            rintro _ S78 _ ⟨rfl,rfl⟩ H79
            have H80:Has aM S78 [.map b42 (mD (D.int .i64) (D.int .i64) x53),.box b12 [v30,w32],ay ae ah.kids 7 5 v30 ws31 z29.2.l none,aG w32 z29.2.freed]:=H79.sl [3,0,1,2] rfl rfl
            refine ai.val rfl (aa rfl) rfl ?_
            refine ai.val rfl (dX rfl rfl) rfl ?_
            refine ai.val rfl (dX rfl rfl) rfl ?_
            refine ai.alloc H80 rfl yg jZ rfl rfl (fun b81 S82 H83=>?_)
            refine ai.store H83 (i:=0) rfl rfl rfl rfl (Tree.gu _) rfl fw rfl ow rfl rfl rfl (fun S84 H85=>?_)
            refine ai.val rfl (aj rfl) rfl ?_
            refine ai.nil ?_
            refine aA.join (B:=aM) (α:=Bool) (fun a=>df x68 (aU n z4 z29 z37 x53 k69) a=some r) (fun a=>[(8,(.d (.sl ((z4.1).map ax) false))),(9,(.d (.sl ((z4.2).map (D.int .i64)) false))),(10,(.ptr b12 0 0)),(13,(.d (.sl ((z37).map (D.int .i64)) false))),(14,(.map b42)),(81,(.d (.sl ((z4.2).map (D.int .i64)) false))),(82,(.d (.int .i64 ((z4.2).length:Int)))),(83,(.d (.int .i64 x68))),(122,(.d (.bool a)))]) (fun a=>[.map b42 (mD (D.int .i64) (D.int .i64) x53),.box b12 [v30,w32],ay ae ah.kids 7 5 v30 ws31 z29.2.l none,aG w32 z29.2.freed]) ?_ ?_
            ·
             intro x88 S86 H87 h
             replace h:df x68 (aU n z4 z29 z37 x53 k69) x88=some r:=h
             replace H87:Has aM S86 [.map b42 (mD (D.int .i64) (D.int .i64) x53),.box b12 [v30,w32],ay ae ah.kids 7 5 v30 ws31 z29.2.l none,aG w32 z29.2.freed]:=H87
             unfold df at h
             refine aA.cond rfl (fun hb90=>?_) (fun hb90=>?_)
             ·
              replace h:=dF hb90 h
              refine aA.seq ?_
              refine aA.region E.obj rfl ?_
              refine ai.val rfl (aj rfl) rfl ?_
              refine ai.nil ?_
              have hr:=Option.some.inj h
              subst hr
              exact aA.ret ⟨_,rfl,rfl,lM (bO.eq .nil)⟩
             ·
              replace h:=dH hb90 h
              refine aA.skip ?_
              refine aA.region E.obj rfl ?_
              refine ai.val rfl (aB rfl rfl cO) rfl ?_
              refine ai.val rfl (aa rfl) rfl ?_
              refine ai.nil ?_
              exact ⟨(IntKind.wrap .i64 (x68 + 1)),_,_,S86,.refl _ _,.refl _,(ak.r rfl (ak.r rfl (ak.r rfl (ak.r rfl (ak.r rfl (ak.r rfl (ak.r rfl (ak.r rfl ak.nil)))))))),H87.sl [0,1,2,3] rfl rfl,h⟩
            ·
             rcases Bool.eq_false_or_eq_true ((!z77.2)) with hb91 | hb91
             ·
              replace h:=dF hb91 h
              refine aA.iV E.obj lG Ji [(8,none),(9,none),(10,none),(13,none),(14,none),(81,none),(82,none),(83,none),(122,some 10)] (by kernel_rfl) [] (by decide) [some (.d (.bool z77.2)),some (.d (.bool (!z77.2))),some (.d (.bool true)),some (.tup []),some (.tup []),some (.tup []),some (.tup []),some (.tup []),some (.tup []),some (.tup []),some (.d (.bool true))] ?_
              refine ⟨[0,1,2,3,4,5,6,7,8,9,10],by kernel_rfl,?_,_,rfl,?_⟩
              ·
               refine .v rfl rfl rfl rfl (aa rfl) ?_
               refine .v rfl rfl rfl rfl (kr rfl) ?_
               refine .cons rfl rfl rfl (.val rfl (aa rfl) (.eq (by rw [hb91]))) ?_
               refine .cons rfl rfl rfl (.no rfl (.refl _)) ?_
               refine .cons rfl rfl rfl (.no rfl (.refl _)) ?_
               refine .cons rfl rfl rfl (.no rfl (.refl _)) ?_
               refine .cons rfl rfl rfl (.no rfl (.refl _)) ?_
               refine .cons rfl rfl rfl (.no rfl (.refl _)) ?_
               refine .cons rfl rfl rfl (.no rfl (.refl _)) ?_
               refine .cons rfl rfl rfl (.no rfl (.refl _)) ?_
               refine .v rfl rfl rfl rfl (aF (b:=true) rfl rfl) ?_
               exact .nil
              exact ⟨true,_,_,S84,.refl _ _,.refl _,(ak.r rfl (ak.r rfl (ak.r rfl (ak.r rfl (ak.r rfl (ak.r rfl (ak.r rfl (ak.r rfl (ak.r rfl ak.nil))))))))),H85.sl [1,2,3,4] rfl rfl,h⟩
             ·
              replace h:=dH hb91 h
              obtain ⟨z92,hzz92,h⟩:=bind_some h
              obtain ⟨z93,hzz93,h⟩:=bind_some h
              refine aA.iV E.obj lG Ji [(8,none),(9,none),(10,none),(13,none),(14,none),(81,none),(82,none),(83,none),(122,some 10)] (by kernel_rfl) [] (by decide) [some (.d (.bool z77.2)),some (.d (.bool (!z77.2))),some (.d (.bool false)),some (.d (ax z77.1)),some (.d (.sl ((z4.1).map ax) false)),some (.d (.int .i64 x68)),some (.eptr (ax z92) 0),some (.d (ax z92)),some (.d (.bool z93)),some (.d (.bool (!z93))),some (.d (.bool (!z93)))] ?_
              refine ⟨[0,1,2,3,4,5,6,7,8,9,10],by kernel_rfl,?_,_,rfl,?_⟩
              ·
               refine .v rfl rfl rfl rfl (aa rfl) ?_
               refine .v rfl rfl rfl rfl (kr rfl) ?_
               refine .cons rfl rfl rfl (.val rfl (aa rfl) (.eq (by rw [hb91]))) ?_
               refine .cons rfl rfl rfl (.step ?_) ?_
               ·
                refine ai.val rfl (aL H85 (i:=0) rfl rfl (dO jA fw rfl)) rfl ?_
                refine ai.less (Less.agg' (d:=ax z77.1) (aH.eq rfl (aH.eq rfl (aH.eq rfl (aH.eq rfl (aH.eq rfl .nil))))) ((Tree.eq _).trans rfl)) ?_
                exact ai.nil ⟨_,_,rfl,fun _ ht=>by cases ht; exact ⟨rfl,.refl _⟩⟩
               refine .v rfl rfl rfl rfl (aa rfl) ?_
               refine .v rfl rfl rfl rfl (aa rfl) ?_
               refine .v rfl rfl rfl rfl (bD rfl rfl (bU (enc:=ax) hzz92 qY ow ((Tree.len _).trans fw.symm))) ?_
               refine .v rfl rfl rfl rfl (aX rfl (Tree.rq jA fw)) ?_
               refine .cons rfl rfl rfl (.step ?_) ?_
               ·
                refine ai.ret rfl (aI rfl rfl) (kT E _ _ _ _ hzz93 _ _ (bO.eq (bO.eq .nil))) rfl ?_
                exact ai.nil ⟨_,_,rfl,fun _ ht=>by cases ht; exact ⟨rfl,.refl _⟩⟩
               refine .v rfl rfl rfl rfl (kr rfl) ?_
               refine .v rfl rfl rfl rfl (aF (b:=false) rfl rfl) ?_
               exact .nil
              exact ⟨(!z93),_,_,S84,.refl _ _,.refl _,(ak.r rfl (ak.r rfl (ak.r rfl (ak.r rfl (ak.r rfl (ak.r rfl (ak.r rfl (ak.r rfl (ak.r rfl ak.nil))))))))),H85.sl [1,2,3,4] rfl rfl,h⟩
         ·
          replace h:=dH hb70 h
          refine aA.exit ?_
          refine aA.seq ?_
          refine aA.region E.obj rfl ?_
          refine ai.val rfl (aa rfl) rfl ?_
          obtain ⟨z94,hzz94,h⟩:=bind_some h
          refine ai.eB (ins:=[.box b12 [v30,w32],ay ae ah.kids 7 5 v30 ws31 z29.2.l none,aG w32 z29.2.freed]) (more:=[.map b42 (mD (D.int .i64) (D.int .i64) x53)]) (H67.sl [1,2,3,0] rfl rfl) rfl (aI rfl rfl) (jk E n _ _ hzz94 b12 v30 ws31 w32) (.cons (.refl _) .nil) rfl ?_
          rintro _ S95 _ ⟨rfl,rfl⟩ H96
          have H97:Has aM S95 [.map b42 (mD (D.int .i64) (D.int .i64) x53),.box b12 [v30,w32],ay ae ah.kids 7 5 v30 ws31 z29.2.l none,aG w32 z29.2.freed]:=H96.sl [3,0,1,2] rfl rfl
          refine ai.val rfl (aa rfl) rfl ?_
          refine ai.val rfl (bE rfl iZ) rfl ?_
          refine ai.val rfl (aB rfl rfl Fz) rfl ?_
          refine ai.val rfl (aB rfl rfl cO) rfl ?_
          refine ai.val rfl (aB rfl rfl bC) rfl ?_
          refine ai.val rfl (aa rfl) rfl ?_
          rcases Bool.eq_false_or_eq_true ((z94 == (IntKind.wrap .i64 (2 + (IntKind.wrap .i64 (2 * ((z4.2).length:Int))))))) with hB98 | hB98
          ·
           replace h:=dF hB98 h
           refine ai.bool hB98 ?_
           refine ai.val rfl (aa rfl) rfl ?_
           obtain ⟨z99,hzz99,h⟩:=bind_some h
           refine ai.eB (ins:=[.box b12 [v30,w32],ay ae ah.kids 7 5 v30 ws31 z29.2.l none,aG w32 z29.2.freed]) (more:=[.map b42 (mD (D.int .i64) (D.int .i64) x53)]) (H97.sl [1,2,3,0] rfl rfl) rfl (aI rfl rfl) (uA E n _ _ hzz99 b12 v30 ws31 w32) (.cons (.refl _) .nil) rfl ?_
           rintro _ S100 _ ⟨rfl,rfl⟩ H101
           have H102:Has aM S100 [.map b42 (mD (D.int .i64) (D.int .i64) x53),.box b12 [v30,w32],ay ae ah.kids 7 5 v30 ws31 z29.2.l none,aG w32 z29.2.freed]:=H101.sl [3,0,1,2] rfl rfl
           refine ai.val rfl (bE rfl iZ) rfl ?_
           refine ai.val rfl (aB rfl rfl bC) rfl ?_
           refine ai.val rfl (aF (b:=true) rfl rfl) rfl ?_
           refine ai.val rfl (aa rfl) rfl ?_
           obtain ⟨z104,hzz104,h⟩:=bind_some h
           refine ai.jr 2 139 (.d (.bool z104)) ?_ ?_
           ·
            rcases Bool.eq_false_or_eq_true ((((z99).length:Int) == 1)) with hB103 | hB103
            ·
             refine ai.bool hB103 ?_
             replace hzz104:=dF hB103 hzz104
             obtain ⟨z105,hzz105,hzz104⟩:=bind_some hzz104
             refine ai.ret rfl (aI rfl rfl) (mR E _  _ hzz105 _ _ .nil) rfl ?_
             refine ai.val rfl (aF (b:=true) rfl rfl) rfl ?_
             cases hzz104
             exact ai.nil ⟨_,rfl,(ak.put (ak.push rfl (ak.put (.refl _) (Less.eq (by rw [hB103])))) (.refl _))⟩
            ·
             refine ai.bool hB103 ?_
             refine ai.no rfl rfl ?_
             refine ai.val rfl (aF (b:=false) rfl rfl) rfl ?_
             replace hzz104:=dH hB103 hzz104
             cases hzz104
             exact ai.nil ⟨_,rfl,(ak.put (ak.push rfl (ak.put (.refl _) (Less.eq (by rw [hB103])))) (.refl _))⟩
           ·
            refine ai.val rfl (aj rfl) rfl ?_
            refine ai.nil ?_
            have hr:=Option.some.inj h
            subst hr
            exact aA.ret ⟨_,rfl,rfl,lM (bO.eq .nil)⟩
          ·
           replace h:=dH hB98 h
           refine ai.bool hB98 ?_
           refine ai.no rfl rfl ?_
           refine ai.no rfl rfl ?_
           refine ai.no rfl rfl ?_
           refine ai.no rfl rfl ?_
           refine ai.val rfl (aF (b:=false) rfl rfl) rfl ?_
           refine ai.val rfl (aa rfl) rfl ?_
           refine ai.no rfl rfl ?_
           refine ai.val rfl (aF (b:=false) rfl rfl) rfl ?_
           refine ai.val rfl (aj rfl) rfl ?_
           refine ai.nil ?_
           have hr:=Option.some.inj h
           subst hr
           exact aA.ret ⟨_,rfl,rfl,lM (bO.eq .nil)⟩
end
end Pr
end Go.Ev

namespace Go.Ev
namespace Pr
set_option linter.unusedVariables false
set_option linter.unusedSimpArgs false
theorem oJ {n:Int} (h0:-9223372036854775808 ≤ n) (h1:n ≤ 9223372036854775807):IntKind.wrap .i64 n=n:=Go.IntWalk.i64_in n ⟨h0,h1⟩
theorem lN {α:Type} (l:List α) (i:Nat):idx l (i:Int)=l[i]?:=by
 unfold idx
 rw [if_pos (by omega)]
 simp
theorem iH {α:Type} {l done rest:List α} {z:α} (h:l=done ++ z :: rest):idx l (done.length:Int)=some z:=by
 rw [lN,h]; simp
theorem jU {α:Type} {nb:Nat} {l ys:List α} (h:(l.length + ys.length) * nb ≤ bound):app nb l ys=some (l ++ ys):=by
 unfold app; rw [if_pos h]
theorem Gm {k:IntKind} {a b:Int} (h:b ≠ 0):EL k a b=some (a.tmod b):=by
 unfold EL; rw [if_neg h]
theorem bnd:bound=70368744177664:=rfl
end Pr
end Go.Ev

namespace Go.Ev
namespace Pr
set_option linter.unusedVariables false
set_option linter.unusedSimpArgs false
def nd (d:au) (i:Int):Option ah:=if 1 ≤ i then d.l[(i - 1).toNat]? else none
theorem bM {d:au} {i:Int} {z:ah} (h:nd d i=some z):1 ≤ i∧i ≤ d.l.length:=by
 unfold nd at h
 split at h
 ·
  have:=(List.getElem?_eq_some_iff.1 h).1
  omega
 ·
  cases h
theorem oM {d:au} {i:Int} (h1:1 ≤ i) (h2:i ≤ d.l.length):∃ z,nd d i=some z:=by
 unfold nd; rw [if_pos h1]
 exact ⟨_,List.getElem?_eq_getElem (by omega)⟩
def dM:Nat:=100000
theorem ig {d:au} (hl:d.l.length ≤ dM) {i:Int} {z:ah} (h:nd d i=some z):idx d.l (IntKind.wrap .i64 (i - 1))=some z:=by
 have hr:=bM h
 unfold dM at hl
 rw [oJ (by omega) (by omega)]
 unfold nd at h; rw [if_pos hr.1] at h
 unfold idx; rw [if_pos (by omega)]; exact h
def iO (d:au) (i:Int) (z:ah):au:={ d with l:=d.l.set (i - 1).toNat z }
theorem ng {d:au} (hl:d.l.length ≤ dM) {i:Int} {z0:ah} (h:nd d i=some z0) (z:ah):jw d.l (IntKind.wrap .i64 (i - 1)) z=(iO d i z).l:=by
 have hr:=bM h
 unfold dM at hl
 rw [oJ (by omega) (by omega)]; rfl
theorem ib {d:au} {i:Int} {z0:ah} (h:nd d i=some z0) (z:ah) (j:Int):nd (iO d i z) j=if j=i then some z else nd d j:=by
 have hr:=bM h
 unfold nd iO
 by_cases hj:1 ≤ j
 ·
  rw [if_pos hj,if_pos hj]
  by_cases hij:j=i
  ·
   subst hij; rw [if_pos rfl,List.getElem?_set_self (by omega)]
  ·
   rw [if_neg hij,List.getElem?_set_ne (by omega)]
 ·
  rw [if_neg hj,if_neg hj,if_neg (by omega)]
@[simp] theorem j6 (d:au) (i:Int) (z:ah):(iO d i z).l.length=d.l.length:=by simp [iO]
@[simp] theorem BO (d:au) (i:Int) (z:ah):(iO d i z).freed=d.freed:=rfl
def iU (d:au) (i:Int):Bool:=match nd d i with | some z=>z.lives | none=>false
theorem dW {d:au} {i:Int} (h:iU d i=true):∃ z,nd d i=some z∧z.lives=true:=by
 unfold iU at h
 split at h
 ·
  exact ⟨_,‹_›,h⟩
 ·
  cases h
theorem uW {d:au} (hl:d.l.length ≤ dM) (n:Nat) (i:Int):fF n d i=some (iU d i):=by
 unfold fF
 by_cases h:i < 1∨(d.l.length:Int) < i
 ·
  rw [if_pos (by simpa using h),Option.bind_some,if_pos rfl]
  have:nd d i=none:=by
   cases hn:nd d i with
   | none=>rfl
   | some z=>have:=bM hn; omega
  unfold iU; rw [this]
 ·
  obtain ⟨z,hz⟩:=oM (d:=d) (i:=i) (by omega) (by omega)
  rw [if_neg (by simpa using h),ig hl hz]
  simp only [Option.bind_some]
  unfold iU; rw [hz]
  cases hlv:z.lives <;> simp [hlv]
inductive Path (d:au):Int→List Int→Prop
 | top {i:Int} {z:ah} (h:nd d i=some z) (hl:z.lives=true) (hp:z.parent=0):Path d i [i]
 | up {i:Int} {z:ah} {l:List Int} (h:nd d i=some z) (hl:z.lives=true) (hp:z.parent ≠ 0) (k:Path d z.parent l):Path d i (i :: l)
structure WF (d:au):Prop where
 len:d.l.length ≤ 5000
 root:∃ z,nd d 1=some z∧z.lives=true∧z.parent=0∧z.tag ≠ []
 freedR:∀ i ∈ d.freed,1 < i∧i ≤ d.l.length
 freedN:d.freed.Nodup
 dead:∀ i z,nd d i=some z→(z.lives=false↔i ∈ d.freed)
 kidN:∀ i z,nd d i=some z→z.lives=true→z.kids.Nodup
 kid:∀ i z k,nd d i=some z→z.lives=true→k ∈ z.kids→∃ y,nd d k=some y∧y.lives=true∧y.parent=i
 par:∀ k y,nd d k=some y→y.lives=true→y.parent ≠ 0→∃ z,nd d y.parent=some z∧z.lives=true∧k ∈ z.kids∧z.tag ≠ []
 path:∀ i,iU d i=true→∃ l,Path d i l
 attrs:∀ i z,nd d i=some z→z.attrs.length ≤ 100000
theorem WF.dm {d:au} (h:WF d):d.l.length ≤ dM:=Nat.le_trans h.len (by decide)
theorem bV {d:au} {i:Int} {z:ah} (h:nd d i=some z):iU d i=z.lives:=by unfold iU; rw [h]
theorem Path.uniq {d:au} {i:Int} {l l':List Int} (h:Path d i l) (h':Path d i l'):l=l':=by
 induction h generalizing l' with
 | top h hl hp =>
  cases h' with
  | top=>rfl
  | up h2 _ hp2 _=>rw [h] at h2; cases h2; exact absurd hp hp2
 | up h hl hp k ih =>
  cases h' with
  | top h2 _ hp2=>rw [h] at h2; cases h2; exact absurd hp2 hp
  | up h2 _ _ k2=>rw [h] at h2; cases h2; rw [ih k2]
theorem Path.head {d:au} {i:Int} {l:List Int} (h:Path d i l):∃ t,l=i :: t:=by cases h <;> exact ⟨_,rfl⟩
theorem Path.mem {d:au} {i:Int} {l:List Int} (h:Path d i l):∀ j ∈ l,∃ l1 l2,l=l1 ++ l2∧Path d j l2∧∃ z,nd d j=some z∧z.lives=true:=by
 induction h with
 | top h hl hp =>
  intro j hj
  simp only [List.mem_singleton] at hj
  subst hj; exact ⟨[],_,rfl,.top h hl hp,_,h,hl⟩
 | up h hl hp k ih =>
  intro j hj
  rcases List.mem_cons.1 hj with rfl | hj
  ·
   exact ⟨[],_,rfl,.up h hl hp k,_,h,hl⟩
  ·
   obtain ⟨l1,l2,e,k2,r⟩:=ih j hj
   exact ⟨_ :: l1,l2,by rw [e]; rfl,k2,r⟩
theorem Path.nodup {d:au} {i:Int} {l:List Int} (h:Path d i l):l.Nodup:=by
 induction h with
 | top=>simp
 | up h hl hp k ih =>
  refine List.nodup_cons.2 ⟨fun hm=>?_,ih⟩
  obtain ⟨l1,l2,e,k2,_⟩:=k.mem _ hm
  have:=k2.uniq (.up h hl hp k)
  have:=congrArg List.length this
  rw [e] at this
  simp at this
  omega
theorem gG:∀ (n:Nat) (l:List Int),l.Nodup→(∀ x ∈ l,1 ≤ x∧x ≤ (n:Int))→l.length ≤ n
 | 0,l,hn,h=>by
  cases l with
  | nil=>simp
  | cons x l=>have:=h x List.mem_cons_self; omega
 | n + 1,l,hn,h=>by
  by_cases hm:((n + 1:Nat):Int) ∈ l
  ·
   have:=gG n (l.erase ((n + 1:Nat):Int)) (hn.erase _) (fun x hx=>by
    have h1:=(List.Nodup.mem_erase_iff hn).1 hx
    have h2:=h x h1.2
    have h3:=h1.1
    omega)
   rw [List.length_erase_of_mem hm] at this
   omega
  ·
   have:=gG n l hn (fun x hx=>by
    have h2:=h x hx
    have h3:x ≠ ((n + 1:Nat):Int):=fun q=>hm (q ▸ hx)
    omega)
   omega
theorem Path.length {d:au} {i:Int} {l:List Int} (h:Path d i l):l.length ≤ d.l.length:=by
 refine gG _ _ h.nodup (fun x hx=>?_)
 obtain ⟨_,_,_,_,z,hz,_⟩:=h.mem x hx
 exact bM hz
theorem BA {d:au} (hm:d.l.length ≤ dM) {top:Int} (ht:top ≠ 0):∀ {i:Int} {l:List Int},Path d i l→∀ f,l.length < f→di d top f i=some (decide (top ∈ l))
 | i,l,h,0,hf=>by omega
 | i,l,h,f + 1,hf=>by
  have hi:i ≠ 0:=by
   cases h with
   | top h=>have:=bM h; omega
   | up h=>have:=bM h; omega
  rw [di]
  by_cases he:i=top
  ·
   subst he
   rw [if_neg (by simp)]
   obtain ⟨t,rfl⟩:=h.head
   simp
  ·
   rw [if_pos (by simp [he,hi])]
   cases h with
   | top h hl hp =>
    rw [ig hm h,Option.bind_some,hp]
    cases f with
    | zero=>simp at hf
    | succ f =>
     rw [di,if_neg (by simp)]
     simp [he,Ne.symm he,Ne.symm ht]
   | up h hl hp k =>
    rw [ig hm h,Option.bind_some,BA hm ht k f (by simp at hf; omega)]
    simp [Ne.symm he]
end Pr
end Go.Ev

namespace Go.Ev
namespace Pr
set_option linter.unusedVariables false
set_option linter.unusedSimpArgs false
theorem WF.lp {d:au} (h:WF d) {i:Int} (hi:iU d i=true):∃ z l,nd d i=some z∧z.lives=true∧Path d i l∧l.length ≤ 5000:=by
 obtain ⟨z,hz,hl⟩:=dW hi
 obtain ⟨l,hp⟩:=h.path i hi
 exact ⟨z,l,hz,hl,hp,Nat.le_trans hp.length h.len⟩
def under (d:au) (top i:Int):Prop:=∃ l,Path d i l∧top ∈ l
theorem CJ {d:au} (h:WF d) {i:Int} {l:List Int} (hp:Path d i l) {top:Int} (ht:top ≠ 0) {n:Nat} (hn:5000 < n):iY n d i top=some (decide (top ∈ l)):=by
 unfold iY
 exact BA h.dm ht hp n (by have:=hp.length; have:=h.len; omega)
theorem HZ (d:au) (z:ah) (i:Int):nd { d with l:=d.l ++ [z] } i=if i=(d.l.length:Int) + 1 then some z else nd d i:=by
 unfold nd
 by_cases h1:1 ≤ i
 ·
  rw [if_pos h1,if_pos h1]
  by_cases h2:i=(d.l.length:Int) + 1
  ·
   subst h2
   rw [if_pos rfl,List.getElem?_append_right (by omega)]
   have:((d.l.length:Int) + 1 - 1).toNat - d.l.length=0:=by omega
   rw [this]; rfl
  ·
   rw [if_neg h2]
   by_cases h3:(i - 1).toNat < d.l.length
   ·
    rw [List.getElem?_append_left h3]
   ·
    rw [List.getElem?_eq_none (by simp; omega),List.getElem?_eq_none (by omega)]
 ·
  rw [if_neg h1,if_neg h1,if_neg (by omega)]
theorem Path.keep {d d':au} {i:Int} {l:List Int} (h:Path d i l) (hk:∀ j ∈ l,∀ z,nd d j=some z→∃ z',nd d' j=some z'∧z'.lives=z.lives∧z'.parent=z.parent):Path d' i l:=by
 induction h with
 | top h hl hp =>
  obtain ⟨z',h1,h2,h3⟩:=hk _ List.mem_cons_self _ h
  exact .top h1 (by rw [h2,hl]) (by rw [h3,hp])
 | up h hl hp k ih =>
  obtain ⟨z',h1,h2,h3⟩:=hk _ List.mem_cons_self _ h
  refine .up h1 (by rw [h2,hl]) (by rw [h3]; exact hp) ?_
  rw [h3]; exact ih (fun j hj=>hk j (List.mem_cons_of_mem _ hj))
structure New (d d':au) (id:Int) (z:ah):Prop where
 dead:iU d id=false
 notroot:id ≠ 1
 pos:1 ≤ id
 get:∀ j,nd d' j=if j=id then some z else nd d j
 len:d'.l.length ≤ d.l.length + 1
 ge:d.l.length ≤ d'.l.length
theorem New.wf {d d':au} {id:Int} {z:ah} (h:WF d) (k:New d d' id z) (hz:z.lives=true) (hk:z.kids=[]) (hp:z.parent=0) (ha:z.attrs.length ≤ 100000) (hlen:d'.l.length ≤ 5000) (hf:∀ i,i ∈ d'.freed↔(i ∈ d.freed∧i ≠ id)) (hfn:d'.freed.Nodup):WF d':=by
 have old:∀ i,iU d i=true→i ≠ id:=fun i hi q=>by rw [q,k.dead] at hi; cases hi
 refine ⟨hlen,?_,fun i hi=>?_,hfn,fun i y hy=>?_,fun i y hy hl=>?_,fun i y c hy hl hc=>?_,fun c y hy hl hyp=>?_,fun i hi=>?_,fun i y hy=>?_⟩
 ·
  obtain ⟨r,h1,h2,h3,h4⟩:=h.root
  exact ⟨r,by rw [k.get,if_neg (Ne.symm k.notroot)]; exact h1,h2,h3,h4⟩
 ·
  have:=h.freedR i ((hf i).1 hi).1
  have:=k.ge; omega
 ·
  rw [k.get] at hy
  by_cases hi:i=id
  ·
   rw [if_pos hi] at hy; cases hy
   rw [hf]; simp [hz,hi]
  ·
   rw [if_neg hi] at hy
   rw [h.dead i y hy,hf]; simp [hi]
 ·
  rw [k.get] at hy
  by_cases hi:i=id
  ·
   rw [if_pos hi] at hy; cases hy; rw [hk]; simp
  ·
   rw [if_neg hi] at hy; exact h.kidN i y hy hl
 ·
  rw [k.get] at hy
  by_cases hi:i=id
  ·
   rw [if_pos hi] at hy; cases hy; rw [hk] at hc; cases hc
  ·
   rw [if_neg hi] at hy
   obtain ⟨x,h1,h2,h3⟩:=h.kid i y c hy hl hc
   exact ⟨x,by rw [k.get,if_neg (old c (by rw [bV h1,h2]))]; exact h1,h2,h3⟩
 ·
  rw [k.get] at hy
  by_cases hi:c=id
  ·
   rw [if_pos hi] at hy; cases hy; exact absurd hp hyp
  ·
   rw [if_neg hi] at hy
   obtain ⟨x,h1,h2,h3⟩:=h.par c y hy hl hyp
   exact ⟨x,by rw [k.get,if_neg (old _ (by rw [bV h1,h2]))]; exact h1,h2,h3⟩
 ·
  by_cases hq:i=id
  ·
   subst hq
   exact ⟨[i],.top (by rw [k.get,if_pos rfl]) hz hp⟩
  ·
   have:iU d i=true:=by unfold iU at hi ⊢; rw [k.get,if_neg hq] at hi; exact hi
   obtain ⟨l,hl⟩:=h.path i this
   refine ⟨l,hl.keep (fun j hj y hy=>⟨y,?_,rfl,rfl⟩)⟩
   obtain ⟨_,_,_,_,x,h1,h2⟩:=hl.mem j hj
   rw [k.get,if_neg (old j (by rw [bV h1,h2]))]; exact hy
 ·
  rw [k.get] at hy
  by_cases hi:i=id
  ·
   rw [if_pos hi] at hy; cases hy; exact ha
  ·
   rw [if_neg hi] at hy; exact h.attrs i y hy
def nextId (d:au):Int:=match d.freed.getLast? with | some i=>i | none=>(d.l.length:Int) + 1
def oK (z:az):ah:=ah.mk true z.tag z.key z.text z.attrs [] z.parent
theorem FZ {d:au} (h:WF d) (hl:d.l.length < 5000) (n:Nat) (z:az) (hz:z.parent=0) (ha:z.attrs.length ≤ 100000):∃ d',jb n d z=some (nextId d,d')∧WF d'∧New d d' (nextId d) (oK z)∧d'.freed=d.freed.dropLast∧d'.l.length=(if d.freed=[] then d.l.length + 1 else d.l.length):=by
 unfold jb
 have hfl:d.freed.length ≤ d.l.length:=gG _ _ h.freedN (fun x hx=>⟨by have:=h.freedR x hx; omega,(h.freedR x hx).2⟩)
 have hw:IntKind.wrap .i64 ((d.freed.length:Int) - 1)=(d.freed.length:Int) - 1:=oJ (by omega) (by omega)
 rw [hw]
 by_cases h0:d.freed=[]
 ·
  rw [if_pos (by simp [h0])]
  have happ:∀ q:ah,app 112 d.l [q]=some (d.l ++ [q]):=fun q=>jU (by rw [bnd]; simp; omega)
  rw [happ,Option.bind_some]
  have hid:nextId d=(d.l.length:Int) + 1:=by unfold nextId; rw [h0]; rfl
  have hget:=HZ d (oK z)
  have hnew:New d { d with l:=d.l ++ [oK z] } (nextId d) (oK z):=by
   refine ⟨?_,by rw [hid]; obtain ⟨r,h1,_⟩:=h.root; have:=bM h1; omega,by rw [hid]; omega,fun j=>by rw [hget,hid],by simp,by simp⟩
   unfold iU
   cases hn:nd d (nextId d) with
   | none=>rfl
   | some y=>have:=bM hn; omega
  refine ⟨{ d with l:=d.l ++ [oK z] },?_,?_,hnew,by rw [h0]; rfl,by simp [h0]⟩
  ·
   rw [hid]
   simp only [Option.some.injEq,Prod.mk.injEq]
   refine ⟨by simp,rfl⟩
  ·
   refine hnew.wf h rfl rfl hz ha (by simp; omega) (fun i=>?_) h.freedN
   rw [h0]; simp
 ·
  have hpos:0 < d.freed.length:=by
   cases hq:d.freed with
   | nil=>exact absurd hq h0
   | cons a l=>simp
  rw [if_neg (by simp; omega)]
  have hlast:d.freed.getLast? = some (d.freed[d.freed.length - 1]):=by rw [List.getLast?_eq_getElem?]; exact List.getElem?_eq_getElem (by omega)
  have hidx:idx d.freed ((d.freed.length:Int) - 1)=some (nextId d):=by
   unfold idx; rw [if_pos (by omega)]
   unfold nextId; rw [hlast]
   rw [show ((d.freed.length:Int) - 1).toNat=d.freed.length - 1 by omega]
   exact List.getElem?_eq_getElem (by omega)
  have hcut:cut d.freed 0 ((d.freed.length:Int) - 1)=some d.freed.dropLast:=by
   unfold cut; rw [if_pos ⟨by omega,by omega,by omega⟩]
   rw [show ((d.freed.length:Int) - 1).toNat=d.freed.length - 1 by omega,List.dropLast_eq_take]; rfl
  rw [hidx,Option.bind_some,hcut,Option.bind_some]
  have hmem:nextId d ∈ d.freed:=by
   unfold nextId; rw [hlast]; exact List.getElem_mem _
  have hr:=h.freedR _ hmem
  obtain ⟨y,hy⟩:=oM (d:=d) (i:=nextId d) (by omega) hr.2
  have hdead:y.lives=false:=(h.dead _ y hy).2 hmem
  rw [ig h.dm hy,Option.bind_some]
  have hget:=ib hy (oK z)
  have hnew:New d { l:=(iO d (nextId d) (oK z)).l,freed:=d.freed.dropLast } (nextId d) (oK z) :=
   ⟨by rw [bV hy,hdead],by omega,by omega,fun j=>hget j,by simp,by simp⟩
  refine ⟨{ l:=(iO d (nextId d) (oK z)).l,freed:=d.freed.dropLast },?_,?_,hnew,rfl,by simp [h0]⟩
  ·
   rw [ng h.dm hy]; rfl
  ·
   have hsplit:d.freed=d.freed.dropLast ++ [nextId d]:=by
    have e:nextId d=d.freed.getLast h0:=by unfold nextId; rw [List.getLast?_eq_some_getLast h0]
    rw [e,List.dropLast_concat_getLast]
   have hfn:=h.freedN
   rw [hsplit,List.nodup_append] at hfn
   refine hnew.wf h rfl rfl hz ha (by simp; exact h.len) (fun i=>?_) hfn.1
   constructor
   ·
    intro hi
    exact ⟨by rw [hsplit]; exact List.mem_append_left _ hi,fun q=>hfn.2.2 i hi (nextId d) (by simp) q⟩
   ·
    rintro ⟨hi,hne⟩
    rw [hsplit] at hi
    rcases List.mem_append.1 hi with hi | hi
    ·
     exact hi
    ·
     exact absurd (List.mem_singleton.1 hi) hne
end Pr
end Go.Ev

namespace Go.Ev
namespace Pr
set_option linter.unusedVariables false
set_option linter.unusedSimpArgs false
theorem xA (l:List Int) (c:Int):∀ (rest done:List Int) (f:Nat),l=done ++ rest→rest.length < f→l.length < 1000000→bH l c f (done.length:Int)=some (if c ∈ rest then ((done.length + rest.idxOf c:Nat):Int) else -1)
 | [],done,f + 1,h,hf,hl=>by
  rw [bH,if_neg (by subst h; simp)]
  simp
 | z :: rest,done,f + 1,h,hf,hl=>by
  have hd:done.length < l.length:=by subst h; simp
  rw [bH,if_pos (by rw [decide_eq_true_eq]; omega),iH h,Option.bind_some]
  by_cases hq:c=z
  ·
   subst hq
   rw [if_pos (by simp)]
   simp [List.idxOf_cons_self]
  ·
   rw [if_neg (by simpa using hq),oJ (by omega) (by omega)]
   have:=xA l c rest (done ++ [z]) f (by rw [h]; simp) (by simpa using hf) hl
   simp only [List.length_append,List.length_singleton,Int.natCast_add] at this
   rw [show ((done.length:Int) + 1)=(done.length:Int) + ((1:Nat):Int) by omega,this]
   by_cases hm:c ∈ rest
   ·
    rw [if_pos hm,if_pos (List.mem_cons_of_mem _ hm),List.idxOf_cons]
    have hb:(z == c)=false:=by simpa using Ne.symm hq
    rw [hb]
    simp; omega
   ·
    rw [if_neg hm,if_neg (by simp [hq,hm])]
theorem Fa {l:List Int} {c:Int} (h:c ∈ l) {n:Nat} (hn:l.length < n) (hl:l.length < 1000000):eX n l c=some (l.idxOf c:Int):=by
 unfold eX
 have:=xA l c l [] n rfl hn hl
 rw [if_pos h] at this
 simpa using this
theorem Dv {l:List Int} {c:Int} (h:c ∈ l) (hl:l.length < 1000000) (n:Nat):dY n l (l.idxOf c:Int) (IntKind.wrap .i64 ((l.idxOf c:Int) + 1))=some (l.erase c):=by
 have hi:l.idxOf c < l.length:=List.idxOf_lt_length_of_mem h
 rw [oJ (by omega) (by omega)]
 unfold dY En
 rw [if_pos ⟨by omega,by omega,by omega⟩,Option.bind_some,if_neg (by simp; omega)]
 rw [List.erase_eq_eraseIdx_of_idxOf rfl,List.eraseIdx_eq_take_drop_succ]
 rw [Int.toNat_natCast,show ((l.idxOf c:Int) + 1).toNat=l.idxOf c + 1 by omega]
def bZ (d:au) (c:Int):au:=match nd d c with
 | some z=>if z.parent=0 then d else match nd d z.parent with
  | some y=>iO (iO d z.parent { y with kids:=y.kids.erase c }) c { z with parent:=0 }
  | none=>d
 | none=>d
theorem qd {d:au} (h:WF d) {i:Int} {z:ah} (hz:nd d i=some z) (hl:z.lives=true):z.kids.length ≤ 5000:=by
 refine Nat.le_trans (gG d.l.length _ (h.kidN i z hz hl) (fun k hk=>?_)) h.len
 obtain ⟨y,h1,_⟩:=h.kid i z k hz hl hk
 exact bM h1
theorem uK {d:au} (h:WF d) {c:Int} {z:ah} (hz:nd d c=some z) (hl:z.lives=true):z.parent ≠ c:=fun q=>by
 obtain ⟨l,hp⟩:=h.path c (by rw [bV hz,hl])
 have hc:=bM hz
 cases hp with
 | top h2 _ hp2=>rw [hz] at h2; cases h2; omega
 | up h2 hl2 hp2 k =>
  rw [hz] at h2; cases h2
  rw [q] at k
  have:=k.uniq (.up hz hl2 hp2 (by rw [q]; exact k))
  have:=congrArg List.length this
  simp at this
theorem oD {d:au} {c:Int} {z y:ah} (hz:nd d c=some z) (hp:z.parent ≠ 0) (hy:nd d z.parent=some y) (hne:z.parent ≠ c) (j:Int) :
  nd (bZ d c) j=if j=c then some { z with parent:=0 } else if j=z.parent then some { y with kids:=y.kids.erase c } else nd d j:=by
 unfold bZ
 rw [hz]
 simp only
 rw [if_neg hp,hy]
 simp only
 have h1:=ib hy { y with kids:=y.kids.erase c } c
 rw [if_neg (Ne.symm hne)] at h1
 rw [ib (h1.trans hz),ib hy]
theorem jI {d:au} {c:Int} {z:ah} (hz:nd d c=some z) (hp:z.parent=0):bZ d c=d:=by
 unfold bZ; rw [hz]; simp only; rw [if_pos hp]
@[simp] theorem sj (d:au) (c:Int):(bZ d c).l.length=d.l.length:=by
 unfold bZ; split
 ·
  split
  ·
   rfl
  ·
   split <;> simp
 ·
  rfl
@[simp] theorem o6 (d:au) (c:Int):(bZ d c).freed=d.freed:=by
 unfold bZ; split
 ·
  split
  ·
   rfl
  ·
   split <;> simp
 ·
  rfl
theorem BI {d:au} (h:WF d) {c:Int} (hc:iU d c=true) {n:Nat} (hn:6000 ≤ n):iT n d c=some (bZ d c):=by
 obtain ⟨z,hz,hl⟩:=dW hc
 unfold iT
 rw [ig h.dm hz,Option.bind_some]
 by_cases hp:z.parent=0
 ·
  rw [if_pos (by simpa using hp),jI hz hp]
 ·
  rw [if_neg (by simpa using hp)]
  obtain ⟨y,hy,hyl,hm,_⟩:=h.par c z hz hl hp
  have hk:=qd h hy hyl
  have hne:=uK h hz hl
  rw [ig h.dm hy]
  simp only [Option.bind_some]
  rw [Fa hm (by omega) (by omega),Option.bind_some,Dv hm (by omega),Option.bind_some]
  rw [ng h.dm hy]
  have h1:=ib hy { y with kids:=y.kids.erase c } c
  rw [if_neg (Ne.symm hne)] at h1
  have hd:(iO d z.parent { y with kids:=y.kids.erase c }).l.length ≤ dM:=by rw [j6]; exact h.dm
  have e1:ah.mk y.lives y.tag y.key y.text y.attrs (y.kids.erase c) y.parent = { y with kids:=y.kids.erase c }:=rfl
  rw [e1,ig hd (h1.trans hz),Option.bind_some,ng hd (h1.trans hz)]
  unfold bZ
  rw [hz]
  simp only
  rw [if_neg hp,hy]
  rfl
theorem uH {d:au} (h:WF d) {c:Int} (hc:iU d c=true):WF (bZ d c):=by
 obtain ⟨z,hz,hl⟩:=dW hc
 by_cases hp:z.parent=0
 ·
  rw [jI hz hp]; exact h
 obtain ⟨y,hy,hyl,hm,ht⟩:=h.par c z hz hl hp
 have hne:=uK h hz hl
 have hget:=oD hz hp hy hne
 have low:∀ i z',nd (bZ d c) i=some z'→∃ z0,nd d i=some z0∧z'.lives=z0.lives∧z'.attrs=z0.attrs∧z'.tag=z0.tag∧(i=c∧z'.parent=0∨i ≠ c∧z'.parent=z0.parent)∧(i=z.parent∧z'.kids=z0.kids.erase c∨i ≠ z.parent∧z'.kids=z0.kids):=fun i z' hi=>by
  rw [hget] at hi
  by_cases h1:i=c
  ·
   subst h1; rw [if_pos rfl] at hi; cases hi
   exact ⟨z,hz,rfl,rfl,rfl,.inl ⟨rfl,rfl⟩,.inr ⟨Ne.symm hne,rfl⟩⟩
  ·
   rw [if_neg h1] at hi
   by_cases h2:i=z.parent
   ·
    subst h2; rw [if_pos rfl] at hi; cases hi
    exact ⟨y,hy,rfl,rfl,rfl,.inr ⟨h1,rfl⟩,.inl ⟨rfl,rfl⟩⟩
   ·
    rw [if_neg h2] at hi
    exact ⟨z',hi,rfl,rfl,rfl,.inr ⟨h1,rfl⟩,.inr ⟨h2,rfl⟩⟩
 have up:∀ i z0,nd d i=some z0→∃ z',nd (bZ d c) i=some z':=fun i z0 hi=>by
  have:=bM hi
  exact oM this.1 (by rw [sj]; exact this.2)
 have lvs:∀ i,iU (bZ d c) i=true→iU d i=true:=fun i hi=>by
  obtain ⟨z',h1,h2⟩:=dW hi
  obtain ⟨z0,q1,q2,_⟩:=low i z' h1
  rw [bV q1,← q2,h2]
 refine ⟨by rw [sj]; exact h.len,?_,fun i hi=>?_,by rw [o6]; exact h.freedN,fun i z' hi=>?_,fun i z' hi hl'=>?_,fun i z' k hi hl' hk=>?_,fun k y' hk hl' hp'=>?_,fun i hi=>?_,fun i z' hi=>?_⟩
 ·
  obtain ⟨r,r1,r2,r3,r4⟩:=h.root
  obtain ⟨r',hr'⟩:=up 1 r r1
  obtain ⟨z0,q1,q2,q3,q4,q5,q6⟩:=low 1 r' hr'
  rw [r1] at q1; cases q1
  refine ⟨r',hr',by rw [q2,r2],?_,by rw [q4]; exact r4⟩
  rcases q5 with ⟨_,q⟩ | ⟨_,q⟩
  ·
   exact q
  ·
   rw [q,r3]
 ·
  rw [o6] at hi; rw [sj]; exact h.freedR i hi
 ·
  obtain ⟨z0,q1,q2,_⟩:=low i z' hi
  rw [q2,o6]; exact h.dead i z0 q1
 ·
  obtain ⟨z0,q1,q2,q3,q4,q5,q6⟩:=low i z' hi
  have:=h.kidN i z0 q1 (by rw [← q2,hl'])
  rcases q6 with ⟨_,q⟩ | ⟨_,q⟩
  ·
   rw [q]; exact this.erase _
  ·
   rw [q]; exact this
 ·
  obtain ⟨z0,q1,q2,q3,q4,q5,q6⟩:=low i z' hi
  have hkm:k ∈ z0.kids:=by
   rcases q6 with ⟨_,q⟩ | ⟨_,q⟩
   ·
    rw [q] at hk; exact List.mem_of_mem_erase hk
   ·
    rw [q] at hk; exact hk
  obtain ⟨x,x1,x2,x3⟩:=h.kid i z0 k q1 (by rw [← q2,hl']) hkm
  have hkc:k ≠ c:=fun q=>by
   subst q
   rw [hz] at x1; cases x1
   rcases q6 with ⟨e,q⟩ | ⟨e,q⟩
   ·
    rw [q] at hk
    have:=h.kidN i z0 q1 (by rw [← q2,hl'])
    exact ((List.Nodup.mem_erase_iff this).1 hk).1 rfl
   ·
    exact e x3.symm
  obtain ⟨x',hx'⟩:=up k x x1
  obtain ⟨x0,p1,p2,p3,p4,p5,p6⟩:=low k x' hx'
  rw [x1] at p1; cases p1
  rcases p5 with ⟨e,_⟩ | ⟨_,e⟩
  ·
   exact absurd e hkc
  ·
   exact ⟨x',hx',by rw [p2,x2],by rw [e,x3]⟩
 ·
  obtain ⟨z0,q1,q2,q3,q4,q5,q6⟩:=low k y' hk
  rcases q5 with ⟨_,q⟩ | ⟨hkc,q⟩
  ·
   exact absurd q hp'
  ·
   obtain ⟨x,x1,x2,x3,x4⟩:=h.par k z0 q1 (by rw [← q2,hl']) (by rw [← q]; exact hp')
   rw [q]
   obtain ⟨x',hx'⟩:=up _ x x1
   obtain ⟨x0,p1,p2,p3,p4,p5,p6⟩:=low _ x' hx'
   rw [x1] at p1; cases p1
   refine ⟨x',hx',by rw [p2,x2],?_,by rw [p4]; exact x4⟩
   rcases p6 with ⟨_,e⟩ | ⟨_,e⟩
   ·
    rw [e]; exact (List.mem_erase_of_ne hkc).2 x3
   ·
    rw [e]; exact x3
 ·
  obtain ⟨l,hpath⟩:=h.path i (lvs i hi)
  clear hi
  induction hpath with
  | top g gl gp =>
   obtain ⟨g',hg'⟩:=up _ _ g
   obtain ⟨z0,q1,q2,q3,q4,q5,q6⟩:=low _ g' hg'
   rw [g] at q1; cases q1
   refine ⟨[_],.top hg' (by rw [q2,gl]) ?_⟩
   rcases q5 with ⟨_,q⟩ | ⟨_,q⟩
   ·
    exact q
   ·
    rw [q,gp]
  | up g gl gp k ih =>
   obtain ⟨g',hg'⟩:=up _ _ g
   obtain ⟨z0,q1,q2,q3,q4,q5,q6⟩:=low _ g' hg'
   rw [g] at q1; cases q1
   rcases q5 with ⟨_,q⟩ | ⟨_,q⟩
   ·
    exact ⟨[_],.top hg' (by rw [q2,gl]) q⟩
   ·
    obtain ⟨l',hl'⟩:=ih
    exact ⟨_ :: l',.up hg' (by rw [q2,gl]) (by rw [q]; exact gp) (by rw [q]; exact hl')⟩
 ·
  obtain ⟨z0,q1,q2,q3,_⟩:=low i z' hi
  rw [q3]; exact h.attrs i z0 q1
end Pr
end Go.Ev

namespace Go.Ev
namespace Pr
set_option linter.unusedVariables false
set_option linter.unusedSimpArgs false
def uu (a:Int) (n:Nat):Nat:=(max 0 (min a (n:Int))).toNat
def mU (l:List Int) (a c:Int):List Int:=l.take (uu a l.length) ++ c :: l.drop (uu a l.length)
theorem xu {l:List Int} {a c x:Int}:x ∈ mU l a c↔x=c∨x ∈ l:=by
 unfold mU
 have e:=List.take_append_drop (uu a l.length) l
 constructor
 ·
  intro h
  rcases List.mem_append.1 h with h | h
  ·
   exact .inr (List.mem_of_mem_take h)
  ·
   rcases List.mem_cons.1 h with h | h
   ·
    exact .inl h
   ·
    exact .inr (List.mem_of_mem_drop h)
 ·
  rintro (rfl | h)
  ·
   simp
  ·
   rw [← e] at h
   rcases List.mem_append.1 h with h | h
   ·
    exact List.mem_append_left _ h
   ·
    exact List.mem_append_right _ (List.mem_cons_of_mem _ h)
theorem DV (l:List Int) (a c:Int):(mU l a c).Perm (c :: l):=by
 unfold mU
 refine List.perm_middle.trans ?_
 rw [List.take_append_drop]
theorem Ch {l:List Int} {a c:Int} (h:l.Nodup) (hc:c ∉ l):(mU l a c).Nodup:=(DV l a c).nodup_iff.2 (List.nodup_cons.2 ⟨hc,h⟩)
theorem Ib {l:List Int} {a c:Int} (h:l.length ≤ 100000):EF l (sN 0 (uq a (l.length:Int))) c=some (mU l a c):=by
 have e:sN 0 (uq a (l.length:Int))=max 0 (min a (l.length:Int)):=by
  unfold sN uq; split <;> split <;> omega
 rw [e]
 unfold EF
 rw [if_pos ⟨by omega,by omega,by omega⟩]
 rfl
def Ig (d:au):Nat→Int→List Int
 | 0,_=>[]
 | f + 1,i=>match nd d i with
  | some z=>if z.lives=true then (if z.parent=0 then [i] else i :: Ig d f z.parent) else []
  | none=>[]
def pathOf (d:au) (i:Int):List Int:=Ig d d.l.length i
theorem Path.Ig {d:au} {i:Int} {l:List Int} (h:Path d i l):∀ f,l.length ≤ f→Ig d f i=l:=by
 induction h with
 | top h hl hp =>
  intro f hf
  cases f with
  | zero=>simp at hf
  | succ f=>simp only [Pr.Ig,h,hl,hp,if_true]
 | up h hl hp k ih =>
  intro f hf
  cases f with
  | zero=>simp at hf
  | succ f=>simp only [Pr.Ig,h,hl,if_true,if_neg hp]; rw [ih f (by simpa using hf)]
theorem Path.of {d:au} {i:Int} {l:List Int} (h:Path d i l):pathOf d i=l:=h.Ig _ h.length
def qG (d:au) (i:Int):Str:=match nd d i with | some z=>z.tag | none=>[]
def jV (d:au) (p c:Int):Bool:=iU d p && iU d c && !(qG d p == []) && !(c == 1) && !(decide (c ∈ pathOf d p))
def gX (d:au) (p c a:Int):au:=match nd d p,nd d c with
 | some y,some z=>iO (iO d p { y with kids:=mU y.kids a c }) c { z with parent:=p }
 | _,_=>d
theorem Bz {d:au} {p c a:Int} {y z:ah} (hy:nd d p=some y) (hz:nd d c=some z) (hne:c ≠ p) (j:Int) :
  nd (gX d p c a) j=if j=c then some { z with parent:=p } else if j=p then some { y with kids:=mU y.kids a c } else nd d j:=by
 unfold gX
 rw [hy,hz]
 simp only
 have h1:=ib hy { y with kids:=mU y.kids a c } c
 rw [if_neg hne] at h1
 rw [ib (h1.trans hz),ib hy]
@[simp] theorem uE (d:au) (p c a:Int):(gX d p c a).l.length=d.l.length:=by unfold gX; split <;> simp
@[simp] theorem qh (d:au) (p c a:Int):(gX d p c a).freed=d.freed:=by unfold gX; split <;> simp
theorem Ey {d:au} (h:WF d) {p c a:Int} {y z:ah} (hy:nd d p=some y) (hyl:y.lives=true) (ht:y.tag ≠ []) (hz:nd d c=some z) (hzl:z.lives=true) (hzp:z.parent=0) (hc1:c ≠ 1) {l:List Int} (hp:Path d p l) (hcl:c ∉ l):WF (gX d p c a):=by
 have hne:c ≠ p:=fun q=>by obtain ⟨t,rfl⟩:=hp.head; exact hcl (by rw [q]; exact List.mem_cons_self)
 have hget:=Bz (a:=a) hy hz hne
 have hpr:=bM hy
 have low:∀ i z',nd (gX d p c a) i=some z'→∃ z0,nd d i=some z0∧z'.lives=z0.lives∧z'.attrs=z0.attrs∧z'.tag=z0.tag∧(i=c∧z'.parent=p∨i ≠ c∧z'.parent=z0.parent)∧(i=p∧z'.kids=mU z0.kids a c∨i ≠ p∧z'.kids=z0.kids):=fun i z' hi=>by
  rw [hget] at hi
  by_cases h1:i=c
  ·
   subst h1; rw [if_pos rfl] at hi; cases hi
   exact ⟨z,hz,rfl,rfl,rfl,.inl ⟨rfl,rfl⟩,.inr ⟨hne,rfl⟩⟩
  ·
   rw [if_neg h1] at hi
   by_cases h2:i=p
   ·
    subst h2; rw [if_pos rfl] at hi; cases hi
    exact ⟨y,hy,rfl,rfl,rfl,.inr ⟨h1,rfl⟩,.inl ⟨rfl,rfl⟩⟩
   ·
    rw [if_neg h2] at hi
    exact ⟨z',hi,rfl,rfl,rfl,.inr ⟨h1,rfl⟩,.inr ⟨h2,rfl⟩⟩
 have up:∀ i z0,nd d i=some z0→∃ z',nd (gX d p c a) i=some z':=fun i z0 hi=>by
  have:=bM hi
  exact oM this.1 (by rw [uE]; exact this.2)
 have lvs:∀ i,iU (gX d p c a) i=true→iU d i=true:=fun i hi=>by
  obtain ⟨z',h1,h2⟩:=dW hi
  obtain ⟨z0,q1,q2,_⟩:=low i z' h1
  rw [bV q1,← q2,h2]
 have hcy:c ∉ y.kids:=fun q=>by
  obtain ⟨x,x1,x2,x3⟩:=h.kid p y c hy hyl q
  rw [hz] at x1; cases x1
  omega
 have hpath:∃ l',Path (gX d p c a) p l':=⟨l,hp.keep (fun j hj x hx=>by
  obtain ⟨x',hx'⟩:=up j x hx
  obtain ⟨x0,q1,q2,q3,q4,q5,q6⟩:=low j x' hx'
  rw [hx] at q1; cases q1
  rcases q5 with ⟨e,_⟩ | ⟨_,e⟩
  ·
   exact absurd (e ▸ hj) hcl
  ·
   exact ⟨x',hx',q2,e⟩)⟩
 refine ⟨by rw [uE]; exact h.len,?_,fun i hi=>?_,by rw [qh]; exact h.freedN,fun i z' hi=>?_,fun i z' hi hl'=>?_,fun i z' k hi hl' hk=>?_,fun k y' hk hl' hp'=>?_,fun i hi=>?_,fun i z' hi=>?_⟩
 ·
  obtain ⟨r,r1,r2,r3,r4⟩:=h.root
  obtain ⟨r',hr'⟩:=up 1 r r1
  obtain ⟨z0,q1,q2,q3,q4,q5,q6⟩:=low 1 r' hr'
  rw [r1] at q1; cases q1
  refine ⟨r',hr',by rw [q2,r2],?_,by rw [q4]; exact r4⟩
  rcases q5 with ⟨q,_⟩ | ⟨_,q⟩
  ·
   exact absurd q.symm hc1
  ·
   rw [q,r3]
 ·
  rw [qh] at hi; rw [uE]; exact h.freedR i hi
 ·
  obtain ⟨z0,q1,q2,_⟩:=low i z' hi
  rw [q2,qh]; exact h.dead i z0 q1
 ·
  obtain ⟨z0,q1,q2,q3,q4,q5,q6⟩:=low i z' hi
  have:=h.kidN i z0 q1 (by rw [← q2,hl'])
  rcases q6 with ⟨e,q⟩ | ⟨_,q⟩
  ·
   subst e; rw [hy] at q1; cases q1
   rw [q]; exact Ch this hcy
  ·
   rw [q]; exact this
 ·
  obtain ⟨z0,q1,q2,q3,q4,q5,q6⟩:=low i z' hi
  by_cases hkc:k=c
  ·
   subst hkc
   obtain ⟨x',hx'⟩:=up k z hz
   obtain ⟨x0,p1,p2,p3,p4,p5,p6⟩:=low k x' hx'
   rw [hz] at p1; cases p1
   refine ⟨x',hx',by rw [p2,hzl],?_⟩
   have hxp:x'.parent=p:=by
    rcases p5 with ⟨_,e⟩ | ⟨e,_⟩
    ·
     exact e
    ·
     exact absurd rfl e
   rw [hxp]
   rcases q6 with ⟨e,_⟩ | ⟨_,q⟩
   ·
    exact e.symm
   ·
    rw [q] at hk
    obtain ⟨w,w1,w2,w3⟩:=h.kid i z0 k q1 (by rw [← q2,hl']) hk
    rw [hz] at w1; cases w1
    have:=bM q1
    omega
  ·
   have hkm:k ∈ z0.kids:=by
    rcases q6 with ⟨_,q⟩ | ⟨_,q⟩
    ·
     rw [q] at hk; exact (xu.1 hk).resolve_left hkc
    ·
     rw [q] at hk; exact hk
   obtain ⟨x,x1,x2,x3⟩:=h.kid i z0 k q1 (by rw [← q2,hl']) hkm
   obtain ⟨x',hx'⟩:=up k x x1
   obtain ⟨x0,p1,p2,p3,p4,p5,p6⟩:=low k x' hx'
   rw [x1] at p1; cases p1
   rcases p5 with ⟨e,_⟩ | ⟨_,e⟩
   ·
    exact absurd e hkc
   ·
    exact ⟨x',hx',by rw [p2,x2],by rw [e,x3]⟩
 ·
  obtain ⟨z0,q1,q2,q3,q4,q5,q6⟩:=low k y' hk
  rcases q5 with ⟨e,q⟩ | ⟨hkc,q⟩
  ·
   obtain ⟨x',hx'⟩:=up p y hy
   obtain ⟨x0,p1,p2,p3,p4,p5,p6⟩:=low p x' hx'
   rw [hy] at p1; cases p1
   rw [q]
   refine ⟨x',hx',by rw [p2,hyl],?_,by rw [p4]; exact ht⟩
   rcases p6 with ⟨_,e2⟩ | ⟨e2,_⟩
   ·
    rw [e2,e]; exact xu.2 (.inl rfl)
   ·
    exact absurd rfl e2
  ·
   obtain ⟨x,x1,x2,x3,x4⟩:=h.par k z0 q1 (by rw [← q2,hl']) (by rw [← q]; exact hp')
   rw [q]
   obtain ⟨x',hx'⟩:=up _ x x1
   obtain ⟨x0,p1,p2,p3,p4,p5,p6⟩:=low _ x' hx'
   rw [x1] at p1; cases p1
   refine ⟨x',hx',by rw [p2,x2],?_,by rw [p4]; exact x4⟩
   rcases p6 with ⟨_,e⟩ | ⟨_,e⟩
   ·
    rw [e]; exact xu.2 (.inr x3)
   ·
    rw [e]; exact x3
 ·
  obtain ⟨l,hpath'⟩:=h.path i (lvs i hi)
  clear hi
  induction hpath' with
  | top g gl gp =>
   obtain ⟨g',hg'⟩:=up _ _ g
   obtain ⟨z0,q1,q2,q3,q4,q5,q6⟩:=low _ g' hg'
   rw [g] at q1; cases q1
   rcases q5 with ⟨_,q⟩ | ⟨_,q⟩
   ·
    obtain ⟨l',hl'⟩:=hpath
    exact ⟨_ :: l',.up hg' (by rw [q2,gl]) (by rw [q]; omega) (by rw [q]; exact hl')⟩
   ·
    exact ⟨[_],.top hg' (by rw [q2,gl]) (by rw [q,gp])⟩
  | up g gl gp k ih =>
   obtain ⟨g',hg'⟩:=up _ _ g
   obtain ⟨z0,q1,q2,q3,q4,q5,q6⟩:=low _ g' hg'
   rw [g] at q1; cases q1
   rcases q5 with ⟨_,q⟩ | ⟨_,q⟩
   ·
    obtain ⟨l',hl'⟩:=hpath
    exact ⟨_ :: l',.up hg' (by rw [q2,gl]) (by rw [q]; omega) (by rw [q]; exact hl')⟩
   ·
    obtain ⟨l',hl'⟩:=ih
    exact ⟨_ :: l',.up hg' (by rw [q2,gl]) (by rw [q]; exact gp) (by rw [q]; exact hl')⟩
 ·
  obtain ⟨z0,q1,q2,q3,_⟩:=low i z' hi
  rw [q3]; exact h.attrs i z0 q1
theorem vI {d:au} (h:WF d) {c:Int} (hc:iU d c=true) {i:Int} {l:List Int} (hp:Path d i l) (hcl:c ∉ l):Path (bZ d c) i l:=by
 obtain ⟨z,hz,hl⟩:=dW hc
 by_cases hp0:z.parent=0
 ·
  rw [jI hz hp0]; exact hp
 obtain ⟨y,hy,hyl,hm,ht⟩:=h.par c z hz hl hp0
 have hget:=oD hz hp0 hy (uK h hz hl)
 refine hp.keep (fun j hj x hx=>?_)
 rw [hget,if_neg (fun (q:j=c)=>hcl (by rw [← q]; exact hj))]
 by_cases h2:j=z.parent
 ·
  rw [if_pos h2]
  subst h2
  rw [hy] at hx; cases hx
  exact ⟨_,rfl,rfl,rfl⟩
 ·
  rw [if_neg h2]; exact ⟨x,hx,rfl,rfl⟩
theorem qF {d:au} (h:WF d) {c:Int} (hc:iU d c=true):∃ z,nd (bZ d c) c=some z∧z.lives=true∧z.parent=0:=by
 obtain ⟨z,hz,hl⟩:=dW hc
 by_cases hp0:z.parent=0
 ·
  rw [jI hz hp0]; exact ⟨z,hz,hl,hp0⟩
 obtain ⟨y,hy,hyl,hm,ht⟩:=h.par c z hz hl hp0
 have hget:=oD hz hp0 hy (uK h hz hl)
 exact ⟨{ z with parent:=0 },by rw [hget,if_pos rfl],hl,rfl⟩
theorem oN {d:au} (h:WF d) {c:Int} (hc:iU d c=true) {i:Int} {z:ah} (hz:nd d i=some z) (hzl:z.lives=true):nd (bZ d c) i=some { z with kids:=z.kids.erase c,parent:=if i=c then 0 else z.parent }:=by
 obtain ⟨zc,hzc,hl⟩:=dW hc
 have hno:i ≠ zc.parent→z.kids.erase c=z.kids:=fun hne=>List.erase_of_not_mem (fun hm=>by
  obtain ⟨x,x1,x2,x3⟩:=h.kid i z c hz hzl hm
  rw [hzc] at x1; cases x1
  exact hne x3.symm)
 by_cases hp0:zc.parent=0
 ·
  rw [jI hzc hp0,hno (by have:=bM hz; omega),hz]
  by_cases hi:i=c
  ·
   subst hi; rw [hzc] at hz; cases hz; rw [if_pos rfl,← hp0]
  ·
   rw [if_neg hi]
 obtain ⟨y,hy,hyl,hm,ht⟩:=h.par c zc hzc hl hp0
 have hne:=uK h hzc hl
 rw [oD hzc hp0 hy hne]
 by_cases hi:i=c
 ·
  subst hi; rw [hzc] at hz; cases hz
  rw [if_pos rfl,if_pos rfl,hno (Ne.symm hne)]
 ·
  rw [if_neg hi,if_neg hi]
  by_cases h2:i=zc.parent
  ·
   subst h2; rw [hy] at hz; cases hz; rw [if_pos rfl]
  ·
   rw [if_neg h2,hno h2,hz]
theorem D6 {d:au} {p c a:Int} {y z:ah} (hy:nd d p=some y) (hz:nd d c=some z) (hne:c ≠ p) {i:Int} {x:ah} (hx:nd d i=some x):nd (gX d p c a) i=some { x with kids:=if i=p then mU x.kids a c else x.kids,parent:=if i=c then p else x.parent }:=by
 rw [Bz hy hz hne]
 by_cases hi:i=c
 ·
  subst hi; rw [hz] at hx; cases hx
  rw [if_pos rfl,if_pos rfl,if_neg hne]
 ·
  rw [if_neg hi,if_neg hi]
  by_cases h2:i=p
  ·
   subst h2; rw [hy] at hx; cases hx; rw [if_pos rfl,if_pos rfl]
  ·
   rw [if_neg h2,if_neg h2,hx]
theorem uJ {d:au} (h:WF d) {n:Nat} (hn:6000 ≤ n) (p c a:Int):eF n d p c a=some (if jV d p c=true then (true,gX (bZ d c) p c a) else (false,d)):=by
 unfold eF
 rw [uW h.dm,uW h.dm]
 simp only [Option.bind_some]
 by_cases hp:iU d p=true
 rotate_left 1
 ·
  rw [if_neg hp]
  have:jV d p c=false:=by unfold jV; simp [hp]
  rw [this]; simp
 by_cases hc:iU d c=true
 rotate_left 1
 ·
  rw [if_pos hp,if_neg hc]
  have:jV d p c=false:=by unfold jV; simp [hc]
  obtain ⟨y,hy,_⟩:=dW hp
  rw [this,ig h.dm hy]; simp
 rw [if_pos hp,if_pos hc]
 obtain ⟨y,l,hy,hyl,hpath,_⟩:=h.lp hp
 obtain ⟨z,hz,hzl⟩:=dW hc
 have hcr:=bM hz
 rw [ig h.dm hy,ig h.dm hz]
 simp only [Option.bind_some]
 have htag:qG d p=y.tag:=by unfold qG; rw [hy]
 by_cases hg:y.tag=[]∨c=1
 ·
  rw [if_pos (by simpa using hg)]
  have:jV d p c=false:=by unfold jV; rw [htag]; rcases hg with q | q <;> simp [q]
  rw [this]; simp
 rw [if_neg (by simpa using hg),CJ h hpath (by omega) (by omega),Option.bind_some]
 by_cases hin:c ∈ l
 ·
  rw [if_pos (by simpa using hin)]
  have:jV d p c=false:=by unfold jV; rw [hpath.of]; simp [hin]
  rw [this]; simp
 rw [if_neg (by simpa using hin),BI h hc hn,Option.bind_some]
 have hok:jV d p c=true:=by
  unfold jV; rw [htag,hpath.of]
  simp only [not_or] at hg
  simp [hp,hc,hin,hg.1,hg.2]
 rw [hok,if_pos rfl]
 have hW:=uH h hc
 have hP:=vI h hc hpath hin
 obtain ⟨y1,hy1,hyl1⟩:∃ y1,nd (bZ d c) p=some y1∧y1.lives=true:=by
  obtain ⟨_,_,_,_,x,x1,x2⟩:=hP.mem p (by obtain ⟨t,rfl⟩:=hP.head; exact List.mem_cons_self)
  exact ⟨x,x1,x2⟩
 obtain ⟨z1,hz1,hzl1,hzp1⟩:=qF h hc
 have hne:c ≠ p:=fun q=>by obtain ⟨t,rfl⟩:=hpath.head; exact hin (by rw [q]; exact List.mem_cons_self)
 have hk:=qd hW hy1 hyl1
 rw [ig hW.dm hy1,Option.bind_some,Ib (by omega),Option.bind_some,ng hW.dm hy1]
 have e1:ah.mk y1.lives y1.tag y1.key y1.text y1.attrs (mU y1.kids a c) y1.parent = { y1 with kids:=mU y1.kids a c }:=rfl
 rw [e1]
 have h1:=ib hy1 { y1 with kids:=mU y1.kids a c } c
 rw [if_neg hne] at h1
 have hd:(iO (bZ d c) p { y1 with kids:=mU y1.kids a c }).l.length ≤ dM:=by rw [j6]; exact hW.dm
 rw [ig hd (h1.trans hz1),Option.bind_some,ng hd (h1.trans hz1)]
 unfold gX
 rw [hy1,hz1]
 rfl
theorem Cs {d:au} (h:WF d) {p c:Int} (a:Int) (hok:jV d p c=true):WF (gX (bZ d c) p c a)∧(∀ i z,nd d i=some z→z.lives=true →
  nd (gX (bZ d c) p c a) i=some { z with kids:=if i=p then mU (z.kids.erase c) a c else z.kids.erase c,parent:=if i=c then p else z.parent }):=by
 unfold jV at hok
 simp only [Bool.and_eq_true,Bool.not_eq_true',beq_eq_false_iff_ne,decide_eq_false_iff_not] at hok
 obtain ⟨⟨⟨⟨hp,hc⟩,ht⟩,hc1⟩,hin⟩:=hok
 obtain ⟨y,l,hy,hyl,hpath,_⟩:=h.lp hp
 rw [hpath.of] at hin
 have htag:qG d p=y.tag:=by unfold qG; rw [hy]
 rw [htag] at ht
 have hW:=uH h hc
 have hP:=vI h hc hpath hin
 have hy1:=oN h hc hy hyl
 obtain ⟨z1,hz1,hzl1,hzp1⟩:=qF h hc
 have hne:c ≠ p:=fun q=>by obtain ⟨t,rfl⟩:=hpath.head; exact hin (by rw [q]; exact List.mem_cons_self)
 refine ⟨Ey hW hy1 hyl ht hz1 hzl1 hzp1 hc1 hP hin,fun i z hz hzl=>?_⟩
 rw [D6 hy1 hz1 hne (oN h hc hz hzl)]
 by_cases hi:i=c
 ·
  subst hi; simp
 ·
  simp [hi]
theorem Dw {d:au} (h:WF d) {n:Nat} (hn:6000 ≤ n) (c:Int):∃ b,ja n d c=some (b,if b=true then bZ d c else d)∧(b=true↔∃ z,nd d c=some z∧z.lives=true∧z.parent ≠ 0):=by
 unfold ja
 rw [uW h.dm,Option.bind_some]
 by_cases hc:iU d c=true
 ·
  obtain ⟨z,hz,hl⟩:=dW hc
  rw [if_pos hc,ig h.dm hz,Option.bind_some]
  by_cases hp:z.parent=0
  ·
   rw [if_pos (by simpa using hp)]
   exact ⟨false,rfl,by simp only [Bool.false_eq_true,false_iff]; rintro ⟨x,x1,x2,x3⟩; rw [hz] at x1; cases x1; exact x3 hp⟩
  ·
   rw [if_neg (by simpa using hp),BI h hc hn,Option.bind_some]
   exact ⟨true,rfl,by simp only [true_iff]; exact ⟨z,hz,hl,hp⟩⟩
 ·
  rw [if_neg hc]
  exact ⟨false,rfl,by simp only [Bool.false_eq_true,false_iff]; rintro ⟨x,x1,x2,x3⟩; exact hc (by rw [bV x1,x2])⟩
theorem zb {d:au} (h:WF d) (n:Nat) (i:Int):fV n d i=some (match nd d i with | some z=>if z.lives=true then z.kids else [] | none=>[]):=by
 unfold fV
 rw [uW h.dm,Option.bind_some]
 unfold iU
 cases hz:nd d i with
 | none=>rfl
 | some z =>
  simp only
  by_cases hl:z.lives=true
  ·
   have:=qd h hz hl
   rw [if_pos hl,if_pos hl,ig h.dm hz,Option.bind_some]
   unfold gm
   rw [jU (by rw [bnd]; simp; omega)]; rfl
  ·
   rw [if_neg hl,if_neg hl]
theorem w9 {d:au} (h:WF d) (n:Nat):fH n d=some ((d.l.length:Int) - d.freed.length):=by
 have hfl:d.freed.length ≤ d.l.length:=gG _ _ h.freedN (fun x hx=>⟨by have:=h.freedR x hx; omega,(h.freedR x hx).2⟩)
 have:=h.len
 unfold fH
 rw [oJ (by omega) (by omega)]
end Pr
end Go.Ev

namespace Go.Ev
namespace Pr
set_option linter.unusedVariables false
set_option linter.unusedSimpArgs false
def l6:ah:=ah.mk true [114,111,111,116] [] [] [] [] 0
def vT:au:=au.mk [l6] []
theorem Hw (n:Nat):qU n=some (some vT):=by
 unfold qU fT jb
 rfl
theorem y8 (i:Int):nd vT i=if i=1 then some l6 else none:=by
 unfold nd vT
 by_cases h:1 ≤ i
 ·
  rw [if_pos h]
  by_cases h1:i=1
  ·
   subst h1; rfl
  ·
   rw [if_neg h1,List.getElem?_eq_none (by simp; omega)]
 ·
  rw [if_neg h,if_neg (by omega)]
theorem Ga:WF vT:=by
 have one:∀ i z,nd vT i=some z→i=1∧z=l6:=fun i z h=>by
  rw [y8] at h
  split at h
  ·
   exact ⟨‹_›,(Option.some.inj h).symm⟩
  ·
   cases h
 refine ⟨by decide,⟨l6,rfl,rfl,rfl,by simp [l6]⟩,fun i hi=>by simp [vT] at hi,by simp [vT],fun i z h=>?_,fun i z h _=>?_,fun i z k h _ hk=>?_,fun k y h _ hp=>?_,fun i h=>?_,fun i z h=>?_⟩
 ·
  obtain ⟨rfl,rfl⟩:=one i z h; simp [vT,l6]
 ·
  obtain ⟨rfl,rfl⟩:=one i z h; simp [l6]
 ·
  obtain ⟨rfl,rfl⟩:=one i z h; simp [l6] at hk
 ·
  obtain ⟨rfl,rfl⟩:=one k y h; simp [l6] at hp
 ·
  obtain ⟨z,hz,hl⟩:=dW h
  obtain ⟨rfl,rfl⟩:=one i z hz
  exact ⟨[1],.top hz rfl rfl⟩
 ·
  obtain ⟨rfl,rfl⟩:=one i z h; simp [l6]
theorem CU {d:au} (h:WF d) (hl:d.l.length < 5000) (n:Nat) {tag key:Str} (ht:tag ≠ []):∃ d',fT n d tag key=some (nextId d,d')∧WF d'∧New d d' (nextId d) (ah.mk true tag key [] [] [] 0)∧d'.freed=d.freed.dropLast∧d'.l.length=(if d.freed=[] then d.l.length + 1 else d.l.length):=by
 obtain ⟨d',h1,h2⟩:=FZ h hl n (az.mk false tag key [] [] 0) rfl (by simp)
 refine ⟨d',?_,h2⟩
 unfold fT
 rw [if_neg (by simpa using ht),h1]; rfl
theorem Gs {d:au} (h:WF d) (hl:d.l.length < 5000) (n:Nat) (s:Str):∃ d',jm n d s=some (nextId d,d')∧WF d'∧New d d' (nextId d) (ah.mk true [] [] s [] [] 0)∧d'.freed=d.freed.dropLast∧d'.l.length=(if d.freed=[] then d.l.length + 1 else d.l.length):=by
 obtain ⟨d',h1,h2⟩:=FZ h hl n (az.mk false [] [] s [] 0) rfl (by simp)
 refine ⟨d',?_,h2⟩
 unfold jm
 rw [h1]; rfl
def qB (d:au) (i:Int):Bool:=match nd d i with | some z=>(z.lives && (z.parent == 0)) && (i != 1) | none=>false
def nums (n:Nat):List Int:=(List.range n).map fun (i:Nat)=>(i:Int) + 1
theorem FK {n:Nat} {i:Int}:i ∈ nums n↔1 ≤ i∧i ≤ n:=by
 unfold nums
 rw [List.mem_map]
 constructor
 ·
  rintro ⟨a,h1,rfl⟩; have:=List.mem_range.1 h1; omega
 ·
  rintro ⟨h1,h2⟩; exact ⟨(i - 1).toNat,List.mem_range.2 (by omega),by omega⟩
theorem Ep (n:Nat):nums (n + 1)=nums n ++ [(n:Int) + 1]:=by unfold nums; rw [List.range_succ,List.map_append]; rfl
def oQ (d:au):List Int:=(nums d.l.length).filter (qB d)
theorem wQ {d:au} (hl:d.l.length ≤ 5000):∀ (m j:Nat) (f:Nat),j + m=d.l.length→m < f→bW d f ((nums j).filter (qB d)) (j:Int)=some (oQ d)
 | 0,j,f + 1,hj,hf=>by
  rw [bW,if_neg (by rw [decide_eq_true_eq]; omega)]
  unfold oQ; rw [show d.l.length=j by omega]
 | m + 1,j,f + 1,hj,hf=>by
  have hlt:j < d.l.length:=by omega
  rw [bW,if_pos (by rw [decide_eq_true_eq]; omega)]
  have hz:d.l[j]? = some d.l[j]:=List.getElem?_eq_getElem hlt
  have hn:nd d ((j:Int) + 1)=some d.l[j]:=by
   unfold nd; rw [if_pos (by omega),show ((j:Int) + 1 - 1).toNat=j by omega]; exact hz
  rw [lN,hz,Option.bind_some,oJ (by omega) (by omega)]
  have hb:qB d ((j:Int) + 1)=((d.l[j].lives && (d.l[j].parent == 0)) && ((j:Int) + 1 != 1)):=by unfold qB; rw [hn]
  rw [← hb]
  have hlen:((nums j).filter (qB d)).length ≤ 5000:=Nat.le_trans (List.length_filter_le _ _) (by unfold nums; simp; omega)
  have ih:=wQ hl m (j + 1) f (by omega) (by omega)
  rw [Ep,List.filter_append] at ih
  have ecast:(((j + 1:Nat)):Int)=(j:Int) + 1:=by omega
  rw [ecast] at ih
  by_cases hq:qB d ((j:Int) + 1)=true
  ·
   rw [if_pos hq,jU (by rw [bnd]; simp only [List.length_singleton]; omega),Option.bind_some]
   unfold fu
   rw [oJ (by omega) (by omega),← ih]
   simp [hq]
  ·
   rw [if_neg hq]
   unfold fu
   rw [oJ (by omega) (by omega),← ih]
   simp [hq]
theorem Fx {d:au} (h:WF d) {n:Nat} (hn:5001 ≤ n):jD n d=some (oQ d):=by
 unfold jD
 have:=wQ h.len d.l.length 0 n (by omega) (by have:=h.len; omega)
 simpa [nums] using this
theorem BV {d:au} {i:Int}:i ∈ oQ d↔∃ z,nd d i=some z∧z.lives=true∧z.parent=0∧i ≠ 1:=by
 unfold oQ
 rw [List.mem_filter,FK]
 constructor
 ·
  rintro ⟨h1,h2⟩
  unfold qB at h2
  split at h2
  ·
   rename_i z hz
   simp only [Bool.and_eq_true,beq_iff_eq,bne_iff_ne] at h2
   exact ⟨z,hz,h2.1.1,h2.1.2,h2.2⟩
  ·
   cases h2
 ·
  rintro ⟨z,h1,h2,h3,h4⟩
  refine ⟨bM h1,?_⟩
  unfold qB; rw [h1]
  simp [h2,h3,h4]
end Pr
end Go.Ev

namespace Go.Ev
namespace Pr
set_option linter.unusedVariables false
set_option linter.unusedSimpArgs false
theorem Eg (n:Nat) (a lo hi:Int) (h1:lo ≤ hi) (h2:-1000000000000 ≤ lo) (h3:hi ≤ 1000000000000000):∃ r,gH n a lo hi=some r∧lo ≤ r∧r ≤ hi:=by
 unfold gH
 rw [oJ (n:=hi - lo) (by omega) (by omega),oJ (by omega) (by omega),Gm (by omega),Option.bind_some]
 have k1:=Int.tmod_lt_of_pos a (show 0 < hi - lo + 1 by omega)
 have k2:=Int.lt_tmod_of_pos a (show 0 < hi - lo + 1 by omega)
 unfold dS
 by_cases hz:a.tmod (hi - lo + 1) < 0
 ·
  rw [if_pos (by simpa using hz)]
  rw [oJ (n:=a.tmod (hi - lo + 1) + hi) (by omega) (by omega),oJ (n:=a.tmod (hi - lo + 1) + hi - lo) (by omega) (by omega),oJ (n:=a.tmod (hi - lo + 1) + hi - lo + 1) (by omega) (by omega),oJ (by omega) (by omega)]
  exact ⟨_,rfl,by omega,by omega⟩
 ·
  rw [if_neg (by simpa using hz),oJ (by omega) (by omega)]
  exact ⟨_,rfl,by omega,by omega⟩
end Pr
end Go.Ev

namespace Go.Ev
namespace Pr
set_option linter.unusedVariables false
set_option linter.unusedSimpArgs false
mutual
inductive TA (d:au):Int→Tree→List Int→Prop
 | mk {i:Int} {z:ah} {ts:List Tree} {F:List Int} (h:nd d i=some z) (hl:z.lives=true) (k:iy d z.kids ts F):TA d i (Tree.mk z.tag z.key z.text z.attrs ts) (i :: F)
inductive iy (d:au):List Int→List Tree→List Int→Prop
 | nil:iy d [] [] []
 | cons {i:Int} {is:List Int} {t:Tree} {ts:List Tree} {F G:List Int} (h:TA d i t F) (k:iy d is ts G):iy d (i :: is) (t :: ts) (F ++ G)
end
mutual
def iK:Tree→Nat
 | .mk _ _ _ _ ks=>1 + fQ ks
def fQ:List Tree→Nat
 | []=>0
 | t :: l=>iK t + fQ l
end
mutual
theorem TA.len {d:au}:∀ {i:Int} {t:Tree} {F:List Int},TA d i t F→F.length=iK t
 | _,_,_,.mk h hl k=>by simp only [List.length_cons,iK,k.len]; omega
theorem iy.len {d:au}:∀ {is:List Int} {ts:List Tree} {F:List Int},iy d is ts F→F.length=fQ ts
 | _,_,_,.nil=>rfl
 | _,_,_,.cons h k=>by simp only [List.length_append,fQ,h.len,k.len]
end
mutual
theorem TA.keep {d d':au}:∀ {i:Int} {t:Tree} {F:List Int},TA d i t F→(∀ j ∈ F,∀ z,nd d j=some z→∃ z',nd d' j=some z'∧z'.lives=z.lives∧z'.tag=z.tag∧z'.key=z.key∧z'.text=z.text∧z'.attrs=z.attrs∧z'.kids=z.kids)→TA d' i t F
 | _,_,_,.mk h hl k,hk=>by
  obtain ⟨z',q1,q2,q3,q4,q5,q6,q7⟩:=hk _ List.mem_cons_self _ h
  rw [← q3,← q4,← q5,← q6]
  refine .mk q1 (by rw [q2,hl]) ?_
  rw [q7]
  exact k.keep (fun j hj=>hk j (List.mem_cons_of_mem _ hj))
theorem iy.keep {d d':au}:∀ {is:List Int} {ts:List Tree} {F:List Int},iy d is ts F→(∀ j ∈ F,∀ z,nd d j=some z→∃ z',nd d' j=some z'∧z'.lives=z.lives∧z'.tag=z.tag∧z'.key=z.key∧z'.text=z.text∧z'.attrs=z.attrs∧z'.kids=z.kids)→iy d' is ts F
 | _,_,_,.nil,hk=>.nil
 | _,_,_,.cons h k,hk=>.cons (h.keep (fun j hj=>hk j (List.mem_append_left _ hj))) (k.keep (fun j hj=>hk j (List.mem_append_right _ hj)))
end
theorem TA.q9 {d d':au} {i:Int} {t:Tree} {F:List Int} (h:TA d i t F) (hk:∀ j ∈ F,nd d' j=nd d j):TA d' i t F :=
 h.keep (fun j hj z hz=>⟨z,by rw [hk j hj]; exact hz,rfl,rfl,rfl,rfl,rfl,rfl⟩)
theorem iy.q9 {d d':au} {is:List Int} {ts:List Tree} {F:List Int} (h:iy d is ts F) (hk:∀ j ∈ F,nd d' j=nd d j):iy d' is ts F :=
 h.keep (fun j hj z hz=>⟨z,by rw [hk j hj]; exact hz,rfl,rfl,rfl,rfl,rfl,rfl⟩)
theorem TA.head {d:au} {i:Int} {t:Tree} {F:List Int} (h:TA d i t F):∃ G,F=i :: G:=by cases h; exact ⟨_,rfl⟩
mutual
theorem TA.live {d:au}:∀ {i:Int} {t:Tree} {F:List Int},TA d i t F→∀ j ∈ F,∃ z,nd d j=some z∧z.lives=true∧∀ k ∈ z.kids,k ∈ F
 | _,_,_,.mk h hl k,j,hj=>by
  rcases List.mem_cons.1 hj with rfl | hj
  ·
   exact ⟨_,h,hl,fun q hq=>List.mem_cons_of_mem _ (k.heads q hq)⟩
  ·
   obtain ⟨z,q1,q2,q3⟩:=k.live j hj
   exact ⟨z,q1,q2,fun q hq=>List.mem_cons_of_mem _ (q3 q hq)⟩
theorem iy.live {d:au}:∀ {is:List Int} {ts:List Tree} {F:List Int},iy d is ts F→∀ j ∈ F,∃ z,nd d j=some z∧z.lives=true∧∀ k ∈ z.kids,k ∈ F
 | _,_,_,.nil,j,hj=>by cases hj
 | _,_,_,.cons h k,j,hj=>by
  rcases List.mem_append.1 hj with hj | hj
  ·
   obtain ⟨z,q1,q2,q3⟩:=h.live j hj
   exact ⟨z,q1,q2,fun q hq=>List.mem_append_left _ (q3 q hq)⟩
  ·
   obtain ⟨z,q1,q2,q3⟩:=k.live j hj
   exact ⟨z,q1,q2,fun q hq=>List.mem_append_right _ (q3 q hq)⟩
theorem iy.heads {d:au}:∀ {is:List Int} {ts:List Tree} {F:List Int},iy d is ts F→∀ j ∈ is,j ∈ F
 | _,_,_,.nil,j,hj=>by cases hj
 | _,_,_,.cons h k,j,hj=>by
  rcases List.mem_cons.1 hj with rfl | hj
  ·
   obtain ⟨G,rfl⟩:=h.head; simp
  ·
   exact List.mem_append_right _ (k.heads j hj)
end
mutual
theorem TA.uniq {d:au}:∀ {i:Int} {t t':Tree} {F F':List Int},TA d i t F→TA d i t' F'→t=t'∧F=F'
 | _,_,_,_,_,.mk h hl k,.mk h' hl' k'=>by
  rw [h] at h'; cases h'
  obtain ⟨e1,e2⟩:=k.uniq k'
  rw [e1,e2]; exact ⟨rfl,rfl⟩
theorem iy.uniq {d:au}:∀ {is:List Int} {t t':List Tree} {F F':List Int},iy d is t F→iy d is t' F'→t=t'∧F=F'
 | _,_,_,_,_,.nil,.nil=>⟨rfl,rfl⟩
 | _,_,_,_,_,.cons h k,.cons h' k'=>by
  obtain ⟨e1,e2⟩:=h.uniq h'
  obtain ⟨e3,e4⟩:=k.uniq k'
  rw [e1,e2,e3,e4]; exact ⟨rfl,rfl⟩
end
theorem iy.lens {d:au}:∀ {is:List Int} {ts:List Tree} {F:List Int},iy d is ts F→is.length=ts.length
 | _,_,_,.nil=>rfl
 | _,_,_,.cons h k=>by simp [k.lens]
theorem iy.app {d:au}:∀ {is is2:List Int} {ts ts2:List Tree} {F F2:List Int},iy d is ts F→iy d is2 ts2 F2→iy d (is ++ is2) (ts ++ ts2) (F ++ F2)
 | _,_,_,_,_,_,.nil,h=>h
 | _,_,_,_,_,_,.cons a b,h=>by
  have:=iy.cons a (b.app h)
  simpa [List.append_assoc] using this
theorem iy.one {d:au} {i:Int} {t:Tree} {F:List Int} (h:TA d i t F):iy d [i] [t] F:=by
 have:=iy.cons h (.nil (d:=d))
 simpa using this
mutual
theorem TA.path {d:au} (hW:WF d):∀ {i:Int} {t:Tree} {F:List Int} {l:List Int},TA d i t F→Path d i l→∀ j ∈ F,∃ l1,Path d j (l1 ++ l)
 | i,_,_,l,.mk h hl k,hp,j,hj=>by
  rcases List.mem_cons.1 hj with rfl | hj
  ·
   exact ⟨[],hp⟩
  ·
   obtain ⟨l1,q⟩:=k.path hW hp (fun c hc=>hW.kid i _ c h hl hc) (bM h).1 j hj
   exact ⟨l1,q⟩
theorem iy.path {d:au} (hW:WF d):∀ {is:List Int} {ts:List Tree} {F:List Int} {l:List Int} {p:Int},iy d is ts F→Path d p l→(∀ c ∈ is,∃ y,nd d c=some y∧y.lives=true∧y.parent=p)→1 ≤ p→∀ j ∈ F,∃ l1,Path d j (l1 ++ l)
 | _,_,_,l,p,.nil,hp,hc,h1,j,hj=>by cases hj
 | _,_,_,l,p,.cons h k,hp,hc,h1,j,hj=>by
  rcases List.mem_append.1 hj with hj | hj
  ·
   obtain ⟨y,y1,y2,y3⟩:=hc _ List.mem_cons_self
   have hp2:Path d _ (_ :: l):=.up y1 y2 (by omega) (by rw [y3]; exact hp)
   obtain ⟨l1,q⟩:=h.path hW hp2 j hj
   exact ⟨l1 ++ [_],by simpa using q⟩
  ·
   exact k.path hW hp (fun c hcc=>hc c (List.mem_cons_of_mem _ hcc)) h1 j hj
end
theorem DL {d:au} {j:Int} {l1 l2 l:List Int} (h1:Path d j (l1 ++ l)) (h2:Path d j (l2 ++ l)):l1=l2:=List.append_cancel_right (h1.uniq h2)
mutual
theorem TA.nodup {d:au} (hW:WF d):∀ {i:Int} {t:Tree} {F:List Int} {l:List Int},TA d i t F→Path d i l→F.Nodup
 | i,_,_,l,.mk h hl k,hp=>by
  refine List.nodup_cons.2 ⟨fun hm=>?_,k.nodup hW hp (fun c hc=>hW.kid i _ c h hl hc) (bM h).1 (hW.kidN i _ h hl)⟩
  obtain ⟨l1,q⟩:=k.FW hW hp (fun c hc=>hW.kid i _ c h hl hc) (bM h).1 i hm
  obtain ⟨c,hc⟩:=q
  have:=hc.uniq hp
  have:=congrArg List.length this
  simp at this
  omega
theorem iy.nodup {d:au} (hW:WF d):∀ {is:List Int} {ts:List Tree} {F:List Int} {l:List Int} {p:Int},iy d is ts F→Path d p l→(∀ c ∈ is,∃ y,nd d c=some y∧y.lives=true∧y.parent=p)→1 ≤ p→is.Nodup→F.Nodup
 | _,_,_,l,p,.nil,hp,hc,h1,hn=>List.nodup_nil
 | _,_,_,l,p,.cons (i:=i) (is:=is) h k,hp,hc,h1,hn=>by
  obtain ⟨y,y1,y2,y3⟩:=hc _ List.mem_cons_self
  have hp2:Path d i (i :: l):=.up y1 y2 (by omega) (by rw [y3]; exact hp)
  have hn':=List.nodup_cons.1 hn
  refine List.nodup_append.2 ⟨h.nodup hW hp2,k.nodup hW hp (fun c hcc=>hc c (List.mem_cons_of_mem _ hcc)) h1 hn'.2,fun a ha b hb hab=>?_⟩
  subst hab
  obtain ⟨l1,q1⟩:=h.path hW hp2 a ha
  obtain ⟨l2,c,hc2,q2⟩:=k.Aj hW hp (fun c hcc=>hc c (List.mem_cons_of_mem _ hcc)) h1 a hb
  have e:l1 ++ [i]=l2 ++ [c]:=DL (l:=l) (by simpa using q1) (by simpa using q2)
  have:=List.append_inj_right' e rfl
  simp at this
  subst this
  exact hn'.1 hc2
theorem iy.FW {d:au} (hW:WF d) {is:List Int} {ts:List Tree} {F:List Int} {l:List Int} {p:Int} (h:iy d is ts F) (hp:Path d p l) (hc:∀ c ∈ is,∃ y,nd d c=some y∧y.lives=true∧y.parent=p) (h1:1 ≤ p):∀ j ∈ F,∃ l1:List Int,∃ c,Path d j (l1 ++ c :: l):=fun j hj=>by
 obtain ⟨l1,c,_,q⟩:=h.Aj hW hp hc h1 j hj
 exact ⟨l1,c,q⟩
theorem iy.Aj {d:au} (hW:WF d):∀ {is:List Int} {ts:List Tree} {F:List Int} {l:List Int} {p:Int},iy d is ts F→Path d p l→(∀ c ∈ is,∃ y,nd d c=some y∧y.lives=true∧y.parent=p)→1 ≤ p→∀ j ∈ F,∃ l1:List Int,∃ c,c ∈ is∧Path d j (l1 ++ c :: l)
 | _,_,_,l,p,.nil,hp,hc,h1,j,hj=>by cases hj
 | _,_,_,l,p,.cons (i:=i) h k,hp,hc,h1,j,hj=>by
  rcases List.mem_append.1 hj with hj | hj
  ·
   obtain ⟨y,y1,y2,y3⟩:=hc _ List.mem_cons_self
   have hp2:Path d i (i :: l):=.up y1 y2 (by omega) (by rw [y3]; exact hp)
   obtain ⟨l1,q⟩:=h.path hW hp2 j hj
   exact ⟨l1,i,List.mem_cons_self,q⟩
  ·
   obtain ⟨l1,c,c1,q⟩:=k.Aj hW hp (fun c hcc=>hc c (List.mem_cons_of_mem _ hcc)) h1 j hj
   exact ⟨l1,c,List.mem_cons_of_mem _ c1,q⟩
end
end Pr
end Go.Ev

namespace Go.Ev
namespace Pr
set_option linter.unusedVariables false
set_option linter.unusedSimpArgs false
theorem AZ (t:Tree):1 ≤ iK t:=by cases t; simp only [iK]; omega
theorem nU:∀ (l:List Tree),l.length ≤ fQ l
 | []=>by simp
 | t :: l=>by have:=nU l; have:=AZ t; simp only [List.length_cons,fQ]; omega
theorem yN {n:Nat} {d:au} (ih:∀ {i:Int} {t:Tree} {F:List Int},TA d i t F→iK t < n→eD n d i=some t) {z:ah} (at_:List Attr) (hk:z.kids.length ≤ 5000):∀ {is:List Int} {ts:List Tree} {F:List Int} (done:List Int) (dts:List Tree) (f:Nat),iy d is ts F→z.kids=done ++ is→dts.length=done.length→fQ ts < n→is.length < f →
  dJ (eD n) d z at_ f dts (done.length:Int)=some (Tree.mk z.tag z.key z.text at_ (dts ++ ts))
 | _,_,_,done,dts,f + 1,.nil,h,hd,hn,hf=>by
  rw [dJ,if_neg (by rw [h]; simp)]
  simp
 | _,_,_,done,dts,f + 1,.cons (i:=i) (is:=is) (t:=t) (ts:=ts) a b,h,hd,hn,hf=>by
  have hl:z.kids.length=done.length + 1 + is.length:=by rw [h]; simp; omega
  simp only [fQ] at hn
  rw [dJ,if_pos (by rw [decide_eq_true_eq]; omega),iH h,Option.bind_some,ih a (by omega),Option.bind_some,jU (by rw [bnd]; simp; omega),Option.bind_some,oJ (by omega) (by omega)]
  have:=yN ih at_ hk (done ++ [i]) (dts ++ [t]) f b (by rw [h]; simp) (by simp [hd]) (by omega) (by simpa using hf)
  simpa using this
theorem Dl {d:au} (hW:WF d):∀ (n:Nat) {i:Int} {t:Tree} {F:List Int},TA d i t F→iK t < n→eD n d i=some t
 | 0,_,_,_,_,h=>by omega
 | n + 1,i,_,_,.mk (z:=z) (ts:=ts) h hl k,hn=>by
  simp only [iK] at hn
  have hat:=hW.attrs _ _ h
  have hkl:=qd hW h hl
  have htl:=nU ts
  have hkt:=k.lens
  rw [eD,ig hW.dm h,Option.bind_some]
  unfold bS
  rw [jU (by rw [bnd]; simp; omega),Option.bind_some,List.nil_append]
  have:=yN (Dl hW n) z.attrs hkl [] [] n k rfl rfl (by omega) (by omega)
  simpa using this
theorem zK {d:au} (hW:WF d) {n:Nat} {i:Int} {t:Tree} {F:List Int} (h:TA d i t F) (hn:iK t < n):iE n d i=some (t,true):=by
 unfold iE
 have ht:=Dl hW n h hn
 cases h with
 | mk h hl k =>
  rw [uW hW.dm,Option.bind_some,bV h,if_pos hl,ig hW.dm h,Option.bind_some,ht]; rfl
def uS:ah:=ah.mk false [] [] [] [] [] 0
def qj (l:List ah):List Int→List ah
 | []=>l
 | i :: F=>qj (l.set (i - 1).toNat uS) F
def bX (d:au) (F:List Int):au:=au.mk (qj d.l F) (d.freed ++ F)
theorem yx:∀ (F G:List Int) (l:List ah),qj l (F ++ G)=qj (qj l F) G
 | [],G,l=>rfl
 | i :: F,G,l=>by simp only [List.cons_append,qj,yx F G]
theorem uQ (d:au) (F G:List Int):bX (bX d F) G=bX d (F ++ G):=by
 unfold bX; simp [yx]
theorem lW:∀ (F:List Int) (l:List ah),(qj l F).length=l.length
 | [],l=>rfl
 | i :: F,l=>by simp [qj,lW F]
@[simp] theorem nu (d:au) (F:List Int):(bX d F).l.length=d.l.length:=lW F d.l
theorem mh:∀ (F:List Int) (d:au),(∀ i ∈ F,1 ≤ i∧i ≤ d.l.length)→∀ j,nd (bX d F) j=if j ∈ F then some uS else nd d j
 | [],d,h,j=>by simp only [List.not_mem_nil,if_false]; unfold nd bX qj; rfl
 | i :: F,d,h,j=>by
  have hi:=h i List.mem_cons_self
  obtain ⟨z0,hz0⟩:=oM hi.1 hi.2
  have e:bX d (i :: F)=au.mk (qj (iO d i uS).l F) (d.freed ++ i :: F):=rfl
  have h2:=mh F (iO d i uS) (fun k hk=>by rw [j6]; exact h k (List.mem_cons_of_mem _ hk)) j
  have e2:nd (bX d (i :: F)) j=nd (bX (iO d i uS) F) j:=by rw [e]; unfold nd bX; rfl
  rw [e2,h2,ib hz0]
  by_cases hj:j ∈ F
  ·
   rw [if_pos hj,if_pos (List.mem_cons_of_mem _ hj)]
  ·
   rw [if_neg hj]
   by_cases hji:j=i
   ·
    rw [if_pos hji,if_pos (by rw [hji]; exact List.mem_cons_self)]
   ·
    rw [if_neg hji,if_neg (by simp [hji,hj])]
theorem TA.Fh {d:au} {i:Int} {t:Tree} {F:List Int} (h:TA d i t F):∀ j ∈ F,1 ≤ j∧j ≤ d.l.length:=fun j hj=>by
 obtain ⟨z,hz,_⟩:=h.live j hj; exact bM hz
theorem iy.Fh {d:au} {i:List Int} {t:List Tree} {F:List Int} (h:iy d i t F):∀ j ∈ F,1 ≤ j∧j ≤ d.l.length:=fun j hj=>by
 obtain ⟨z,hz,_⟩:=h.live j hj; exact bM hz
theorem yR {n:Nat} (ih:∀ {d:au} {i:Int} {t:Tree} {F:List Int},TA d i t F→F.Nodup→d.l.length ≤ 5000→d.freed.length + F.length ≤ 100000→iK t < n→eT n d i=some (bX d F)) {z:ah} (hk:z.kids.length ≤ 5000) :
  ∀ (is:List Int) (ts:List Tree) (F:List Int) (d:au) (done:List Int) (f:Nat),iy d is ts F→F.Nodup→d.l.length ≤ 5000→d.freed.length + F.length ≤ 100000→z.kids=done ++ is→fQ ts < n→is.length < f →
  dK (eT n) z f d (done.length:Int)=some (bX d F)
 | [],_,_,d,done,f + 1,.nil,hn,hl,hb,h,ht,hf=>by
  rw [dK,if_neg (by rw [h]; simp)]
  unfold bX qj; simp
 | i :: is,_,_,d,done,f + 1,.cons (t:=t) (ts:=ts) (F:=F) (G:=G) a b,hn,hl,hb,h,ht,hf=>by
  have hkl:z.kids.length=done.length + 1 + is.length:=by rw [h]; simp; omega
  simp only [fQ] at ht
  have hnd:=List.nodup_append.1 hn
  rw [List.length_append] at hb
  rw [dK,if_pos (by rw [decide_eq_true_eq]; omega),iH h,Option.bind_some,ih a hnd.1 hl (by omega) (by omega),Option.bind_some,oJ (by omega) (by omega)]
  have b2:iy (bX d F) is ts G:=b.q9 (fun j hj=>by rw [mh F d a.Fh,if_neg (fun q=>hnd.2.2 j q j hj rfl)])
  have:=yR ih hk is ts G (bX d F) (done ++ [i]) f b2 hnd.2.1 (by rw [nu]; exact hl) (by simp [bX]; omega) (by rw [h]; simp) (by omega) (by simpa using hf)
  rw [uQ] at this
  simpa using this
theorem CX:∀ (n:Nat) {d:au} {i:Int} {t:Tree} {F:List Int},TA d i t F→F.Nodup→d.l.length ≤ 5000→d.freed.length + F.length ≤ 100000→iK t < n→eT n d i=some (bX d F)
 | 0,_,_,_,_,_,_,_,_,h=>by omega
 | n + 1,d,i,_,_,.mk (z:=z) (ts:=ts) (F:=F) h hl k,hn,hlen,hb,ht=>by
  simp only [iK] at ht
  simp only [List.length_cons] at hb
  have hkt:=k.lens
  have htl:=nU ts
  have hkF:z.kids.length ≤ F.length:=by have:=k.len; omega
  have hFl:F.length ≤ 5000:=Nat.le_trans (gG d.l.length F (List.nodup_cons.1 hn).2 (fun x hx=>k.Fh x hx)) hlen
  have hdm:d.l.length ≤ dM:=Nat.le_trans hlen (by decide)
  rw [eT,ig hdm h,Option.bind_some,jU (by rw [bnd]; simp; omega),Option.bind_some,ng hdm h]
  have e1:au.mk (iO d i (ah.mk (az.mk false [] [] [] [] 0).lives (az.mk false [] [] [] [] 0).tag (az.mk false [] [] [] [] 0).key (az.mk false [] [] [] [] 0).text (az.mk false [] [] [] [] 0).attrs [] (az.mk false [] [] [] [] 0).parent)).l (d.freed ++ [i])=bX d [i]:=rfl
  rw [e1]
  have hn':=List.nodup_cons.1 hn
  have k2:iy (bX d [i]) z.kids ts F:=k.q9 (fun j hj=>by rw [mh [i] d (fun q hq=>by rw [List.mem_singleton.1 hq]; exact bM h),if_neg (by simp only [List.mem_singleton]; exact fun q=>hn'.1 (q ▸ hj))])
  have:=yR (CX n) (z:=z) (by omega) z.kids ts F (bX d [i]) [] n k2 hn'.2 (by rw [nu]; exact hlen) (by simp [bX]; omega) rfl (by omega) (by omega)
  rw [uQ] at this
  simpa using this
end Pr
end Go.Ev

namespace Go.Ev
namespace Pr
set_option linter.unusedVariables false
set_option linter.unusedSimpArgs false
theorem Path.tail {d:au} {i:Int} {l:List Int} (h:Path d i l):∃ z,nd d i=some z∧z.lives=true∧((z.parent=0∧l=[i])∨(z.parent ≠ 0∧∃ t,l=i :: t∧Path d z.parent t)):=by
 cases h with
 | top g gl gp=>exact ⟨_,g,gl,.inl ⟨gp,rfl⟩⟩
 | up g gl gp k=>exact ⟨_,g,gl,.inr ⟨gp,_,rfl,k⟩⟩
theorem TA.sub {d:au} (hW:WF d) {i:Int} {t:Tree} {F l:List Int} (h:TA d i t F) (hp:Path d i l):∀ j ∈ F,j ≠ i→∃ z,nd d j=some z∧z.lives=true∧z.parent ∈ F∧z.parent ≠ 0:=by
 obtain ⟨G,hG⟩:=h.head
 obtain ⟨li,hli⟩:=hp.head
 have step:∀ (a:Int) (l1:List Int) (p:Int),Path d p ((a :: l1) ++ l)→a=p∧∃ z,nd d p=some z∧z.lives=true∧z.parent ≠ 0∧Path d z.parent (l1 ++ l):=fun a l1 p q=>by
  obtain ⟨z,z1,z2,z3⟩:=q.tail
  rcases z3 with ⟨_,e⟩ | ⟨z3,t,e,k⟩
  ·
   exfalso
   have:=congrArg List.length e
   rw [hli] at this; simp at this
  ·
   have e1:=List.cons.inj (by simpa using e)
   exact ⟨e1.1,z,z1,z2,z3,by rw [e1.2]; exact k⟩
 have key:∀ (l1:List Int) (p:Int),Path d p (l1 ++ l)→p ∈ F:=by
  intro l1
  induction l1 with
  | nil =>
   intro p hq
   obtain ⟨e,he⟩:=hq.head
   rw [List.nil_append,hli] at he
   rw [← (List.cons.inj he).1,hG]
   exact List.mem_cons_self
  | cons b l2 ih =>
   intro p hq
   obtain ⟨rfl,z,z1,z2,z3,k⟩:=step b l2 p hq
   have hin:=ih _ k
   obtain ⟨zp,p1,p2,p3⟩:=h.live _ hin
   obtain ⟨x,x1,x2,x3,_⟩:=hW.par _ _ z1 z2 z3
   rw [x1] at p1; cases p1
   exact p3 _ x3
 intro j hj hne
 obtain ⟨l1,q⟩:=h.path hW hp j hj
 cases l1 with
 | nil =>
  obtain ⟨b,hb⟩:=q.head
  rw [List.nil_append,hli] at hb
  exact absurd (List.cons.inj hb).1.symm hne
 | cons a l1 =>
  obtain ⟨rfl,z,z1,z2,z3,k⟩:=step a l1 j q
  exact ⟨z,z1,z2,key l1 _ k,z3⟩
theorem GD {d:au} (hW:WF d) {i:Int} {t:Tree} {F:List Int} (h:TA d i t F) {zi:ah} (hzi:nd d i=some zi) (hp0:zi.parent=0) (hi1:i ≠ 1):WF (bX d F)∧F.Nodup∧(∀ j,j ∉ F→nd (bX d F) j=nd d j):=by
 have hli:zi.lives=true:=by
  obtain ⟨z,z1,z2,_⟩:=h.live i (by obtain ⟨G,rfl⟩:=h.head; exact List.mem_cons_self)
  rw [hzi] at z1; cases z1; exact z2
 have hp:Path d i [i]:=.top hzi hli hp0
 have hsub:=h.sub hW hp
 have hnF:=h.nodup hW hp
 have hget:=mh F d h.Fh
 have out:∀ j,j ∉ F→nd (bX d F) j=nd d j:=fun j hj=>by rw [hget,if_neg hj]
 have one:(1:Int) ∉ F:=fun hm=>by
  obtain ⟨r,r1,r2,r3,_⟩:=hW.root
  obtain ⟨z,z1,z2,z3,z4⟩:=hsub 1 hm (Ne.symm hi1)
  rw [r1] at z1; cases z1; exact z4 r3
 have low:∀ j z,nd (bX d F) j=some z→z.lives=true→j ∉ F∧nd d j=some z:=fun j z hz hl=>by
  rw [hget] at hz
  by_cases hj:j ∈ F
  ·
   rw [if_pos hj] at hz; cases hz; simp [uS] at hl
  ·
   rw [if_neg hj] at hz; exact ⟨hj,hz⟩
 have kidOut:∀ j z k,j ∉ F→nd d j=some z→z.lives=true→k ∈ z.kids→k ∉ F:=fun j z k hj hz hl hk hm=>by
  obtain ⟨y,y1,y2,y3⟩:=hW.kid j z k hz hl hk
  by_cases hki:k=i
  ·
   subst hki; rw [hzi] at y1; cases y1
   have:=bM hz; omega
  ·
   obtain ⟨x,x1,x2,x3,x4⟩:=hsub k hm hki
   rw [y1] at x1; cases x1
   rw [y3] at x3; exact hj x3
 have parOut:∀ k y,k ∉ F→nd d k=some y→y.lives=true→y.parent ≠ 0→y.parent ∉ F:=fun k y hk hy hl hpk hm=>by
  obtain ⟨x,x1,x2,x3,_⟩:=hW.par k y hy hl hpk
  obtain ⟨z,z1,z2,z3⟩:=h.live _ hm
  rw [x1] at z1; cases z1
  exact hk (z3 k x3)
 refine ⟨⟨by rw [nu]; exact hW.len,?_,fun j hj=>?_,?_,fun j z hz=>?_,fun j z hz hl=>?_,fun j z k hz hl hk=>?_,fun k y hy hl hpk=>?_,fun j hj=>?_,fun j z hz=>?_⟩,hnF,out⟩
 ·
  obtain ⟨r,r1,r2⟩:=hW.root
  exact ⟨r,by rw [out 1 one]; exact r1,r2⟩
 ·
  rw [nu]
  rcases List.mem_append.1 (show j ∈ d.freed ++ F from hj) with hj | hj
  ·
   exact hW.freedR j hj
  ·
   have:=h.Fh j hj
   exact ⟨by have:j ≠ 1:=fun q=>one (q ▸ hj); omega,this.2⟩
 ·
  show (d.freed ++ F).Nodup
  refine List.nodup_append.2 ⟨hW.freedN,hnF,fun a ha b hb hab=>?_⟩
  subst hab
  obtain ⟨z,z1,z2,_⟩:=h.live a hb
  have:=(hW.dead a z z1).2 ha
  rw [z2] at this; cases this
 ·
  show z.lives=false↔j ∈ d.freed ++ F
  rw [hget] at hz
  by_cases hj:j ∈ F
  ·
   rw [if_pos hj] at hz; cases hz
   simp [uS,hj]
  ·
   rw [if_neg hj] at hz
   rw [hW.dead j z hz]; simp [hj]
 ·
  obtain ⟨q1,q2⟩:=low j z hz hl; exact hW.kidN j z q2 hl
 ·
  obtain ⟨q1,q2⟩:=low j z hz hl
  obtain ⟨y,y1,y2,y3⟩:=hW.kid j z k q2 hl hk
  exact ⟨y,by rw [out k (kidOut j z k q1 q2 hl hk)]; exact y1,y2,y3⟩
 ·
  obtain ⟨q1,q2⟩:=low k y hy hl
  obtain ⟨x,x1,x2,x3⟩:=hW.par k y q2 hl hpk
  exact ⟨x,by rw [out _ (parOut k y q1 q2 hl hpk)]; exact x1,x2,x3⟩
 ·
  obtain ⟨z,hz,hl⟩:=dW hj
  obtain ⟨q1,q2⟩:=low j z hz hl
  obtain ⟨l,hl2⟩:=hW.path j (by rw [bV q2,hl])
  refine ⟨l,?_⟩
  clear hj hz
  induction hl2 generalizing z with
  | top g gl gp =>
   rw [g] at q2; cases q2
   exact .top (by rw [out _ q1]; exact g) gl gp
  | up g gl gp k ih =>
   rw [g] at q2; cases q2
   obtain ⟨x,x1,x2,_⟩:=hW.par _ _ g gl gp
   exact .up (by rw [out _ q1]; exact g) gl gp (ih x x2 (parOut _ _ q1 g gl gp) x1)
 ·
  rw [hget] at hz
  by_cases hj:j ∈ F
  ·
   rw [if_pos hj] at hz; cases hz; simp [uS]
  ·
   rw [if_neg hj] at hz; exact hW.attrs j z hz
theorem Gv {d:au} (hW:WF d) {n:Nat} {i:Int} {t:Tree} {F:List Int} (h:TA d i t F) {zi:ah} (hzi:nd d i=some zi) (hp0:zi.parent=0) (hi1:i ≠ 1) (hn:iK t < n):jY n d i=some (true,bX d F):=by
 have hli:zi.lives=true:=by
  obtain ⟨z,z1,z2,_⟩:=h.live i (by obtain ⟨G,rfl⟩:=h.head; exact List.mem_cons_self)
  rw [hzi] at z1; cases z1; exact z2
 have hF:=h.nodup hW (.top hzi hli hp0)
 have hfl:d.freed.length ≤ d.l.length:=gG _ _ hW.freedN (fun x hx=>⟨by have:=hW.freedR x hx; omega,(hW.freedR x hx).2⟩)
 have hFl:F.length ≤ d.l.length:=gG _ _ hF h.Fh
 have:=hW.len
 unfold jY
 rw [uW hW.dm,Option.bind_some,bV hzi,if_pos hli,ig hW.dm hzi,Option.bind_some,if_neg (by simp [hi1,hp0]),CX n h hF hW.len (by omega) hn]
 rfl
def cnt (d:au):Int:=(d.l.length:Int) - d.freed.length
theorem FM (d:au) (F:List Int):cnt (bX d F)=cnt d - F.length:=by unfold cnt bX; simp [lW]; omega
theorem TA.bZ {d:au} (hW:WF d) {c:Int} (hc:iU d c=true) {i:Int} {t:Tree} {F:List Int} (h:TA d i t F) (hno:∀ j ∈ F,∀ z,nd d j=some z→c ∉ z.kids):TA (Pr.bZ d c) i t F :=
 h.keep (fun j hj z hz=>by
  obtain ⟨z',z1,z2,_⟩:=h.live j hj
  rw [hz] at z1; cases z1
  refine ⟨_,oN hW hc hz z2,rfl,rfl,rfl,rfl,rfl,?_⟩
  exact List.erase_of_not_mem (hno j hj z hz))
theorem GH {d:au} (hW:WF d) {n:Nat} (hn6:6000 ≤ n) {c:Int} {t:Tree} {F:List Int} (h:TA d c t F) (hc1:c ≠ 1):∃ d',jG n d c=some ((F.length:Int),d')∧WF d'∧cnt d'=cnt d - F.length∧d'.l.length=d.l.length∧(∀ j ∈ F,iU d' j=false) ∧
  (∀ j z,j ∉ F→nd d j=some z→nd d' j=some (if z.lives=true then { z with kids:=z.kids.erase c } else z)):=by
 obtain ⟨z,hz,hl,_⟩:=h.live c (by obtain ⟨G,rfl⟩:=h.head; exact List.mem_cons_self)
 have hc:iU d c=true:=by rw [bV hz,hl]
 obtain ⟨l,hp⟩:=hW.path c hc
 have hF:=h.nodup hW hp
 have hFl:F.length ≤ d.l.length:=gG _ _ hF h.Fh
 have hlen:=hW.len
 have htn:iK t < n:=by have:=h.len; omega
 have hW1:=uH hW hc
 have hno:∀ j ∈ F,∀ y,nd d j=some y→c ∉ y.kids:=fun j hj y hy hm=>by
  obtain ⟨y0,y1,y2,_⟩:=h.live j hj
  rw [hy] at y1; cases y1
  obtain ⟨x,x1,x2,x3⟩:=hW.kid j y c hy y2 hm
  rw [hz] at x1; cases x1
  obtain ⟨l1,q⟩:=h.path hW hp j hj
  have hr:=bM hy
  have:=(Path.up hz hl (by omega) (by rw [x3]; exact q)).uniq hp
  have:=congrArg List.length this
  simp at this; omega
 have h1:TA (bZ d c) c t F:=h.bZ hW hc hno
 obtain ⟨z1,hz1,hl1,hp1⟩:=qF hW hc
 obtain ⟨w1,w2,w3⟩:=GD hW1 h1 hz1 hp1 hc1
 have hfl:d.freed.length ≤ d.l.length:=gG _ _ hW.freedN (fun x hx=>⟨by have:=hW.freedR x hx; omega,(hW.freedR x hx).2⟩)
 have hfl2:=gG (bX (bZ d c) F).l.length _ w1.freedN (fun x hx=>⟨by have:=w1.freedR x hx; omega,(w1.freedR x hx).2⟩)
 have hc2:cnt (bX (bZ d c) F)=cnt d - F.length:=by rw [FM]; unfold cnt; simp
 refine ⟨bX (bZ d c) F,?_,w1,hc2,by simp,fun j hj=>?_,fun j y hj hy=>?_⟩
 ·
  obtain ⟨b,hb1,hb2⟩:=Dw hW hn6 c
  have hd:(if b=true then bZ d c else d)=bZ d c:=by
   cases b with
   | true=>rfl
   | false =>
    by_cases hp0:z.parent=0
    ·
     rw [jI hz hp0]; rfl
    ·
     exact absurd (hb2.2 ⟨z,hz,hl,hp0⟩) (by simp)
  unfold jG
  unfold lF
  rw [Option.bind_some,if_neg (by simpa using hc1),w9 hW,Option.bind_some,hb1,Option.bind_some,hd]
  simp only
  rw [Gv hW1 h1 hz1 hp1 hc1 htn,Option.bind_some]
  simp only
  rw [w9 w1,Option.bind_some]
  have e:IntKind.wrap .i64 (((d.l.length:Int) - d.freed.length) - (((bX (bZ d c) F).l.length:Int) - (bX (bZ d c) F).freed.length))=(F.length:Int):=by
   rw [oJ (by simp [bX,lW]; omega) (by simp [bX,lW]; omega)]
   simp [bX,lW]; omega
  rw [e]
 ·
  unfold iU
  rw [mh F _ h1.Fh,if_pos hj]; rfl
 ·
  rw [w3 j hj]
  have hjc:j ≠ c:=fun q=>by subst q; obtain ⟨G,rfl⟩:=h.head; exact hj List.mem_cons_self
  by_cases hyl:y.lives=true
  ·
   rw [if_pos hyl,oN hW hc hy hyl,if_neg hjc]
  ·
   rw [if_neg hyl]
   by_cases hp0:z.parent=0
   ·
    rw [jI hz hp0]; exact hy
   ·
    obtain ⟨x,x1,x2,_⟩:=hW.par c z hz hl hp0
    rw [oD hz hp0 x1 (uK hW hz hl),if_neg hjc,if_neg (fun q=>by subst q; rw [x1] at hy; cases hy; exact hyl x2)]
    exact hy
end Pr
end Go.Ev

namespace Go.Ev
namespace Pr
set_option linter.unusedVariables false
set_option linter.unusedSimpArgs false
mutual
def Rt:Tree→Prop
 | .mk tag key text attrs ks=>(tag=[]→key=[]∧attrs=[]∧ks=[])∧(tag ≠ []→text=[]∧attrs.length ≤ 100000∧F5 ks)
def F5:List Tree→Prop
 | []=>True
 | t :: l=>Rt t∧F5 l
end
theorem F5.mem:∀ {l:List Tree},F5 l→∀ t ∈ l,Rt t
 | [],_,t,h=>by cases h
 | a :: l,⟨h1,h2⟩,t,h=>by
  rcases List.mem_cons.1 h with rfl | h
  ·
   exact h1
  ·
   exact h2.mem t h
theorem WF.iO {d:au} (h:WF d) {i:Int} {z z':ah} (hz:nd d i=some z) (h1:z'.lives=z.lives) (h2:z'.kids=z.kids) (h3:z'.parent=z.parent) (h4:z'.tag=z.tag) (h5:z'.attrs.length ≤ 100000):WF (iO d i z'):=by
 have hget:=ib hz z'
 have low:∀ j y',nd (Pr.iO d i z') j=some y'→∃ y,nd d j=some y∧y'.lives=y.lives∧y'.kids=y.kids∧y'.parent=y.parent∧y'.tag=y.tag:=fun j y' hj=>by
  rw [hget] at hj
  by_cases e:j=i
  ·
   subst e; rw [if_pos rfl] at hj; cases hj; exact ⟨z,hz,h1,h2,h3,h4⟩
  ·
   rw [if_neg e] at hj; exact ⟨y',hj,rfl,rfl,rfl,rfl⟩
 have up:∀ j y,nd d j=some y→∃ y',nd (Pr.iO d i z') j=some y':=fun j y hj=>by
  have:=bM hj
  exact oM this.1 (by rw [j6]; exact this.2)
 refine ⟨by rw [j6]; exact h.len,?_,fun j hj=>by rw [j6]; exact h.freedR j hj,h.freedN,fun j y hj=>?_,fun j y hj hl=>?_,fun j y k hj hl hk=>?_,fun k y hk hl hp=>?_,fun j hj=>?_,fun j y hj=>?_⟩
 ·
  obtain ⟨r,r1,r2,r3,r4⟩:=h.root
  obtain ⟨r',hr'⟩:=up 1 r r1
  obtain ⟨y,q1,q2,q3,q4,q5⟩:=low 1 r' hr'
  rw [r1] at q1; cases q1
  exact ⟨r',hr',by rw [q2,r2],by rw [q4,r3],by rw [q5]; exact r4⟩
 ·
  obtain ⟨y0,q1,q2,_⟩:=low j y hj
  rw [q2,BO]; exact h.dead j y0 q1
 ·
  obtain ⟨y0,q1,q2,q3,_⟩:=low j y hj
  rw [q3]; exact h.kidN j y0 q1 (by rw [← q2,hl])
 ·
  obtain ⟨y0,q1,q2,q3,_⟩:=low j y hj
  obtain ⟨x,x1,x2,x3⟩:=h.kid j y0 k q1 (by rw [← q2,hl]) (by rw [← q3]; exact hk)
  obtain ⟨x',hx'⟩:=up k x x1
  obtain ⟨x0,p1,p2,p3,p4,p5⟩:=low k x' hx'
  rw [x1] at p1; cases p1
  exact ⟨x',hx',by rw [p2,x2],by rw [p4,x3]⟩
 ·
  obtain ⟨y0,q1,q2,q3,q4,q5⟩:=low k y hk
  obtain ⟨x,x1,x2,x3,x4⟩:=h.par k y0 q1 (by rw [← q2,hl]) (by rw [← q4]; exact hp)
  rw [q4]
  obtain ⟨x',hx'⟩:=up _ x x1
  obtain ⟨x0,p1,p2,p3,p4,p5⟩:=low _ x' hx'
  rw [x1] at p1; cases p1
  exact ⟨x',hx',by rw [p2,x2],by rw [p3]; exact x3,by rw [p5]; exact x4⟩
 ·
  obtain ⟨y,y1,y2⟩:=dW hj
  obtain ⟨y0,q1,q2,_⟩:=low j y y1
  obtain ⟨l,hl⟩:=h.path j (by rw [bV q1,← q2,y2])
  refine ⟨l,hl.keep (fun k hk x hx=>?_)⟩
  obtain ⟨x',hx'⟩:=up k x hx
  obtain ⟨x0,p1,p2,p3,p4,p5⟩:=low k x' hx'
  rw [hx] at p1; cases p1
  exact ⟨x',hx',p2,p4⟩
 ·
  rw [hget] at hj
  by_cases e:j=i
  ·
   rw [if_pos e] at hj; cases hj; exact h5
  ·
   rw [if_neg e] at hj; exact h.attrs j y hj
theorem A7 {d:au} (h:WF d) (n:Nat) {i:Int} {z:ah} (hz:nd d i=some z) (hl:z.lives=true) (ht:z.tag ≠ []) {at_:List Attr} (ha:at_.length ≤ 100000):iR n d i at_=some (true,iO d i { z with attrs:=at_ })∧WF (iO d i { z with attrs:=at_ }):=by
 refine ⟨?_,h.iO hz rfl rfl rfl rfl ha⟩
 unfold iR
 rw [uW h.dm,Option.bind_some,bV hz,if_pos hl,ig h.dm hz,Option.bind_some,if_neg (by simpa using ht)]
 unfold bS
 rw [jU (by rw [bnd]; simp; omega),Option.bind_some,ng h.dm hz]
 rfl
theorem Ht {d:au} (h:WF d) (n:Nat) {i:Int} {z:ah} (hz:nd d i=some z) (hl:z.lives=true) (ht:z.tag=[]) (s:Str):kV n d i s=some (true,iO d i { z with text:=s })∧WF (iO d i { z with text:=s }):=by
 refine ⟨?_,h.iO hz rfl rfl rfl rfl (h.attrs i z hz)⟩
 unfold kV
 rw [uW h.dm,Option.bind_some,bV hz,if_pos hl,ig h.dm hz,Option.bind_some,if_neg (by simp [ht]),ng h.dm hz]
 rfl
theorem FT (l:List Int) (c:Int):mU l (l.length:Int) c=l ++ [c]:=by
 unfold mU uu
 rw [show (max 0 (min (l.length:Int) (l.length:Int))).toNat=l.length by omega]
 simp
theorem yF {d:au} (h:WF d) {d':au} {z:ah} (k:New d d' (nextId d) z) {j:Int} (hj:iU d j=true):j ≠ nextId d:=fun q=>by rw [q,k.dead] at hj; cases hj
structure Put (d d':au) (id:Int) (t:Tree) (F:List Int):Prop where
 wf:WF d'
 ta:TA d' id t F
 top:∃ z,nd d' id=some z∧z.lives=true∧z.parent=0
 ne1:id ≠ 1
 old:∀ j z,nd d j=some z→z.lives=true→nd d' j=some z
 new:∀ j ∈ F,iU d j=false
 cnt:cnt d'=Pr.cnt d + iK t
 len:d'.l.length ≤ d.l.length + iK t
 all:∀ j,iU d' j=true→iU d j=true∨j ∈ F
theorem Ar {n:Nat} (hn:6000 ≤ n) {t0:Tree} (ih:∀ (t:Tree) (d:au),WF d→Rt t→iK t + 6000 < n→d.l.length + iK t ≤ 5000→∃ id d' F,gD n d t=some (id,d')∧Put d d' id t F) {z18:Int × au} (hk:t0.Kids.length ≤ 5000) :
  ∀ (rest done:List Tree) (d:au) (zi:ah) (F:List Int) (f:Nat),t0.Kids=done ++ rest→WF d→nd d z18.1=some zi→zi.lives=true→zi.tag ≠ []→zi.parent=0→iy d zi.kids done F→F5 rest→fQ rest + 6000 < n→d.l.length + fQ rest ≤ 5000→rest.length < f →
  ∃ d' ks G,fK n (gD n) t0 z18 f d (done.length:Int)=some (z18.1,d')∧WF d'∧nd d' z18.1=some { zi with kids:=zi.kids ++ ks }∧iy d' (zi.kids ++ ks) (done ++ rest) (F ++ G)∧(∀ j z,j ≠ z18.1→nd d j=some z→z.lives=true→nd d' j=some z)∧(∀ j ∈ G,iU d j=false) ∧
   cnt d'=cnt d + fQ rest∧d'.l.length ≤ d.l.length + fQ rest∧(∀ j,iU d' j=true→iU d j=true∨j ∈ G)
 | [],done,d,zi,F,f + 1,h0,hW,hz,hl,ht,hp,hT,hR,hb,hlen,hf=>by
  rw [fK,if_neg (by rw [h0]; simp)]
  refine ⟨d,[],[],rfl,hW,by simp [hz],by simpa using hT,fun j z _ h _=>h,fun j hj=>(by cases hj),by simp [fQ],by simp [fQ],fun j hj=>.inl hj⟩
 | t :: rest,done,d,zi,F,f + 1,h0,hW,hz,hl,ht,hp,hT,hR,hb,hlen,hf=>by
  have hkl:t0.Kids.length=done.length + 1 + rest.length:=by rw [h0]; simp; omega
  simp only [fQ] at hb hlen
  obtain ⟨hR1,hR2⟩:=hR
  rw [fK,if_pos (by rw [decide_eq_true_eq]; omega),iH h0,Option.bind_some]
  obtain ⟨kid,d1,Fk,e1,P⟩:=ih t d hW hR1 (by omega) (by omega)
  rw [e1,Option.bind_some]
  simp only
  have hz1:=P.old _ _ hz hl
  obtain ⟨zk,hzk,hkl1,hkp⟩:=P.top
  have hkF:kid ∈ Fk:=by obtain ⟨G,hG⟩:=P.ta.head; rw [hG]; exact List.mem_cons_self
  have hkd:iU d kid=false:=P.new kid hkF
  have hid:iU d z18.1=true:=by rw [bV hz,hl]
  have hne:kid ≠ z18.1:=fun q=>by rw [q,hid] at hkd; cases hkd
  have hpath:Path d1 z18.1 [z18.1]:=.top hz1 hl hp
  have hok:jV d1 z18.1 kid=true:=by
   unfold jV
   have ht1:qG d1 z18.1=zi.tag:=by unfold qG; rw [hz1]
   rw [bV hz1,bV hzk,hl,hkl1,ht1,hpath.of]
   simp [ht,P.ne1,hne]
  obtain ⟨hW2,hg2⟩:=Cs P.wf (done.length:Int) hok
  rw [uJ P.wf hn,Option.bind_some,if_pos hok]
  simp only
  rw [oJ (by omega) (by omega)]
  have hkk:∀ j z,nd d1 j=some z→z.lives=true→kid ∉ z.kids:=fun j z hj hjl hm=>by
   obtain ⟨x,x1,x2,x3⟩:=P.wf.kid j z kid hj hjl hm
   rw [hzk] at x1; cases x1
   have:=bM hj; omega
  have hg:∀ j z,nd d1 j=some z→z.lives=true→nd (gX (bZ d1 kid) z18.1 kid (done.length:Int)) j=some { z with kids:=if j=z18.1 then mU z.kids (done.length:Int) kid else z.kids,parent:=if j=kid then z18.1 else z.parent }:=fun j z hj hjl=>by
   rw [hg2 j z hj hjl,List.erase_of_not_mem (hkk j z hj hjl)]
  have hlens:=hT.lens
  have hz2:nd (gX (bZ d1 kid) z18.1 kid (done.length:Int)) z18.1=some { zi with kids:=zi.kids ++ [kid] }:=by
   rw [hg _ _ hz1 hl,if_pos rfl,if_neg (Ne.symm hne),← hlens,FT]
  have hFold:∀ j ∈ F,j ≠ z18.1∧∃ z,nd d j=some z∧z.lives=true:=fun j hj=>by
   obtain ⟨z,z1,z2,_⟩:=hT.live j hj
   refine ⟨fun q=>?_,z,z1,z2⟩
   subst q
   obtain ⟨l1,c,q⟩:=hT.FW hW (.top hz hl hp) (fun c hc=>hW.kid _ _ c hz hl hc) (bM hz).1 _ hj
   have:=congrArg List.length (q.uniq (.top hz hl hp))
   simp at this
  have hT2:iy (gX (bZ d1 kid) z18.1 kid (done.length:Int)) zi.kids done F:=hT.keep (fun j hj z hz'=>by
   obtain ⟨q1,z0,q2,q3⟩:=hFold j hj
   rw [hz'] at q2; cases q2
   exact ⟨_,hg j z (P.old j z hz' q3) q3,rfl,rfl,rfl,rfl,rfl,by simp [q1]⟩)
  have hK2:TA (gX (bZ d1 kid) z18.1 kid (done.length:Int)) kid t Fk:=P.ta.keep (fun j hj z hz'=>by
   obtain ⟨z0,q2,q3,_⟩:=P.ta.live j hj
   rw [hz'] at q2; cases q2
   have hj1:j ≠ z18.1:=fun q=>by have:=P.new j hj; rw [q,hid] at this; cases this
   exact ⟨_,hg j z hz' q3,rfl,rfl,rfl,rfl,rfl,by simp [hj1]⟩)
  have hl2:(gX (bZ d1 kid) z18.1 kid (done.length:Int)).l.length=d1.l.length:=by simp
  have hlen1:=P.len
  obtain ⟨d',ks,G,r1,r2,r3,r4,r5,r6,r7,r8,r9⟩:=Ar hn ih hk rest (done ++ [t]) _ { zi with kids:=zi.kids ++ [kid] } (F ++ Fk) f (by rw [h0]; simp) hW2 hz2 hl ht hp (hT2.app (.one hK2)) hR2 (by omega) (by omega) (by simpa using hf)
  have hcnt2:cnt (gX (bZ d1 kid) z18.1 kid (done.length:Int))=cnt d1:=by unfold cnt; simp
  refine ⟨d',[kid] ++ ks,Fk ++ G,by simpa using r1,r2,by simpa using r3,by simpa using r4,fun j z hj hz' hjl=>?_,fun j hj=>?_,?_,by rw [hl2] at r8; simp only [fQ]; omega,fun j hj=>?_⟩
  ·
   have h1:=P.old j z hz' hjl
   have h2:=hg j z h1 hjl
   have hjk:j ≠ kid:=fun q=>by rw [q] at hz'; rw [bV hz',hjl] at hkd; cases hkd
   rw [if_neg hj,if_neg hjk] at h2
   exact r5 j _ hj h2 hjl
  ·
   rcases List.mem_append.1 hj with hj | hj
   ·
    exact P.new j hj
   ·
    have h2:=r6 j hj
    cases hq:iU d j with
    | false=>rfl
    | true =>
     obtain ⟨z,z1,z2⟩:=dW hq
     have:=hg j z (P.old j z z1 z2) z2
     rw [bV this] at h2
     rw [z2] at h2; cases h2
  ·
   have:=P.cnt
   simp only [fQ]
   omega
  ·
   rcases r9 j hj with h | h
   ·
    obtain ⟨z,z1,z2⟩:=dW h
    have h1:iU d1 j=true:=by
     cases hq:nd d1 j with
     | none =>
      have hr:=bM z1
      rw [hl2] at hr
      obtain ⟨y,hy⟩:=oM hr.1 hr.2
      rw [hq] at hy; cases hy
     | some y =>
      cases hyl:y.lives with
      | true=>rw [bV hq,hyl]
      | false =>
       exfalso
       have hdead:=(P.wf.dead j y hq).1 hyl
       have:=(hW2.dead j z z1).2 (by simpa using hdead)
       rw [z2] at this; cases this
    rcases P.all j h1 with h | h
    ·
     exact .inl h
    ·
     exact .inr (List.mem_append_left _ h)
   ·
    exact .inr (List.mem_append_right _ h)
theorem CE:∀ (n:Nat) (t:Tree) (d:au),WF d→Rt t→iK t + 6000 < n→d.l.length + iK t ≤ 5000→∃ id d' F,gD n d t=some (id,d')∧Put d d' id t F
 | 0,t,d,_,_,h,_=>by omega
 | n + 1,.mk tag key text at_ ks,d,hW,hR,hn,hlen=>by
  have hpos:=AZ (.mk tag key text at_ ks)
  have hfl:d.freed.length ≤ d.l.length:=gG _ _ hW.freedN (fun x hx=>⟨by have:=hW.freedR x hx; omega,(hW.freedR x hx).2⟩)
  have fl:d.freed=[]∨0 < d.freed.length:=by
   cases d.freed with
   | nil=>exact .inl rfl
   | cons a l=>exact .inr (by simp)
  rw [gD]
  by_cases ht:tag=[]
  ·
   obtain ⟨rfl,rfl,rfl⟩:=hR.1 ht
   subst ht
   obtain ⟨d1,e1,e2,e3,e4,e5⟩:=Gs hW (by omega) n text
   rw [if_pos (by simp [Tree.Tag])]
   simp only [Tree.Text]
   rw [e1,Option.bind_some]
   have hg:nd d1 (nextId d)=some (ah.mk true [] [] text [] [] 0):=by rw [e3.get,if_pos rfl]
   refine ⟨nextId d,d1,[nextId d],rfl,e2,.mk hg rfl .nil,⟨_,hg,rfl,rfl⟩,e3.notroot,fun j z hz hl=>?_,fun j hj=>?_,?_,?_,fun j hj=>?_⟩
   ·
    rw [e3.get,if_neg (yF hW e3 (by rw [bV hz,hl]))]; exact hz
   ·
    rw [List.mem_singleton.1 hj]; exact e3.dead
   ·
    unfold cnt
    rw [e4,e5]
    simp only [iK,fQ]
    rcases fl with h | h
    ·
     rw [if_pos h,h]; simp
    ·
     rw [if_neg (fun q=>by rw [q] at h; simp at h)]; simp; omega
   ·
    have:=e3.len; omega
   ·
    by_cases hj2:j=nextId d
    ·
     exact .inr (by rw [hj2]; simp)
    ·
     left; unfold iU at hj ⊢; rw [e3.get,if_neg hj2] at hj; exact hj
  ·
   obtain ⟨rfl,ha,hR2⟩:=hR.2 ht
   simp only [iK] at hn hlen
   obtain ⟨d1,e1,e2,e3,e4,e5⟩:=CU hW (by omega) n (tag:=tag) (key:=key) ht
   rw [if_neg (by simpa [Tree.Tag] using ht)]
   simp only [Tree.Tag,Tree.Key,Tree.aV]
   rw [e1,Option.bind_some]
   simp only
   have hg:nd d1 (nextId d)=some (ah.mk true tag key [] [] [] 0):=by rw [e3.get,if_pos rfl]
   obtain ⟨a1,a2⟩:=A7 e2 n hg rfl ht ha
   rw [a1,Option.bind_some]
   simp only
   have hg2:=ib hg (ah.mk true tag key [] at_ [] 0)
   have hl1:d1.l.length ≤ d.l.length + 1:=e3.len
   have hkl:=nU ks
   obtain ⟨d',ks',G,r1,r2,r3,r4,r5,r6,r7,r8,r9⟩:=Ar (n:=n) (by omega) (t0:=.mk tag key [] at_ ks) (CE n) (z18:=(nextId d,d1)) (by simp only [Tree.Kids]; omega) ks [] _ (ah.mk true tag key [] at_ [] 0) [] n rfl a2 (by rw [hg2,if_pos rfl]) rfl ht rfl .nil hR2 (by omega) (by rw [j6]; omega) (by omega)
   refine ⟨nextId d,d',nextId d :: G,r1,r2,.mk (z:=ah.mk true tag key [] at_ ks' 0) (by simpa using r3) rfl (by simpa using r4),⟨_,r3,rfl,rfl⟩,e3.notroot,fun j z hz hl=>?_,fun j hj=>?_,?_,?_,fun j hj=>?_⟩
   ·
    have hne:=yF hW e3 (by rw [bV hz,hl]:iU d j=true)
    exact r5 j z hne (by rw [hg2,if_neg hne,e3.get,if_neg hne]; exact hz) hl
   ·
    rcases List.mem_cons.1 hj with rfl | hj
    ·
     exact e3.dead
    ·
     have h6:=r6 j hj
     have hne:j ≠ nextId d:=fun q=>by
      rw [q] at h6
      unfold iU at h6
      rw [hg2,if_pos rfl] at h6
      exact Bool.noConfusion h6
     unfold iU at h6 ⊢
     rw [hg2,if_neg hne,e3.get,if_neg hne] at h6
     exact h6
   ·
    have e:cnt (iO d1 (nextId d) (ah.mk true tag key [] at_ [] 0))=cnt d1:=by unfold cnt; simp
    rw [r7]
    simp only [iK]
    have e':cnt (iO d1 (nextId d) { (ah.mk true tag key [] [] [] 0) with attrs:=at_ })=cnt d1:=e
    rw [e']
    unfold cnt
    rw [e4,e5]
    rcases fl with h | h
    ·
     rw [if_pos h,h]; simp; omega
    ·
     rw [if_neg (fun q=>by rw [q] at h; simp at h)]; simp; omega
   ·
    rw [j6] at r8; simp only [iK]; omega
   ·
    rcases r9 j hj with h | h
    ·
     by_cases hj2:j=nextId d
     ·
      exact .inr (by rw [hj2]; exact List.mem_cons_self)
     ·
      left; unfold iU at h ⊢; rw [hg2,if_neg hj2,e3.get,if_neg hj2] at h; exact h
    ·
     exact .inr (List.mem_cons_of_mem _ h)
end Pr
end Go.Ev

namespace Go.Ev
namespace Pr
set_option linter.unusedVariables false
set_option linter.unusedSimpArgs false
set_option linter.unusedSectionVars false
section
variable {κ ν:Type} [BEq κ] [LawfulBEq κ]
theorem qc (k:κ):∀ (m:List (κ × ν)) (i:Nat),(eQ k m i).map (·.2)=(eQ k m 0).map (·.2)
 | [],i=>rfl
 | (a,b) :: l,i=>by
  simp only [eQ]
  split
  ·
   rfl
  ·
   rw [qc k l (i + 1),qc k l 1]
theorem nY (a:κ) (b:ν) (l:List (κ × ν)) (k:κ):oq ((a,b) :: l) k=if (k == a)=true then some b else oq l k:=by
 unfold oq
 simp only [eQ]
 split
 ·
  rfl
 ·
  exact qc k l 1
theorem yz (k:κ):∀ (m:List (κ × ν)) (i:Nat),eQ k m (i + 1)=(eQ k m i).map fun r=>(r.1 + 1,r.2)
 | [],i=>rfl
 | (c,e) :: m,i=>by
  simp only [eQ]
  cases (k == c) with
  | true=>rfl
  | false=>exact yz k m (i + 1)
theorem DF (a:κ) (b:ν) (l:List (κ × ν)) (k:κ) (v:ν):iD ((a,b) :: l) k v=if (k == a)=true then (k,v) :: l else (a,b) :: iD l k v:=by
 unfold iD
 simp only [eQ,yz]
 cases h:(k == a) with
 | true=>have:=eq_of_beq h; subst this; simp
 | false=>cases eQ k l 0 <;> simp
theorem uo:∀ (m:List (κ × ν)) (k k':κ) (v:ν),oq (iD m k v) k'=if (k' == k)=true then some v else oq m k'
 | [],k,k',v=>by
  have:iD ([]:List (κ × ν)) k v=[(k,v)]:=rfl
  rw [this,nY]
 | (a,b) :: l,k,k',v=>by
  rw [DF]
  by_cases h:(k == a)=true
  ·
   rw [if_pos h,nY,nY]
   have:=eq_of_beq h
   subst this
   by_cases h2:(k' == k)=true
   ·
    rw [if_pos h2,if_pos h2]
   ·
    rw [if_neg h2,if_neg h2,if_neg h2]
  ·
   rw [if_neg h,nY,uo l k k' v,nY]
   by_cases h2:(k' == a)=true
   ·
    rw [if_pos h2,if_pos h2]
    have:=eq_of_beq h2
    subst this
    have h3:(k' == k)=false:=by
     cases hq:k' == k with
     | false=>rfl
     | true=>have:=eq_of_beq hq; subst this; simp at h
    rw [h3]; rfl
   ·
    rw [if_neg h2,if_neg h2]
theorem pz (m:List (κ × ν)) (k k':κ) (v z:ν):fe (iD m k v) k' z=if (k' == k)=true then v else fe m k' z:=by
 unfold fe
 rw [uo]
 split <;> rfl
theorem DZ (k:κ) (z:ν):fe ([]:List (κ × ν)) k z=z:=rfl
end
def kd (t:Tree):aR:=aR.mk t.Tag t.Key
def dZ (k:aR):List Tree→Nat→List Int
 | [],_=>[]
 | t :: l,i=>if kd t=k then (i:Int) :: dZ k l (i + 1) else dZ k l (i + 1)
theorem vB (k:aR):∀ (l m:List Tree) (i:Nat),dZ k (l ++ m) i=dZ k l i ++ dZ k m (i + l.length)
 | [],m,i=>by simp [dZ]
 | t :: l,m,i=>by
  simp only [List.cons_append,dZ,vB k l m (i + 1),List.length_cons]
  rw [show i + 1 + l.length=i + (l.length + 1) by omega]
  split <;> simp
theorem jg (k:aR):∀ (l:List Tree) (i:Nat) (x:Int),x ∈ dZ k l i↔∃ j t,l[j]? = some t∧kd t=k∧x=((i + j:Nat):Int)
 | [],i,x=>by simp [dZ]
 | t :: l,i,x=>by
  simp only [dZ]
  have ih:=jg k l (i + 1) x
  have hstep:(∃ j t',l[j]? = some t'∧kd t'=k∧x=((i + 1 + j:Nat):Int))↔∃ j t',(t :: l)[j + 1]? = some t'∧kd t'=k∧x=((i + (j + 1):Nat):Int):=by
   constructor
   ·
    rintro ⟨j,t',h1,h2,h3⟩; exact ⟨j,t',by simpa using h1,h2,by rw [h3]; omega⟩
   ·
    rintro ⟨j,t',h1,h2,h3⟩; exact ⟨j,t',by simpa using h1,h2,by rw [h3]; omega⟩
  split
  ·
   rename_i hk
   rw [List.mem_cons,ih,hstep]
   constructor
   ·
    rintro (rfl | ⟨j,t',h⟩)
    ·
     exact ⟨0,t,rfl,hk,by simp⟩
    ·
     exact ⟨j + 1,t',h⟩
   ·
    rintro ⟨j,t',h1,h2,h3⟩
    cases j with
    | zero=>left; simpa using h3
    | succ j=>exact .inr ⟨j,t',h1,h2,h3⟩
  ·
   rename_i hk
   rw [ih,hstep]
   constructor
   ·
    rintro ⟨j,t',h⟩; exact ⟨j + 1,t',h⟩
   ·
    rintro ⟨j,t',h1,h2,h3⟩
    cases j with
    | zero=>simp at h1; subst h1; exact absurd h2 hk
    | succ j=>exact ⟨j,t',h1,h2,h3⟩
theorem nM (k:aR):∀ (l:List Tree) (i:Nat),(dZ k l i).Nodup
 | [],i=>by simp [dZ]
 | t :: l,i=>by
  simp only [dZ]
  split
  ·
   refine List.nodup_cons.2 ⟨fun h=>?_,nM k l (i + 1)⟩
   obtain ⟨j,_,_,_,h3⟩:=(jg k l (i + 1) _).1 h
   omega
  ·
   exact nM k l (i + 1)
def j4:List Tree→(aR→List Int)→List Int
 | [],_=>[]
 | t :: now,av=>match av (kd t) with
  | []=>-1 :: j4 now av
  | k :: r=>k :: j4 now (fun q=>if q=kd t then r else av q)
def mF (old now:List Tree):List Int:=j4 now (fun k=>dZ k old 0)
theorem uX (k:aR):∀ (l:List Tree) (i:Nat),(dZ k l i).length ≤ l.length
 | [],i=>by simp [dZ]
 | t :: l,i=>by
  have:=uX k l (i + 1)
  simp only [dZ]
  split <;> simp <;> omega
theorem Am {n:Nat} (now:List Tree) (hl:now.length ≤ 100000):∀ (rest done:List Tree) (m:List (aR × List Int)) (av:aR→List Int) (out:List Int) (f:Nat),now=done ++ rest→out.length=done.length→(∀ k,fe m k []=av k)→rest.length < f→dA n now f m out (done.length:Int)=some (out ++ j4 rest av)
 | [],done,m,av,out,f + 1,h,ho,hm,hf=>by
  rw [dA,if_neg (by rw [h]; simp)]
  simp [j4]
 | t :: rest,done,m,av,out,f + 1,h,ho,hm,hf=>by
  have hnl:now.length=done.length + 1 + rest.length:=by rw [h]; simp; omega
  have hk:mf n t=some (kd t):=rfl
  rw [dA,if_pos (by rw [decide_eq_true_eq]; omega),iH h,Option.bind_some,hk,Option.bind_some,hm]
  have ih:=fun m' av' out' h1 h2=>Am (n:=n) now hl rest (done ++ [t]) m' av' out' f (by rw [h]; simp) h1 h2 (by simpa using hf)
  cases ha:av (kd t) with
  | nil =>
   rw [if_pos (by simp),jU (by rw [bnd]; simp; omega),Option.bind_some]
   unfold gK
   rw [oJ (by omega) (by omega)]
   have:=ih m av (out ++ [-1]) (by simp [ho]) hm
   simp only [j4,ha]
   simpa using this
  | cons k r =>
   have e0:idx (k :: r) (0:Int)=some k:=rfl
   have ec:cut (k :: r) 1 ((k :: r).length:Int)=some r:=by
    unfold cut; rw [if_pos ⟨by omega,by simp; omega,by omega⟩]; simp
   rw [if_neg (by simp; omega),e0,Option.bind_some,jU (by rw [bnd]; simp; omega),Option.bind_some,Option.bind_some,ec,Option.bind_some]
   unfold gK
   rw [oJ (by omega) (by omega)]
   have:=ih (iD m (kd t) r) (fun q=>if q=kd t then r else av q) (out ++ [k]) (by simp [ho]) (fun q=>by
    rw [pz,hm]
    by_cases e:q=kd t
    ·
     rw [if_pos (by rw [e]; simp),if_pos e]
    ·
     rw [if_neg (by simpa using e),if_neg e])
   simp only [j4,ha]
   simpa using this
theorem Ac {n:Nat} (old now:List Tree) (ho:old.length ≤ 100000) (hl:now.length ≤ 100000) (hn:now.length < n):∀ (rest done:List Tree) (m:List (aR × List Int)) (f:Nat),old=done ++ rest→(∀ k,fe m k []=dZ k done 0)→rest.length < f→eP n old now f m (done.length:Int)=some (mF old now)
 | [],done,m,f + 1,h,hm,hf=>by
  rw [eP,if_neg (by rw [h]; simp)]
  have:=Am (n:=n) now hl now [] m (fun k=>dZ k done 0) [] n rfl rfl hm hn
  rw [List.append_nil] at h
  subst h
  simpa [mF] using this
 | t :: rest,done,m,f + 1,h,hm,hf=>by
  have hnl:old.length=done.length + 1 + rest.length:=by rw [h]; simp; omega
  have hk:mf n t=some (kd t):=rfl
  have hpl:=uX (kd t) done 0
  rw [eP,if_pos (by rw [decide_eq_true_eq]; omega),iH h,Option.bind_some,hk,Option.bind_some,hm,jU (by rw [bnd]; simp; omega),Option.bind_some,oJ (by omega) (by omega)]
  have:=Ac old now ho hl hn rest (done ++ [t]) (iD m (kd t) (dZ (kd t) done 0 ++ [(done.length:Int)])) f (by rw [h]; simp) (fun q=>by
   rw [pz,hm,vB]
   simp only [dZ,Nat.zero_add]
   by_cases e:q=kd t
   ·
    rw [if_pos (by rw [e]; simp),e,if_pos rfl]
   ·
    rw [if_neg (by simpa using e),if_neg (Ne.symm e),List.append_nil]) (by simpa using hf)
  simpa using this
theorem GK {n:Nat} {old now:List Tree} (ho:old.length ≤ 100000) (hl:now.length ≤ 100000) (hn:now.length < n) (hn2:old.length < n):mO n old now=some (mF old now):=by
 unfold mO
 exact Ac old now ho hl hn old [] [] n rfl (fun k=>rfl) hn2
theorem ui:∀ (now:List Tree) (av:aR→List Int),(j4 now av).length=now.length
 | [],av=>rfl
 | t :: now,av=>by
  simp only [j4]
  split <;> simp [ui]
theorem wK:∀ (now:List Tree) (av:aR→List Int),(∀ k x,x ∈ av k→0 ≤ x)→(∀ k,(av k).Nodup)→(∀ k k' x,x ∈ av k→x ∈ av k'→k=k') →
  (∀ (i:Nat) (x:Int) (t:Tree),(j4 now av)[i]? = some x→now[i]? = some t→x = -1∨0 ≤ x∧x ∈ av (kd t))∧(∀ (i j:Nat) (x:Int),(j4 now av)[i]? = some x→(j4 now av)[j]? = some x→0 ≤ x→i=j)
 | [],av,h0,hn,hd=>⟨fun i x t h=>by simp [j4] at h,fun i j x h=>by simp [j4] at h⟩
 | t :: now,av,h0,hn,hd=>by
  simp only [j4]
  split
  ·
   rename_i ha
   obtain ⟨q1,q2⟩:=wK now av h0 hn hd
   refine ⟨fun i x t' h h'=>?_,fun i j x h h' hx=>?_⟩
   ·
    cases i with
    | zero=>left; simpa using h.symm
    | succ i=>exact q1 i x t' (by simpa using h) (by simpa using h')
   ·
    cases i with
    | zero=>simp at h; omega
    | succ i=>cases j with
     | zero=>simp at h'; omega
     | succ j=>have:=q2 i j x (by simpa using h) (by simpa using h') hx; omega
  ·
   rename_i k r ha
   have hnk:=hn (kd t)
   rw [ha] at hnk
   have hsub:∀ q x,x ∈ (fun q=>if q=kd t then r else av q) q→x ∈ av q:=fun q x hx=>by
    by_cases e:q=kd t
    ·
     have hx:x ∈ r:=by simpa [e] using hx
     rw [e,ha]; exact List.mem_cons_of_mem _ hx
    ·
     simpa [e] using hx
   have hkno:∀ q,k ∉ (fun q=>if q=kd t then r else av q) q:=fun q hx=>by
    by_cases e:q=kd t
    ·
     have hx:k ∈ r:=by simpa [e] using hx
     exact (List.nodup_cons.1 hnk).1 hx
    ·
     have hx:k ∈ av q:=by simpa [e] using hx
     exact e (hd q (kd t) k hx (by rw [ha]; exact List.mem_cons_self))
   obtain ⟨q1,q2⟩:=wK now (fun q=>if q=kd t then r else av q) (fun q x hx=>h0 q x (hsub q x hx)) (fun q=>by
    split
    ·
     exact (List.nodup_cons.1 hnk).2
    ·
     exact hn q) (fun q q' x hx hx'=>hd q q' x (hsub q x hx) (hsub q' x hx'))
   have nok:∀ i,(j4 now (fun q=>if q=kd t then r else av q))[i]? ≠ some k:=fun i hi=>by
    have hlt:i < now.length:=by have:=(List.getElem?_eq_some_iff.1 hi).1; rwa [ui] at this
    rcases q1 i k _ hi (List.getElem?_eq_getElem hlt) with e | ⟨_,e⟩
    ·
     have:=h0 (kd t) k (by rw [ha]; exact List.mem_cons_self); omega
    ·
     exact hkno _ e
   refine ⟨fun i x t' h h'=>?_,fun i j x h h' hx=>?_⟩
   ·
    cases i with
    | zero =>
     simp at h h'
     subst h; subst h'
     have hm:k ∈ av (kd t):=by rw [ha]; exact List.mem_cons_self
     exact .inr ⟨h0 _ _ hm,hm⟩
    | succ i =>
     rcases q1 i x t' (by simpa using h) (by simpa using h') with e | ⟨e1,e2⟩
     ·
      exact .inl e
     ·
      exact .inr ⟨e1,hsub _ _ e2⟩
   ·
    cases i with
    | zero=>cases j with
     | zero=>rfl
     | succ j=>simp at h; subst h; exact absurd (by simpa using h') (nok j)
    | succ i=>cases j with
     | zero=>simp at h'; subst h'; exact absurd (by simpa using h) (nok i)
     | succ j=>have:=q2 i j x (by simpa using h) (by simpa using h') hx; omega
theorem FL (old now:List Tree):(mF old now).length=now.length∧(∀ (i:Nat) (x:Int) (t:Tree),(mF old now)[i]? = some x→now[i]? = some t→x = -1∨0 ≤ x∧∃ u,old[x.toNat]? = some u∧u.Tag=t.Tag∧u.Key=t.Key)∧(∀ (i j:Nat) (x:Int),(mF old now)[i]? = some x→(mF old now)[j]? = some x→0 ≤ x→i=j):=by
 obtain ⟨q1,q2⟩:=wK now (fun k=>dZ k old 0) (fun k x hx=>by obtain ⟨j,_,_,_,h⟩:=(jg k old 0 x).1 hx; omega) (fun k=>nM k old 0) (fun k k' x hx hx'=>by
  obtain ⟨j,u,h1,h2,h3⟩:=(jg k old 0 x).1 hx
  obtain ⟨j',u',h1',h2',h3'⟩:=(jg k' old 0 x).1 hx'
  have:j=j':=by omega
  subst this
  rw [h1] at h1'; cases h1'
  rw [← h2,← h2'])
 refine ⟨ui _ _,fun i x t h h'=>?_,q2⟩
 rcases q1 i x t h h' with e | ⟨e1,e2⟩
 ·
  exact .inl e
 ·
  obtain ⟨j,u,h1,h2,h3⟩:=(jg _ old 0 x).1 e2
  refine .inr ⟨e1,u,?_,?_⟩
  ·
   rw [h3]; simpa using h1
  ·
   unfold kd at h2
   simp only [aR.mk.injEq] at h2
   exact h2
end Pr
end Go.Ev

namespace Go.Ev
namespace Pr
set_option linter.unusedVariables false
set_option linter.unusedSimpArgs false
set_option linter.unusedSectionVars false
theorem xc {n1:Nat} (m:List (Int × Int)) (a2:List Int) (hm:∀ k,fe m k 0=(a2.count k:Int)) (hn1:n1 ≤ 5000):∀ (r i:Nat) (out:List Int) (f:Nat),i + r=n1→out.length ≤ i→r < f →
  ∃ g,dx (n1:Int) m f out (i:Int)=some (out ++ g)∧g.Nodup∧(∀ x,x ∈ g↔(i:Int) ≤ x∧x < n1∧x ∉ a2)∧g.length ≤ r
 | 0,i,out,f + 1,h,ho,hf=>by
  rw [dx,if_neg (by simp [sN]; omega)]
  exact ⟨[],by simp,by simp,fun x=>by simp; omega,by simp⟩
 | r + 1,i,out,f + 1,h,ho,hf=>by
  rw [dx,if_pos (by simp [sN]; omega),hm]
  have hw:IntKind.wrap .i64 ((i:Int) + 1)=((i + 1:Nat):Int):=by rw [oJ (by omega) (by omega)]; omega
  by_cases hc:(i:Int) ∈ a2
  ·
   have:a2.count (i:Int) ≠ 0:=by have:=List.count_pos_iff.2 hc; omega
   rw [if_neg (by simpa using this)]
   unfold gJ
   rw [hw]
   obtain ⟨g,g1,g2,g3,g4⟩:=xc m a2 hm hn1 r (i + 1) out f (by omega) (by omega) (by omega)
   refine ⟨g,g1,g2,fun x=>?_,by omega⟩
   rw [g3]
   constructor
   ·
    rintro ⟨h1,h2,h3⟩; exact ⟨by omega,h2,h3⟩
   ·
    rintro ⟨h1,h2,h3⟩
    have:x ≠ (i:Int):=fun q=>h3 (q ▸ hc)
    exact ⟨by omega,h2,h3⟩
  ·
   have:a2.count (i:Int)=0:=List.count_eq_zero.2 hc
   rw [if_pos (by simpa using this),jU (by rw [bnd]; simp; omega),Option.bind_some]
   unfold gJ
   rw [hw]
   obtain ⟨g,g1,g2,g3,g4⟩:=xc m a2 hm hn1 r (i + 1) (out ++ [(i:Int)]) f (by omega) (by simp; omega) (by omega)
   refine ⟨(i:Int) :: g,by rw [g1]; simp,List.nodup_cons.2 ⟨fun q=>?_,g2⟩,fun x=>?_,by simp; omega⟩
   ·
    have:=(g3 _).1 q; omega
   ·
    rw [List.mem_cons,g3]
    constructor
    ·
     rintro (rfl | ⟨h1,h2,h3⟩)
     ·
      exact ⟨by omega,by omega,hc⟩
     ·
      exact ⟨by omega,h2,h3⟩
    ·
     rintro ⟨h1,h2,h3⟩
     by_cases q:x=(i:Int)
     ·
      exact .inl q
     ·
      exact .inr ⟨by omega,h2,h3⟩
theorem Au {n n1:Nat} (a2:List Int) (hn:n1 < n) (hn1:n1 ≤ 5000) (ha:a2.length ≤ 5000):∀ (rest done:List Int) (m:List (Int × Int)) (f:Nat),a2=done ++ rest→(∀ k,fe m k 0=(done.count k:Int))→rest.length < f →
  ∃ g,fq n (n1:Int) a2 f m (done.length:Int)=some g∧g.Nodup∧(∀ x,x ∈ g↔0 ≤ x∧x < n1∧x ∉ a2)∧g.length ≤ n1
 | [],done,m,f + 1,h,hm,hf=>by
  rw [fq,if_neg (by rw [h]; simp)]
  rw [List.append_nil] at h
  subst h
  obtain ⟨g,g1,g2,g3,g4⟩:=xc m a2 hm hn1 n1 0 [] n (by omega) (by simp) hn
  exact ⟨g,by simpa using g1,g2,by simpa using g3,g4⟩
 | x :: rest,done,m,f + 1,h,hm,hf=>by
  have hl:a2.length=done.length + 1 + rest.length:=by rw [h]; simp; omega
  have hcl:=List.count_le_length (a:=x) (l:=done)
  rw [fq,if_pos (by rw [decide_eq_true_eq]; omega),iH h,Option.bind_some,hm,oJ (by omega) (by omega),oJ (by omega) (by omega)]
  have:=Au a2 hn hn1 ha rest (done ++ [x]) (iD m x ((done.count x:Int) + 1)) f (by rw [h]; simp) (fun k=>by
   rw [pz,hm,List.count_append,List.count_singleton]
   by_cases e:k=x
   ·
    subst e; simp
   ·
    have e':¬ x=k:=fun q=>e q.symm
    rw [if_neg (by simpa using e)]; simp [e']) (by simpa using hf)
  simpa using this
theorem Gw {n n1:Nat} (a2:List Int) (hn:n1 < n) (hn1:n1 ≤ 5000) (ha:a2.length ≤ 5000) (hn2:a2.length < n):∃ g,mg n (n1:Int) a2=some g∧g.Nodup∧(∀ x,x ∈ g↔0 ≤ x∧x < n1∧x ∉ a2)∧g.length ≤ n1:=by
 unfold mg
 exact Au a2 hn hn1 ha a2 [] [] n rfl (fun k=>rfl) hn2
theorem AQ {n:Nat} {d:au} (hW:WF d) {all:List Int} (ha:all.length ≤ 5000):∀ (rest done:List Int) (dts ts:List Tree) (F:List Int) (f:Nat),all=done ++ rest→dts.length=done.length→iy d rest ts F→fQ ts < n→rest.length < f →
  eO n d all f dts (done.length:Int)=some (dts ++ ts)
 | [],done,dts,_,_,f + 1,h,hd,.nil,hn,hf=>by
  rw [eO,if_neg (by rw [h]; simp)]; simp
 | c :: rest,done,dts,_,_,f + 1,h,hd,.cons (t:=t) (ts:=ts) (G:=G) hk k,hn,hf=>by
  have hl:all.length=done.length + 1 + rest.length:=by rw [h]; simp; omega
  simp only [fQ] at hn
  rw [eO,if_pos (by rw [decide_eq_true_eq]; omega),iH h,Option.bind_some,zK hW hk (show iK t < n by omega),Option.bind_some,jU (by rw [bnd]; simp; omega),Option.bind_some,oJ (by omega) (by omega)]
  have:=AQ (n:=n) hW ha rest (done ++ [c]) (dts ++ [t]) ts G f (by rw [h]; simp) (by simp [hd]) k (by omega) (by simpa using hf)
  simpa using this
theorem Fj {n:Nat} {d:au} (hW:WF d) {ks:List Int} {ts:List Tree} {F:List Int} (ha:ks.length ≤ 5000) (h:iy d ks ts F) (hn:fQ ts < n) (hn2:ks.length < n):lX n d ks=some ts:=by
 unfold lX
 exact AQ hW ha ks [] [] ts F n rfl rfl h hn hn2
theorem yC {d:au} (hW:WF d) {id c:Int} {y:ah} (hy:nd d id=some y) (hl:y.lives=true) (hc:c ∈ y.kids):∃ x l,nd d c=some x∧x.lives=true∧x.parent=id∧c ≠ 1∧Path d id l∧Path d c (c :: l)∧c ∉ l∧c ≠ id:=by
 obtain ⟨x,x1,x2,x3⟩:=hW.kid id y c hy hl hc
 obtain ⟨l,hp⟩:=hW.path id (by rw [bV hy,hl])
 have hr:=bM hy
 have hpc:Path d c (c :: l):=.up x1 x2 (by omega) (by rw [x3]; exact hp)
 have hcl:c ∉ l:=(List.nodup_cons.1 hpc.nodup).1
 refine ⟨x,l,x1,x2,x3,?_,hp,hpc,hcl,?_⟩
 ·
  rintro rfl; obtain ⟨r,r1,_,r3,_⟩:=hW.root; rw [x1] at r1; cases r1; omega
 ·
  rintro rfl; obtain ⟨t,rfl⟩:=hp.head; exact hcl List.mem_cons_self
theorem iy.y7 {d:au} (hW:WF d) {id:Int} {y:ah} (hy:nd d id=some y) (hl:y.lives=true) {A:List Int} {ts:List Tree} {F:List Int} (h:iy d A ts F) (hA:∀ c ∈ A,c ∈ y.kids):∀ j ∈ F,j ≠ id:=by
 rintro j hj rfl
 obtain ⟨l,hp⟩:=hW.path j (by rw [bV hy,hl])
 obtain ⟨l1,c,q⟩:=h.FW hW hp (fun c hc=>hW.kid _ _ c hy hl (hA c hc)) (bM hy).1 _ hj
 have:=congrArg List.length (q.uniq hp)
 simp at this
 omega
theorem iy.Jy {d:au} (hW:WF d) {id:Int} {y:ah} (hy:nd d id=some y) (hl:y.lives=true) {A B:List Int} {ts us:List Tree} {F G:List Int} (h:iy d A ts F) (h2:iy d B us G) (hA:∀ c ∈ A,c ∈ y.kids) (hB:∀ c ∈ B,c ∈ y.kids) (hAB:∀ c ∈ A,c ∉ B):∀ j ∈ F,j ∉ G:=by
 intro j hj hg
 obtain ⟨l,hp⟩:=hW.path id (by rw [bV hy,hl])
 obtain ⟨l1,c,hc,q⟩:=h.Aj hW hp (fun c hc=>hW.kid _ _ c hy hl (hA c hc)) (bM hy).1 _ hj
 obtain ⟨l2,c2,hc2,q2⟩:=h2.Aj hW hp (fun c hc=>hW.kid _ _ c hy hl (hB c hc)) (bM hy).1 _ hg
 have e:=q.uniq q2
 rw [show l1 ++ c :: l=(l1 ++ [c]) ++ l by simp,show l2 ++ c2 :: l=(l2 ++ [c2]) ++ l by simp] at e
 have:=List.append_cancel_right e
 have e2:=congrArg List.getLast? this
 simp at e2
 exact hAB c hc (e2 ▸ hc2)
theorem iy.split {d:au}:∀ {r1:List Int} {c:Int} {r2:List Int} {ts:List Tree} {F:List Int},iy d (r1 ++ c :: r2) ts F→∃ s1 tc s2 F1 Fc F2,ts=s1 ++ tc :: s2∧F=F1 ++ (Fc ++ F2)∧iy d r1 s1 F1∧TA d c tc Fc∧iy d r2 s2 F2
 | [],c,r2,_,_,.cons h k=>⟨[],_,_,[],_,_,rfl,rfl,.nil,h,k⟩
 | a :: r1,c,r2,_,_,.cons (t:=t) (F:=F0) h k=>by
  obtain ⟨s1,tc,s2,F1,Fc,F2,e1,e2,k1,k2,k3⟩:=k.split
  exact ⟨t :: s1,tc,s2,F0 ++ F1,Fc,F2,by rw [e1]; rfl,by rw [e2]; simp,.cons h k1,k2,k3⟩
theorem iy.Dc {d:au} {c:Int} {t:Tree} {F:List Int} (h:iy d [c] [t] F):TA d c t F:=by
 cases h with
 | cons h k=>cases k; simpa using h
structure St (d:au) (id:Int) (z:ah) (P rest:List Int) (pts rts:List Tree) (FP FR:List Int):Prop where
 wf:WF d
 hz:nd d id=some { z with kids:=P ++ rest }
 hl:z.lives=true
 ht:z.tag ≠ []
 tp:iy d P pts FP
 tr:iy d rest rts FR
theorem St.nodup {d:au} {id:Int} {z:ah} {P rest:List Int} {pts rts:List Tree} {FP FR:List Int} (S:St d id z P rest pts rts FP FR):(P ++ rest).Nodup:=S.wf.kidN _ _ S.hz S.hl
theorem St.keep {d d':au} {id:Int} {z:ah} {P rest:List Int} {pts rts:List Tree} {FP FR:List Int} (S:St d id z P rest pts rts FP FR) {C:List Int} {tc:List Tree} {Fc:List Int} (hC:iy d C tc Fc) (hCk:∀ c ∈ C,c ∈ P ++ rest) (fr:∀ j,j ≠ id→j ∉ Fc→iU d j=true→nd d' j=nd d j) {L:List Int} {ts:List Tree} {F:List Int} (h:iy d L ts F) (hL:∀ c ∈ L,c ∈ P ++ rest) (hd:∀ c ∈ L,c ∉ C):iy d' L ts F :=
 h.q9 fun j hj=>fr j (h.y7 S.wf S.hz S.hl hL j hj) (h.Jy S.wf S.hz S.hl hC hL hCk hd j hj) (by
  obtain ⟨x,x1,x2,_⟩:=h.live j hj
  rw [bV x1,x2])
theorem St.GY {d d':au} {id:Int} {z:ah} {P rest:List Int} {pts rts:List Tree} {FP FR:List Int} (S:St d id z P rest pts rts FP FR) {C:List Int} {tc:List Tree} {Fc:List Int} (hC:iy d C tc Fc) (hCk:∀ c ∈ C,c ∈ P ++ rest) (fr:∀ j,j ≠ id→j ∉ Fc→iU d j=true→nd d' j=nd d j) {c:Int} {t:Tree} {F:List Int} (h:TA d c t F) (hL:c ∈ P ++ rest) (hd:c ∉ C):TA d' c t F :=
 (S.keep hC hCk fr (.one h) (by simpa using hL) (by simpa using hd)).Dc
theorem uI {d d':au} {j:Int} (h:nd d' j=nd d j):iU d' j=iU d j:=by unfold iU; rw [h]
theorem St.drop {d:au} {id:Int} {z:ah} {r1 r2:List Int} {c:Int} {rts FR} (S:St d id z [] (r1 ++ c :: r2) [] rts [] FR) {n:Nat} (hn:6000 ≤ n) :
  ∃ m d' s1 tc s2 F1 Fc F2,jG n d c=some (m,d')∧FR=F1 ++ (Fc ++ F2)∧TA d c tc Fc∧St d' id z [] (r1 ++ r2) [] (s1 ++ s2) [] (F1 ++ F2)∧cnt d'=cnt d - Fc.length∧d'.l.length=d.l.length∧(∀ j,j ≠ id→j ∉ Fc→iU d j=true→nd d' j=nd d j):=by
 obtain ⟨s1,tc,s2,F1,Fc,F2,e1,e2,k1,k2,k3⟩:=S.tr.split
 have hc:c ∈ ([]:List Int) ++ (r1 ++ c :: r2):=by simp
 obtain ⟨x,l,x1,x2,x3,x4,x5,x6,x7,x8⟩:=yC S.wf S.hz S.hl hc
 obtain ⟨d',q1,q2,q3,q4,q5,q6⟩:=GH S.wf hn k2 x4
 have hnd:=S.nodup
 rw [List.nil_append] at hnd
 have hC1:∀ c' ∈ [c],c' ∈ ([]:List Int) ++ (r1 ++ c :: r2):=fun c' h=>by rw [List.mem_singleton.1 h]; exact hc
 have fr:∀ j,j ≠ id→j ∉ Fc→iU d j=true→nd d' j=nd d j:=fun j hj hjF hlv=>by
  obtain ⟨y,y1,y2⟩:=dW hlv
  have:=q6 j y hjF y1
  rw [if_pos y2,List.erase_of_not_mem (fun hm=>by
   obtain ⟨w,w1,w2,w3⟩:=S.wf.kid j y c y1 y2 hm
   rw [x1] at w1; cases w1
   exact hj (w3.symm.trans x3))] at this
  rw [this,y1]
 have hid:id ∉ Fc:=fun h=>(iy.one k2).y7 S.wf S.hz S.hl hC1 _ h rfl
 have hz':=q6 id _ hid S.hz
 rw [if_pos S.hl] at hz'
 have hera:(([]:List Int) ++ (r1 ++ c :: r2)).erase c=[] ++ (r1 ++ r2):=by
  have hn2:=List.nodup_append.1 hnd
  have:c ∉ r1:=fun h=>hn2.2.2 c h c List.mem_cons_self rfl
  rw [List.nil_append,List.nil_append,List.erase_append_right _ this,List.erase_cons_head]
 simp only [hera] at hz'
 have hd:∀ c' ∈ r1 ++ r2,c' ∉ [c]:=fun c' h hm=>by
  rw [List.mem_singleton.1 hm] at h
  have hn2:=List.nodup_append.1 hnd
  rcases List.mem_append.1 h with h | h
  ·
   exact hn2.2.2 c h c List.mem_cons_self rfl
  ·
   exact (List.nodup_cons.1 hn2.2.1).1 h
 refine ⟨_,d',s1,tc,s2,F1,Fc,F2,q1,e2,k2,⟨q2,hz',S.hl,S.ht,.nil,?_⟩,q3,q4,fr⟩
 exact S.keep (.one k2) hC1 fr (k1.app k3) (fun c' h=>by
  rcases List.mem_append.1 h with h | h <;> simp [h]) hd
end Pr
end Go.Ev

namespace Go.Ev
namespace Pr
set_option linter.unusedVariables false
set_option linter.unusedSimpArgs false
set_option linter.unusedSectionVars false
theorem Ah (P l:List Int) (c:Int):mU (P ++ l) (P.length:Int) c=P ++ c :: l:=by
 unfold mU
 have:uu (P.length:Int) (P ++ l).length=P.length:=by unfold uu; simp; omega
 rw [this,List.take_left,List.drop_left]
theorem Path.Jf {d d':au} (h:∀ j z,nd d j=some z→z.lives=true→nd d' j=some z) {i:Int} {l:List Int} (p:Path d i l):Path d' i l:=by
 induction p with
 | top q hl hp=>exact .top (h _ _ q hl) hl hp
 | up q hl hp k ih=>exact .up (h _ _ q hl) hl hp ih
theorem D8 {P r1 r2:List Int} {c:Int} (h:(P ++ (r1 ++ c :: r2)).Nodup):(P ++ (r1 ++ c :: r2)).erase c=P ++ (r1 ++ r2):=by
 have h1:=List.nodup_append.1 h
 have h2:=List.nodup_append.1 h1.2.1
 have n1:c ∉ P:=fun q=>h1.2.2 c q c (by simp) rfl
 have n2:c ∉ r1:=fun q=>h2.2.2 c q c (by simp) rfl
 rw [List.erase_append_right _ n1,List.erase_append_right _ n2,List.erase_cons_head]
theorem St.move {d:au} {id:Int} {z:ah} {P r1 r2:List Int} {c:Int} {pts rts FP FR} (S:St d id z P (r1 ++ c :: r2) pts rts FP FR) {n:Nat} (hn:6000 ≤ n) :
  ∃ d' s1 tc s2 F1 Fc F2,eF n d id c (P.length:Int)=some (true,d')∧FR=F1 ++ (Fc ++ F2)∧TA d c tc Fc∧TA d' c tc Fc∧St d' id z (P ++ [c]) (r1 ++ r2) (pts ++ [tc]) (s1 ++ s2) (FP ++ Fc) (F1 ++ F2)∧cnt d'=cnt d∧d'.l.length=d.l.length∧(∀ j,j ≠ id→iU d j=true→nd d' j=nd d j):=by
 obtain ⟨s1,tc,s2,F1,Fc,F2,e1,e2,k1,k2,k3⟩:=S.tr.split
 have hc:c ∈ P ++ (r1 ++ c :: r2):=by simp
 obtain ⟨x,l,x1,x2,x3,x4,x5,x6,x7,x8⟩:=yC S.wf S.hz S.hl hc
 have hok:jV d id c=true:=by
  unfold jV
  have ht1:qG d id=z.tag:=by unfold qG; rw [S.hz]
  rw [bV S.hz,bV x1,x2,ht1,x5.of]
  simp [S.hl,S.ht,x4,x7]
 obtain ⟨hW2,hg2⟩:=Cs S.wf (P.length:Int) hok
 have hi:=uJ S.wf hn id c (P.length:Int)
 rw [if_pos hok] at hi
 have fr:∀ j,j ≠ id→iU d j=true→nd (gX (bZ d c) id c (P.length:Int)) j=nd d j:=fun j hj hlv=>by
  obtain ⟨y,y1,y2⟩:=dW hlv
  have:=hg2 j y y1 y2
  rw [if_neg hj,List.erase_of_not_mem (fun hm=>by
   obtain ⟨w,w1,w2,w3⟩:=S.wf.kid j y c y1 y2 hm
   rw [x1] at w1; cases w1
   exact hj (w3.symm.trans x3))] at this
  rw [this,y1]
  by_cases hjc:j=c
  ·
   subst hjc
   rw [x1] at y1; cases y1
   rw [if_pos rfl,← x3]
  ·
   rw [if_neg hjc]
 have hz':=hg2 id _ S.hz S.hl
 rw [if_pos rfl,if_neg (Ne.symm x8)] at hz'
 simp only [D8 S.nodup,Ah] at hz'
 have kk:∀ {L:List Int} {ts:List Tree} {F:List Int},iy d L ts F→(∀ c' ∈ L,c' ∈ P ++ (r1 ++ c :: r2))→iy (gX (bZ d c) id c (P.length:Int)) L ts F:=fun h hL =>
  h.q9 fun j hj=>fr j (h.y7 S.wf S.hz S.hl hL j hj) (by
   obtain ⟨x,x1,x2,_⟩:=h.live j hj
   rw [bV x1,x2])
 have kc:=kk (.one k2) (by simp)
 refine ⟨_,s1,tc,s2,F1,Fc,F2,hi,e2,k2,kc.Dc,⟨hW2,by rw [hz']; simp,S.hl,S.ht,(kk S.tp (fun c' h=>by simp [h])).app kc,kk (k1.app k3) (fun c' h=>by
  rcases List.mem_append.1 h with h | h <;> simp [h])⟩,by unfold cnt; simp,by simp,fr⟩
theorem St.put {d:au} {id:Int} {z:ah} {P rest:List Int} {pts rts FP FR} (S:St d id z P rest pts rts FP FR) {n:Nat} (hn:6000 ≤ n) {d1:au} {kid:Int} {t:Tree} {Fk:List Int} (Q:Put d d1 kid t Fk) :
  ∃ d',eF n d1 id kid (P.length:Int)=some (true,d')∧St d' id z (P ++ [kid]) rest (pts ++ [t]) rts (FP ++ Fk) FR∧cnt d'=cnt d1∧d'.l.length=d1.l.length∧(∀ j,j ≠ id→iU d j=true→nd d' j=nd d j):=by
 have hkF:kid ∈ Fk:=by obtain ⟨G,hG⟩:=Q.ta.head; rw [hG]; exact List.mem_cons_self
 have hkd:iU d kid=false:=Q.new kid hkF
 have hidl:iU d id=true:=by rw [bV S.hz]; exact S.hl
 have hne:kid ≠ id:=fun q=>by rw [q,hidl] at hkd; cases hkd
 obtain ⟨l,hp⟩:=S.wf.path id hidl
 have hp1:Path d1 id l:=hp.Jf Q.old
 have hkl:kid ∉ l:=fun h=>by
  obtain ⟨_,_,_,_,y,y1,y2⟩:=hp.mem kid h
  rw [bV y1,y2] at hkd; cases hkd
 obtain ⟨zk,hzk,hkl1,hkp⟩:=Q.top
 have hz1:=Q.old _ _ S.hz S.hl
 have hok:jV d1 id kid=true:=by
  unfold jV
  have ht1:qG d1 id=z.tag:=by unfold qG; rw [hz1]
  rw [bV hz1,bV hzk,hkl1,ht1,hp1.of]
  simp [S.hl,S.ht,Q.ne1,hkl]
 obtain ⟨hW2,hg2⟩:=Cs Q.wf (P.length:Int) hok
 have hi:=uJ Q.wf hn id kid (P.length:Int)
 rw [if_pos hok] at hi
 have hkk:∀ j z,nd d1 j=some z→z.lives=true→kid ∉ z.kids:=fun j z hj hjl hm=>by
  obtain ⟨x,x1,x2,x3⟩:=Q.wf.kid j z kid hj hjl hm
  rw [hzk] at x1; cases x1
  have:=bM hj; omega
 have hg:∀ j z,nd d1 j=some z→z.lives=true→nd (gX (bZ d1 kid) id kid (P.length:Int)) j=some { z with kids:=if j=id then mU z.kids (P.length:Int) kid else z.kids,parent:=if j=kid then id else z.parent }:=fun j z hj hjl=>by
  rw [hg2 j z hj hjl,List.erase_of_not_mem (hkk j z hj hjl)]
 have fr:∀ j,j ≠ id→iU d j=true→nd (gX (bZ d1 kid) id kid (P.length:Int)) j=nd d j:=fun j hj hlv=>by
  obtain ⟨y,y1,y2⟩:=dW hlv
  have:=hg j y (Q.old j y y1 y2) y2
  have hjk:j ≠ kid:=fun q=>by rw [q,hkd] at hlv; cases hlv
  rw [if_neg hj,if_neg hjk] at this
  rw [this,y1]
 have hz':=hg id _ hz1 S.hl
 rw [if_pos rfl,if_neg (Ne.symm hne)] at hz'
 simp only [Ah] at hz'
 have kk:∀ {L:List Int} {ts:List Tree} {F:List Int},iy d L ts F→(∀ c' ∈ L,c' ∈ P ++ rest)→iy (gX (bZ d1 kid) id kid (P.length:Int)) L ts F:=fun h hL =>
  h.q9 fun j hj=>fr j (h.y7 S.wf S.hz S.hl hL j hj) (by
   obtain ⟨x,x1,x2,_⟩:=h.live j hj
   rw [bV x1,x2])
 have kc:TA (gX (bZ d1 kid) id kid (P.length:Int)) kid t Fk:=Q.ta.keep (fun j hj z hz'=>by
  obtain ⟨z0,q2,q3,_⟩:=Q.ta.live j hj
  rw [hz'] at q2; cases q2
  have hj1:j ≠ id:=fun q=>by have:=Q.new j hj; rw [q,hidl] at this; cases this
  exact ⟨_,hg j z hz' q3,rfl,rfl,rfl,rfl,rfl,by simp [hj1]⟩)
 refine ⟨_,hi,⟨hW2,by rw [hz']; simp,S.hl,S.ht,(kk S.tp (fun c' h=>by simp [h])).app (.one kc),kk S.tr (fun c' h=>by simp [h])⟩,by unfold cnt; simp,by simp,fr⟩
structure Turned (d d':au) (id:Int) (old t:Tree) (F F':List Int):Prop where
 wf:WF d'
 ta:TA d' id t F'
 fr:∀ j,j ∉ F→iU d j=true→nd d' j=nd d j
 cnt:cnt d' - F'.length=Pr.cnt d - F.length
 len:d'.l.length ≤ d.l.length + iK t
 kids:∃ z z',nd d id=some z∧nd d' id=some z'∧∀ (i:Nat) k,(mF old.Kids t.Kids)[i]? = some k→0 ≤ k→z'.kids[i]? = idx z.kids k
theorem St.turn {d d':au} {id:Int} {z:ah} {P rest:List Int} {c:Int} {pts rts FP FR} {tc t:Tree} {Fc F':List Int} (S:St d id z (P ++ [c]) rest (pts ++ [tc]) rts (FP ++ Fc) FR) (hP:iy d P pts FP) (hc:TA d c tc Fc) (T:Turned d d' c tc t Fc F') :
  St d' id z (P ++ [c]) rest (pts ++ [t]) rts (FP ++ F') FR:=by
 have hC1:∀ c' ∈ [c],c' ∈ (P ++ [c]) ++ rest:=by simp
 have fr:∀ j,j ≠ id→j ∉ Fc→iU d j=true→nd d' j=nd d j:=fun j _ h1 h2=>T.fr j h1 h2
 have hid:id ∉ Fc:=fun h=>(iy.one hc).y7 S.wf S.hz S.hl hC1 _ h rfl
 have hnd:=S.nodup
 have h1:=List.nodup_append.1 hnd
 have h2:=List.nodup_append.1 h1.1
 refine ⟨T.wf,by rw [T.fr id hid (by rw [bV S.hz]; exact S.hl)]; exact S.hz,S.hl,S.ht,?_,?_⟩
 ·
  exact (S.keep (.one hc) hC1 fr hP (fun c' h=>by simp [h]) (fun c' h hm=>h2.2.2 c' h c' hm rfl)).app (.one T.ta)
 ·
  exact S.keep (.one hc) hC1 fr S.tr (fun c' h=>by simp [h]) (fun c' h hm=>h1.2.2 c' (by simp at hm; simp [hm]) c' h rfl)
end Pr
end Go.Ev

namespace Go.Ev
namespace Pr
set_option linter.unusedVariables false
set_option linter.unusedSimpArgs false
set_option linter.unusedSectionVars false
theorem tQ {α:Type} {l:List α} {k:Int} {c:α}:idx l k=some c↔0 ≤ k∧l[k.toNat]? = some c:=by
 unfold idx
 split
 ·
  rename_i h; simp [h]
 ·
  rename_i h; simp [h]
theorem zD {l:List Int} (h:l.Nodup) {k k' c:Int} (h1:idx l k=some c) (h2:idx l k'=some c):k=k':=by
 obtain ⟨a1,b1⟩:=tQ.1 h1
 obtain ⟨a2,b2⟩:=tQ.1 h2
 have:=(List.getElem?_inj (List.getElem?_eq_some_iff.1 b1).1 h).1 (b1.trans b2.symm)
 omega
theorem qR {r1 r2:List Int} {c x:Int} (h:(r1 ++ c :: r2).Nodup):x ∈ r1 ++ r2↔x ∈ r1 ++ c :: r2∧x ≠ c:=by
 have h1:=List.nodup_append.1 h
 constructor
 ·
  intro q
  rcases List.mem_append.1 q with q | q
  ·
   exact ⟨List.mem_append_left _ q,fun e=>h1.2.2 x q c List.mem_cons_self e⟩
  ·
   exact ⟨List.mem_append_right _ (List.mem_cons_of_mem _ q),fun e=>(List.nodup_cons.1 h1.2.1).1 (e ▸ q)⟩
 ·
  rintro ⟨q,e⟩
  rcases List.mem_append.1 q with q | q
  ·
   exact List.mem_append_left _ q
  ·
   rcases List.mem_cons.1 q with q | q
   ·
    exact absurd q e
   ·
    exact List.mem_append_right _ q
theorem Bg {n:Nat} (hn6:6000 ≤ n) {self:au→Int→Tree→Option (Bool × au)} {id:Int} {t:Tree} {ks fr gone:List Int} (hks:ks.Nodup) (hg:gone.length ≤ 5000) {z:ah} :
  ∀ (todo dn:List Int) (d:au) (rest:List Int) (rts:List Tree) (FR:List Int) (f:Nat),gone=dn ++ todo→St d id z [] rest [] rts [] FR→todo.Nodup→(∀ k ∈ todo,∃ c,idx ks k=some c∧c ∈ rest)→todo.length < f →
  ∃ d' rest' rts' FR',eU n self id t ks fr gone f d (dn.length:Int)=cB n self id t ks fr n d' 0∧St d' id z [] rest' [] rts' [] FR'∧cnt d' - FR'.length=cnt d - FR.length∧d'.l.length=d.l.length ∧
   (∀ c,c ∈ rest'↔c ∈ rest∧∀ k ∈ todo,idx ks k ≠ some c)∧(∀ j ∈ FR',j ∈ FR)∧(∀ j,j ≠ id→j ∉ FR→iU d j=true→nd d' j=nd d j)∧(∀ c ∈ rest',∀ u F,TA d c u F→TA d' c u F)
 | [],dn,d,rest,rts,FR,f + 1,h,S,hN,hc,hf=>by
  rw [eU,if_neg (by rw [h]; simp)]
  exact ⟨d,rest,rts,FR,rfl,S,rfl,rfl,fun c=>by simp,fun j hj=>hj,fun j _ _ _=>rfl,fun c _ u F q=>q⟩
 | k :: todo,dn,d,rest,rts,FR,f + 1,h,S,hN,hc,hf=>by
  have hl:gone.length=dn.length + 1 + todo.length:=by rw [h]; simp; omega
  obtain ⟨c,c1,c2⟩:=hc k List.mem_cons_self
  obtain ⟨r1,r2,rfl⟩:=List.append_of_mem c2
  obtain ⟨m,d1,s1,tc,s2,F1,Fc,F2,q1,q2,q3,q4,q5,q6,q7⟩:=S.drop hn6
  have hnd:=S.nodup
  rw [List.nil_append] at hnd
  obtain ⟨hN1,hN2⟩:=List.nodup_cons.1 hN
  obtain ⟨d',rest',rts',FR',p1,p2,p3,p4,p5,p6,p7,p8⟩:=Bg (fr:=fr) (t:=t) (self:=self) hn6 hks hg todo (dn ++ [k]) d1 _ _ _ f (by rw [h]; simp) q4 hN2 (fun k' hk'=>by
   obtain ⟨c',e1,e2⟩:=hc k' (List.mem_cons_of_mem _ hk')
   refine ⟨c',e1,(qR hnd).2 ⟨e2,fun e=>?_⟩⟩
   rw [e] at e1
   exact hN1 (zD hks c1 e1 ▸ hk')) (by simpa using hf)
  have hC1:∀ c' ∈ [c],c' ∈ ([]:List Int) ++ (r1 ++ c :: r2):=by simp
  refine ⟨d',rest',rts',FR',?_,p2,?_,by omega,fun c'=>?_,fun j hj=>?_,fun j j1 j2 j3=>?_,fun c' hc' u F hu=>?_⟩
  ·
   rw [eU,if_pos (by rw [decide_eq_true_eq]; omega),iH h,Option.bind_some,c1,Option.bind_some,q1,Option.bind_some,oJ (by omega) (by omega)]
   simpa using p1
  ·
   rw [q2]; simp at p3 ⊢; omega
  ·
   rw [p5,qR hnd]
   constructor
   ·
    rintro ⟨⟨a1,a2⟩,a3⟩
    refine ⟨a1,fun k' hk' e=>?_⟩
    rcases List.mem_cons.1 hk' with rfl | hk'
    ·
     rw [c1] at e; cases e; exact a2 rfl
    ·
     exact a3 k' hk' e
   ·
    rintro ⟨a1,a3⟩
    exact ⟨⟨a1,fun e=>a3 k List.mem_cons_self (by rw [e]; exact c1)⟩,fun k' hk'=>a3 k' (List.mem_cons_of_mem _ hk')⟩
  ·
   have:=p6 j hj
   rw [q2]
   rcases List.mem_append.1 this with h | h <;> simp [h]
  ·
   have jc:j ∉ Fc:=fun q=>j2 (by rw [q2]; simp [q])
   have e1:=q7 j j1 jc j3
   rw [p7 j j1 (fun q=>j2 (by
    rw [q2]
    rcases List.mem_append.1 q with h | h <;> simp [h])) (by rw [uI e1]; exact j3),e1]
  ·
   have hm:=(qR hnd).1 ((p5 c').1 hc').1
   exact p8 c' hc' u F (S.GY (.one q3) hC1 q7 hu (by simpa using hm.1) (by simpa using hm.2))
theorem wT {n:Nat} (hn6:6000 ≤ n) {self:au→Int→Tree→Option (Bool × au)} {id:Int} {t:Tree} {ks fr:List Int} (hks:ks.Nodup) (htl:t.Kids.length ≤ 5000) {z:ah}
  (ih:∀ (t old:Tree) (d:au) (id:Int) (F:List Int),WF d→TA d id old F→Rt old→Rt t→old.Tag=t.Tag→old.Key=t.Key→iK t + 6000 < n→d.l.length + iK t ≤ 5000→∃ d' F',self d id t=some (true,d')∧Turned d d' id old t F F') :
  ∀ (todo dn:List Tree) (frs frd:List Int) (d:au) (P rest:List Int) (rts:List Tree) (FP FR:List Int) (f:Nat),t.Kids=dn ++ todo→fr=frd ++ frs→frd.length=dn.length→frs.length=todo.length→St d id z P rest dn rts FP FR→F5 todo→fQ todo + 6000 < n→d.l.length + fQ todo ≤ 5000 →
   (∀ p ∈ frs.zip todo,0 ≤ p.1→∃ c u Fc,idx ks p.1=some c∧c ∈ rest∧TA d c u Fc∧Rt u∧u.Tag=p.2.Tag∧u.Key=p.2.Key) →
   (frs.Pairwise fun a b=>0 ≤ a→a ≠ b)→(∀ c ∈ rest,∃ k ∈ frs,0 ≤ k∧idx ks k=some c)→todo.length < f →
  ∃ d' P2 F',cB n self id t ks fr f d (dn.length:Int)=some (true,d')∧St d' id z (P ++ P2) [] (dn ++ todo) [] F' []∧cnt d' - F'.length=cnt d - FP.length - FR.length∧d'.l.length ≤ d.l.length + fQ todo ∧
   (∀ j,j ≠ id→j ∉ FR→iU d j=true→nd d' j=nd d j)∧(∀ (i:Nat) k,frs[i]? = some k→0 ≤ k→P2[i]? = idx ks k)
 | [],dn,frs,frd,d,P,rest,rts,FP,FR,f + 1,h,hfr,hfd,hfl,S,hR,hb,hlen,hcs,hpw,hcm,hf=>by
  have:frs=[]:=List.length_eq_zero_iff.1 (by simpa using hfl)
  subst this
  have:rest=[]:=by
   cases rest with
   | nil=>rfl
   | cons c r=>obtain ⟨k,hk,_⟩:=hcm c List.mem_cons_self; cases hk
  subst this
  obtain ⟨S1,S2,S3,S4,S5,S6⟩:=S
  cases S6
  rw [cB,if_neg (by rw [h]; simp)]
  exact ⟨d,[],FP,rfl,⟨S1,by simpa using S2,S3,S4,by simpa using S5,.nil⟩,by simp,by simp,fun j _ _ _=>rfl,fun i k hk=>by simp at hk⟩
 | u0 :: todo,dn,frs,frd,d,P,rest,rts,FP,FR,f + 1,h,hfr,hfd,hfl,S,hR,hb,hlen,hcs,hpw,hcm,hf=>by
  cases frs with
  | nil=>simp at hfl
  | cons k frs =>
  have hkl:t.Kids.length=dn.length + 1 + todo.length:=by rw [h]; simp; omega
  simp only [fQ] at hb hlen
  obtain ⟨hR1,hR2⟩:=hR
  obtain ⟨hp1,hp2⟩:=List.pairwise_cons.1 hpw
  have hPl:=S.tp.lens
  have e1:idx t.Kids (dn.length:Int)=some u0:=iH h
  have e2:idx fr (dn.length:Int)=some k:=by rw [← hfd]; exact iH hfr
  have hw:IntKind.wrap .i64 ((dn.length:Int) + 1)=((dn ++ [u0]).length:Int):=by rw [oJ (by omega) (by omega)]; simp
  by_cases hk:k < 0
  ·
   obtain ⟨kid,d1,Fk,g1,Q⟩:=CE n u0 d S.wf hR1 (by omega) (by omega)
   obtain ⟨d2,g2,S2,g3,g4,g5⟩:=S.put hn6 Q
   have hQl:=Q.len
   have hQc:=Q.cnt
   have hQF:=Q.ta.len
   obtain ⟨d',P2,F',r1,r2,r3,r4,r5,r6⟩:=wT (fr:=fr) hn6 hks htl ih todo (dn ++ [u0]) frs (frd ++ [k]) d2 (P ++ [kid]) rest rts (FP ++ Fk) FR f (by rw [h]; simp) (by rw [hfr]; simp) (by simp [hfd]) (by simpa using hfl) S2 hR2 (by omega) (by omega) (fun p hp hp0=>by
     obtain ⟨c,u,Fc,a1,a2,a3,a4⟩:=hcs p (by rw [List.zip_cons_cons]; exact List.mem_cons_of_mem _ hp) hp0
     refine ⟨c,u,Fc,a1,a2,a3.q9 (fun j hj=>g5 j ((iy.one a3).y7 S.wf S.hz S.hl (by simp [a2]) j hj) ?_),a4⟩
     obtain ⟨x,x1,x2,_⟩:=a3.live j hj
     rw [bV x1,x2]) hp2 (fun c hc=>by
     obtain ⟨k',a1,a2,a3⟩:=hcm c hc
     rcases List.mem_cons.1 a1 with rfl | a1
     ·
      omega
     ·
      exact ⟨k',a1,a2,a3⟩) (by simpa using hf)
   refine ⟨d',kid :: P2,F',?_,by simpa using r2,?_,by simp only [fQ]; omega,fun j j1 j2 j3=>?_,fun i k' hk' hk0=>?_⟩
   ·
    rw [cB,if_pos (by rw [decide_eq_true_eq]; omega),e1,Option.bind_some,e2,Option.bind_some,if_pos (by simpa using hk),g1,Option.bind_some]
    simp only
    rw [hPl] at g2
    rw [g2,Option.bind_some]
    simp only
    unfold gL
    rw [hw]; exact r1
   ·
    simp at r3; omega
   ·
    have e:=g5 j j1 j3
    rw [r5 j j1 j2 (by rw [uI e]; exact j3),e]
   ·
    cases i with
    | zero=>simp at hk'; omega
    | succ i=>exact r6 i k' (by simpa using hk') hk0
  ·
   obtain ⟨c,u,Fc,a1,a2,a3,a4,a5,a6⟩:=hcs (k,u0) (by rw [List.zip_cons_cons]; exact List.mem_cons_self) (by simpa using hk)
   simp only at a1 a5 a6
   obtain ⟨r1,r2,rfl⟩:=List.append_of_mem a2
   obtain ⟨d1,s1,tc,s2,F1,Fc',F2,g1,g2,g3,g4,S1,g5,g6,g7⟩:=S.move hn6
   obtain ⟨rfl,rfl⟩:=a3.uniq g3
   obtain ⟨d2,Fk,t1,T⟩:=ih u0 u d1 c Fc S1.wf g4 a4 hR1 a5 a6 (by omega) (by omega)
   have hPk:iy d1 P dn FP:=S.tp.q9 (fun j hj=>g7 j (S.tp.y7 S.wf S.hz S.hl (fun c h=>by simp [h]) j hj) (by
    obtain ⟨x,x1,x2,_⟩:=S.tp.live j hj
    rw [bV x1,x2]))
   have S2:=S1.turn hPk g4 T
   have hTl:=T.len
   have hTc:=T.cnt
   have hnd:(r1 ++ c :: r2).Nodup:=(List.nodup_append.1 S.nodup).2.1
   have hC1:∀ c' ∈ [c],c' ∈ (P ++ [c]) ++ (r1 ++ r2):=by simp
   obtain ⟨d',P2,F',q1,q2,q3,q4,q5,q6⟩:=wT (fr:=fr) hn6 hks htl ih todo (dn ++ [u0]) frs (frd ++ [k]) d2 (P ++ [c]) (r1 ++ r2) _ (FP ++ Fk) (F1 ++ F2) f (by rw [h]; simp) (by rw [hfr]; simp) (by simp [hfd]) (by simpa using hfl) S2 hR2 (by omega) (by omega) (fun p hp hp0=>by
     obtain ⟨c',u',Fc',b1,b2,b3,b4⟩:=hcs p (by rw [List.zip_cons_cons]; exact List.mem_cons_of_mem _ hp) hp0
     have hpf:=(List.of_mem_zip hp).1
     have hne:c' ≠ c:=fun e=>by
      rw [e] at b1
      exact hp1 p.1 hpf (by omega) (zD hks a1 b1)
     refine ⟨c',u',Fc',b1,(qR hnd).2 ⟨b2,hne⟩,?_,b4⟩
     have b5:TA d1 c' u' Fc':=b3.q9 (fun j hj=>g7 j ((iy.one b3).y7 S.wf S.hz S.hl (by simpa using .inr (by simpa using b2)) j hj) (by
      obtain ⟨x,x1,x2,_⟩:=b3.live j hj
      rw [bV x1,x2]))
     exact S1.GY (.one g4) hC1 (fun j _ h1 h2=>T.fr j h1 h2) b5 (List.mem_append_right _ ((qR hnd).2 ⟨b2,hne⟩)) (by simpa using hne)) hp2 (fun c' hc'=>by
     obtain ⟨m1,m2⟩:=(qR hnd).1 hc'
     obtain ⟨k',b1,b2,b3⟩:=hcm c' m1
     rcases List.mem_cons.1 b1 with rfl | b1
     ·
      rw [a1] at b3; cases b3; exact absurd rfl m2
     ·
      exact ⟨k',b1,b2,b3⟩) (by simpa using hf)
   refine ⟨d',c :: P2,F',?_,by simpa using q2,?_,by simp only [fQ]; omega,fun j j1 j2 j3=>?_,fun i k' hk' hk0=>?_⟩
   ·
    rw [cB,if_pos (by rw [decide_eq_true_eq]; omega),e1,Option.bind_some,e2,Option.bind_some,if_neg (by simpa using hk),Option.bind_some,a1,Option.bind_some]
    rw [hPl] at g1
    simp only [g1,Option.bind_some,a1,t1]
    unfold gL
    rw [hw]; exact q1
   ·
    rw [g2]; simp at q3 ⊢; omega
   ·
    have jc:j ∉ Fc:=fun q=>j2 (by rw [g2]; simp [q])
    have e:=g7 j j1 j3
    have l1:iU d1 j=true:=by rw [uI e]; exact j3
    have e':=T.fr j jc l1
    rw [q5 j j1 (fun q=>j2 (by
     rw [g2]
     rcases List.mem_append.1 q with h | h <;> simp [h])) (by rw [uI e']; exact l1),e',e]
   ·
    cases i with
    | zero =>
     simp at hk'
     subst hk'
     rw [a1]; rfl
    | succ i=>exact q6 i k' (by simpa using hk') hk0
end Pr
end Go.Ev

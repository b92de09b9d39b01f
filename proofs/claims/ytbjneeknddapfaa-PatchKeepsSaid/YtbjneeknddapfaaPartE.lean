import Derived.Test.YtbjneeknddapfaaPartD
namespace Go.Ev
namespace Pr
set_option linter.unusedVariables false
set_option linter.unusedSimpArgs false
open Go.Proofs
section
variable {R:bO} (E:K9 R)
include E
set_option maxRecDepth 20000 in
set_option maxHeartbeats 4000000 in
theorem kL:∀ (n:Nat) (a2:ay) (a6:Int) (a7:Tree) (r:(Bool × ay)),eB n a2 a6 a7=some r→∀ (b1:Nat) (v3:AV) (ws4:List (List AV)) (w5:AV),dL R cfg.P 40 [.ptr b1 0 0,.d (.int .i64 a6),.d (ak a7)] [.box b1 [v3,w5],aA ae ah.kids 7 5 v3 ws4 a2.l none,aI w5 a2.freed] (fun v l=>v=.d (.bool r.1)∧∃ dv0 dws0 dw0,l=[.box b1 [dv0,dw0],aA ae ah.kids 7 5 dv0 dws0 r.2.l none,aI dw0 r.2.freed])
 | 0,a2,a6,a7,r,h,b1,v3,ws4,w5=>by simp [eB] at h
 | n + 1,a2,a6,a7,r,h,b1,v3,ws4,w5=>by
  have ih:=kL n
  unfold eB at h
  refine dL.of_wp (C:=cfg) Try.func40 rfl Nh rfl (fun B0 S0 H0=>?_)
  replace H0:Has B0 S0 [.box b1 [v3,w5],aA ae ah.kids 7 5 v3 ws4 a2.l none,aI w5 a2.freed]:=H0
  refine aC.seq ?_
  refine aC.region E.obj rfl ?_
  refine aj.box H0 rfl rfl rfl (Tree.dN _) rfl (fun b8 S9 H10=>?_)
  refine aj.val rfl (au rfl) rfl ?_
  refine aj.nil ?_
  refine aC.seq ?_
  refine aC.region E.obj rfl ?_
  refine aj.val rfl (aa rfl) rfl ?_
  refine aj.val rfl (aa rfl) rfl ?_
  obtain ⟨z11,hzz11,h⟩:=bind_some h
  refine aj.eF (ins:=[.box b1 [v3,w5],aA ae ah.kids 7 5 v3 ws4 a2.l none,aI w5 a2.freed]) (more:=[.box b8 [(.d (.str a7.Tag)),(.d (.str a7.Key)),(.d (.str a7.Text)),(.d (.sl ((a7.aL).map az) false)),(.d (.sl ((a7.Kids).map ak) false))]]) (H10.sl [1,2,3,0] rfl rfl) rfl (aH rfl rfl) (kP E n _ _ _ hzz11 b1 v3 ws4 w5) (.cons (.refl _) (.cons (.refl _) .nil)) rfl ?_
  rintro _ S12 _ ⟨rfl,rfl⟩ H13
  have H14:Has B0 S12 [.box b8 [(.d (.str a7.Tag)),(.d (.str a7.Key)),(.d (.str a7.Text)),(.d (.sl ((a7.aL).map az) false)),(.d (.sl ((a7.Kids).map ak) false))],.box b1 [v3,w5],aA ae ah.kids 7 5 v3 ws4 a2.l none,aI w5 a2.freed]:=H13.sl [3,0,1,2] rfl rfl
  refine aj.val rfl (aa rfl) rfl ?_
  refine aj.val rfl (iR rfl rfl) rfl ?_
  refine aj.val rfl (iR rfl rfl) rfl ?_
  refine aj.alloc H14 rfl qo jv rfl rfl (fun b15 S16 H17=>?_)
  refine aj.store H17 (i:=0) rfl rfl rfl rfl (Tree.dN _) rfl bY rfl kF rfl rfl rfl (fun S18 H19=>?_)
  refine aj.val rfl (au rfl) rfl ?_
  refine aj.nil ?_
  refine aC.seq ?_
  refine aC.seq ?_
  refine aC.region E.obj rfl ?_
  refine aj.val rfl (aa rfl) rfl ?_
  refine aj.val rfl (iI rfl) rfl ?_
  refine aj.val rfl (aa rfl) rfl ?_
  refine aj.kS 6 29 (.d (.bool ((!z11.2) || (!(z11.1.Tag == a7.Tag))))) ?_ ?_
  ·
   rcases Bool.eq_false_or_eq_true ((!z11.2)) with hB20 | hB20
   ·
    refine aj.bool hB20 ?_
    refine aj.no rfl rfl ?_
    refine aj.no rfl rfl ?_
    refine aj.no rfl rfl ?_
    refine aj.no rfl rfl ?_
    refine aj.no rfl rfl ?_
    refine aj.val rfl (aB (b:=true) rfl rfl) rfl ?_
    exact aj.nil ⟨_,rfl,(ai.put (ai.push rfl (ai.push rfl (ai.push rfl (ai.push rfl (ai.push rfl (ai.put (.refl _) (Less.eq (by rw [hB20])))))))) (Less.eq (by rw [hB20]; rw [Bool.true_or])))⟩
   ·
    refine aj.bool hB20 ?_
    refine aj.val rfl (aF rfl qW uY rfl) rfl ?_
    refine aj.val rfl (aJ H19 (i:=0) rfl rfl (aU tZ rfl)) rfl ?_
    refine aj.val rfl (aF rfl qW uY rfl) rfl ?_
    refine aj.val rfl (aJ H19 (i:=1) rfl rfl (aU tZ rfl)) rfl ?_
    refine aj.val rfl (aD rfl rfl nX) rfl ?_
    refine aj.val rfl (aB (b:=false) rfl rfl) rfl ?_
    exact aj.nil ⟨_,rfl,(ai.put (ai.push rfl (ai.push rfl (ai.push rfl (ai.push rfl (ai.push rfl (ai.put (.refl _) (Less.eq (by rw [hB20])))))))) (Less.eq (by rw [hB20]; rw [Bool.false_or])))⟩
  ·
   refine aj.val rfl (aa rfl) rfl ?_
   refine aj.kS 6 36 (.d (.bool (((!z11.2) || (!(z11.1.Tag == a7.Tag))) || (!(z11.1.Key == a7.Key))))) ?_ ?_
   ·
    rcases Bool.eq_false_or_eq_true (((!z11.2) || (!(z11.1.Tag == a7.Tag)))) with hB21 | hB21
    ·
     refine aj.bool hB21 ?_
     refine aj.no rfl rfl ?_
     refine aj.no rfl rfl ?_
     refine aj.no rfl rfl ?_
     refine aj.no rfl rfl ?_
     refine aj.no rfl rfl ?_
     refine aj.val rfl (aB (b:=true) rfl rfl) rfl ?_
     exact aj.nil ⟨_,rfl,(ai.put (ai.push rfl (ai.push rfl (ai.push rfl (ai.push rfl (ai.push rfl (ai.put (.refl _) (Less.eq (by rw [hB21])))))))) (Less.eq (by rw [hB21]; rw [Bool.true_or])))⟩
    ·
     refine aj.bool hB21 ?_
     refine aj.val rfl (aF rfl uO uY rfl) rfl ?_
     refine aj.val rfl (aJ H19 (i:=0) rfl rfl (aU tZ rfl)) rfl ?_
     refine aj.val rfl (aF rfl uO uY rfl) rfl ?_
     refine aj.val rfl (aJ H19 (i:=1) rfl rfl (aU tZ rfl)) rfl ?_
     refine aj.val rfl (aD rfl rfl nX) rfl ?_
     refine aj.val rfl (aB (b:=false) rfl rfl) rfl ?_
     exact aj.nil ⟨_,rfl,(ai.put (ai.push rfl (ai.push rfl (ai.push rfl (ai.push rfl (ai.push rfl (ai.put (.refl _) (Less.eq (by rw [hB21])))))))) (Less.eq (by rw [hB21]; rw [Bool.false_or])))⟩
   ·
    refine aj.nil ?_
    refine aC.cond rfl (fun hb22=>?_) (fun hb22=>?_)
    ·
     replace h:=dE hb22 h
     refine aC.seq ?_
     refine aC.region E.obj rfl ?_
     refine aj.val rfl (au rfl) rfl ?_
     refine aj.nil ?_
     have hr:=Option.some.inj h
     subst hr
     exact aC.ret ⟨_,rfl,rfl,_,_,_,.refl _,(.refl _),⟨rfl,v3,ws4,w5,rfl⟩,H19.sl [2,3,4] rfl rfl⟩
    ·
     replace h:=dG hb22 h
     refine aC.skip ?_
     refine aC.seq ?_
     refine aC.seq ?_
     refine aC.region E.obj rfl ?_
     refine aj.val rfl (aF rfl qW uY rfl) rfl ?_
     refine aj.val rfl (aJ H19 (i:=1) rfl rfl (aU tZ rfl)) rfl ?_
     refine aj.val rfl (aD rfl rfl nR) rfl ?_
     refine aj.nil ?_
     refine aC.cond rfl (fun hb23=>?_) (fun hb23=>?_)
     ·
      replace h:=dE hb23 h
      refine aC.seq ?_
      refine aC.region E.obj rfl ?_
      refine aj.val rfl (aa rfl) rfl ?_
      refine aj.val rfl (aa rfl) rfl ?_
      refine aj.val rfl (aF rfl CV uY rfl) rfl ?_
      refine aj.val rfl (aJ H19 (i:=1) rfl rfl (aU tZ rfl)) rfl ?_
      obtain ⟨z24,hzz24,h⟩:=bind_some h
      refine aj.eF (ins:=[.box b1 [v3,w5],aA ae ah.kids 7 5 v3 ws4 a2.l none,aI w5 a2.freed]) (more:=[.box b15 [(.d (.str z11.1.Tag)),(.d (.str z11.1.Key)),(.d (.str z11.1.Text)),(.d (.sl ((z11.1.aL).map az) false)),(.d (.sl ((z11.1.Kids).map ak) false))],.box b8 [(.d (.str a7.Tag)),(.d (.str a7.Key)),(.d (.str a7.Text)),(.d (.sl ((a7.aL).map az) false)),(.d (.sl ((a7.Kids).map ak) false))]]) (H19.sl [2,3,4,0,1] rfl rfl) rfl (aH rfl rfl) (yV E n _ _ _ _ hzz24 b1 v3 ws4 w5) (.cons (.refl _) (.cons (.refl _) (.cons (.refl _) .nil))) rfl ?_
      rintro _ S27 _ ⟨rfl,ws25,w26,rfl⟩ H28
      have H29:Has B0 S27 [.box b15 [(.d (.str z11.1.Tag)),(.d (.str z11.1.Key)),(.d (.str z11.1.Text)),(.d (.sl ((z11.1.aL).map az) false)),(.d (.sl ((z11.1.Kids).map ak) false))],.box b8 [(.d (.str a7.Tag)),(.d (.str a7.Key)),(.d (.str a7.Text)),(.d (.sl ((a7.aL).map az) false)),(.d (.sl ((a7.Kids).map ak) false))],.box b1 [v3,w26],aA ae ah.kids 7 5 v3 ws25 z24.2.l none,aI w26 z24.2.freed]:=H28.sl [3,4,0,1,2] rfl rfl
      refine aj.val rfl (au rfl) rfl ?_
      refine aj.nil ?_
      have hr:=Option.some.inj h
      subst hr
      exact aC.ret ⟨_,rfl,rfl,_,_,_,.refl _,(.refl _),⟨rfl,v3,ws25,w26,rfl⟩,H29.sl [2,3,4] rfl rfl⟩
     ·
      replace h:=dG hb23 h
      refine aC.skip ?_
      refine aC.seq ?_
      refine aC.region E.obj rfl ?_
      refine aj.val rfl (aa rfl) rfl ?_
      refine aj.val rfl (aa rfl) rfl ?_
      refine aj.val rfl (aF rfl yU DK rfl) rfl ?_
      refine aj.val rfl (aJ H19 (i:=1) rfl rfl (aU HV rfl)) rfl ?_
      obtain ⟨z30,hzz30,h⟩:=bind_some h
      refine aj.eF (ins:=[.box b1 [v3,w5],aA ae ah.kids 7 5 v3 ws4 a2.l none,aI w5 a2.freed]) (more:=[.box b15 [(.d (.str z11.1.Tag)),(.d (.str z11.1.Key)),(.d (.str z11.1.Text)),(.d (.sl ((z11.1.aL).map az) false)),(.d (.sl ((z11.1.Kids).map ak) false))],.box b8 [(.d (.str a7.Tag)),(.d (.str a7.Key)),(.d (.str a7.Text)),(.d (.sl ((a7.aL).map az) false)),(.d (.sl ((a7.Kids).map ak) false))]]) (H19.sl [2,3,4,0,1] rfl rfl) rfl (aH rfl rfl) (qy E n _ _ _ _ hzz30 b1 v3 ws4 w5) (.cons (.refl _) (.cons (.refl _) (.cons (.refl _) .nil))) rfl ?_
      rintro _ S33 _ ⟨rfl,ws31,w32,rfl⟩ H34
      have H35:Has B0 S33 [.box b15 [(.d (.str z11.1.Tag)),(.d (.str z11.1.Key)),(.d (.str z11.1.Text)),(.d (.sl ((z11.1.aL).map az) false)),(.d (.sl ((z11.1.Kids).map ak) false))],.box b8 [(.d (.str a7.Tag)),(.d (.str a7.Key)),(.d (.str a7.Text)),(.d (.sl ((a7.aL).map az) false)),(.d (.sl ((a7.Kids).map ak) false))],.box b1 [v3,w32],aA ae ah.kids 7 5 v3 ws31 z30.2.l none,aI w32 z30.2.freed]:=H34.sl [3,4,0,1,2] rfl rfl
      refine aj.nil ?_
      refine aC.seq ?_
      refine aC.region E.obj rfl ?_
      refine aj.val rfl (aa rfl) rfl ?_
      refine aj.val rfl (aa rfl) rfl ?_
      obtain ⟨z36,hzz36,h⟩:=bind_some h
      refine aj.eF (ins:=[.box b1 [v3,w32],aA ae ah.kids 7 5 v3 ws31 z30.2.l none,aI w32 z30.2.freed]) (more:=[.box b15 [(.d (.str z11.1.Tag)),(.d (.str z11.1.Key)),(.d (.str z11.1.Text)),(.d (.sl ((z11.1.aL).map az) false)),(.d (.sl ((z11.1.Kids).map ak) false))],.box b8 [(.d (.str a7.Tag)),(.d (.str a7.Key)),(.d (.str a7.Text)),(.d (.sl ((a7.aL).map az) false)),(.d (.sl ((a7.Kids).map ak) false))]]) (H35.sl [2,3,4,0,1] rfl rfl) rfl (aH rfl rfl) (iL E n _ _ _ hzz36 b1 v3 ws31 w32) (.cons (.refl _) (.cons (.refl _) .nil)) rfl ?_
      rintro _ S37 _ ⟨rfl,rfl⟩ H38
      have H39:Has B0 S37 [.box b15 [(.d (.str z11.1.Tag)),(.d (.str z11.1.Key)),(.d (.str z11.1.Text)),(.d (.sl ((z11.1.aL).map az) false)),(.d (.sl ((z11.1.Kids).map ak) false))],.box b8 [(.d (.str a7.Tag)),(.d (.str a7.Key)),(.d (.str a7.Text)),(.d (.sl ((a7.aL).map az) false)),(.d (.sl ((a7.Kids).map ak) false))],.box b1 [v3,w32],aA ae ah.kids 7 5 v3 ws31 z30.2.l none,aI w32 z30.2.freed]:=H38.sl [3,4,0,1,2] rfl rfl
      refine aj.val rfl (au rfl) rfl ?_
      refine aj.nil ?_
      refine aC.seq ?_
      obtain ⟨z40,hzz40,h⟩:=bind_some h
      obtain ⟨z44,hzz44,h⟩:=bind_some h
      refine aC.gG E.obj jr Ny [(0,none),(1,none),(5,none),(9,none),(10,some 6)] (by kernel_rfl) [2] (by decide) [some (.ptr b1 0 0),some (.d (.sl ((z36).map (D.int .i64)) false)),none,some (.ptr b8 0 4),some (.d (.sl ((a7.Kids).map ak) false)),none,none] ?_
      refine ⟨[0,1,3,4],by kernel_rfl,?_,_,_,rfl,rfl,.step ?_⟩
      ·
       refine .v rfl rfl rfl rfl (aa rfl) ?_
       refine .v rfl rfl rfl rfl (aa rfl) ?_
       refine .v rfl rfl rfl rfl (aF rfl jV rT rfl) ?_
       refine .v rfl rfl rfl rfl (aJ H39 (i:=1) rfl rfl (aU uW rfl)) ?_
       exact .nil
      refine aj.eF (ins:=[.box b1 [v3,w32],aA ae ah.kids 7 5 v3 ws31 z30.2.l none,aI w32 z30.2.freed]) (more:=[.box b15 [(.d (.str z11.1.Tag)),(.d (.str z11.1.Key)),(.d (.str z11.1.Text)),(.d (.sl ((z11.1.aL).map az) false)),(.d (.sl ((z11.1.Kids).map ak) false))],.box b8 [(.d (.str a7.Tag)),(.d (.str a7.Key)),(.d (.str a7.Text)),(.d (.sl ((a7.aL).map az) false)),(.d (.sl ((a7.Kids).map ak) false))]]) (H39.sl [2,3,4,0,1] rfl rfl) rfl (aH rfl rfl) (Aw E n _ _ _ hzz40 b1 v3 ws31 w32) (.cons (.refl _) (.cons (.refl _) .nil)) rfl ?_
      rintro _ S45 _ ⟨rfl,rfl⟩ H46
      have H47:Has B0 S45 [.box b15 [(.d (.str z11.1.Tag)),(.d (.str z11.1.Key)),(.d (.str z11.1.Text)),(.d (.sl ((z11.1.aL).map az) false)),(.d (.sl ((z11.1.Kids).map ak) false))],.box b8 [(.d (.str a7.Tag)),(.d (.str a7.Key)),(.d (.str a7.Text)),(.d (.sl ((a7.aL).map az) false)),(.d (.sl ((a7.Kids).map ak) false))],.box b1 [v3,w32],aA ae ah.kids 7 5 v3 ws31 z30.2.l none,aI w32 z30.2.freed]:=H46.sl [3,4,0,1,2] rfl rfl
      refine aj.nil ⟨_,_,_,rfl,(fun _ ht=>by cases ht; rfl),[some (.ptr b1 0 0),some (.d (.sl ((z36).map (D.int .i64)) false)),some (.d (.sl ((z40).map ak) false)),some (.ptr b8 0 4),some (.d (.sl ((a7.Kids).map ak) false)),some (.d (.sl ((z44).map (D.int .i64)) false)),some (.d (.sl ((z44).map (D.int .i64)) false))],(.o (.o (.new (.o (.o (.new (.new .nil))))))),(fun _ ht=>by cases ht; exact ⟨_,rfl,.refl _⟩),?_⟩
      refine ⟨[3,4,5,6],by kernel_rfl,?_,_,rfl,?_⟩
      ·
       refine .v rfl rfl rfl rfl (aF rfl jV rT rfl) ?_
       refine .v rfl rfl rfl rfl (aJ H47 (i:=1) rfl rfl (aU uW rfl)) ?_
       refine .cons rfl rfl rfl (.step ?_) ?_
       ·
        refine aj.ret rfl (aH rfl rfl) (ui E _ _ _ _ hzz44 _ _ (aQ.eq (aQ.eq .nil))) rfl ?_
        exact aj.nil ⟨_,_,rfl,fun _ ht=>by cases ht; exact ⟨rfl,.refl _⟩⟩
       refine .v rfl rfl rfl rfl (au rfl) ?_
       exact .nil
      refine aC.seq ?_
      refine aC.seq ?_
      refine aC.region E.obj rfl ?_
      refine aj.val rfl (aa rfl) rfl ?_
      refine aj.val rfl (bu rfl jh) rfl ?_
      refine aj.val rfl (aa rfl) rfl ?_
      obtain ⟨z48,hzz48,h⟩:=bind_some h
      refine aj.ret rfl (aH rfl rfl) (AA E _ _ _ _ hzz48 _ _ (aQ.eq (aQ.eq .nil))) rfl ?_
      refine aj.val rfl (bu rfl jh) rfl ?_
      refine aj.val rfl (aa rfl) rfl ?_
      refine aj.nil ?_
      refine aC.block ?_
      refine qd.start (B:=B0) (α:=ay × (List (List AV)) × AV × Int) (fun k a=>gz n (eB n) a6 a7 z36 z44 z48 k a.1 a.2.2.2=some r) (fun a=>[(0,(.ptr b1 0 0)),(1,(.d (.int .i64 a6))),(5,(.ptr b8 0 0)),(9,(.d (.sl ((z36).map (D.int .i64)) false))),(10,(.d (.sl ((z44).map (D.int .i64)) false))),(62,(.d (.sl ((z48).map (D.int .i64)) false))),(63,(.d (.int .i64 ((z48).length:Int)))),(64,(.d (.int .i64 a.2.2.2)))]) (fun a=>[.box b8 [(.d (.str a7.Tag)),(.d (.str a7.Key)),(.d (.str a7.Text)),(.d (.sl ((a7.aL).map az) false)),(.d (.sl ((a7.Kids).map ak) false))],.box b1 [v3,a.2.2.1],aA ae ah.kids 7 5 v3 a.2.1 a.1.l none,aI a.2.2.1 a.1.freed]) ?_ ?_ n ⟨⟨z30.2,ws31,w32,0⟩,_,_,S45,.refl _ _,.refl _,(ai.r rfl (ai.r rfl (ai.r rfl (ai.r rfl (ai.r rfl (ai.r rfl (ai.r rfl (ai.r rfl ai.nil)))))))),H47.sl [1,2,3,4] rfl rfl,h⟩
      ·
       intro a h; simp [gz] at h
      ·
       intro k63 a S57 H58 h
       obtain ⟨x59,ws60,w61,x62⟩:=a
       replace h:gz n (eB n) a6 a7 z36 z44 z48 (k63 + 1) x59 x62=some r:=h
       replace H58:Has B0 S57 [.box b8 [(.d (.str a7.Tag)),(.d (.str a7.Key)),(.d (.str a7.Text)),(.d (.sl ((a7.aL).map az) false)),(.d (.sl ((a7.Kids).map ak) false))],.box b1 [v3,w61],aA ae ah.kids 7 5 v3 ws60 x59.l none,aI w61 x59.freed]:=H58
       unfold gz at h
       refine aC.seq ?_
       refine aC.region E.obj rfl ?_
       refine aj.val rfl (aD rfl rfl dO) rfl ?_
       refine aj.nil ?_
       refine aC.seq ?_
       refine aC.cond rfl (fun hb64=>?_) (fun hb64=>?_)
       ·
        replace h:=dE hb64 h
        refine aC.skip ?_
        refine aC.seq ?_
        refine aC.block ?_
        refine aC.seq ?_
        refine aC.region E.obj rfl ?_
        obtain ⟨z65,hzz65,h⟩:=bind_some h
        refine aj.val rfl (bA rfl rfl (bS (enc:=(D.int .i64)) hzz65 fH pz (((fun _=>rfl) _).trans kH.symm))) rfl ?_
        refine aj.val rfl (aW rfl (bK nU rfl)) rfl ?_
        refine aj.val rfl (au rfl) rfl ?_
        refine aj.nil ?_
        refine aC.region E.obj rfl ?_
        refine aj.val rfl (aa rfl) rfl ?_
        refine aj.val rfl (aa rfl) rfl ?_
        refine aj.val rfl (aa rfl) rfl ?_
        obtain ⟨z66,hzz66,h⟩:=bind_some h
        refine aj.val rfl (bA rfl rfl (bS (enc:=(D.int .i64)) hzz66 fH pz (((fun _=>rfl) _).trans kH.symm))) rfl ?_
        refine aj.val rfl (aW rfl (bK nU rfl)) rfl ?_
        obtain ⟨z67,hzz67,h⟩:=bind_some h
        refine aj.eF (ins:=[.box b1 [v3,w61],aA ae ah.kids 7 5 v3 ws60 x59.l none,aI w61 x59.freed]) (more:=[.box b8 [(.d (.str a7.Tag)),(.d (.str a7.Key)),(.d (.str a7.Text)),(.d (.sl ((a7.aL).map az) false)),(.d (.sl ((a7.Kids).map ak) false))]]) (H58.sl [1,2,3,0] rfl rfl) rfl (aH rfl rfl) (jH E n _ _ _ hzz67 b1 v3 ws60 w61) (.cons (.refl _) (.cons (.refl _) .nil)) rfl ?_
        rintro _ S70 _ ⟨rfl,ws68,w69,rfl⟩ H71
        have H72:Has B0 S70 [.box b8 [(.d (.str a7.Tag)),(.d (.str a7.Key)),(.d (.str a7.Text)),(.d (.sl ((a7.aL).map az) false)),(.d (.sl ((a7.Kids).map ak) false))],.box b1 [v3,w69],aA ae ah.kids 7 5 v3 ws68 z67.2.l none,aI w69 z67.2.freed]:=H71.sl [3,0,1,2] rfl rfl
        refine aj.nil ?_
        refine aC.region E.obj rfl ?_
        refine aj.val rfl (aD rfl rfl dx) rfl ?_
        refine aj.val rfl (aa rfl) rfl ?_
        refine aj.nil ?_
        exact ⟨⟨z67.2,ws68,w69,(IntKind.wrap .i64 (x62 + 1))⟩,_,_,S70,.refl _ _,.refl _,(ai.r rfl (ai.r rfl (ai.r rfl (ai.r rfl (ai.r rfl (ai.r rfl (ai.r rfl (ai.r rfl ai.nil)))))))),H72.sl [0,1,2,3] rfl rfl,h⟩
       ·
        replace h:=dG hb64 h
        refine aC.exit ?_
        refine aC.seq ?_
        refine aC.seq ?_
        refine aC.region E.obj rfl ?_
        refine aj.val rfl (aF rfl jV rT rfl) rfl ?_
        refine aj.val rfl (aJ H58 (i:=0) rfl rfl (aU uW rfl)) rfl ?_
        refine aj.val rfl (bu rfl AO) rfl ?_
        refine aj.val rfl (aa rfl) rfl ?_
        refine aj.nil ?_
        refine aC.block ?_
        refine qd.start (B:=B0) (α:=ay × AV × (List (List AV)) × AV × Int) (fun k a=>dJ n (eB n) a6 a7 z36 z44 k a.1 a.2.2.2.2=some r) (fun a=>[(0,(.ptr b1 0 0)),(1,(.d (.int .i64 a6))),(9,(.d (.sl ((z36).map (D.int .i64)) false))),(10,(.d (.sl ((z44).map (D.int .i64)) false))),(76,(.d (.sl ((a7.Kids).map ak) false))),(77,(.d (.int .i64 ((a7.Kids).length:Int)))),(78,(.d (.int .i64 a.2.2.2.2)))]) (fun a=>[.box b1 [a.2.1,a.2.2.2.1],aA ae ah.kids 7 5 a.2.1 a.2.2.1 a.1.l none,aI a.2.2.2.1 a.1.freed]) ?_ ?_ n ⟨⟨x59,v3,ws60,w61,0⟩,_,_,S57,.refl _ _,.refl _,(ai.r rfl (ai.r rfl (ai.r rfl (ai.r rfl (ai.r rfl (ai.r rfl (ai.r rfl ai.nil))))))),H58.sl [1,2,3] rfl rfl,h⟩
        ·
         intro a h; simp [dJ] at h
        ·
         intro k89 a S82 H83 h
         obtain ⟨x84,v87,ws85,w86,x88⟩:=a
         replace h:dJ n (eB n) a6 a7 z36 z44 (k89 + 1) x84 x88=some r:=h
         replace H83:Has B0 S82 [.box b1 [v87,w86],aA ae ah.kids 7 5 v87 ws85 x84.l none,aI w86 x84.freed]:=H83
         unfold dJ at h
         refine aC.seq ?_
         refine aC.region E.obj rfl ?_
         refine aj.val rfl (aD rfl rfl dO) rfl ?_
         refine aj.nil ?_
         refine aC.seq ?_
         refine aC.cond rfl (fun hb90=>?_) (fun hb90=>?_)
         ·
          replace h:=dE hb90 h
          refine aC.skip ?_
          refine aC.join (B:=B0) (α:=ay × AV × (List (List AV)) × AV) (fun a=>iF x88 (dJ n (eB n) a6 a7 z36 z44 k89) a.1=some r) (fun a=>[(0,(.ptr b1 0 0)),(1,(.d (.int .i64 a6))),(9,(.d (.sl ((z36).map (D.int .i64)) false))),(10,(.d (.sl ((z44).map (D.int .i64)) false))),(76,(.d (.sl ((a7.Kids).map ak) false))),(77,(.d (.int .i64 ((a7.Kids).length:Int)))),(78,(.d (.int .i64 x88)))]) (fun a=>[.box b1 [a.2.1,a.2.2.2],aA ae ah.kids 7 5 a.2.1 a.2.2.1 a.1.l none,aI a.2.2.2 a.1.freed]) ?_ ?_
          ·
           intro a S91 H92 h
           obtain ⟨x93,v96,ws94,w95⟩:=a
           replace h:iF x88 (dJ n (eB n) a6 a7 z36 z44 k89) x93=some r:=h
           replace H92:Has B0 S91 [.box b1 [v96,w95],aA ae ah.kids 7 5 v96 ws94 x93.l none,aI w95 x93.freed]:=H92
           unfold iF at h
           refine aC.region E.obj rfl ?_
           refine aj.val rfl (aD rfl rfl dx) rfl ?_
           refine aj.val rfl (aa rfl) rfl ?_
           refine aj.nil ?_
           exact ⟨⟨x93,v96,ws94,w95,(IntKind.wrap .i64 (x88 + 1))⟩,_,_,S91,.refl _ _,.refl _,(ai.r rfl (ai.r rfl (ai.r rfl (ai.r rfl (ai.r rfl (ai.r rfl (ai.r rfl ai.nil))))))),H92.sl [0,1,2] rfl rfl,h⟩
          ·
           refine aC.block ?_
           refine aC.seq ?_
           refine aC.region E.obj rfl ?_
           refine aj.val rfl (aa rfl) rfl ?_
           obtain ⟨z98,hzz98,h⟩:=bind_some h
           refine aj.val rfl (bA rfl rfl (bS (enc:=ak) hzz98 qb kF ((Tree.len _).trans bY.symm))) rfl ?_
           refine aj.val rfl (aW rfl (Tree.rF fA bY)) rfl ?_
           refine aj.alloc H83 rfl qo jv rfl rfl (fun b99 S100 H101=>?_)
           refine aj.val rfl (au rfl) rfl ?_
           refine aj.store H101 (i:=0) rfl rfl rfl rfl (Tree.dN _) rfl bY rfl kF rfl rfl rfl (fun S102 H103=>?_)
           refine aj.nil ?_
           refine aC.seq ?_
           refine aC.seq ?_
           refine aC.region E.obj rfl ?_
           refine aj.val rfl (aa rfl) rfl ?_
           refine aj.val rfl (aa rfl) rfl ?_
           obtain ⟨z104,hzz104,h⟩:=bind_some h
           refine aj.val rfl (bA rfl rfl (bS (enc:=(D.int .i64)) hzz104 fH pz (((fun _=>rfl) _).trans kH.symm))) rfl ?_
           refine aj.val rfl (aW rfl (bK nU rfl)) rfl ?_
           refine aj.val rfl (aD rfl rfl dO) rfl ?_
           refine aj.nil ?_
           refine aC.cond rfl (fun hb105=>?_) (fun hb105=>?_)
           ·
            replace h:=dE hb105 h
            refine aC.seq ?_
            refine aC.region E.obj rfl ?_
            refine aj.val rfl (aa rfl) rfl ?_
            refine aj.val rfl (aa rfl) rfl ?_
            refine aj.val rfl (aa rfl) rfl ?_
            refine aj.val rfl (aJ H103 (i:=0) rfl rfl (aZ fA bY rfl)) rfl ?_
            refine aj.less (Less.agg' (d:=ak z98) (ax.eq rfl (ax.eq rfl (ax.eq rfl (ax.eq rfl (ax.eq rfl .nil))))) ((Tree.eq _).trans rfl)) ?_
            obtain ⟨z106,hzz106,h⟩:=bind_some h
            refine aj.eF (ins:=[.box b1 [v87,w86],aA ae ah.kids 7 5 v87 ws85 x84.l none,aI w86 x84.freed]) (more:=[.box b99 [(.d (.str z98.Tag)),(.d (.str z98.Key)),(.d (.str z98.Text)),(.d (.sl ((z98.aL).map az) false)),(.d (.sl ((z98.Kids).map ak) false))]]) (H103.sl [1,2,3,0] rfl rfl) rfl (aH rfl rfl) (nM E n _ _ _ hzz106 b1 v87 ws85 w86) (.cons (.refl _) (.cons (.refl _) .nil)) rfl ?_
            rintro _ S110 _ ⟨rfl,v107,ws108,w109,rfl⟩ H111
            have H112:Has B0 S110 [.box b99 [(.d (.str z98.Tag)),(.d (.str z98.Key)),(.d (.str z98.Text)),(.d (.sl ((z98.aL).map az) false)),(.d (.sl ((z98.Kids).map ak) false))],.box b1 [v107,w109],aA ae ah.kids 7 5 v107 ws108 z106.2.l none,aI w109 z106.2.freed]:=H111.sl [3,0,1,2] rfl rfl
            refine aj.val rfl (aa rfl) rfl ?_
            obtain ⟨z113,hzz113,h⟩:=bind_some h
            refine aj.eF (ins:=[.box b1 [v107,w109],aA ae ah.kids 7 5 v107 ws108 z106.2.l none,aI w109 z106.2.freed]) (more:=[.box b99 [(.d (.str z98.Tag)),(.d (.str z98.Key)),(.d (.str z98.Text)),(.d (.sl ((z98.aL).map az) false)),(.d (.sl ((z98.Kids).map ak) false))]]) (H112.sl [1,2,3,0] rfl rfl) rfl (aH rfl rfl) (lI E n _ _ _ _ _ hzz113 b1 v107 ws108 w109) (.cons (.refl _) (.cons (.refl _) (.cons (.refl _) (.cons (.refl _) .nil)))) rfl ?_
            rintro _ S116 _ ⟨rfl,ws114,w115,rfl⟩ H117
            have H118:Has B0 S116 [.box b99 [(.d (.str z98.Tag)),(.d (.str z98.Key)),(.d (.str z98.Text)),(.d (.sl ((z98.aL).map az) false)),(.d (.sl ((z98.Kids).map ak) false))],.box b1 [v107,w115],aA ae ah.kids 7 5 v107 ws114 z113.2.l none,aI w115 z113.2.freed]:=H117.sl [3,0,1,2] rfl rfl
            refine aj.nil ?_
            refine aC.exit ?_
            exact ⟨⟨z113.2,v107,ws114,w115⟩,_,_,S116,.refl _ _,.refl _,(ai.r rfl (ai.r rfl (ai.r rfl (ai.r rfl (ai.r rfl (ai.r rfl (ai.r rfl ai.nil))))))),H118.sl [1,2,3] rfl rfl,h⟩
           ·
            replace h:=dG hb105 h
            refine aC.skip ?_
            refine aC.seq ?_
            refine aC.region E.obj rfl ?_
            refine aj.val rfl (aa rfl) rfl ?_
            refine aj.val rfl (aa rfl) rfl ?_
            refine aj.val rfl (aa rfl) rfl ?_
            refine aj.val rfl (aa rfl) rfl ?_
            refine aj.val rfl (aa rfl) rfl ?_
            obtain ⟨z119,hzz119,h⟩:=bind_some h
            refine aj.val rfl (bA rfl rfl (bS (enc:=(D.int .i64)) hzz119 fH pz (((fun _=>rfl) _).trans kH.symm))) rfl ?_
            refine aj.val rfl (aW rfl (bK nU rfl)) rfl ?_
            obtain ⟨z120,hzz120,h⟩:=bind_some h
            refine aj.val rfl (bA rfl rfl (bS (enc:=(D.int .i64)) hzz120 fH pz (((fun _=>rfl) _).trans kH.symm))) rfl ?_
            refine aj.val rfl (aW rfl (bK nU rfl)) rfl ?_
            refine aj.val rfl (aa rfl) rfl ?_
            obtain ⟨z121,hzz121,h⟩:=bind_some h
            refine aj.eF (ins:=[.box b1 [v87,w86],aA ae ah.kids 7 5 v87 ws85 x84.l none,aI w86 x84.freed]) (more:=[.box b99 [(.d (.str z98.Tag)),(.d (.str z98.Key)),(.d (.str z98.Text)),(.d (.sl ((z98.aL).map az) false)),(.d (.sl ((z98.Kids).map ak) false))]]) (H103.sl [1,2,3,0] rfl rfl) rfl (aH rfl rfl) (lI E n _ _ _ _ _ hzz121 b1 v87 ws85 w86) (.cons (.refl _) (.cons (.refl _) (.cons (.refl _) (.cons (.refl _) .nil)))) rfl ?_
            rintro _ S124 _ ⟨rfl,ws122,w123,rfl⟩ H125
            have H126:Has B0 S124 [.box b99 [(.d (.str z98.Tag)),(.d (.str z98.Key)),(.d (.str z98.Text)),(.d (.sl ((z98.aL).map az) false)),(.d (.sl ((z98.Kids).map ak) false))],.box b1 [v87,w123],aA ae ah.kids 7 5 v87 ws122 z121.2.l none,aI w123 z121.2.freed]:=H125.sl [3,0,1,2] rfl rfl
            refine aj.nil ?_
            obtain ⟨z127,hzz127,h⟩:=bind_some h
            obtain ⟨z128,hzz128,h⟩:=bind_some h
            obtain ⟨z129,hzz129,h⟩:=bind_some h
            refine aC.gG E.obj jr NB [(0,none),(1,none),(9,none),(10,none),(76,none),(77,none),(78,none)] (by kernel_rfl) [9] (by decide) [some (.ptr b1 0 0),some (.d (.sl ((z36).map (D.int .i64)) false)),some (.d (.sl ((z44).map (D.int .i64)) false)),some (.d (.int .i64 x88)),some (.eptr (.int .i64 z127) 0),some (.d (.int .i64 z127)),some (.eptr (.int .i64 z128) 0),some (.d (.int .i64 z128)),some (.d (ak z98)),none] ?_
            refine ⟨[0,1,2,3,4,5,6,7,8],by kernel_rfl,?_,_,_,rfl,rfl,.step ?_⟩
            ·
             refine .v rfl rfl rfl rfl (aa rfl) ?_
             refine .v rfl rfl rfl rfl (aa rfl) ?_
             refine .v rfl rfl rfl rfl (aa rfl) ?_
             refine .v rfl rfl rfl rfl (aa rfl) ?_
             refine .v rfl rfl rfl rfl (bA rfl rfl (bS (enc:=(D.int .i64)) hzz127 fH pz (((fun _=>rfl) _).trans kH.symm))) ?_
             refine .v rfl rfl rfl rfl (aW rfl (bK nU rfl)) ?_
             refine .v rfl rfl rfl rfl (bA rfl rfl (bS (enc:=(D.int .i64)) hzz128 fH pz (((fun _=>rfl) _).trans kH.symm))) ?_
             refine .v rfl rfl rfl rfl (aW rfl (bK nU rfl)) ?_
             refine .cons rfl rfl rfl (.step ?_) ?_
             ·
              refine aj.val rfl (aJ H126 (i:=0) rfl rfl (aZ fA bY rfl)) rfl ?_
              refine aj.less (Less.agg' (d:=ak z98) (ax.eq rfl (ax.eq rfl (ax.eq rfl (ax.eq rfl (ax.eq rfl .nil))))) ((Tree.eq _).trans rfl)) ?_
              exact aj.nil ⟨_,_,rfl,fun _ ht=>by cases ht; exact ⟨rfl,.refl _⟩⟩
             exact .nil
            refine aj.eF (ins:=[.box b1 [v87,w123],aA ae ah.kids 7 5 v87 ws122 z121.2.l none,aI w123 z121.2.freed]) (more:=[.box b99 [(.d (.str z98.Tag)),(.d (.str z98.Key)),(.d (.str z98.Text)),(.d (.sl ((z98.aL).map az) false)),(.d (.sl ((z98.Kids).map ak) false))]]) (H126.sl [1,2,3,0] rfl rfl) rfl (aH rfl rfl) (ih _ _ _ _ hzz129 b1 v87 ws122 w123) (.cons (.refl _) (.cons (.refl _) (.cons (.refl _) .nil))) rfl ?_
            rintro _ S139 _ ⟨rfl,v136,ws137,w138,rfl⟩ H140
            have H141:Has B0 S139 [.box b99 [(.d (.str z98.Tag)),(.d (.str z98.Key)),(.d (.str z98.Text)),(.d (.sl ((z98.aL).map az) false)),(.d (.sl ((z98.Kids).map ak) false))],.box b1 [v136,w138],aA ae ah.kids 7 5 v136 ws137 z129.2.l none,aI w138 z129.2.freed]:=H140.sl [3,0,1,2] rfl rfl
            refine aj.nil ⟨_,_,_,rfl,(fun _ ht=>by cases ht; rfl),[some (.ptr b1 0 0),some (.d (.sl ((z36).map (D.int .i64)) false)),some (.d (.sl ((z44).map (D.int .i64)) false)),some (.d (.int .i64 x88)),some (.eptr (.int .i64 z127) 0),some (.d (.int .i64 z127)),some (.eptr (.int .i64 z128) 0),some (.d (.int .i64 z128)),some (.d (ak z98)),some (.d (.bool z129.1))],(.o (.o (.o (.o (.o (.o (.o (.o (.o (.new .nil)))))))))),(fun _ ht=>by cases ht; exact ⟨_,rfl,.refl _⟩),?_⟩
            refine ⟨[],by kernel_rfl,?_,_,rfl,?_⟩
            ·
             exact .nil
            exact ⟨⟨z129.2,v136,ws137,w138⟩,_,_,S139,.refl _ _,.refl _,(ai.r rfl (ai.r rfl (ai.r rfl (ai.r rfl (ai.r rfl (ai.r rfl (ai.r rfl ai.nil))))))),H141.sl [1,2,3] rfl rfl,h⟩
         ·
          replace h:=dG hb90 h
          refine aC.exit ?_
          refine aC.seq ?_
          refine aC.region E.obj rfl ?_
          refine aj.val rfl (au rfl) rfl ?_
          refine aj.nil ?_
          have hr:=Option.some.inj h
          subst hr
          exact aC.ret ⟨_,rfl,rfl,_,_,_,.refl _,(.refl _),⟨rfl,v87,ws85,w86,rfl⟩,H83.sl [0,1,2] rfl rfl⟩
set_option maxRecDepth 20000 in
set_option maxHeartbeats 4000000 in
theorem oV (n:Nat)  (r:Bool) (h:iw n  = some r):fw R cfg.P 42 [] (.d (.bool r)):=by
 unfold iw at h
 refine fw.of_wp E.obj.toObjOk (C:=cfg) Try.func42 rfl M8 rfl ?_
 have H0:Has aK aK []:=Has.pure
 refine aC.seq ?_
 refine aC.region E.obj rfl ?_
 refine aj.val rfl (au rfl) rfl ?_
 refine aj.nil ?_
 refine aC.seq ?_
 refine aC.region E.obj rfl ?_
 obtain ⟨z1,hzz1,h⟩:=bind_some h
 refine aj.eF (ins:=[]) (more:=[]) (H0.sl [] rfl rfl) rfl (aH rfl rfl) (zf E n  _ hzz1 ) .nil rfl ?_
 rintro v2 S3 l4 hr5 H6
 rcases z1 with _ | x7
 ·
  obtain ⟨rfl,rfl⟩:=hr5
  replace h:=Md h
  replace H6:Has aK S3 []:=H6
  refine aj.val rfl (au rfl) rfl ?_
  refine aj.nil ?_
  refine aC.seq ?_
  refine aC.seq ?_
  refine aC.region E.obj rfl ?_
  refine aj.val rfl (aa rfl) rfl ?_
  refine aj.val rfl (aD rfl rfl (lH JV)) rfl ?_
  refine aj.nil ?_
  refine aC.cond rfl (fun hb=>?_) (fun hb=>?_)
  ·
   refine aC.seq ?_
   refine aC.region E.obj rfl ?_
   refine aj.val rfl (au rfl) rfl ?_
   refine aj.nil ?_
   have hr:=Option.some.inj h
   subst hr
   exact aC.ret ⟨_,rfl,rfl,jW (aQ.eq .nil)⟩
  ·
   cases hb
 ·
  obtain ⟨b8,v9,ws10,w11,rfl,rfl⟩:=hr5
  replace h:=LZ h
  have H12:Has aK S3 [.box b8 [v9,w11],aA ae ah.kids 7 5 v9 ws10 x7.l none,aI w11 x7.freed]:=H6.sl [0,1,2] rfl rfl
  refine aj.val rfl (au rfl) rfl ?_
  refine aj.nil ?_
  refine aC.seq ?_
  refine aC.seq ?_
  refine aC.region E.obj rfl ?_
  refine aj.val rfl (aa rfl) rfl ?_
  refine aj.val rfl (aD rfl rfl (Cm JV)) rfl ?_
  refine aj.nil ?_
  refine aC.cond rfl (fun hb=>?_) (fun hb=>?_)
  ·
   cases hb
  ·
   refine aC.skip ?_
   refine aC.seq ?_
   refine aC.region E.obj rfl ?_
   refine aj.val rfl (fu (cs:=[(.d (.str [108,105])),(.d (.str [49])),(.d (.str [])),(.d .aS),(.d .aS)]) jv rfl (fC) (jl rfl rfl rfl rfl (jl rfl rfl rfl rfl rfl))) rfl ?_
   refine aj.less (Less.agg' (d:=ak (Tree.mk [108,105] [49] [] [] [])) (ax.eq rfl (ax.eq rfl (ax.eq rfl (ax.jI rfl (.aS false) rfl rfl (ax.jI rfl (.aS false) rfl rfl .nil))))) ((Tree.eq _).trans rfl)) ?_
   refine aj.val rfl (fu (cs:=[(.d (.str [108,105])),(.d (.str [50])),(.d (.str [])),(.d .aS),(.d .aS)]) jv rfl (fC) (jl rfl rfl rfl rfl (jl rfl rfl rfl rfl rfl))) rfl ?_
   refine aj.less (Less.agg' (d:=ak (Tree.mk [108,105] [50] [] [] [])) (ax.eq rfl (ax.eq rfl (ax.eq rfl (ax.jI rfl (.aS false) rfl rfl (ax.jI rfl (.aS false) rfl rfl .nil))))) ((Tree.eq _).trans rfl)) ?_
   refine aj.alloc H12 rfl qo jv rfl rfl (fun b13 S14 H15=>?_)
   refine aj.alloc H15 rfl qo jv rfl rfl (fun b16 S17 H18=>?_)
   refine aj.store H18 (i:=1) rfl rfl rfl rfl (Tree.dN _) rfl bY rfl kF rfl rfl rfl (fun S19 H20=>?_)
   refine aj.store H20 (i:=0) rfl rfl rfl rfl (Tree.dN _) rfl bY rfl kF rfl rfl rfl (fun S21 H22=>?_)
   refine aj.nil ?_
   refine aC.seq ?_
   refine aC.region E.obj rfl ?_
   refine aj.val rfl (aa rfl) rfl ?_
   refine aj.val rfl (aJ H22 (i:=1) rfl rfl (aZ fA bY rfl)) rfl ?_
   refine aj.less (Less.agg' (d:=ak (Tree.mk [108,105] [49] [] [] [])) (ax.eq rfl (ax.eq rfl (ax.eq rfl (ax.eq rfl (ax.eq rfl .nil))))) ((Tree.eq _).trans rfl)) ?_
   refine aj.val rfl (aJ H22 (i:=0) rfl rfl (aZ fA bY rfl)) rfl ?_
   refine aj.less (Less.agg' (d:=ak (Tree.mk [108,105] [50] [] [] [])) (ax.eq rfl (ax.eq rfl (ax.eq rfl (ax.eq rfl (ax.eq rfl .nil))))) ((Tree.eq _).trans rfl)) ?_
   refine aj.val rfl (cK (vs:=[(.d (ak (Tree.mk [108,105] [49] [] [] []))),(.d (ak (Tree.mk [108,105] [50] [] [] [])))]) (ds:=[(ak (Tree.mk [108,105] [49] [] [] [])),(ak (Tree.mk [108,105] [50] [] [] []))]) Am qb fA jv bY rfl (by decide) (.cons rfl (Tree.len _) (.cons rfl (Tree.len _) .nil)) rfl (by intro d hd; simp only [List.mem_cons,List.not_mem_nil,or_false] at hd; rcases hd with rfl | rfl <;> exact Tree.agg _) rfl) rfl ?_
   refine aj.val rfl (fu (cs:=[(.d (.str [117,108])),(.d (.str [])),(.d (.str [])),(.d .aS),(.d (.sl (([(Tree.mk [108,105] [49] [] [] []),(Tree.mk [108,105] [50] [] [] [])]).map ak) true))]) jv rfl (fC) (jl rfl rfl rfl rfl (jl rfl rfl rfl rfl rfl))) rfl ?_
   refine aj.less (Less.agg' (d:=ak (Tree.mk [117,108] [] [] [] [(Tree.mk [108,105] [49] [] [] []),(Tree.mk [108,105] [50] [] [] [])])) (ax.eq rfl (ax.eq rfl (ax.eq rfl (ax.jI rfl (.aS false) rfl rfl (ax.jI rfl (.vI _ _) rfl rfl .nil))))) ((Tree.eq _).trans rfl)) ?_
   obtain ⟨z23,hzz23,h⟩:=bind_some h
   refine aj.eF (ins:=[.box b8 [v9,w11],aA ae ah.kids 7 5 v9 ws10 x7.l none,aI w11 x7.freed]) (more:=[.box b16 [(.d (.str (Tree.mk [108,105] [50] [] [] []).Tag)),(.d (.str (Tree.mk [108,105] [50] [] [] []).Key)),(.d (.str (Tree.mk [108,105] [50] [] [] []).Text)),(.d (.sl (((Tree.mk [108,105] [50] [] [] []).aL).map az) false)),(.d (.sl (((Tree.mk [108,105] [50] [] [] []).Kids).map ak) false))],.box b13 [(.d (.str (Tree.mk [108,105] [49] [] [] []).Tag)),(.d (.str (Tree.mk [108,105] [49] [] [] []).Key)),(.d (.str (Tree.mk [108,105] [49] [] [] []).Text)),(.d (.sl (((Tree.mk [108,105] [49] [] [] []).aL).map az) false)),(.d (.sl (((Tree.mk [108,105] [49] [] [] []).Kids).map ak) false))]]) (H22.sl [2,3,4,0,1] rfl rfl) rfl (aH rfl rfl) (nM E n _ _ _ hzz23 b8 v9 ws10 w11) (.cons (.refl _) (.cons (.refl _) .nil)) rfl ?_
   rintro _ S27 _ ⟨rfl,v24,ws25,w26,rfl⟩ H28
   have H29:Has aK S27 [.box b16 [(.d (.str (Tree.mk [108,105] [50] [] [] []).Tag)),(.d (.str (Tree.mk [108,105] [50] [] [] []).Key)),(.d (.str (Tree.mk [108,105] [50] [] [] []).Text)),(.d (.sl (((Tree.mk [108,105] [50] [] [] []).aL).map az) false)),(.d (.sl (((Tree.mk [108,105] [50] [] [] []).Kids).map ak) false))],.box b13 [(.d (.str (Tree.mk [108,105] [49] [] [] []).Tag)),(.d (.str (Tree.mk [108,105] [49] [] [] []).Key)),(.d (.str (Tree.mk [108,105] [49] [] [] []).Text)),(.d (.sl (((Tree.mk [108,105] [49] [] [] []).aL).map az) false)),(.d (.sl (((Tree.mk [108,105] [49] [] [] []).Kids).map ak) false))],.box b8 [v24,w26],aA ae ah.kids 7 5 v24 ws25 z23.2.l none,aI w26 z23.2.freed]:=H28.sl [3,4,0,1,2] rfl rfl
   refine aj.val rfl (au rfl) rfl ?_
   refine aj.nil ?_
   refine aC.seq ?_
   refine aC.region E.obj rfl ?_
   refine aj.val rfl (aa rfl) rfl ?_
   refine aj.val rfl (aa rfl) rfl ?_
   obtain ⟨z30,hzz30,h⟩:=bind_some h
   refine aj.eF (ins:=[.box b8 [v24,w26],aA ae ah.kids 7 5 v24 ws25 z23.2.l none,aI w26 z23.2.freed]) (more:=[.box b16 [(.d (.str (Tree.mk [108,105] [50] [] [] []).Tag)),(.d (.str (Tree.mk [108,105] [50] [] [] []).Key)),(.d (.str (Tree.mk [108,105] [50] [] [] []).Text)),(.d (.sl (((Tree.mk [108,105] [50] [] [] []).aL).map az) false)),(.d (.sl (((Tree.mk [108,105] [50] [] [] []).Kids).map ak) false))],.box b13 [(.d (.str (Tree.mk [108,105] [49] [] [] []).Tag)),(.d (.str (Tree.mk [108,105] [49] [] [] []).Key)),(.d (.str (Tree.mk [108,105] [49] [] [] []).Text)),(.d (.sl (((Tree.mk [108,105] [49] [] [] []).aL).map az) false)),(.d (.sl (((Tree.mk [108,105] [49] [] [] []).Kids).map ak) false))]]) (H29.sl [2,3,4,0,1] rfl rfl) rfl (aH rfl rfl) (iL E n _ _ _ hzz30 b8 v24 ws25 w26) (.cons (.refl _) (.cons (.refl _) .nil)) rfl ?_
   rintro _ S31 _ ⟨rfl,rfl⟩ H32
   have H33:Has aK S31 [.box b16 [(.d (.str (Tree.mk [108,105] [50] [] [] []).Tag)),(.d (.str (Tree.mk [108,105] [50] [] [] []).Key)),(.d (.str (Tree.mk [108,105] [50] [] [] []).Text)),(.d (.sl (((Tree.mk [108,105] [50] [] [] []).aL).map az) false)),(.d (.sl (((Tree.mk [108,105] [50] [] [] []).Kids).map ak) false))],.box b13 [(.d (.str (Tree.mk [108,105] [49] [] [] []).Tag)),(.d (.str (Tree.mk [108,105] [49] [] [] []).Key)),(.d (.str (Tree.mk [108,105] [49] [] [] []).Text)),(.d (.sl (((Tree.mk [108,105] [49] [] [] []).aL).map az) false)),(.d (.sl (((Tree.mk [108,105] [49] [] [] []).Kids).map ak) false))],.box b8 [v24,w26],aA ae ah.kids 7 5 v24 ws25 z23.2.l none,aI w26 z23.2.freed]:=H32.sl [3,4,0,1,2] rfl rfl
   refine aj.val rfl (au rfl) rfl ?_
   refine aj.nil ?_
   refine aC.seq ?_
   refine aC.region E.obj rfl ?_
   refine aj.val rfl (aa rfl) rfl ?_
   refine aj.val rfl (aa rfl) rfl ?_
   refine aj.val rfl (aJ H33 (i:=0) rfl rfl (aZ fA bY rfl)) rfl ?_
   refine aj.less (Less.agg' (d:=ak (Tree.mk [108,105] [50] [] [] [])) (ax.eq rfl (ax.eq rfl (ax.eq rfl (ax.eq rfl (ax.eq rfl .nil))))) ((Tree.eq _).trans rfl)) ?_
   refine aj.val rfl (aJ H33 (i:=1) rfl rfl (aZ fA bY rfl)) rfl ?_
   refine aj.less (Less.agg' (d:=ak (Tree.mk [108,105] [49] [] [] [])) (ax.eq rfl (ax.eq rfl (ax.eq rfl (ax.eq rfl (ax.eq rfl .nil))))) ((Tree.eq _).trans rfl)) ?_
   refine aj.val rfl (cK (vs:=[(.d (ak (Tree.mk [108,105] [50] [] [] []))),(.d (ak (Tree.mk [108,105] [49] [] [] [])))]) (ds:=[(ak (Tree.mk [108,105] [50] [] [] [])),(ak (Tree.mk [108,105] [49] [] [] []))]) Am qb fA jv bY rfl (by decide) (.cons rfl (Tree.len _) (.cons rfl (Tree.len _) .nil)) rfl (by intro d hd; simp only [List.mem_cons,List.not_mem_nil,or_false] at hd; rcases hd with rfl | rfl <;> exact Tree.agg _) rfl) rfl ?_
   refine aj.val rfl (fu (cs:=[(.d (.str [117,108])),(.d (.str [])),(.d (.str [])),(.d .aS),(.d (.sl (([(Tree.mk [108,105] [50] [] [] []),(Tree.mk [108,105] [49] [] [] [])]).map ak) true))]) jv rfl (fC) (jl rfl rfl rfl rfl (jl rfl rfl rfl rfl rfl))) rfl ?_
   refine aj.less (Less.agg' (d:=ak (Tree.mk [117,108] [] [] [] [(Tree.mk [108,105] [50] [] [] []),(Tree.mk [108,105] [49] [] [] [])])) (ax.eq rfl (ax.eq rfl (ax.eq rfl (ax.jI rfl (.aS false) rfl rfl (ax.jI rfl (.vI _ _) rfl rfl .nil))))) ((Tree.eq _).trans rfl)) ?_
   obtain ⟨z34,hzz34,h⟩:=bind_some h
   refine aj.eF (ins:=[.box b8 [v24,w26],aA ae ah.kids 7 5 v24 ws25 z23.2.l none,aI w26 z23.2.freed]) (more:=[.box b16 [(.d (.str (Tree.mk [108,105] [50] [] [] []).Tag)),(.d (.str (Tree.mk [108,105] [50] [] [] []).Key)),(.d (.str (Tree.mk [108,105] [50] [] [] []).Text)),(.d (.sl (((Tree.mk [108,105] [50] [] [] []).aL).map az) false)),(.d (.sl (((Tree.mk [108,105] [50] [] [] []).Kids).map ak) false))],.box b13 [(.d (.str (Tree.mk [108,105] [49] [] [] []).Tag)),(.d (.str (Tree.mk [108,105] [49] [] [] []).Key)),(.d (.str (Tree.mk [108,105] [49] [] [] []).Text)),(.d (.sl (((Tree.mk [108,105] [49] [] [] []).aL).map az) false)),(.d (.sl (((Tree.mk [108,105] [49] [] [] []).Kids).map ak) false))]]) (H33.sl [2,3,4,0,1] rfl rfl) rfl (aH rfl rfl) (kL E n _ _ _ _ hzz34 b8 v24 ws25 w26) (.cons (.refl _) (.cons (.refl _) (.cons (.refl _) .nil))) rfl ?_
   rintro _ S38 _ ⟨rfl,v35,ws36,w37,rfl⟩ H39
   have H40:Has aK S38 [.box b16 [(.d (.str (Tree.mk [108,105] [50] [] [] []).Tag)),(.d (.str (Tree.mk [108,105] [50] [] [] []).Key)),(.d (.str (Tree.mk [108,105] [50] [] [] []).Text)),(.d (.sl (((Tree.mk [108,105] [50] [] [] []).aL).map az) false)),(.d (.sl (((Tree.mk [108,105] [50] [] [] []).Kids).map ak) false))],.box b13 [(.d (.str (Tree.mk [108,105] [49] [] [] []).Tag)),(.d (.str (Tree.mk [108,105] [49] [] [] []).Key)),(.d (.str (Tree.mk [108,105] [49] [] [] []).Text)),(.d (.sl (((Tree.mk [108,105] [49] [] [] []).aL).map az) false)),(.d (.sl (((Tree.mk [108,105] [49] [] [] []).Kids).map ak) false))],.box b8 [v35,w37],aA ae ah.kids 7 5 v35 ws36 z34.2.l none,aI w37 z34.2.freed]:=H39.sl [3,4,0,1,2] rfl rfl
   refine aj.val rfl (au rfl) rfl ?_
   refine aj.nil ?_
   refine aC.seq ?_
   refine aC.region E.obj rfl ?_
   refine aj.val rfl (aa rfl) rfl ?_
   refine aj.val rfl (aa rfl) rfl ?_
   obtain ⟨z41,hzz41,h⟩:=bind_some h
   refine aj.eF (ins:=[.box b8 [v35,w37],aA ae ah.kids 7 5 v35 ws36 z34.2.l none,aI w37 z34.2.freed]) (more:=[.box b16 [(.d (.str (Tree.mk [108,105] [50] [] [] []).Tag)),(.d (.str (Tree.mk [108,105] [50] [] [] []).Key)),(.d (.str (Tree.mk [108,105] [50] [] [] []).Text)),(.d (.sl (((Tree.mk [108,105] [50] [] [] []).aL).map az) false)),(.d (.sl (((Tree.mk [108,105] [50] [] [] []).Kids).map ak) false))],.box b13 [(.d (.str (Tree.mk [108,105] [49] [] [] []).Tag)),(.d (.str (Tree.mk [108,105] [49] [] [] []).Key)),(.d (.str (Tree.mk [108,105] [49] [] [] []).Text)),(.d (.sl (((Tree.mk [108,105] [49] [] [] []).aL).map az) false)),(.d (.sl (((Tree.mk [108,105] [49] [] [] []).Kids).map ak) false))]]) (H40.sl [2,3,4,0,1] rfl rfl) rfl (aH rfl rfl) (iL E n _ _ _ hzz41 b8 v35 ws36 w37) (.cons (.refl _) (.cons (.refl _) .nil)) rfl ?_
   rintro _ S42 _ ⟨rfl,rfl⟩ H43
   have H44:Has aK S42 [.box b16 [(.d (.str (Tree.mk [108,105] [50] [] [] []).Tag)),(.d (.str (Tree.mk [108,105] [50] [] [] []).Key)),(.d (.str (Tree.mk [108,105] [50] [] [] []).Text)),(.d (.sl (((Tree.mk [108,105] [50] [] [] []).aL).map az) false)),(.d (.sl (((Tree.mk [108,105] [50] [] [] []).Kids).map ak) false))],.box b13 [(.d (.str (Tree.mk [108,105] [49] [] [] []).Tag)),(.d (.str (Tree.mk [108,105] [49] [] [] []).Key)),(.d (.str (Tree.mk [108,105] [49] [] [] []).Text)),(.d (.sl (((Tree.mk [108,105] [49] [] [] []).aL).map az) false)),(.d (.sl (((Tree.mk [108,105] [49] [] [] []).Kids).map ak) false))],.box b8 [v35,w37],aA ae ah.kids 7 5 v35 ws36 z34.2.l none,aI w37 z34.2.freed]:=H43.sl [3,4,0,1,2] rfl rfl
   refine aj.val rfl (au rfl) rfl ?_
   refine aj.nil ?_
   refine aC.join (B:=aK) (α:=ay × (List (List AV)) × AV × Bool) (fun a=>bD a.1 a.2.2.2=some r) (fun a=>[(0,(.d (.bool a.2.2.2)))]) (fun a=>[]) ?_ ?_
   ·
    intro a S45 H46 h
    obtain ⟨x47,ws48,w49,x50⟩:=a
    replace h:bD x47 x50=some r:=h
    replace H46:Has aK S45 []:=H46
    unfold bD at h
    have hr:=Option.some.inj h
    subst hr
    exact aC.ret ⟨_,rfl,rfl,jW (aQ.eq .nil)⟩
   ·
    rcases Bool.eq_false_or_eq_true ((z23.1 == 2)) with hb52 | hb52
    ·
     replace h:=dE hb52 h
     rcases Bool.eq_false_or_eq_true (z34.1) with hb53 | hb53
     ·
      replace h:=dE hb53 h
      rcases Bool.eq_false_or_eq_true ((((z30).length:Int) == 2)) with hb54 | hb54
      ·
       replace h:=dE hb54 h
       rcases Bool.eq_false_or_eq_true ((((z41).length:Int) == 2)) with hb55 | hb55
       ·
        replace h:=dE hb55 h
        obtain ⟨z56,hzz56,h⟩:=bind_some h
        obtain ⟨z57,hzz57,h⟩:=bind_some h
        rcases Bool.eq_false_or_eq_true ((z56 == z57)) with hb58 | hb58
        ·
         replace h:=dE hb58 h
         obtain ⟨z59,hzz59,h⟩:=bind_some h
         obtain ⟨z60,hzz60,h⟩:=bind_some h
         rcases Bool.eq_false_or_eq_true ((z59 == z60)) with hb61 | hb61
         ·
          replace h:=dE hb61 h
          obtain ⟨z62,hzz62,h⟩:=bind_some h
          rcases Bool.eq_false_or_eq_true ((z62.1 == 3)) with hb68 | hb68
          ·
           replace h:=dE hb68 h
           obtain ⟨z69,hzz69,h⟩:=bind_some h
           refine aC.gG E.obj jr Dj [(0,some 44)] (by kernel_rfl) [36,41] (by decide) [some (.d (.int .i64 z23.1)),some (.d (.bool (z23.1 == 2))),some (.d (.bool true)),some (.d (.bool z34.1)),some (.d (.bool z34.1)),some (.d (.bool true)),some (.d (.sl ((z30).map (D.int .i64)) false)),some (.d (.int .i64 ((z30).length:Int))),some (.d (.bool (((z30).length:Int) == 2))),some (.d (.bool (((z30).length:Int) == 2))),some (.d (.bool true)),some (.d (.sl ((z41).map (D.int .i64)) false)),some (.d (.int .i64 ((z41).length:Int))),some (.d (.bool (((z41).length:Int) == 2))),some (.d (.bool (((z41).length:Int) == 2))),some (.d (.bool true)),some (.d (.sl ((z30).map (D.int .i64)) false)),some (.eptr (.int .i64 z56) 0),some (.d (.int .i64 z56)),some (.d (.sl ((z41).map (D.int .i64)) false)),some (.eptr (.int .i64 z57) 0),some (.d (.int .i64 z57)),some (.d (.bool (z56 == z57))),some (.d (.bool (z56 == z57))),some (.d (.bool true)),some (.d (.sl ((z30).map (D.int .i64)) false)),some (.eptr (.int .i64 z59) 0),some (.d (.int .i64 z59)),some (.d (.sl ((z41).map (D.int .i64)) false)),some (.eptr (.int .i64 z60) 0),some (.d (.int .i64 z60)),some (.d (.bool (z59 == z60))),some (.d (.bool (z59 == z60))),some (.d (.bool true)),some (.ptr b8 0 0),some (.d (.int .i64 z23.1)),none,none,none,none,none,none,none,none,none] ?_
           refine ⟨[0,1,2,3,4,5,6,7,8,9,10,11,12,13,14,15,16,17,18,19,20,21,22,23,24,25,26,27,28,29,30,31,32,33,34,35],by kernel_rfl,?_,_,_,rfl,rfl,.step ?_⟩
           ·
            refine .v rfl rfl rfl rfl (aa rfl) ?_
            refine .v rfl rfl rfl rfl (aD rfl rfl bq) ?_
            refine .cons rfl rfl rfl (.val rfl (aa rfl) (.eq (by rw [hb52]))) ?_
            refine .v rfl rfl rfl rfl (aa rfl) ?_
            refine .v rfl rfl rfl rfl (aB (b:=true) rfl rfl) ?_
            refine .cons rfl rfl rfl (.val rfl (aa rfl) (.eq (by rw [hb53]))) ?_
            refine .v rfl rfl rfl rfl (aa rfl) ?_
            refine .v rfl rfl rfl rfl (bu rfl jh) ?_
            refine .v rfl rfl rfl rfl (aD rfl rfl bq) ?_
            refine .v rfl rfl rfl rfl (aB (b:=true) rfl rfl) ?_
            refine .cons rfl rfl rfl (.val rfl (aa rfl) (.eq (by rw [hb54]))) ?_
            refine .v rfl rfl rfl rfl (aa rfl) ?_
            refine .v rfl rfl rfl rfl (bu rfl jh) ?_
            refine .v rfl rfl rfl rfl (aD rfl rfl bq) ?_
            refine .v rfl rfl rfl rfl (aB (b:=true) rfl rfl) ?_
            refine .cons rfl rfl rfl (.val rfl (aa rfl) (.eq (by rw [hb55]))) ?_
            refine .v rfl rfl rfl rfl (aa rfl) ?_
            refine .v rfl rfl rfl rfl (bA rfl rfl (bS (enc:=(D.int .i64)) hzz56 fH pz (((fun _=>rfl) _).trans kH.symm))) ?_
            refine .v rfl rfl rfl rfl (aW rfl (bK nU rfl)) ?_
            refine .v rfl rfl rfl rfl (aa rfl) ?_
            refine .v rfl rfl rfl rfl (bA rfl rfl (bS (enc:=(D.int .i64)) hzz57 fH pz (((fun _=>rfl) _).trans kH.symm))) ?_
            refine .v rfl rfl rfl rfl (aW rfl (bK nU rfl)) ?_
            refine .v rfl rfl rfl rfl (aD rfl rfl bq) ?_
            refine .v rfl rfl rfl rfl (aB (b:=true) rfl rfl) ?_
            refine .cons rfl rfl rfl (.val rfl (aa rfl) (.eq (by rw [hb58]))) ?_
            refine .v rfl rfl rfl rfl (aa rfl) ?_
            refine .v rfl rfl rfl rfl (bA rfl rfl (bS (enc:=(D.int .i64)) hzz59 fH pz (((fun _=>rfl) _).trans kH.symm))) ?_
            refine .v rfl rfl rfl rfl (aW rfl (bK nU rfl)) ?_
            refine .v rfl rfl rfl rfl (aa rfl) ?_
            refine .v rfl rfl rfl rfl (bA rfl rfl (bS (enc:=(D.int .i64)) hzz60 fH pz (((fun _=>rfl) _).trans kH.symm))) ?_
            refine .v rfl rfl rfl rfl (aW rfl (bK nU rfl)) ?_
            refine .v rfl rfl rfl rfl (aD rfl rfl bq) ?_
            refine .v rfl rfl rfl rfl (aB (b:=true) rfl rfl) ?_
            refine .cons rfl rfl rfl (.val rfl (aa rfl) (.eq (by rw [hb61]))) ?_
            refine .v rfl rfl rfl rfl (aa rfl) ?_
            refine .v rfl rfl rfl rfl (aa rfl) ?_
            exact .nil
           refine aj.eF (ins:=[.box b8 [v35,w37],aA ae ah.kids 7 5 v35 ws36 z34.2.l none,aI w37 z34.2.freed]) (more:=[.box b16 [(.d (.str (Tree.mk [108,105] [50] [] [] []).Tag)),(.d (.str (Tree.mk [108,105] [50] [] [] []).Key)),(.d (.str (Tree.mk [108,105] [50] [] [] []).Text)),(.d (.sl (((Tree.mk [108,105] [50] [] [] []).aL).map az) false)),(.d (.sl (((Tree.mk [108,105] [50] [] [] []).Kids).map ak) false))],.box b13 [(.d (.str (Tree.mk [108,105] [49] [] [] []).Tag)),(.d (.str (Tree.mk [108,105] [49] [] [] []).Key)),(.d (.str (Tree.mk [108,105] [49] [] [] []).Text)),(.d (.sl (((Tree.mk [108,105] [49] [] [] []).aL).map az) false)),(.d (.sl (((Tree.mk [108,105] [49] [] [] []).Kids).map ak) false))]]) (H44.sl [2,3,4,0,1] rfl rfl) rfl (aH rfl rfl) (jH E n _ _ _ hzz62 b8 v35 ws36 w37) (.cons (.refl _) (.cons (.refl _) .nil)) rfl ?_
           rintro _ S75 _ ⟨rfl,ws73,w74,rfl⟩ H76
           have H77:Has aK S75 [.box b16 [(.d (.str (Tree.mk [108,105] [50] [] [] []).Tag)),(.d (.str (Tree.mk [108,105] [50] [] [] []).Key)),(.d (.str (Tree.mk [108,105] [50] [] [] []).Text)),(.d (.sl (((Tree.mk [108,105] [50] [] [] []).aL).map az) false)),(.d (.sl (((Tree.mk [108,105] [50] [] [] []).Kids).map ak) false))],.box b13 [(.d (.str (Tree.mk [108,105] [49] [] [] []).Tag)),(.d (.str (Tree.mk [108,105] [49] [] [] []).Key)),(.d (.str (Tree.mk [108,105] [49] [] [] []).Text)),(.d (.sl (((Tree.mk [108,105] [49] [] [] []).aL).map az) false)),(.d (.sl (((Tree.mk [108,105] [49] [] [] []).Kids).map ak) false))],.box b8 [v35,w74],aA ae ah.kids 7 5 v35 ws73 z62.2.l none,aI w74 z62.2.freed]:=H76.sl [3,4,0,1,2] rfl rfl
           refine aj.nil ⟨_,_,_,rfl,(fun _ ht=>by cases ht; rfl),[some (.d (.int .i64 z23.1)),some (.d (.bool (z23.1 == 2))),some (.d (.bool true)),some (.d (.bool z34.1)),some (.d (.bool z34.1)),some (.d (.bool true)),some (.d (.sl ((z30).map (D.int .i64)) false)),some (.d (.int .i64 ((z30).length:Int))),some (.d (.bool (((z30).length:Int) == 2))),some (.d (.bool (((z30).length:Int) == 2))),some (.d (.bool true)),some (.d (.sl ((z41).map (D.int .i64)) false)),some (.d (.int .i64 ((z41).length:Int))),some (.d (.bool (((z41).length:Int) == 2))),some (.d (.bool (((z41).length:Int) == 2))),some (.d (.bool true)),some (.d (.sl ((z30).map (D.int .i64)) false)),some (.eptr (.int .i64 z56) 0),some (.d (.int .i64 z56)),some (.d (.sl ((z41).map (D.int .i64)) false)),some (.eptr (.int .i64 z57) 0),some (.d (.int .i64 z57)),some (.d (.bool (z56 == z57))),some (.d (.bool (z56 == z57))),some (.d (.bool true)),some (.d (.sl ((z30).map (D.int .i64)) false)),some (.eptr (.int .i64 z59) 0),some (.d (.int .i64 z59)),some (.d (.sl ((z41).map (D.int .i64)) false)),some (.eptr (.int .i64 z60) 0),some (.d (.int .i64 z60)),some (.d (.bool (z59 == z60))),some (.d (.bool (z59 == z60))),some (.d (.bool true)),some (.ptr b8 0 0),some (.d (.int .i64 z23.1)),some (.d (.int .i64 z62.1)),some (.d (.bool (z62.1 == 3))),some (.d (.bool (z62.1 == 3))),some (.d (.bool true)),some (.ptr b8 0 0),none,none,none,none],(.o (.o (.o (.o (.o (.o (.o (.o (.o (.o (.o (.o (.o (.o (.o (.o (.o (.o (.o (.o (.o (.o (.o (.o (.o (.o (.o (.o (.o (.o (.o (.o (.o (.o (.o (.o (.new (.new (.new (.new (.new (.new (.new (.new (.new .nil))))))))))))))))))))))))))))))))))))))))))))),(fun _ ht=>by cases ht; exact ⟨_,rfl,.refl _⟩),?_⟩
           refine ⟨[37,38,39,40],by kernel_rfl,?_,_,_,rfl,rfl,.step ?_⟩
           ·
            refine .v rfl rfl rfl rfl (aD rfl rfl bq) ?_
            refine .v rfl rfl rfl rfl (aB (b:=true) rfl rfl) ?_
            refine .cons rfl rfl rfl (.val rfl (aa rfl) (.eq (by rw [hb68]))) ?_
            refine .v rfl rfl rfl rfl (aa rfl) ?_
            exact .nil
           refine aj.eF (ins:=[.box b8 [v35,w74],aA ae ah.kids 7 5 v35 ws73 z62.2.l none,aI w74 z62.2.freed]) (more:=[.box b16 [(.d (.str (Tree.mk [108,105] [50] [] [] []).Tag)),(.d (.str (Tree.mk [108,105] [50] [] [] []).Key)),(.d (.str (Tree.mk [108,105] [50] [] [] []).Text)),(.d (.sl (((Tree.mk [108,105] [50] [] [] []).aL).map az) false)),(.d (.sl (((Tree.mk [108,105] [50] [] [] []).Kids).map ak) false))],.box b13 [(.d (.str (Tree.mk [108,105] [49] [] [] []).Tag)),(.d (.str (Tree.mk [108,105] [49] [] [] []).Key)),(.d (.str (Tree.mk [108,105] [49] [] [] []).Text)),(.d (.sl (((Tree.mk [108,105] [49] [] [] []).aL).map az) false)),(.d (.sl (((Tree.mk [108,105] [49] [] [] []).Kids).map ak) false))]]) (H77.sl [2,3,4,0,1] rfl rfl) rfl (aH rfl rfl) (dF E n _ _ hzz69 b8 v35 ws73 w74) (.cons (.refl _) .nil) rfl ?_
           rintro _ S78 _ ⟨rfl,rfl⟩ H79
           have H80:Has aK S78 [.box b16 [(.d (.str (Tree.mk [108,105] [50] [] [] []).Tag)),(.d (.str (Tree.mk [108,105] [50] [] [] []).Key)),(.d (.str (Tree.mk [108,105] [50] [] [] []).Text)),(.d (.sl (((Tree.mk [108,105] [50] [] [] []).aL).map az) false)),(.d (.sl (((Tree.mk [108,105] [50] [] [] []).Kids).map ak) false))],.box b13 [(.d (.str (Tree.mk [108,105] [49] [] [] []).Tag)),(.d (.str (Tree.mk [108,105] [49] [] [] []).Key)),(.d (.str (Tree.mk [108,105] [49] [] [] []).Text)),(.d (.sl (((Tree.mk [108,105] [49] [] [] []).aL).map az) false)),(.d (.sl (((Tree.mk [108,105] [49] [] [] []).Kids).map ak) false))],.box b8 [v35,w74],aA ae ah.kids 7 5 v35 ws73 z62.2.l none,aI w74 z62.2.freed]:=H79.sl [3,4,0,1,2] rfl rfl
           refine aj.nil ⟨_,_,_,rfl,(fun _ ht=>by cases ht; rfl),[some (.d (.int .i64 z23.1)),some (.d (.bool (z23.1 == 2))),some (.d (.bool true)),some (.d (.bool z34.1)),some (.d (.bool z34.1)),some (.d (.bool true)),some (.d (.sl ((z30).map (D.int .i64)) false)),some (.d (.int .i64 ((z30).length:Int))),some (.d (.bool (((z30).length:Int) == 2))),some (.d (.bool (((z30).length:Int) == 2))),some (.d (.bool true)),some (.d (.sl ((z41).map (D.int .i64)) false)),some (.d (.int .i64 ((z41).length:Int))),some (.d (.bool (((z41).length:Int) == 2))),some (.d (.bool (((z41).length:Int) == 2))),some (.d (.bool true)),some (.d (.sl ((z30).map (D.int .i64)) false)),some (.eptr (.int .i64 z56) 0),some (.d (.int .i64 z56)),some (.d (.sl ((z41).map (D.int .i64)) false)),some (.eptr (.int .i64 z57) 0),some (.d (.int .i64 z57)),some (.d (.bool (z56 == z57))),some (.d (.bool (z56 == z57))),some (.d (.bool true)),some (.d (.sl ((z30).map (D.int .i64)) false)),some (.eptr (.int .i64 z59) 0),some (.d (.int .i64 z59)),some (.d (.sl ((z41).map (D.int .i64)) false)),some (.eptr (.int .i64 z60) 0),some (.d (.int .i64 z60)),some (.d (.bool (z59 == z60))),some (.d (.bool (z59 == z60))),some (.d (.bool true)),some (.ptr b8 0 0),some (.d (.int .i64 z23.1)),some (.d (.int .i64 z62.1)),some (.d (.bool (z62.1 == 3))),some (.d (.bool (z62.1 == 3))),some (.d (.bool true)),some (.ptr b8 0 0),some (.d (.int .i64 z69)),some (.d (.bool (z69 == 1))),some (.d (.bool (z69 == 1))),some (.d (.bool (z69 == 1)))],(.o (.o (.o (.o (.o (.o (.o (.o (.o (.o (.o (.o (.o (.o (.o (.o (.o (.o (.o (.o (.o (.o (.o (.o (.o (.o (.o (.o (.o (.o (.o (.o (.o (.o (.o (.o (.o (.o (.o (.o (.o (.new (.new (.new (.new .nil))))))))))))))))))))))))))))))))))))))))))))),(fun _ ht=>by cases ht; exact ⟨_,rfl,.refl _⟩),?_⟩
           refine ⟨[42,43,44],by kernel_rfl,?_,_,rfl,?_⟩
           ·
            refine .v rfl rfl rfl rfl (aD rfl rfl bq) ?_
            refine .v rfl rfl rfl rfl (aB (b:=true) rfl rfl) ?_
            refine .v rfl rfl rfl rfl (au rfl) ?_
            exact .nil
           exact ⟨⟨z62.2,ws73,w74,(z69 == 1)⟩,_,_,S78,.refl _ _,.refl _,(ai.r rfl ai.nil),H80.sl [] rfl rfl,h⟩
          ·
           replace h:=dG hb68 h
           refine aC.gG E.obj jr Dj [(0,some 44)] (by kernel_rfl) [36,41] (by decide) [some (.d (.int .i64 z23.1)),some (.d (.bool (z23.1 == 2))),some (.d (.bool true)),some (.d (.bool z34.1)),some (.d (.bool z34.1)),some (.d (.bool true)),some (.d (.sl ((z30).map (D.int .i64)) false)),some (.d (.int .i64 ((z30).length:Int))),some (.d (.bool (((z30).length:Int) == 2))),some (.d (.bool (((z30).length:Int) == 2))),some (.d (.bool true)),some (.d (.sl ((z41).map (D.int .i64)) false)),some (.d (.int .i64 ((z41).length:Int))),some (.d (.bool (((z41).length:Int) == 2))),some (.d (.bool (((z41).length:Int) == 2))),some (.d (.bool true)),some (.d (.sl ((z30).map (D.int .i64)) false)),some (.eptr (.int .i64 z56) 0),some (.d (.int .i64 z56)),some (.d (.sl ((z41).map (D.int .i64)) false)),some (.eptr (.int .i64 z57) 0),some (.d (.int .i64 z57)),some (.d (.bool (z56 == z57))),some (.d (.bool (z56 == z57))),some (.d (.bool true)),some (.d (.sl ((z30).map (D.int .i64)) false)),some (.eptr (.int .i64 z59) 0),some (.d (.int .i64 z59)),some (.d (.sl ((z41).map (D.int .i64)) false)),some (.eptr (.int .i64 z60) 0),some (.d (.int .i64 z60)),some (.d (.bool (z59 == z60))),some (.d (.bool (z59 == z60))),some (.d (.bool true)),some (.ptr b8 0 0),some (.d (.int .i64 z23.1)),none,none,none,none,none,none,none,none,none] ?_
           refine ⟨[0,1,2,3,4,5,6,7,8,9,10,11,12,13,14,15,16,17,18,19,20,21,22,23,24,25,26,27,28,29,30,31,32,33,34,35],by kernel_rfl,?_,_,_,rfl,rfl,.step ?_⟩
           ·
            refine .v rfl rfl rfl rfl (aa rfl) ?_
            refine .v rfl rfl rfl rfl (aD rfl rfl bq) ?_
            refine .cons rfl rfl rfl (.val rfl (aa rfl) (.eq (by rw [hb52]))) ?_
            refine .v rfl rfl rfl rfl (aa rfl) ?_
            refine .v rfl rfl rfl rfl (aB (b:=true) rfl rfl) ?_
            refine .cons rfl rfl rfl (.val rfl (aa rfl) (.eq (by rw [hb53]))) ?_
            refine .v rfl rfl rfl rfl (aa rfl) ?_
            refine .v rfl rfl rfl rfl (bu rfl jh) ?_
            refine .v rfl rfl rfl rfl (aD rfl rfl bq) ?_
            refine .v rfl rfl rfl rfl (aB (b:=true) rfl rfl) ?_
            refine .cons rfl rfl rfl (.val rfl (aa rfl) (.eq (by rw [hb54]))) ?_
            refine .v rfl rfl rfl rfl (aa rfl) ?_
            refine .v rfl rfl rfl rfl (bu rfl jh) ?_
            refine .v rfl rfl rfl rfl (aD rfl rfl bq) ?_
            refine .v rfl rfl rfl rfl (aB (b:=true) rfl rfl) ?_
            refine .cons rfl rfl rfl (.val rfl (aa rfl) (.eq (by rw [hb55]))) ?_
            refine .v rfl rfl rfl rfl (aa rfl) ?_
            refine .v rfl rfl rfl rfl (bA rfl rfl (bS (enc:=(D.int .i64)) hzz56 fH pz (((fun _=>rfl) _).trans kH.symm))) ?_
            refine .v rfl rfl rfl rfl (aW rfl (bK nU rfl)) ?_
            refine .v rfl rfl rfl rfl (aa rfl) ?_
            refine .v rfl rfl rfl rfl (bA rfl rfl (bS (enc:=(D.int .i64)) hzz57 fH pz (((fun _=>rfl) _).trans kH.symm))) ?_
            refine .v rfl rfl rfl rfl (aW rfl (bK nU rfl)) ?_
            refine .v rfl rfl rfl rfl (aD rfl rfl bq) ?_
            refine .v rfl rfl rfl rfl (aB (b:=true) rfl rfl) ?_
            refine .cons rfl rfl rfl (.val rfl (aa rfl) (.eq (by rw [hb58]))) ?_
            refine .v rfl rfl rfl rfl (aa rfl) ?_
            refine .v rfl rfl rfl rfl (bA rfl rfl (bS (enc:=(D.int .i64)) hzz59 fH pz (((fun _=>rfl) _).trans kH.symm))) ?_
            refine .v rfl rfl rfl rfl (aW rfl (bK nU rfl)) ?_
            refine .v rfl rfl rfl rfl (aa rfl) ?_
            refine .v rfl rfl rfl rfl (bA rfl rfl (bS (enc:=(D.int .i64)) hzz60 fH pz (((fun _=>rfl) _).trans kH.symm))) ?_
            refine .v rfl rfl rfl rfl (aW rfl (bK nU rfl)) ?_
            refine .v rfl rfl rfl rfl (aD rfl rfl bq) ?_
            refine .v rfl rfl rfl rfl (aB (b:=true) rfl rfl) ?_
            refine .cons rfl rfl rfl (.val rfl (aa rfl) (.eq (by rw [hb61]))) ?_
            refine .v rfl rfl rfl rfl (aa rfl) ?_
            refine .v rfl rfl rfl rfl (aa rfl) ?_
            exact .nil
           refine aj.eF (ins:=[.box b8 [v35,w37],aA ae ah.kids 7 5 v35 ws36 z34.2.l none,aI w37 z34.2.freed]) (more:=[.box b16 [(.d (.str (Tree.mk [108,105] [50] [] [] []).Tag)),(.d (.str (Tree.mk [108,105] [50] [] [] []).Key)),(.d (.str (Tree.mk [108,105] [50] [] [] []).Text)),(.d (.sl (((Tree.mk [108,105] [50] [] [] []).aL).map az) false)),(.d (.sl (((Tree.mk [108,105] [50] [] [] []).Kids).map ak) false))],.box b13 [(.d (.str (Tree.mk [108,105] [49] [] [] []).Tag)),(.d (.str (Tree.mk [108,105] [49] [] [] []).Key)),(.d (.str (Tree.mk [108,105] [49] [] [] []).Text)),(.d (.sl (((Tree.mk [108,105] [49] [] [] []).aL).map az) false)),(.d (.sl (((Tree.mk [108,105] [49] [] [] []).Kids).map ak) false))]]) (H44.sl [2,3,4,0,1] rfl rfl) rfl (aH rfl rfl) (jH E n _ _ _ hzz62 b8 v35 ws36 w37) (.cons (.refl _) (.cons (.refl _) .nil)) rfl ?_
           rintro _ S83 _ ⟨rfl,ws81,w82,rfl⟩ H84
           have H85:Has aK S83 [.box b16 [(.d (.str (Tree.mk [108,105] [50] [] [] []).Tag)),(.d (.str (Tree.mk [108,105] [50] [] [] []).Key)),(.d (.str (Tree.mk [108,105] [50] [] [] []).Text)),(.d (.sl (((Tree.mk [108,105] [50] [] [] []).aL).map az) false)),(.d (.sl (((Tree.mk [108,105] [50] [] [] []).Kids).map ak) false))],.box b13 [(.d (.str (Tree.mk [108,105] [49] [] [] []).Tag)),(.d (.str (Tree.mk [108,105] [49] [] [] []).Key)),(.d (.str (Tree.mk [108,105] [49] [] [] []).Text)),(.d (.sl (((Tree.mk [108,105] [49] [] [] []).aL).map az) false)),(.d (.sl (((Tree.mk [108,105] [49] [] [] []).Kids).map ak) false))],.box b8 [v35,w82],aA ae ah.kids 7 5 v35 ws81 z62.2.l none,aI w82 z62.2.freed]:=H84.sl [3,4,0,1,2] rfl rfl
           refine aj.nil ⟨_,_,_,rfl,(fun _ ht=>by cases ht; rfl),[some (.d (.int .i64 z23.1)),some (.d (.bool (z23.1 == 2))),some (.d (.bool true)),some (.d (.bool z34.1)),some (.d (.bool z34.1)),some (.d (.bool true)),some (.d (.sl ((z30).map (D.int .i64)) false)),some (.d (.int .i64 ((z30).length:Int))),some (.d (.bool (((z30).length:Int) == 2))),some (.d (.bool (((z30).length:Int) == 2))),some (.d (.bool true)),some (.d (.sl ((z41).map (D.int .i64)) false)),some (.d (.int .i64 ((z41).length:Int))),some (.d (.bool (((z41).length:Int) == 2))),some (.d (.bool (((z41).length:Int) == 2))),some (.d (.bool true)),some (.d (.sl ((z30).map (D.int .i64)) false)),some (.eptr (.int .i64 z56) 0),some (.d (.int .i64 z56)),some (.d (.sl ((z41).map (D.int .i64)) false)),some (.eptr (.int .i64 z57) 0),some (.d (.int .i64 z57)),some (.d (.bool (z56 == z57))),some (.d (.bool (z56 == z57))),some (.d (.bool true)),some (.d (.sl ((z30).map (D.int .i64)) false)),some (.eptr (.int .i64 z59) 0),some (.d (.int .i64 z59)),some (.d (.sl ((z41).map (D.int .i64)) false)),some (.eptr (.int .i64 z60) 0),some (.d (.int .i64 z60)),some (.d (.bool (z59 == z60))),some (.d (.bool (z59 == z60))),some (.d (.bool true)),some (.ptr b8 0 0),some (.d (.int .i64 z23.1)),some (.d (.int .i64 z62.1)),some (.d (.bool (z62.1 == 3))),some (.d (.bool (z62.1 == 3))),some (.d (.bool false)),some (.tup []),none,none,none,none],(.o (.o (.o (.o (.o (.o (.o (.o (.o (.o (.o (.o (.o (.o (.o (.o (.o (.o (.o (.o (.o (.o (.o (.o (.o (.o (.o (.o (.o (.o (.o (.o (.o (.o (.o (.o (.new (.new (.new (.new (.new (.new (.new (.new (.new .nil))))))))))))))))))))))))))))))))))))))))))))),(fun _ ht=>by cases ht; exact ⟨_,rfl,.refl _⟩),?_⟩
           refine ⟨[37,38,39,40],by kernel_rfl,?_,_,_,rfl,rfl,.no rfl ?_⟩
           ·
            refine .v rfl rfl rfl rfl (aD rfl rfl bq) ?_
            refine .v rfl rfl rfl rfl (aB (b:=true) rfl rfl) ?_
            refine .cons rfl rfl rfl (.val rfl (aa rfl) (.eq (by rw [hb68]))) ?_
            refine .cons rfl rfl rfl (.no rfl (.refl _)) ?_
            exact .nil
           refine ⟨[some (.d (.int .i64 z23.1)),some (.d (.bool (z23.1 == 2))),some (.d (.bool true)),some (.d (.bool z34.1)),some (.d (.bool z34.1)),some (.d (.bool true)),some (.d (.sl ((z30).map (D.int .i64)) false)),some (.d (.int .i64 ((z30).length:Int))),some (.d (.bool (((z30).length:Int) == 2))),some (.d (.bool (((z30).length:Int) == 2))),some (.d (.bool true)),some (.d (.sl ((z41).map (D.int .i64)) false)),some (.d (.int .i64 ((z41).length:Int))),some (.d (.bool (((z41).length:Int) == 2))),some (.d (.bool (((z41).length:Int) == 2))),some (.d (.bool true)),some (.d (.sl ((z30).map (D.int .i64)) false)),some (.eptr (.int .i64 z56) 0),some (.d (.int .i64 z56)),some (.d (.sl ((z41).map (D.int .i64)) false)),some (.eptr (.int .i64 z57) 0),some (.d (.int .i64 z57)),some (.d (.bool (z56 == z57))),some (.d (.bool (z56 == z57))),some (.d (.bool true)),some (.d (.sl ((z30).map (D.int .i64)) false)),some (.eptr (.int .i64 z59) 0),some (.d (.int .i64 z59)),some (.d (.sl ((z41).map (D.int .i64)) false)),some (.eptr (.int .i64 z60) 0),some (.d (.int .i64 z60)),some (.d (.bool (z59 == z60))),some (.d (.bool (z59 == z60))),some (.d (.bool true)),some (.ptr b8 0 0),some (.d (.int .i64 z23.1)),some (.d (.int .i64 z62.1)),some (.d (.bool (z62.1 == 3))),some (.d (.bool (z62.1 == 3))),some (.d (.bool false)),some (.tup []),some (.tup []),some (.tup []),some (.d (.bool false)),some (.d (.bool false))],(.o (.o (.o (.o (.o (.o (.o (.o (.o (.o (.o (.o (.o (.o (.o (.o (.o (.o (.o (.o (.o (.o (.o (.o (.o (.o (.o (.o (.o (.o (.o (.o (.o (.o (.o (.o (.o (.o (.o (.o (.o (.new (.new (.new (.new .nil))))))))))))))))))))))))))))))))))))))))))))),(fun _ ht=>by cases ht; exact ⟨_,rfl,.refl _⟩),?_⟩
           refine ⟨[42,43,44],by kernel_rfl,?_,_,rfl,?_⟩
           ·
            refine .cons rfl rfl rfl (.no rfl (.refl _)) ?_
            refine .v rfl rfl rfl rfl (aB (b:=false) rfl rfl) ?_
            refine .v rfl rfl rfl rfl (au rfl) ?_
            exact .nil
           exact ⟨⟨z62.2,ws81,w82,false⟩,_,_,S83,.refl _ _,.refl _,(ai.r rfl ai.nil),H85.sl [] rfl rfl,h⟩
         ·
          replace h:=dG hb61 h
          refine aC.gG E.obj jr Dj [(0,some 44)] (by kernel_rfl) [36,41] (by decide) [some (.d (.int .i64 z23.1)),some (.d (.bool (z23.1 == 2))),some (.d (.bool true)),some (.d (.bool z34.1)),some (.d (.bool z34.1)),some (.d (.bool true)),some (.d (.sl ((z30).map (D.int .i64)) false)),some (.d (.int .i64 ((z30).length:Int))),some (.d (.bool (((z30).length:Int) == 2))),some (.d (.bool (((z30).length:Int) == 2))),some (.d (.bool true)),some (.d (.sl ((z41).map (D.int .i64)) false)),some (.d (.int .i64 ((z41).length:Int))),some (.d (.bool (((z41).length:Int) == 2))),some (.d (.bool (((z41).length:Int) == 2))),some (.d (.bool true)),some (.d (.sl ((z30).map (D.int .i64)) false)),some (.eptr (.int .i64 z56) 0),some (.d (.int .i64 z56)),some (.d (.sl ((z41).map (D.int .i64)) false)),some (.eptr (.int .i64 z57) 0),some (.d (.int .i64 z57)),some (.d (.bool (z56 == z57))),some (.d (.bool (z56 == z57))),some (.d (.bool true)),some (.d (.sl ((z30).map (D.int .i64)) false)),some (.eptr (.int .i64 z59) 0),some (.d (.int .i64 z59)),some (.d (.sl ((z41).map (D.int .i64)) false)),some (.eptr (.int .i64 z60) 0),some (.d (.int .i64 z60)),some (.d (.bool (z59 == z60))),some (.d (.bool (z59 == z60))),some (.d (.bool false)),some (.tup []),some (.tup []),none,none,none,none,none,none,none,none,none] ?_
          refine ⟨[0,1,2,3,4,5,6,7,8,9,10,11,12,13,14,15,16,17,18,19,20,21,22,23,24,25,26,27,28,29,30,31,32,33,34,35],by kernel_rfl,?_,_,_,rfl,rfl,.no rfl ?_⟩
          ·
           refine .v rfl rfl rfl rfl (aa rfl) ?_
           refine .v rfl rfl rfl rfl (aD rfl rfl bq) ?_
           refine .cons rfl rfl rfl (.val rfl (aa rfl) (.eq (by rw [hb52]))) ?_
           refine .v rfl rfl rfl rfl (aa rfl) ?_
           refine .v rfl rfl rfl rfl (aB (b:=true) rfl rfl) ?_
           refine .cons rfl rfl rfl (.val rfl (aa rfl) (.eq (by rw [hb53]))) ?_
           refine .v rfl rfl rfl rfl (aa rfl) ?_
           refine .v rfl rfl rfl rfl (bu rfl jh) ?_
           refine .v rfl rfl rfl rfl (aD rfl rfl bq) ?_
           refine .v rfl rfl rfl rfl (aB (b:=true) rfl rfl) ?_
           refine .cons rfl rfl rfl (.val rfl (aa rfl) (.eq (by rw [hb54]))) ?_
           refine .v rfl rfl rfl rfl (aa rfl) ?_
           refine .v rfl rfl rfl rfl (bu rfl jh) ?_
           refine .v rfl rfl rfl rfl (aD rfl rfl bq) ?_
           refine .v rfl rfl rfl rfl (aB (b:=true) rfl rfl) ?_
           refine .cons rfl rfl rfl (.val rfl (aa rfl) (.eq (by rw [hb55]))) ?_
           refine .v rfl rfl rfl rfl (aa rfl) ?_
           refine .v rfl rfl rfl rfl (bA rfl rfl (bS (enc:=(D.int .i64)) hzz56 fH pz (((fun _=>rfl) _).trans kH.symm))) ?_
           refine .v rfl rfl rfl rfl (aW rfl (bK nU rfl)) ?_
           refine .v rfl rfl rfl rfl (aa rfl) ?_
           refine .v rfl rfl rfl rfl (bA rfl rfl (bS (enc:=(D.int .i64)) hzz57 fH pz (((fun _=>rfl) _).trans kH.symm))) ?_
           refine .v rfl rfl rfl rfl (aW rfl (bK nU rfl)) ?_
           refine .v rfl rfl rfl rfl (aD rfl rfl bq) ?_
           refine .v rfl rfl rfl rfl (aB (b:=true) rfl rfl) ?_
           refine .cons rfl rfl rfl (.val rfl (aa rfl) (.eq (by rw [hb58]))) ?_
           refine .v rfl rfl rfl rfl (aa rfl) ?_
           refine .v rfl rfl rfl rfl (bA rfl rfl (bS (enc:=(D.int .i64)) hzz59 fH pz (((fun _=>rfl) _).trans kH.symm))) ?_
           refine .v rfl rfl rfl rfl (aW rfl (bK nU rfl)) ?_
           refine .v rfl rfl rfl rfl (aa rfl) ?_
           refine .v rfl rfl rfl rfl (bA rfl rfl (bS (enc:=(D.int .i64)) hzz60 fH pz (((fun _=>rfl) _).trans kH.symm))) ?_
           refine .v rfl rfl rfl rfl (aW rfl (bK nU rfl)) ?_
           refine .v rfl rfl rfl rfl (aD rfl rfl bq) ?_
           refine .v rfl rfl rfl rfl (aB (b:=true) rfl rfl) ?_
           refine .cons rfl rfl rfl (.val rfl (aa rfl) (.eq (by rw [hb61]))) ?_
           refine .cons rfl rfl rfl (.no rfl (.refl _)) ?_
           refine .cons rfl rfl rfl (.no rfl (.refl _)) ?_
           exact .nil
          refine ⟨[some (.d (.int .i64 z23.1)),some (.d (.bool (z23.1 == 2))),some (.d (.bool true)),some (.d (.bool z34.1)),some (.d (.bool z34.1)),some (.d (.bool true)),some (.d (.sl ((z30).map (D.int .i64)) false)),some (.d (.int .i64 ((z30).length:Int))),some (.d (.bool (((z30).length:Int) == 2))),some (.d (.bool (((z30).length:Int) == 2))),some (.d (.bool true)),some (.d (.sl ((z41).map (D.int .i64)) false)),some (.d (.int .i64 ((z41).length:Int))),some (.d (.bool (((z41).length:Int) == 2))),some (.d (.bool (((z41).length:Int) == 2))),some (.d (.bool true)),some (.d (.sl ((z30).map (D.int .i64)) false)),some (.eptr (.int .i64 z56) 0),some (.d (.int .i64 z56)),some (.d (.sl ((z41).map (D.int .i64)) false)),some (.eptr (.int .i64 z57) 0),some (.d (.int .i64 z57)),some (.d (.bool (z56 == z57))),some (.d (.bool (z56 == z57))),some (.d (.bool true)),some (.d (.sl ((z30).map (D.int .i64)) false)),some (.eptr (.int .i64 z59) 0),some (.d (.int .i64 z59)),some (.d (.sl ((z41).map (D.int .i64)) false)),some (.eptr (.int .i64 z60) 0),some (.d (.int .i64 z60)),some (.d (.bool (z59 == z60))),some (.d (.bool (z59 == z60))),some (.d (.bool false)),some (.tup []),some (.tup []),some (.tup []),some (.tup []),some (.d (.bool false)),some (.d (.bool false)),some (.tup []),none,none,none,none],(.o (.o (.o (.o (.o (.o (.o (.o (.o (.o (.o (.o (.o (.o (.o (.o (.o (.o (.o (.o (.o (.o (.o (.o (.o (.o (.o (.o (.o (.o (.o (.o (.o (.o (.o (.o (.new (.new (.new (.new (.new (.new (.new (.new (.new .nil))))))))))))))))))))))))))))))))))))))))))))),(fun _ ht=>by cases ht; exact ⟨_,rfl,.refl _⟩),?_⟩
          refine ⟨[37,38,39,40],by kernel_rfl,?_,_,_,rfl,rfl,.no rfl ?_⟩
          ·
           refine .cons rfl rfl rfl (.no rfl (.refl _)) ?_
           refine .v rfl rfl rfl rfl (aB (b:=false) rfl rfl) ?_
           refine .v rfl rfl rfl rfl (aa rfl) ?_
           refine .cons rfl rfl rfl (.no rfl (.refl _)) ?_
           exact .nil
          refine ⟨[some (.d (.int .i64 z23.1)),some (.d (.bool (z23.1 == 2))),some (.d (.bool true)),some (.d (.bool z34.1)),some (.d (.bool z34.1)),some (.d (.bool true)),some (.d (.sl ((z30).map (D.int .i64)) false)),some (.d (.int .i64 ((z30).length:Int))),some (.d (.bool (((z30).length:Int) == 2))),some (.d (.bool (((z30).length:Int) == 2))),some (.d (.bool true)),some (.d (.sl ((z41).map (D.int .i64)) false)),some (.d (.int .i64 ((z41).length:Int))),some (.d (.bool (((z41).length:Int) == 2))),some (.d (.bool (((z41).length:Int) == 2))),some (.d (.bool true)),some (.d (.sl ((z30).map (D.int .i64)) false)),some (.eptr (.int .i64 z56) 0),some (.d (.int .i64 z56)),some (.d (.sl ((z41).map (D.int .i64)) false)),some (.eptr (.int .i64 z57) 0),some (.d (.int .i64 z57)),some (.d (.bool (z56 == z57))),some (.d (.bool (z56 == z57))),some (.d (.bool true)),some (.d (.sl ((z30).map (D.int .i64)) false)),some (.eptr (.int .i64 z59) 0),some (.d (.int .i64 z59)),some (.d (.sl ((z41).map (D.int .i64)) false)),some (.eptr (.int .i64 z60) 0),some (.d (.int .i64 z60)),some (.d (.bool (z59 == z60))),some (.d (.bool (z59 == z60))),some (.d (.bool false)),some (.tup []),some (.tup []),some (.tup []),some (.tup []),some (.d (.bool false)),some (.d (.bool false)),some (.tup []),some (.tup []),some (.tup []),some (.d (.bool false)),some (.d (.bool false))],(.o (.o (.o (.o (.o (.o (.o (.o (.o (.o (.o (.o (.o (.o (.o (.o (.o (.o (.o (.o (.o (.o (.o (.o (.o (.o (.o (.o (.o (.o (.o (.o (.o (.o (.o (.o (.o (.o (.o (.o (.o (.new (.new (.new (.new .nil))))))))))))))))))))))))))))))))))))))))))))),(fun _ ht=>by cases ht; exact ⟨_,rfl,.refl _⟩),?_⟩
          refine ⟨[42,43,44],by kernel_rfl,?_,_,rfl,?_⟩
          ·
           refine .cons rfl rfl rfl (.no rfl (.refl _)) ?_
           refine .v rfl rfl rfl rfl (aB (b:=false) rfl rfl) ?_
           refine .v rfl rfl rfl rfl (au rfl) ?_
           exact .nil
          exact ⟨⟨z34.2,ws36,w37,false⟩,_,_,S42,.refl _ _,.refl _,(ai.r rfl ai.nil),H44.sl [] rfl rfl,h⟩
        ·
         replace h:=dG hb58 h
         refine aC.gG E.obj jr Dj [(0,some 44)] (by kernel_rfl) [36,41] (by decide) [some (.d (.int .i64 z23.1)),some (.d (.bool (z23.1 == 2))),some (.d (.bool true)),some (.d (.bool z34.1)),some (.d (.bool z34.1)),some (.d (.bool true)),some (.d (.sl ((z30).map (D.int .i64)) false)),some (.d (.int .i64 ((z30).length:Int))),some (.d (.bool (((z30).length:Int) == 2))),some (.d (.bool (((z30).length:Int) == 2))),some (.d (.bool true)),some (.d (.sl ((z41).map (D.int .i64)) false)),some (.d (.int .i64 ((z41).length:Int))),some (.d (.bool (((z41).length:Int) == 2))),some (.d (.bool (((z41).length:Int) == 2))),some (.d (.bool true)),some (.d (.sl ((z30).map (D.int .i64)) false)),some (.eptr (.int .i64 z56) 0),some (.d (.int .i64 z56)),some (.d (.sl ((z41).map (D.int .i64)) false)),some (.eptr (.int .i64 z57) 0),some (.d (.int .i64 z57)),some (.d (.bool (z56 == z57))),some (.d (.bool (z56 == z57))),some (.d (.bool false)),some (.tup []),some (.tup []),some (.tup []),some (.tup []),some (.tup []),some (.tup []),some (.tup []),some (.d (.bool false)),some (.d (.bool false)),some (.tup []),some (.tup []),none,none,none,none,none,none,none,none,none] ?_
         refine ⟨[0,1,2,3,4,5,6,7,8,9,10,11,12,13,14,15,16,17,18,19,20,21,22,23,24,25,26,27,28,29,30,31,32,33,34,35],by kernel_rfl,?_,_,_,rfl,rfl,.no rfl ?_⟩
         ·
          refine .v rfl rfl rfl rfl (aa rfl) ?_
          refine .v rfl rfl rfl rfl (aD rfl rfl bq) ?_
          refine .cons rfl rfl rfl (.val rfl (aa rfl) (.eq (by rw [hb52]))) ?_
          refine .v rfl rfl rfl rfl (aa rfl) ?_
          refine .v rfl rfl rfl rfl (aB (b:=true) rfl rfl) ?_
          refine .cons rfl rfl rfl (.val rfl (aa rfl) (.eq (by rw [hb53]))) ?_
          refine .v rfl rfl rfl rfl (aa rfl) ?_
          refine .v rfl rfl rfl rfl (bu rfl jh) ?_
          refine .v rfl rfl rfl rfl (aD rfl rfl bq) ?_
          refine .v rfl rfl rfl rfl (aB (b:=true) rfl rfl) ?_
          refine .cons rfl rfl rfl (.val rfl (aa rfl) (.eq (by rw [hb54]))) ?_
          refine .v rfl rfl rfl rfl (aa rfl) ?_
          refine .v rfl rfl rfl rfl (bu rfl jh) ?_
          refine .v rfl rfl rfl rfl (aD rfl rfl bq) ?_
          refine .v rfl rfl rfl rfl (aB (b:=true) rfl rfl) ?_
          refine .cons rfl rfl rfl (.val rfl (aa rfl) (.eq (by rw [hb55]))) ?_
          refine .v rfl rfl rfl rfl (aa rfl) ?_
          refine .v rfl rfl rfl rfl (bA rfl rfl (bS (enc:=(D.int .i64)) hzz56 fH pz (((fun _=>rfl) _).trans kH.symm))) ?_
          refine .v rfl rfl rfl rfl (aW rfl (bK nU rfl)) ?_
          refine .v rfl rfl rfl rfl (aa rfl) ?_
          refine .v rfl rfl rfl rfl (bA rfl rfl (bS (enc:=(D.int .i64)) hzz57 fH pz (((fun _=>rfl) _).trans kH.symm))) ?_
          refine .v rfl rfl rfl rfl (aW rfl (bK nU rfl)) ?_
          refine .v rfl rfl rfl rfl (aD rfl rfl bq) ?_
          refine .v rfl rfl rfl rfl (aB (b:=true) rfl rfl) ?_
          refine .cons rfl rfl rfl (.val rfl (aa rfl) (.eq (by rw [hb58]))) ?_
          refine .cons rfl rfl rfl (.no rfl (.refl _)) ?_
          refine .cons rfl rfl rfl (.no rfl (.refl _)) ?_
          refine .cons rfl rfl rfl (.no rfl (.refl _)) ?_
          refine .cons rfl rfl rfl (.no rfl (.refl _)) ?_
          refine .cons rfl rfl rfl (.no rfl (.refl _)) ?_
          refine .cons rfl rfl rfl (.no rfl (.refl _)) ?_
          refine .cons rfl rfl rfl (.no rfl (.refl _)) ?_
          refine .v rfl rfl rfl rfl (aB (b:=false) rfl rfl) ?_
          refine .v rfl rfl rfl rfl (aa rfl) ?_
          refine .cons rfl rfl rfl (.no rfl (.refl _)) ?_
          refine .cons rfl rfl rfl (.no rfl (.refl _)) ?_
          exact .nil
         refine ⟨[some (.d (.int .i64 z23.1)),some (.d (.bool (z23.1 == 2))),some (.d (.bool true)),some (.d (.bool z34.1)),some (.d (.bool z34.1)),some (.d (.bool true)),some (.d (.sl ((z30).map (D.int .i64)) false)),some (.d (.int .i64 ((z30).length:Int))),some (.d (.bool (((z30).length:Int) == 2))),some (.d (.bool (((z30).length:Int) == 2))),some (.d (.bool true)),some (.d (.sl ((z41).map (D.int .i64)) false)),some (.d (.int .i64 ((z41).length:Int))),some (.d (.bool (((z41).length:Int) == 2))),some (.d (.bool (((z41).length:Int) == 2))),some (.d (.bool true)),some (.d (.sl ((z30).map (D.int .i64)) false)),some (.eptr (.int .i64 z56) 0),some (.d (.int .i64 z56)),some (.d (.sl ((z41).map (D.int .i64)) false)),some (.eptr (.int .i64 z57) 0),some (.d (.int .i64 z57)),some (.d (.bool (z56 == z57))),some (.d (.bool (z56 == z57))),some (.d (.bool false)),some (.tup []),some (.tup []),some (.tup []),some (.tup []),some (.tup []),some (.tup []),some (.tup []),some (.d (.bool false)),some (.d (.bool false)),some (.tup []),some (.tup []),some (.tup []),some (.tup []),some (.d (.bool false)),some (.d (.bool false)),some (.tup []),none,none,none,none],(.o (.o (.o (.o (.o (.o (.o (.o (.o (.o (.o (.o (.o (.o (.o (.o (.o (.o (.o (.o (.o (.o (.o (.o (.o (.o (.o (.o (.o (.o (.o (.o (.o (.o (.o (.o (.new (.new (.new (.new (.new (.new (.new (.new (.new .nil))))))))))))))))))))))))))))))))))))))))))))),(fun _ ht=>by cases ht; exact ⟨_,rfl,.refl _⟩),?_⟩
         refine ⟨[37,38,39,40],by kernel_rfl,?_,_,_,rfl,rfl,.no rfl ?_⟩
         ·
          refine .cons rfl rfl rfl (.no rfl (.refl _)) ?_
          refine .v rfl rfl rfl rfl (aB (b:=false) rfl rfl) ?_
          refine .v rfl rfl rfl rfl (aa rfl) ?_
          refine .cons rfl rfl rfl (.no rfl (.refl _)) ?_
          exact .nil
         refine ⟨[some (.d (.int .i64 z23.1)),some (.d (.bool (z23.1 == 2))),some (.d (.bool true)),some (.d (.bool z34.1)),some (.d (.bool z34.1)),some (.d (.bool true)),some (.d (.sl ((z30).map (D.int .i64)) false)),some (.d (.int .i64 ((z30).length:Int))),some (.d (.bool (((z30).length:Int) == 2))),some (.d (.bool (((z30).length:Int) == 2))),some (.d (.bool true)),some (.d (.sl ((z41).map (D.int .i64)) false)),some (.d (.int .i64 ((z41).length:Int))),some (.d (.bool (((z41).length:Int) == 2))),some (.d (.bool (((z41).length:Int) == 2))),some (.d (.bool true)),some (.d (.sl ((z30).map (D.int .i64)) false)),some (.eptr (.int .i64 z56) 0),some (.d (.int .i64 z56)),some (.d (.sl ((z41).map (D.int .i64)) false)),some (.eptr (.int .i64 z57) 0),some (.d (.int .i64 z57)),some (.d (.bool (z56 == z57))),some (.d (.bool (z56 == z57))),some (.d (.bool false)),some (.tup []),some (.tup []),some (.tup []),some (.tup []),some (.tup []),some (.tup []),some (.tup []),some (.d (.bool false)),some (.d (.bool false)),some (.tup []),some (.tup []),some (.tup []),some (.tup []),some (.d (.bool false)),some (.d (.bool false)),some (.tup []),some (.tup []),some (.tup []),some (.d (.bool false)),some (.d (.bool false))],(.o (.o (.o (.o (.o (.o (.o (.o (.o (.o (.o (.o (.o (.o (.o (.o (.o (.o (.o (.o (.o (.o (.o (.o (.o (.o (.o (.o (.o (.o (.o (.o (.o (.o (.o (.o (.o (.o (.o (.o (.o (.new (.new (.new (.new .nil))))))))))))))))))))))))))))))))))))))))))))),(fun _ ht=>by cases ht; exact ⟨_,rfl,.refl _⟩),?_⟩
         refine ⟨[42,43,44],by kernel_rfl,?_,_,rfl,?_⟩
         ·
          refine .cons rfl rfl rfl (.no rfl (.refl _)) ?_
          refine .v rfl rfl rfl rfl (aB (b:=false) rfl rfl) ?_
          refine .v rfl rfl rfl rfl (au rfl) ?_
          exact .nil
         exact ⟨⟨z34.2,ws36,w37,false⟩,_,_,S42,.refl _ _,.refl _,(ai.r rfl ai.nil),H44.sl [] rfl rfl,h⟩
       ·
        replace h:=dG hb55 h
        refine aC.gG E.obj jr Dj [(0,some 44)] (by kernel_rfl) [36,41] (by decide) [some (.d (.int .i64 z23.1)),some (.d (.bool (z23.1 == 2))),some (.d (.bool true)),some (.d (.bool z34.1)),some (.d (.bool z34.1)),some (.d (.bool true)),some (.d (.sl ((z30).map (D.int .i64)) false)),some (.d (.int .i64 ((z30).length:Int))),some (.d (.bool (((z30).length:Int) == 2))),some (.d (.bool (((z30).length:Int) == 2))),some (.d (.bool true)),some (.d (.sl ((z41).map (D.int .i64)) false)),some (.d (.int .i64 ((z41).length:Int))),some (.d (.bool (((z41).length:Int) == 2))),some (.d (.bool (((z41).length:Int) == 2))),some (.d (.bool false)),some (.tup []),some (.tup []),some (.tup []),some (.tup []),some (.tup []),some (.tup []),some (.tup []),some (.d (.bool false)),some (.d (.bool false)),some (.tup []),some (.tup []),some (.tup []),some (.tup []),some (.tup []),some (.tup []),some (.tup []),some (.d (.bool false)),some (.d (.bool false)),some (.tup []),some (.tup []),none,none,none,none,none,none,none,none,none] ?_
        refine ⟨[0,1,2,3,4,5,6,7,8,9,10,11,12,13,14,15,16,17,18,19,20,21,22,23,24,25,26,27,28,29,30,31,32,33,34,35],by kernel_rfl,?_,_,_,rfl,rfl,.no rfl ?_⟩
        ·
         refine .v rfl rfl rfl rfl (aa rfl) ?_
         refine .v rfl rfl rfl rfl (aD rfl rfl bq) ?_
         refine .cons rfl rfl rfl (.val rfl (aa rfl) (.eq (by rw [hb52]))) ?_
         refine .v rfl rfl rfl rfl (aa rfl) ?_
         refine .v rfl rfl rfl rfl (aB (b:=true) rfl rfl) ?_
         refine .cons rfl rfl rfl (.val rfl (aa rfl) (.eq (by rw [hb53]))) ?_
         refine .v rfl rfl rfl rfl (aa rfl) ?_
         refine .v rfl rfl rfl rfl (bu rfl jh) ?_
         refine .v rfl rfl rfl rfl (aD rfl rfl bq) ?_
         refine .v rfl rfl rfl rfl (aB (b:=true) rfl rfl) ?_
         refine .cons rfl rfl rfl (.val rfl (aa rfl) (.eq (by rw [hb54]))) ?_
         refine .v rfl rfl rfl rfl (aa rfl) ?_
         refine .v rfl rfl rfl rfl (bu rfl jh) ?_
         refine .v rfl rfl rfl rfl (aD rfl rfl bq) ?_
         refine .v rfl rfl rfl rfl (aB (b:=true) rfl rfl) ?_
         refine .cons rfl rfl rfl (.val rfl (aa rfl) (.eq (by rw [hb55]))) ?_
         refine .cons rfl rfl rfl (.no rfl (.refl _)) ?_
         refine .cons rfl rfl rfl (.no rfl (.refl _)) ?_
         refine .cons rfl rfl rfl (.no rfl (.refl _)) ?_
         refine .cons rfl rfl rfl (.no rfl (.refl _)) ?_
         refine .cons rfl rfl rfl (.no rfl (.refl _)) ?_
         refine .cons rfl rfl rfl (.no rfl (.refl _)) ?_
         refine .cons rfl rfl rfl (.no rfl (.refl _)) ?_
         refine .v rfl rfl rfl rfl (aB (b:=false) rfl rfl) ?_
         refine .v rfl rfl rfl rfl (aa rfl) ?_
         refine .cons rfl rfl rfl (.no rfl (.refl _)) ?_
         refine .cons rfl rfl rfl (.no rfl (.refl _)) ?_
         refine .cons rfl rfl rfl (.no rfl (.refl _)) ?_
         refine .cons rfl rfl rfl (.no rfl (.refl _)) ?_
         refine .cons rfl rfl rfl (.no rfl (.refl _)) ?_
         refine .cons rfl rfl rfl (.no rfl (.refl _)) ?_
         refine .cons rfl rfl rfl (.no rfl (.refl _)) ?_
         refine .v rfl rfl rfl rfl (aB (b:=false) rfl rfl) ?_
         refine .v rfl rfl rfl rfl (aa rfl) ?_
         refine .cons rfl rfl rfl (.no rfl (.refl _)) ?_
         refine .cons rfl rfl rfl (.no rfl (.refl _)) ?_
         exact .nil
        refine ⟨[some (.d (.int .i64 z23.1)),some (.d (.bool (z23.1 == 2))),some (.d (.bool true)),some (.d (.bool z34.1)),some (.d (.bool z34.1)),some (.d (.bool true)),some (.d (.sl ((z30).map (D.int .i64)) false)),some (.d (.int .i64 ((z30).length:Int))),some (.d (.bool (((z30).length:Int) == 2))),some (.d (.bool (((z30).length:Int) == 2))),some (.d (.bool true)),some (.d (.sl ((z41).map (D.int .i64)) false)),some (.d (.int .i64 ((z41).length:Int))),some (.d (.bool (((z41).length:Int) == 2))),some (.d (.bool (((z41).length:Int) == 2))),some (.d (.bool false)),some (.tup []),some (.tup []),some (.tup []),some (.tup []),some (.tup []),some (.tup []),some (.tup []),some (.d (.bool false)),some (.d (.bool false)),some (.tup []),some (.tup []),some (.tup []),some (.tup []),some (.tup []),some (.tup []),some (.tup []),some (.d (.bool false)),some (.d (.bool false)),some (.tup []),some (.tup []),some (.tup []),some (.tup []),some (.d (.bool false)),some (.d (.bool false)),some (.tup []),none,none,none,none],(.o (.o (.o (.o (.o (.o (.o (.o (.o (.o (.o (.o (.o (.o (.o (.o (.o (.o (.o (.o (.o (.o (.o (.o (.o (.o (.o (.o (.o (.o (.o (.o (.o (.o (.o (.o (.new (.new (.new (.new (.new (.new (.new (.new (.new .nil))))))))))))))))))))))))))))))))))))))))))))),(fun _ ht=>by cases ht; exact ⟨_,rfl,.refl _⟩),?_⟩
        refine ⟨[37,38,39,40],by kernel_rfl,?_,_,_,rfl,rfl,.no rfl ?_⟩
        ·
         refine .cons rfl rfl rfl (.no rfl (.refl _)) ?_
         refine .v rfl rfl rfl rfl (aB (b:=false) rfl rfl) ?_
         refine .v rfl rfl rfl rfl (aa rfl) ?_
         refine .cons rfl rfl rfl (.no rfl (.refl _)) ?_
         exact .nil
        refine ⟨[some (.d (.int .i64 z23.1)),some (.d (.bool (z23.1 == 2))),some (.d (.bool true)),some (.d (.bool z34.1)),some (.d (.bool z34.1)),some (.d (.bool true)),some (.d (.sl ((z30).map (D.int .i64)) false)),some (.d (.int .i64 ((z30).length:Int))),some (.d (.bool (((z30).length:Int) == 2))),some (.d (.bool (((z30).length:Int) == 2))),some (.d (.bool true)),some (.d (.sl ((z41).map (D.int .i64)) false)),some (.d (.int .i64 ((z41).length:Int))),some (.d (.bool (((z41).length:Int) == 2))),some (.d (.bool (((z41).length:Int) == 2))),some (.d (.bool false)),some (.tup []),some (.tup []),some (.tup []),some (.tup []),some (.tup []),some (.tup []),some (.tup []),some (.d (.bool false)),some (.d (.bool false)),some (.tup []),some (.tup []),some (.tup []),some (.tup []),some (.tup []),some (.tup []),some (.tup []),some (.d (.bool false)),some (.d (.bool false)),some (.tup []),some (.tup []),some (.tup []),some (.tup []),some (.d (.bool false)),some (.d (.bool false)),some (.tup []),some (.tup []),some (.tup []),some (.d (.bool false)),some (.d (.bool false))],(.o (.o (.o (.o (.o (.o (.o (.o (.o (.o (.o (.o (.o (.o (.o (.o (.o (.o (.o (.o (.o (.o (.o (.o (.o (.o (.o (.o (.o (.o (.o (.o (.o (.o (.o (.o (.o (.o (.o (.o (.o (.new (.new (.new (.new .nil))))))))))))))))))))))))))))))))))))))))))))),(fun _ ht=>by cases ht; exact ⟨_,rfl,.refl _⟩),?_⟩
        refine ⟨[42,43,44],by kernel_rfl,?_,_,rfl,?_⟩
        ·
         refine .cons rfl rfl rfl (.no rfl (.refl _)) ?_
         refine .v rfl rfl rfl rfl (aB (b:=false) rfl rfl) ?_
         refine .v rfl rfl rfl rfl (au rfl) ?_
         exact .nil
        exact ⟨⟨z34.2,ws36,w37,false⟩,_,_,S42,.refl _ _,.refl _,(ai.r rfl ai.nil),H44.sl [] rfl rfl,h⟩
      ·
       replace h:=dG hb54 h
       refine aC.gG E.obj jr Dj [(0,some 44)] (by kernel_rfl) [36,41] (by decide) [some (.d (.int .i64 z23.1)),some (.d (.bool (z23.1 == 2))),some (.d (.bool true)),some (.d (.bool z34.1)),some (.d (.bool z34.1)),some (.d (.bool true)),some (.d (.sl ((z30).map (D.int .i64)) false)),some (.d (.int .i64 ((z30).length:Int))),some (.d (.bool (((z30).length:Int) == 2))),some (.d (.bool (((z30).length:Int) == 2))),some (.d (.bool false)),some (.tup []),some (.tup []),some (.tup []),some (.d (.bool false)),some (.d (.bool false)),some (.tup []),some (.tup []),some (.tup []),some (.tup []),some (.tup []),some (.tup []),some (.tup []),some (.d (.bool false)),some (.d (.bool false)),some (.tup []),some (.tup []),some (.tup []),some (.tup []),some (.tup []),some (.tup []),some (.tup []),some (.d (.bool false)),some (.d (.bool false)),some (.tup []),some (.tup []),none,none,none,none,none,none,none,none,none] ?_
       refine ⟨[0,1,2,3,4,5,6,7,8,9,10,11,12,13,14,15,16,17,18,19,20,21,22,23,24,25,26,27,28,29,30,31,32,33,34,35],by kernel_rfl,?_,_,_,rfl,rfl,.no rfl ?_⟩
       ·
        refine .v rfl rfl rfl rfl (aa rfl) ?_
        refine .v rfl rfl rfl rfl (aD rfl rfl bq) ?_
        refine .cons rfl rfl rfl (.val rfl (aa rfl) (.eq (by rw [hb52]))) ?_
        refine .v rfl rfl rfl rfl (aa rfl) ?_
        refine .v rfl rfl rfl rfl (aB (b:=true) rfl rfl) ?_
        refine .cons rfl rfl rfl (.val rfl (aa rfl) (.eq (by rw [hb53]))) ?_
        refine .v rfl rfl rfl rfl (aa rfl) ?_
        refine .v rfl rfl rfl rfl (bu rfl jh) ?_
        refine .v rfl rfl rfl rfl (aD rfl rfl bq) ?_
        refine .v rfl rfl rfl rfl (aB (b:=true) rfl rfl) ?_
        refine .cons rfl rfl rfl (.val rfl (aa rfl) (.eq (by rw [hb54]))) ?_
        refine .cons rfl rfl rfl (.no rfl (.refl _)) ?_
        refine .cons rfl rfl rfl (.no rfl (.refl _)) ?_
        refine .cons rfl rfl rfl (.no rfl (.refl _)) ?_
        refine .v rfl rfl rfl rfl (aB (b:=false) rfl rfl) ?_
        refine .v rfl rfl rfl rfl (aa rfl) ?_
        refine .cons rfl rfl rfl (.no rfl (.refl _)) ?_
        refine .cons rfl rfl rfl (.no rfl (.refl _)) ?_
        refine .cons rfl rfl rfl (.no rfl (.refl _)) ?_
        refine .cons rfl rfl rfl (.no rfl (.refl _)) ?_
        refine .cons rfl rfl rfl (.no rfl (.refl _)) ?_
        refine .cons rfl rfl rfl (.no rfl (.refl _)) ?_
        refine .cons rfl rfl rfl (.no rfl (.refl _)) ?_
        refine .v rfl rfl rfl rfl (aB (b:=false) rfl rfl) ?_
        refine .v rfl rfl rfl rfl (aa rfl) ?_
        refine .cons rfl rfl rfl (.no rfl (.refl _)) ?_
        refine .cons rfl rfl rfl (.no rfl (.refl _)) ?_
        refine .cons rfl rfl rfl (.no rfl (.refl _)) ?_
        refine .cons rfl rfl rfl (.no rfl (.refl _)) ?_
        refine .cons rfl rfl rfl (.no rfl (.refl _)) ?_
        refine .cons rfl rfl rfl (.no rfl (.refl _)) ?_
        refine .cons rfl rfl rfl (.no rfl (.refl _)) ?_
        refine .v rfl rfl rfl rfl (aB (b:=false) rfl rfl) ?_
        refine .v rfl rfl rfl rfl (aa rfl) ?_
        refine .cons rfl rfl rfl (.no rfl (.refl _)) ?_
        refine .cons rfl rfl rfl (.no rfl (.refl _)) ?_
        exact .nil
       refine ⟨[some (.d (.int .i64 z23.1)),some (.d (.bool (z23.1 == 2))),some (.d (.bool true)),some (.d (.bool z34.1)),some (.d (.bool z34.1)),some (.d (.bool true)),some (.d (.sl ((z30).map (D.int .i64)) false)),some (.d (.int .i64 ((z30).length:Int))),some (.d (.bool (((z30).length:Int) == 2))),some (.d (.bool (((z30).length:Int) == 2))),some (.d (.bool false)),some (.tup []),some (.tup []),some (.tup []),some (.d (.bool false)),some (.d (.bool false)),some (.tup []),some (.tup []),some (.tup []),some (.tup []),some (.tup []),some (.tup []),some (.tup []),some (.d (.bool false)),some (.d (.bool false)),some (.tup []),some (.tup []),some (.tup []),some (.tup []),some (.tup []),some (.tup []),some (.tup []),some (.d (.bool false)),some (.d (.bool false)),some (.tup []),some (.tup []),some (.tup []),some (.tup []),some (.d (.bool false)),some (.d (.bool false)),some (.tup []),none,none,none,none],(.o (.o (.o (.o (.o (.o (.o (.o (.o (.o (.o (.o (.o (.o (.o (.o (.o (.o (.o (.o (.o (.o (.o (.o (.o (.o (.o (.o (.o (.o (.o (.o (.o (.o (.o (.o (.new (.new (.new (.new (.new (.new (.new (.new (.new .nil))))))))))))))))))))))))))))))))))))))))))))),(fun _ ht=>by cases ht; exact ⟨_,rfl,.refl _⟩),?_⟩
       refine ⟨[37,38,39,40],by kernel_rfl,?_,_,_,rfl,rfl,.no rfl ?_⟩
       ·
        refine .cons rfl rfl rfl (.no rfl (.refl _)) ?_
        refine .v rfl rfl rfl rfl (aB (b:=false) rfl rfl) ?_
        refine .v rfl rfl rfl rfl (aa rfl) ?_
        refine .cons rfl rfl rfl (.no rfl (.refl _)) ?_
        exact .nil
       refine ⟨[some (.d (.int .i64 z23.1)),some (.d (.bool (z23.1 == 2))),some (.d (.bool true)),some (.d (.bool z34.1)),some (.d (.bool z34.1)),some (.d (.bool true)),some (.d (.sl ((z30).map (D.int .i64)) false)),some (.d (.int .i64 ((z30).length:Int))),some (.d (.bool (((z30).length:Int) == 2))),some (.d (.bool (((z30).length:Int) == 2))),some (.d (.bool false)),some (.tup []),some (.tup []),some (.tup []),some (.d (.bool false)),some (.d (.bool false)),some (.tup []),some (.tup []),some (.tup []),some (.tup []),some (.tup []),some (.tup []),some (.tup []),some (.d (.bool false)),some (.d (.bool false)),some (.tup []),some (.tup []),some (.tup []),some (.tup []),some (.tup []),some (.tup []),some (.tup []),some (.d (.bool false)),some (.d (.bool false)),some (.tup []),some (.tup []),some (.tup []),some (.tup []),some (.d (.bool false)),some (.d (.bool false)),some (.tup []),some (.tup []),some (.tup []),some (.d (.bool false)),some (.d (.bool false))],(.o (.o (.o (.o (.o (.o (.o (.o (.o (.o (.o (.o (.o (.o (.o (.o (.o (.o (.o (.o (.o (.o (.o (.o (.o (.o (.o (.o (.o (.o (.o (.o (.o (.o (.o (.o (.o (.o (.o (.o (.o (.new (.new (.new (.new .nil))))))))))))))))))))))))))))))))))))))))))))),(fun _ ht=>by cases ht; exact ⟨_,rfl,.refl _⟩),?_⟩
       refine ⟨[42,43,44],by kernel_rfl,?_,_,rfl,?_⟩
       ·
        refine .cons rfl rfl rfl (.no rfl (.refl _)) ?_
        refine .v rfl rfl rfl rfl (aB (b:=false) rfl rfl) ?_
        refine .v rfl rfl rfl rfl (au rfl) ?_
        exact .nil
       exact ⟨⟨z34.2,ws36,w37,false⟩,_,_,S42,.refl _ _,.refl _,(ai.r rfl ai.nil),H44.sl [] rfl rfl,h⟩
     ·
      replace h:=dG hb53 h
      refine aC.gG E.obj jr Dj [(0,some 44)] (by kernel_rfl) [36,41] (by decide) [some (.d (.int .i64 z23.1)),some (.d (.bool (z23.1 == 2))),some (.d (.bool true)),some (.d (.bool z34.1)),some (.d (.bool z34.1)),some (.d (.bool false)),some (.tup []),some (.tup []),some (.tup []),some (.d (.bool false)),some (.d (.bool false)),some (.tup []),some (.tup []),some (.tup []),some (.d (.bool false)),some (.d (.bool false)),some (.tup []),some (.tup []),some (.tup []),some (.tup []),some (.tup []),some (.tup []),some (.tup []),some (.d (.bool false)),some (.d (.bool false)),some (.tup []),some (.tup []),some (.tup []),some (.tup []),some (.tup []),some (.tup []),some (.tup []),some (.d (.bool false)),some (.d (.bool false)),some (.tup []),some (.tup []),none,none,none,none,none,none,none,none,none] ?_
      refine ⟨[0,1,2,3,4,5,6,7,8,9,10,11,12,13,14,15,16,17,18,19,20,21,22,23,24,25,26,27,28,29,30,31,32,33,34,35],by kernel_rfl,?_,_,_,rfl,rfl,.no rfl ?_⟩
      ·
       refine .v rfl rfl rfl rfl (aa rfl) ?_
       refine .v rfl rfl rfl rfl (aD rfl rfl bq) ?_
       refine .cons rfl rfl rfl (.val rfl (aa rfl) (.eq (by rw [hb52]))) ?_
       refine .v rfl rfl rfl rfl (aa rfl) ?_
       refine .v rfl rfl rfl rfl (aB (b:=true) rfl rfl) ?_
       refine .cons rfl rfl rfl (.val rfl (aa rfl) (.eq (by rw [hb53]))) ?_
       refine .cons rfl rfl rfl (.no rfl (.refl _)) ?_
       refine .cons rfl rfl rfl (.no rfl (.refl _)) ?_
       refine .cons rfl rfl rfl (.no rfl (.refl _)) ?_
       refine .v rfl rfl rfl rfl (aB (b:=false) rfl rfl) ?_
       refine .v rfl rfl rfl rfl (aa rfl) ?_
       refine .cons rfl rfl rfl (.no rfl (.refl _)) ?_
       refine .cons rfl rfl rfl (.no rfl (.refl _)) ?_
       refine .cons rfl rfl rfl (.no rfl (.refl _)) ?_
       refine .v rfl rfl rfl rfl (aB (b:=false) rfl rfl) ?_
       refine .v rfl rfl rfl rfl (aa rfl) ?_
       refine .cons rfl rfl rfl (.no rfl (.refl _)) ?_
       refine .cons rfl rfl rfl (.no rfl (.refl _)) ?_
       refine .cons rfl rfl rfl (.no rfl (.refl _)) ?_
       refine .cons rfl rfl rfl (.no rfl (.refl _)) ?_
       refine .cons rfl rfl rfl (.no rfl (.refl _)) ?_
       refine .cons rfl rfl rfl (.no rfl (.refl _)) ?_
       refine .cons rfl rfl rfl (.no rfl (.refl _)) ?_
       refine .v rfl rfl rfl rfl (aB (b:=false) rfl rfl) ?_
       refine .v rfl rfl rfl rfl (aa rfl) ?_
       refine .cons rfl rfl rfl (.no rfl (.refl _)) ?_
       refine .cons rfl rfl rfl (.no rfl (.refl _)) ?_
       refine .cons rfl rfl rfl (.no rfl (.refl _)) ?_
       refine .cons rfl rfl rfl (.no rfl (.refl _)) ?_
       refine .cons rfl rfl rfl (.no rfl (.refl _)) ?_
       refine .cons rfl rfl rfl (.no rfl (.refl _)) ?_
       refine .cons rfl rfl rfl (.no rfl (.refl _)) ?_
       refine .v rfl rfl rfl rfl (aB (b:=false) rfl rfl) ?_
       refine .v rfl rfl rfl rfl (aa rfl) ?_
       refine .cons rfl rfl rfl (.no rfl (.refl _)) ?_
       refine .cons rfl rfl rfl (.no rfl (.refl _)) ?_
       exact .nil
      refine ⟨[some (.d (.int .i64 z23.1)),some (.d (.bool (z23.1 == 2))),some (.d (.bool true)),some (.d (.bool z34.1)),some (.d (.bool z34.1)),some (.d (.bool false)),some (.tup []),some (.tup []),some (.tup []),some (.d (.bool false)),some (.d (.bool false)),some (.tup []),some (.tup []),some (.tup []),some (.d (.bool false)),some (.d (.bool false)),some (.tup []),some (.tup []),some (.tup []),some (.tup []),some (.tup []),some (.tup []),some (.tup []),some (.d (.bool false)),some (.d (.bool false)),some (.tup []),some (.tup []),some (.tup []),some (.tup []),some (.tup []),some (.tup []),some (.tup []),some (.d (.bool false)),some (.d (.bool false)),some (.tup []),some (.tup []),some (.tup []),some (.tup []),some (.d (.bool false)),some (.d (.bool false)),some (.tup []),none,none,none,none],(.o (.o (.o (.o (.o (.o (.o (.o (.o (.o (.o (.o (.o (.o (.o (.o (.o (.o (.o (.o (.o (.o (.o (.o (.o (.o (.o (.o (.o (.o (.o (.o (.o (.o (.o (.o (.new (.new (.new (.new (.new (.new (.new (.new (.new .nil))))))))))))))))))))))))))))))))))))))))))))),(fun _ ht=>by cases ht; exact ⟨_,rfl,.refl _⟩),?_⟩
      refine ⟨[37,38,39,40],by kernel_rfl,?_,_,_,rfl,rfl,.no rfl ?_⟩
      ·
       refine .cons rfl rfl rfl (.no rfl (.refl _)) ?_
       refine .v rfl rfl rfl rfl (aB (b:=false) rfl rfl) ?_
       refine .v rfl rfl rfl rfl (aa rfl) ?_
       refine .cons rfl rfl rfl (.no rfl (.refl _)) ?_
       exact .nil
      refine ⟨[some (.d (.int .i64 z23.1)),some (.d (.bool (z23.1 == 2))),some (.d (.bool true)),some (.d (.bool z34.1)),some (.d (.bool z34.1)),some (.d (.bool false)),some (.tup []),some (.tup []),some (.tup []),some (.d (.bool false)),some (.d (.bool false)),some (.tup []),some (.tup []),some (.tup []),some (.d (.bool false)),some (.d (.bool false)),some (.tup []),some (.tup []),some (.tup []),some (.tup []),some (.tup []),some (.tup []),some (.tup []),some (.d (.bool false)),some (.d (.bool false)),some (.tup []),some (.tup []),some (.tup []),some (.tup []),some (.tup []),some (.tup []),some (.tup []),some (.d (.bool false)),some (.d (.bool false)),some (.tup []),some (.tup []),some (.tup []),some (.tup []),some (.d (.bool false)),some (.d (.bool false)),some (.tup []),some (.tup []),some (.tup []),some (.d (.bool false)),some (.d (.bool false))],(.o (.o (.o (.o (.o (.o (.o (.o (.o (.o (.o (.o (.o (.o (.o (.o (.o (.o (.o (.o (.o (.o (.o (.o (.o (.o (.o (.o (.o (.o (.o (.o (.o (.o (.o (.o (.o (.o (.o (.o (.o (.new (.new (.new (.new .nil))))))))))))))))))))))))))))))))))))))))))))),(fun _ ht=>by cases ht; exact ⟨_,rfl,.refl _⟩),?_⟩
      refine ⟨[42,43,44],by kernel_rfl,?_,_,rfl,?_⟩
      ·
       refine .cons rfl rfl rfl (.no rfl (.refl _)) ?_
       refine .v rfl rfl rfl rfl (aB (b:=false) rfl rfl) ?_
       refine .v rfl rfl rfl rfl (au rfl) ?_
       exact .nil
      exact ⟨⟨z34.2,ws36,w37,false⟩,_,_,S42,.refl _ _,.refl _,(ai.r rfl ai.nil),H44.sl [] rfl rfl,h⟩
    ·
     replace h:=dG hb52 h
     refine aC.gG E.obj jr Dj [(0,some 44)] (by kernel_rfl) [36,41] (by decide) [some (.d (.int .i64 z23.1)),some (.d (.bool (z23.1 == 2))),some (.d (.bool false)),some (.tup []),some (.d (.bool false)),some (.d (.bool false)),some (.tup []),some (.tup []),some (.tup []),some (.d (.bool false)),some (.d (.bool false)),some (.tup []),some (.tup []),some (.tup []),some (.d (.bool false)),some (.d (.bool false)),some (.tup []),some (.tup []),some (.tup []),some (.tup []),some (.tup []),some (.tup []),some (.tup []),some (.d (.bool false)),some (.d (.bool false)),some (.tup []),some (.tup []),some (.tup []),some (.tup []),some (.tup []),some (.tup []),some (.tup []),some (.d (.bool false)),some (.d (.bool false)),some (.tup []),some (.tup []),none,none,none,none,none,none,none,none,none] ?_
     refine ⟨[0,1,2,3,4,5,6,7,8,9,10,11,12,13,14,15,16,17,18,19,20,21,22,23,24,25,26,27,28,29,30,31,32,33,34,35],by kernel_rfl,?_,_,_,rfl,rfl,.no rfl ?_⟩
     ·
      refine .v rfl rfl rfl rfl (aa rfl) ?_
      refine .v rfl rfl rfl rfl (aD rfl rfl bq) ?_
      refine .cons rfl rfl rfl (.val rfl (aa rfl) (.eq (by rw [hb52]))) ?_
      refine .cons rfl rfl rfl (.no rfl (.refl _)) ?_
      refine .v rfl rfl rfl rfl (aB (b:=false) rfl rfl) ?_
      refine .v rfl rfl rfl rfl (aa rfl) ?_
      refine .cons rfl rfl rfl (.no rfl (.refl _)) ?_
      refine .cons rfl rfl rfl (.no rfl (.refl _)) ?_
      refine .cons rfl rfl rfl (.no rfl (.refl _)) ?_
      refine .v rfl rfl rfl rfl (aB (b:=false) rfl rfl) ?_
      refine .v rfl rfl rfl rfl (aa rfl) ?_
      refine .cons rfl rfl rfl (.no rfl (.refl _)) ?_
      refine .cons rfl rfl rfl (.no rfl (.refl _)) ?_
      refine .cons rfl rfl rfl (.no rfl (.refl _)) ?_
      refine .v rfl rfl rfl rfl (aB (b:=false) rfl rfl) ?_
      refine .v rfl rfl rfl rfl (aa rfl) ?_
      refine .cons rfl rfl rfl (.no rfl (.refl _)) ?_
      refine .cons rfl rfl rfl (.no rfl (.refl _)) ?_
      refine .cons rfl rfl rfl (.no rfl (.refl _)) ?_
      refine .cons rfl rfl rfl (.no rfl (.refl _)) ?_
      refine .cons rfl rfl rfl (.no rfl (.refl _)) ?_
      refine .cons rfl rfl rfl (.no rfl (.refl _)) ?_
      refine .cons rfl rfl rfl (.no rfl (.refl _)) ?_
      refine .v rfl rfl rfl rfl (aB (b:=false) rfl rfl) ?_
      refine .v rfl rfl rfl rfl (aa rfl) ?_
      refine .cons rfl rfl rfl (.no rfl (.refl _)) ?_
      refine .cons rfl rfl rfl (.no rfl (.refl _)) ?_
      refine .cons rfl rfl rfl (.no rfl (.refl _)) ?_
      refine .cons rfl rfl rfl (.no rfl (.refl _)) ?_
      refine .cons rfl rfl rfl (.no rfl (.refl _)) ?_
      refine .cons rfl rfl rfl (.no rfl (.refl _)) ?_
      refine .cons rfl rfl rfl (.no rfl (.refl _)) ?_
      refine .v rfl rfl rfl rfl (aB (b:=false) rfl rfl) ?_
      refine .v rfl rfl rfl rfl (aa rfl) ?_
      refine .cons rfl rfl rfl (.no rfl (.refl _)) ?_
      refine .cons rfl rfl rfl (.no rfl (.refl _)) ?_
      exact .nil
     refine ⟨[some (.d (.int .i64 z23.1)),some (.d (.bool (z23.1 == 2))),some (.d (.bool false)),some (.tup []),some (.d (.bool false)),some (.d (.bool false)),some (.tup []),some (.tup []),some (.tup []),some (.d (.bool false)),some (.d (.bool false)),some (.tup []),some (.tup []),some (.tup []),some (.d (.bool false)),some (.d (.bool false)),some (.tup []),some (.tup []),some (.tup []),some (.tup []),some (.tup []),some (.tup []),some (.tup []),some (.d (.bool false)),some (.d (.bool false)),some (.tup []),some (.tup []),some (.tup []),some (.tup []),some (.tup []),some (.tup []),some (.tup []),some (.d (.bool false)),some (.d (.bool false)),some (.tup []),some (.tup []),some (.tup []),some (.tup []),some (.d (.bool false)),some (.d (.bool false)),some (.tup []),none,none,none,none],(.o (.o (.o (.o (.o (.o (.o (.o (.o (.o (.o (.o (.o (.o (.o (.o (.o (.o (.o (.o (.o (.o (.o (.o (.o (.o (.o (.o (.o (.o (.o (.o (.o (.o (.o (.o (.new (.new (.new (.new (.new (.new (.new (.new (.new .nil))))))))))))))))))))))))))))))))))))))))))))),(fun _ ht=>by cases ht; exact ⟨_,rfl,.refl _⟩),?_⟩
     refine ⟨[37,38,39,40],by kernel_rfl,?_,_,_,rfl,rfl,.no rfl ?_⟩
     ·
      refine .cons rfl rfl rfl (.no rfl (.refl _)) ?_
      refine .v rfl rfl rfl rfl (aB (b:=false) rfl rfl) ?_
      refine .v rfl rfl rfl rfl (aa rfl) ?_
      refine .cons rfl rfl rfl (.no rfl (.refl _)) ?_
      exact .nil
     refine ⟨[some (.d (.int .i64 z23.1)),some (.d (.bool (z23.1 == 2))),some (.d (.bool false)),some (.tup []),some (.d (.bool false)),some (.d (.bool false)),some (.tup []),some (.tup []),some (.tup []),some (.d (.bool false)),some (.d (.bool false)),some (.tup []),some (.tup []),some (.tup []),some (.d (.bool false)),some (.d (.bool false)),some (.tup []),some (.tup []),some (.tup []),some (.tup []),some (.tup []),some (.tup []),some (.tup []),some (.d (.bool false)),some (.d (.bool false)),some (.tup []),some (.tup []),some (.tup []),some (.tup []),some (.tup []),some (.tup []),some (.tup []),some (.d (.bool false)),some (.d (.bool false)),some (.tup []),some (.tup []),some (.tup []),some (.tup []),some (.d (.bool false)),some (.d (.bool false)),some (.tup []),some (.tup []),some (.tup []),some (.d (.bool false)),some (.d (.bool false))],(.o (.o (.o (.o (.o (.o (.o (.o (.o (.o (.o (.o (.o (.o (.o (.o (.o (.o (.o (.o (.o (.o (.o (.o (.o (.o (.o (.o (.o (.o (.o (.o (.o (.o (.o (.o (.o (.o (.o (.o (.o (.new (.new (.new (.new .nil))))))))))))))))))))))))))))))))))))))))))))),(fun _ ht=>by cases ht; exact ⟨_,rfl,.refl _⟩),?_⟩
     refine ⟨[42,43,44],by kernel_rfl,?_,_,rfl,?_⟩
     ·
      refine .cons rfl rfl rfl (.no rfl (.refl _)) ?_
      refine .v rfl rfl rfl rfl (aB (b:=false) rfl rfl) ?_
      refine .v rfl rfl rfl rfl (au rfl) ?_
      exact .nil
     exact ⟨⟨z34.2,ws36,w37,false⟩,_,_,S42,.refl _ _,.refl _,(ai.r rfl ai.nil),H44.sl [] rfl rfl,h⟩
set_option maxRecDepth 20000 in
set_option maxHeartbeats 4000000 in
theorem nu (n:Nat) (a1:(List Attr)) (a2:(List Attr)) (r:Bool) (h:fq n a1 a2=some r):fw R cfg.P 75 [(.sl ((a1).map az) false),(.sl ((a2).map az) false)] (.d (.bool r)):=by
 unfold fq at h
 refine fw.of_wp E.obj.toObjOk (C:=cfg) Try.func75 rfl NN rfl ?_
 have H0:Has aK aK []:=Has.pure
 refine aC.seq ?_
 refine aC.region E.obj rfl ?_
 refine aj.val rfl (au rfl) rfl ?_
 refine aj.nil ?_
 refine aC.seq ?_
 refine aC.seq ?_
 refine aC.region E.obj rfl ?_
 refine aj.val rfl (aa rfl) rfl ?_
 refine aj.val rfl (bu rfl Lc) rfl ?_
 refine aj.val rfl (aa rfl) rfl ?_
 refine aj.val rfl (bu rfl Lc) rfl ?_
 refine aj.val rfl (aD rfl rfl jd) rfl ?_
 refine aj.nil ?_
 refine aC.cond rfl (fun hb3=>?_) (fun hb3=>?_)
 ·
  replace h:=dE hb3 h
  refine aC.seq ?_
  refine aC.region E.obj rfl ?_
  refine aj.val rfl (au rfl) rfl ?_
  refine aj.nil ?_
  have hr:=Option.some.inj h
  subst hr
  exact aC.ret ⟨_,rfl,rfl,jW (aQ.eq .nil)⟩
 ·
  replace h:=dG hb3 h
  refine aC.skip ?_
  refine aC.seq ?_
  refine aC.seq ?_
  refine aC.region E.obj rfl ?_
  refine aj.val rfl (au rfl) rfl ?_
  refine aj.nil ?_
  refine aC.block ?_
  refine qd.start (B:=aK) (α:=Int) (fun k a=>bJ a1 a2 k a=some r) (fun a=>[(0,(.d (.sl ((a1).map az) false))),(1,(.d (.sl ((a2).map az) false))),(5,(.d (.int .i64 a)))]) (fun a=>[]) ?_ ?_ n ⟨0,_,_,aK,.refl _ _,.refl _,(ai.r rfl (ai.r rfl (ai.r rfl ai.nil))),H0.sl [] rfl rfl,h⟩
  ·
   intro a h; simp [bJ] at h
  ·
   intro k12 x11 S9 H10 h
   replace h:bJ a1 a2 (k12 + 1) x11=some r:=h
   replace H10:Has aK S9 []:=H10
   unfold bJ at h
   refine aC.seq ?_
   refine aC.seq ?_
   refine aC.region E.obj rfl ?_
   refine aj.val rfl (aa rfl) rfl ?_
   refine aj.val rfl (aa rfl) rfl ?_
   refine aj.val rfl (bu rfl Lc) rfl ?_
   refine aj.val rfl (aD rfl rfl dO) rfl ?_
   refine aj.nil ?_
   refine aC.cond rfl (fun hb13=>?_) (fun hb13=>?_)
   ·
    replace h:=dE hb13 h
    refine aC.skip ?_
    refine aC.seq ?_
    refine aC.block ?_
    refine aC.seq ?_
    obtain ⟨z14,hzz14,h⟩:=bind_some h
    obtain ⟨z15,hzz15,h⟩:=bind_some h
    refine aC.gG E.obj jr Ou [(0,none),(1,none),(5,none),(25,some 8)] (by kernel_rfl) [] (by decide) [some (.d (.sl ((a1).map az) false)),some (.d (.int .i64 x11)),some (.eptr (az z14) 0),some (.d (az z14)),some (.d (.sl ((a2).map az) false)),some (.d (.int .i64 x11)),some (.eptr (az z15) 0),some (.d (az z15)),some (.d (.bool (!(Attr.beq z14 z15))))] ?_
    refine ⟨[0,1,2,3,4,5,6,7,8],by kernel_rfl,?_,_,rfl,?_⟩
    ·
     refine .v rfl rfl rfl rfl (aa rfl) ?_
     refine .v rfl rfl rfl rfl (aa rfl) ?_
     refine .v rfl rfl rfl rfl (bA rfl rfl (bS (enc:=az) hzz14 Jr Ma ((Attr.len _).trans Fx.symm))) ?_
     refine .v rfl rfl rfl rfl (aW rfl (Attr.rF KD Fx)) ?_
     refine .v rfl rfl rfl rfl (aa rfl) ?_
     refine .v rfl rfl rfl rfl (aa rfl) ?_
     refine .v rfl rfl rfl rfl (bA rfl rfl (bS (enc:=az) hzz15 Jr Ma ((Attr.len _).trans Fx.symm))) ?_
     refine .v rfl rfl rfl rfl (aW rfl (Attr.rF KD Fx)) ?_
     refine .v rfl rfl rfl rfl (aD rfl rfl (EY (Attr.eq _) (Attr.eq _) (Mg _ _))) ?_
     exact .nil
    refine aC.cond rfl (fun hb16=>?_) (fun hb16=>?_)
    ·
     replace h:=dE hb16 h
     refine aC.seq ?_
     refine aC.region E.obj rfl ?_
     refine aj.val rfl (au rfl) rfl ?_
     refine aj.nil ?_
     have hr:=Option.some.inj h
     subst hr
     exact aC.ret ⟨_,rfl,rfl,jW (aQ.eq .nil)⟩
    ·
     replace h:=dG hb16 h
     refine aC.skip ?_
     refine aC.region E.obj rfl ?_
     refine aj.val rfl (aa rfl) rfl ?_
     refine aj.val rfl (aD rfl rfl dx) rfl ?_
     refine aj.val rfl (au rfl) rfl ?_
     refine aj.nil ?_
     exact ⟨(IntKind.wrap .i64 (x11 + 1)),_,_,S9,.refl _ _,.refl _,(ai.r rfl (ai.r rfl (ai.r rfl ai.nil))),H10.sl [] rfl rfl,h⟩
   ·
    replace h:=dG hb13 h
    refine aC.exit ?_
    refine aC.seq ?_
    refine aC.region E.obj rfl ?_
    refine aj.val rfl (au rfl) rfl ?_
    refine aj.nil ?_
    have hr:=Option.some.inj h
    subst hr
    exact aC.ret ⟨_,rfl,rfl,jW (aQ.eq .nil)⟩
set_option maxRecDepth 20000 in
set_option maxHeartbeats 4000000 in
theorem dH:∀ (n:Nat) (a1:Tree) (a2:Tree) (r:Bool),dh n a1 a2=some r→fw R cfg.P 41 [(ak a1),(ak a2)] (.d (.bool r))
 | 0,a1,a2,r,h=>by simp [dh] at h
 | n + 1,a1,a2,r,h=>by
  have ih:=dH n
  unfold dh at h
  refine fw.of_wp E.obj.toObjOk (C:=cfg) Try.func41 rfl Np rfl ?_
  have H0:Has aK aK []:=Has.pure
  refine aC.seq ?_
  refine aC.region E.obj rfl ?_
  refine aj.box H0 rfl rfl rfl (Tree.dN _) rfl (fun b3 S4 H5=>?_)
  refine aj.box H5 rfl rfl rfl (Tree.dN _) rfl (fun b6 S7 H8=>?_)
  refine aj.val rfl (au rfl) rfl ?_
  refine aj.nil ?_
  refine aC.seq ?_
  refine aC.seq ?_
  refine aC.region E.obj rfl ?_
  refine aj.val rfl (aF rfl qW uY rfl) rfl ?_
  refine aj.val rfl (aJ H8 (i:=1) rfl rfl (aU tZ rfl)) rfl ?_
  refine aj.val rfl (aF rfl qW uY rfl) rfl ?_
  refine aj.val rfl (aJ H8 (i:=0) rfl rfl (aU tZ rfl)) rfl ?_
  refine aj.val rfl (aD rfl rfl nX) rfl ?_
  refine aj.val rfl (aa rfl) rfl ?_
  refine aj.kS 6 17 (.d (.bool ((!(a1.Tag == a2.Tag)) || (!(a1.Key == a2.Key))))) ?_ ?_
  ·
   rcases Bool.eq_false_or_eq_true ((!(a1.Tag == a2.Tag))) with hB9 | hB9
   ·
    refine aj.bool hB9 ?_
    refine aj.no rfl rfl ?_
    refine aj.no rfl rfl ?_
    refine aj.no rfl rfl ?_
    refine aj.no rfl rfl ?_
    refine aj.no rfl rfl ?_
    refine aj.val rfl (aB (b:=true) rfl rfl) rfl ?_
    exact aj.nil ⟨_,rfl,(ai.put (ai.push rfl (ai.push rfl (ai.push rfl (ai.push rfl (ai.push rfl (ai.put (.refl _) (Less.eq (by rw [hB9])))))))) (Less.eq (by rw [hB9]; rw [Bool.true_or])))⟩
   ·
    refine aj.bool hB9 ?_
    refine aj.val rfl (aF rfl uO uY rfl) rfl ?_
    refine aj.val rfl (aJ H8 (i:=1) rfl rfl (aU tZ rfl)) rfl ?_
    refine aj.val rfl (aF rfl uO uY rfl) rfl ?_
    refine aj.val rfl (aJ H8 (i:=0) rfl rfl (aU tZ rfl)) rfl ?_
    refine aj.val rfl (aD rfl rfl nX) rfl ?_
    refine aj.val rfl (aB (b:=false) rfl rfl) rfl ?_
    exact aj.nil ⟨_,rfl,(ai.put (ai.push rfl (ai.push rfl (ai.push rfl (ai.push rfl (ai.push rfl (ai.put (.refl _) (Less.eq (by rw [hB9])))))))) (Less.eq (by rw [hB9]; rw [Bool.false_or])))⟩
  ·
   refine aj.val rfl (aa rfl) rfl ?_
   refine aj.kS 6 24 (.d (.bool (((!(a1.Tag == a2.Tag)) || (!(a1.Key == a2.Key))) || (!(a1.Text == a2.Text))))) ?_ ?_
   ·
    rcases Bool.eq_false_or_eq_true (((!(a1.Tag == a2.Tag)) || (!(a1.Key == a2.Key)))) with hB10 | hB10
    ·
     refine aj.bool hB10 ?_
     refine aj.no rfl rfl ?_
     refine aj.no rfl rfl ?_
     refine aj.no rfl rfl ?_
     refine aj.no rfl rfl ?_
     refine aj.no rfl rfl ?_
     refine aj.val rfl (aB (b:=true) rfl rfl) rfl ?_
     exact aj.nil ⟨_,rfl,(ai.put (ai.push rfl (ai.push rfl (ai.push rfl (ai.push rfl (ai.push rfl (ai.put (.refl _) (Less.eq (by rw [hB10])))))))) (Less.eq (by rw [hB10]; rw [Bool.true_or])))⟩
    ·
     refine aj.bool hB10 ?_
     refine aj.val rfl (aF rfl CV uY rfl) rfl ?_
     refine aj.val rfl (aJ H8 (i:=1) rfl rfl (aU tZ rfl)) rfl ?_
     refine aj.val rfl (aF rfl CV uY rfl) rfl ?_
     refine aj.val rfl (aJ H8 (i:=0) rfl rfl (aU tZ rfl)) rfl ?_
     refine aj.val rfl (aD rfl rfl nX) rfl ?_
     refine aj.val rfl (aB (b:=false) rfl rfl) rfl ?_
     exact aj.nil ⟨_,rfl,(ai.put (ai.push rfl (ai.push rfl (ai.push rfl (ai.push rfl (ai.push rfl (ai.put (.refl _) (Less.eq (by rw [hB10])))))))) (Less.eq (by rw [hB10]; rw [Bool.false_or])))⟩
   ·
    refine aj.val rfl (aa rfl) rfl ?_
    obtain ⟨z12,hzz12,h⟩:=bind_some h
    refine aj.kS 7 32 (.d (.bool z12)) ?_ ?_
    ·
     rcases Bool.eq_false_or_eq_true ((((!(a1.Tag == a2.Tag)) || (!(a1.Key == a2.Key))) || (!(a1.Text == a2.Text)))) with hB11 | hB11
     ·
      refine aj.bool hB11 ?_
      refine aj.no rfl rfl ?_
      refine aj.no rfl rfl ?_
      refine aj.no rfl rfl ?_
      refine aj.no rfl rfl ?_
      refine aj.no rfl rfl ?_
      refine aj.no rfl rfl ?_
      refine aj.val rfl (aB (b:=true) rfl rfl) rfl ?_
      replace hzz12:=dE hB11 hzz12
      cases hzz12
      exact aj.nil ⟨_,rfl,(ai.put (ai.push rfl (ai.push rfl (ai.push rfl (ai.push rfl (ai.push rfl (ai.push rfl (ai.put (.refl _) (Less.eq (by rw [hB11]))))))))) (.refl _))⟩
     ·
      refine aj.bool hB11 ?_
      replace hzz12:=dG hB11 hzz12
      refine aj.val rfl (aF rfl yU DK rfl) rfl ?_
      refine aj.val rfl (aJ H8 (i:=1) rfl rfl (aU HV rfl)) rfl ?_
      refine aj.val rfl (aF rfl yU DK rfl) rfl ?_
      refine aj.val rfl (aJ H8 (i:=0) rfl rfl (aU HV rfl)) rfl ?_
      obtain ⟨z13,hzz13,hzz12⟩:=bind_some hzz12
      refine aj.ret rfl (aH rfl rfl) (nu E _ _ _ _ hzz13 _ _ (aQ.eq (aQ.eq .nil))) rfl ?_
      refine aj.val rfl (iI rfl) rfl ?_
      refine aj.val rfl (aB (b:=false) rfl rfl) rfl ?_
      cases hzz12
      exact aj.nil ⟨_,rfl,(ai.put (ai.push rfl (ai.push rfl (ai.push rfl (ai.push rfl (ai.push rfl (ai.push rfl (ai.put (.refl _) (Less.eq (by rw [hB11]))))))))) (.refl _))⟩
    ·
     refine aj.val rfl (aa rfl) rfl ?_
     refine aj.kS 8 41 (.d (.bool (z12 || (((a1.Kids).length:Int) != ((a2.Kids).length:Int))))) ?_ ?_
     ·
      rcases Bool.eq_false_or_eq_true (z12) with hB14 | hB14
      ·
       refine aj.bool hB14 ?_
       refine aj.no rfl rfl ?_
       refine aj.no rfl rfl ?_
       refine aj.no rfl rfl ?_
       refine aj.no rfl rfl ?_
       refine aj.no rfl rfl ?_
       refine aj.no rfl rfl ?_
       refine aj.no rfl rfl ?_
       refine aj.val rfl (aB (b:=true) rfl rfl) rfl ?_
       exact aj.nil ⟨_,rfl,(ai.put (ai.push rfl (ai.push rfl (ai.push rfl (ai.push rfl (ai.push rfl (ai.push rfl (ai.push rfl (ai.put (.refl _) (Less.eq (by rw [hB14])))))))))) (Less.eq (by rw [hB14]; rw [Bool.true_or])))⟩
      ·
       refine aj.bool hB14 ?_
       refine aj.val rfl (aF rfl jV rT rfl) rfl ?_
       refine aj.val rfl (aJ H8 (i:=1) rfl rfl (aU uW rfl)) rfl ?_
       refine aj.val rfl (bu rfl AO) rfl ?_
       refine aj.val rfl (aF rfl jV rT rfl) rfl ?_
       refine aj.val rfl (aJ H8 (i:=0) rfl rfl (aU uW rfl)) rfl ?_
       refine aj.val rfl (bu rfl AO) rfl ?_
       refine aj.val rfl (aD rfl rfl jd) rfl ?_
       refine aj.val rfl (aB (b:=false) rfl rfl) rfl ?_
       exact aj.nil ⟨_,rfl,(ai.put (ai.push rfl (ai.push rfl (ai.push rfl (ai.push rfl (ai.push rfl (ai.push rfl (ai.push rfl (ai.put (.refl _) (Less.eq (by rw [hB14])))))))))) (Less.eq (by rw [hB14]; rw [Bool.false_or])))⟩
     ·
      refine aj.nil ?_
      refine aC.cond rfl (fun hb15=>?_) (fun hb15=>?_)
      ·
       replace h:=dE hb15 h
       refine aC.seq ?_
       refine aC.region E.obj rfl ?_
       refine aj.val rfl (au rfl) rfl ?_
       refine aj.nil ?_
       have hr:=Option.some.inj h
       subst hr
       exact aC.ret ⟨_,rfl,rfl,jW (aQ.eq .nil)⟩
      ·
       replace h:=dG hb15 h
       refine aC.skip ?_
       refine aC.seq ?_
       refine aC.seq ?_
       refine aC.region E.obj rfl ?_
       refine aj.val rfl (aF rfl jV rT rfl) rfl ?_
       refine aj.val rfl (aJ H8 (i:=1) rfl rfl (aU uW rfl)) rfl ?_
       refine aj.val rfl (bu rfl AO) rfl ?_
       refine aj.val rfl (aa rfl) rfl ?_
       refine aj.nil ?_
       refine aC.block ?_
       refine qd.start (B:=aK) (α:=Int) (fun k a=>dA (dh n) a1 a2 k a=some r) (fun a=>[(2,(.ptr b3 0 0)),(3,(.ptr b6 0 0)),(44,(.d (.int .i64 ((a1.Kids).length:Int)))),(45,(.d (.int .i64 a)))]) (fun a=>[.box b6 [(.d (.str a2.Tag)),(.d (.str a2.Key)),(.d (.str a2.Text)),(.d (.sl ((a2.aL).map az) false)),(.d (.sl ((a2.Kids).map ak) false))],.box b3 [(.d (.str a1.Tag)),(.d (.str a1.Key)),(.d (.str a1.Text)),(.d (.sl ((a1.aL).map az) false)),(.d (.sl ((a1.Kids).map ak) false))]]) ?_ ?_ n ⟨0,_,_,S7,.refl _ _,.refl _,(ai.r rfl (ai.r rfl (ai.r rfl (ai.r rfl ai.nil)))),H8.sl [0,1] rfl rfl,h⟩
       ·
        intro a h; simp [dA] at h
       ·
        intro k24 x23 S21 H22 h
        replace h:dA (dh n) a1 a2 (k24 + 1) x23=some r:=h
        replace H22:Has aK S21 [.box b6 [(.d (.str a2.Tag)),(.d (.str a2.Key)),(.d (.str a2.Text)),(.d (.sl ((a2.aL).map az) false)),(.d (.sl ((a2.Kids).map ak) false))],.box b3 [(.d (.str a1.Tag)),(.d (.str a1.Key)),(.d (.str a1.Text)),(.d (.sl ((a1.aL).map az) false)),(.d (.sl ((a1.Kids).map ak) false))]]:=H22
        unfold dA at h
        refine aC.seq ?_
        refine aC.region E.obj rfl ?_
        refine aj.val rfl (aD rfl rfl dO) rfl ?_
        refine aj.nil ?_
        refine aC.seq ?_
        refine aC.cond rfl (fun hb25=>?_) (fun hb25=>?_)
        ·
         replace h:=dE hb25 h
         refine aC.skip ?_
         refine aC.seq ?_
         refine aC.block ?_
         refine aC.seq ?_
         refine aC.region E.obj rfl ?_
         refine aj.val rfl (aa rfl) rfl ?_
         refine aj.val rfl (au rfl) rfl ?_
         refine aj.nil ?_
         refine aC.seq ?_
         obtain ⟨z26,hzz26,h⟩:=bind_some h
         obtain ⟨z27,hzz27,h⟩:=bind_some h
         obtain ⟨z28,hzz28,h⟩:=bind_some h
         refine aC.gG E.obj jr Oe [(2,none),(3,none),(44,none),(45,none),(59,some 11)] (by kernel_rfl) [] (by decide) [some (.ptr b3 0 4),some (.d (.sl ((a1.Kids).map ak) false)),some (.d (.int .i64 x23)),some (.eptr (ak z26) 0),some (.d (ak z26)),some (.ptr b6 0 4),some (.d (.sl ((a2.Kids).map ak) false)),some (.d (.int .i64 x23)),some (.eptr (ak z27) 0),some (.d (ak z27)),some (.d (.bool z28)),some (.d (.bool (!z28)))] ?_
         refine ⟨[0,1,2,3,4,5,6,7,8,9,10,11],by kernel_rfl,?_,_,rfl,?_⟩
         ·
          refine .v rfl rfl rfl rfl (aF rfl jV rT rfl) ?_
          refine .v rfl rfl rfl rfl (aJ H22 (i:=1) rfl rfl (aU uW rfl)) ?_
          refine .v rfl rfl rfl rfl (aa rfl) ?_
          refine .v rfl rfl rfl rfl (bA rfl rfl (bS (enc:=ak) hzz26 qb kF ((Tree.len _).trans bY.symm))) ?_
          refine .v rfl rfl rfl rfl (aW rfl (Tree.rF fA bY)) ?_
          refine .v rfl rfl rfl rfl (aF rfl jV rT rfl) ?_
          refine .v rfl rfl rfl rfl (aJ H22 (i:=0) rfl rfl (aU uW rfl)) ?_
          refine .v rfl rfl rfl rfl (aa rfl) ?_
          refine .v rfl rfl rfl rfl (bA rfl rfl (bS (enc:=ak) hzz27 qb kF ((Tree.len _).trans bY.symm))) ?_
          refine .v rfl rfl rfl rfl (aW rfl (Tree.rF fA bY)) ?_
          refine .cons rfl rfl rfl (.step ?_) ?_
          ·
           refine aj.ret rfl (aH rfl rfl) (ih _ _ _ hzz28 _ _ (aQ.eq (aQ.eq .nil))) rfl ?_
           exact aj.nil ⟨_,_,rfl,fun _ ht=>by cases ht; exact ⟨rfl,.refl _⟩⟩
          refine .v rfl rfl rfl rfl (iI rfl) ?_
          exact .nil
         refine aC.cond rfl (fun hb29=>?_) (fun hb29=>?_)
         ·
          replace h:=dE hb29 h
          refine aC.seq ?_
          refine aC.region E.obj rfl ?_
          refine aj.val rfl (au rfl) rfl ?_
          refine aj.nil ?_
          have hr:=Option.some.inj h
          subst hr
          exact aC.ret ⟨_,rfl,rfl,jW (aQ.eq .nil)⟩
         ·
          replace h:=dG hb29 h
          refine aC.skip ?_
          refine aC.region E.obj rfl ?_
          refine aj.val rfl (aD rfl rfl dx) rfl ?_
          refine aj.val rfl (aa rfl) rfl ?_
          refine aj.nil ?_
          exact ⟨(IntKind.wrap .i64 (x23 + 1)),_,_,S21,.refl _ _,.refl _,(ai.r rfl (ai.r rfl (ai.r rfl (ai.r rfl ai.nil)))),H22.sl [0,1] rfl rfl,h⟩
        ·
         replace h:=dG hb25 h
         refine aC.exit ?_
         refine aC.seq ?_
         refine aC.region E.obj rfl ?_
         refine aj.val rfl (au rfl) rfl ?_
         refine aj.nil ?_
         have hr:=Option.some.inj h
         subst hr
         exact aC.ret ⟨_,rfl,rfl,jW (aQ.eq .nil)⟩
set_option maxRecDepth 20000 in
set_option maxHeartbeats 4000000 in
theorem gI (n:Nat) (a1:Int) (a2:Int) (a3:Int) (r:Int) (h:di n a1 a2 a3=some r):fw R cfg.P 24 [(.int .i64 a1),(.int .i64 a2),(.int .i64 a3)] (.d (.int .i64 r)):=by
 unfold di at h
 refine fw.of_wp E.obj.toObjOk (C:=cfg) Try.func24 rfl NJ rfl ?_
 have H0:Has aK aK []:=Has.pure
 refine aC.seq ?_
 refine aC.region E.obj rfl ?_
 refine aj.val rfl (au rfl) rfl ?_
 refine aj.nil ?_
 refine aC.seq ?_
 refine aC.region E.obj rfl ?_
 refine aj.val rfl (aa rfl) rfl ?_
 refine aj.val rfl (aa rfl) rfl ?_
 refine aj.val rfl (aa rfl) rfl ?_
 refine aj.val rfl (aD rfl rfl gX) rfl ?_
 refine aj.val rfl (aD rfl rfl dx) rfl ?_
 obtain ⟨z4,hzz4,h⟩:=bind_some h
 refine aj.val rfl (aD rfl rfl (BG hzz4)) rfl ?_
 refine aj.val rfl (au rfl) rfl ?_
 refine aj.nil ?_
 refine aC.join (B:=aK) (α:=Int) (fun a=>eu a2 a=some r) (fun a=>[(0,(.d (.int .i64 a))),(1,(.d (.int .i64 a2)))]) (fun a=>[]) ?_ ?_
 ·
  intro x7 S5 H6 h
  replace h:eu a2 x7=some r:=h
  replace H6:Has aK S5 []:=H6
  unfold eu at h
  refine aC.seq ?_
  refine aC.region E.obj rfl ?_
  refine aj.val rfl (aa rfl) rfl ?_
  refine aj.val rfl (aa rfl) rfl ?_
  refine aj.val rfl (aD rfl rfl dx) rfl ?_
  refine aj.val rfl (au rfl) rfl ?_
  refine aj.nil ?_
  have hr:=Option.some.inj h
  subst hr
  exact aC.ret ⟨_,rfl,rfl,jW (aQ.eq .nil)⟩
 ·
  refine aC.seq ?_
  refine aC.region E.obj rfl ?_
  refine aj.val rfl (aa rfl) rfl ?_
  refine aj.val rfl (aD rfl rfl dO) rfl ?_
  refine aj.nil ?_
  refine aC.cond rfl (fun hb9=>?_) (fun hb9=>?_)
  ·
   replace h:=dE hb9 h
   refine aC.region E.obj rfl ?_
   refine aj.val rfl (aa rfl) rfl ?_
   refine aj.val rfl (aa rfl) rfl ?_
   refine aj.val rfl (aD rfl rfl dx) rfl ?_
   refine aj.val rfl (aa rfl) rfl ?_
   refine aj.val rfl (aD rfl rfl gX) rfl ?_
   refine aj.val rfl (aD rfl rfl dx) rfl ?_
   refine aj.val rfl (au rfl) rfl ?_
   refine aj.nil ?_
   exact ⟨(IntKind.wrap .i64 ((IntKind.wrap .i64 ((IntKind.wrap .i64 (z4 + a3)) - a2)) + 1)),_,_,aK,.refl _ _,.refl _,(ai.r rfl (ai.r rfl ai.nil)),H0.sl [] rfl rfl,h⟩
  ·
   replace h:=dG hb9 h
   refine aC.skip ?_
   exact ⟨z4,_,_,aK,.refl _ _,.refl _,(ai.r rfl (ai.r rfl ai.nil)),H0.sl [] rfl rfl,h⟩
set_option maxRecDepth 20000 in
set_option maxHeartbeats 4000000 in
theorem sj (n:Nat)  (r:(List Str)) (h:jK n  = some r):fw R cfg.P 76 [] (.d (.sl ((r).map D.str) false)):=by
 unfold jK at h
 refine fw.of_wp E.obj.toObjOk (C:=cfg) Try.func76 rfl MW rfl ?_
 have H0:Has aK aK []:=Has.pure
 refine aC.seq ?_
 refine aC.region E.obj rfl ?_
 refine aj.val rfl (au rfl) rfl ?_
 refine aj.nil ?_
 refine aC.seq ?_
 refine aC.region E.obj rfl ?_
 refine aj.val rfl (cK (vs:=[(.d (.str [97])),(.d (.str [98])),(.d (.str [105,116,101,109])),(.d (.str [120,32,121])),(.d (.str [37])),(.d (.str [97,47,98])),(.d (.str [46,46])),(.d (.str [122])),(.d (.str [49])),(.d (.str [108,105,115,116])),(.d (.str [255])),(.d (.str [63,61,38]))]) (ds:=[(.str [97]),(.str [98]),(.str [105,116,101,109]),(.str [120,32,121]),(.str [37]),(.str [97,47,98]),(.str [46,46]),(.str [122]),(.str [49]),(.str [108,105,115,116]),(.str [255]),(.str [63,61,38])]) Mk JB tZ Ox Lt rfl (by decide) (.cons rfl rfl (.cons rfl rfl (.cons rfl rfl (.cons rfl rfl (.cons rfl rfl (.cons rfl rfl (.cons rfl rfl (.cons rfl rfl (.cons rfl rfl (.cons rfl rfl (.cons rfl rfl (.cons rfl rfl .nil)))))))))))) rfl (by intro d hd; simp only [List.mem_cons,List.not_mem_nil,or_false] at hd; rcases hd with rfl | rfl | rfl | rfl | rfl | rfl | rfl | rfl | rfl | rfl | rfl | rfl <;> rfl) rfl) rfl ?_
 refine aj.val rfl (au rfl) rfl ?_
 refine aj.nil ?_
 have hr:=Option.some.inj h
 subst hr
 exact aC.ret ⟨_,rfl,rfl,jW (aQ.jI rfl (.vI _ _) .nil)⟩
set_option maxRecDepth 20000 in
set_option maxHeartbeats 4000000 in
theorem ik (n:Nat) (a1:(List Int)) (a2:Int) (r:Int) (h:eX n a1 a2=some r):fw R cfg.P 77 [(.sl ((a1).map (D.int .i64)) false),(.int .i64 a2)] (.d (.int .i64 r)):=by
 unfold eX at h
 refine fw.of_wp E.obj.toObjOk (C:=cfg) Try.func77 rfl Oi rfl ?_
 have H0:Has aK aK []:=Has.pure
 refine aC.seq ?_
 refine aC.region E.obj rfl ?_
 refine aj.val rfl (au rfl) rfl ?_
 refine aj.nil ?_
 refine aC.seq ?_
 refine aC.seq ?_
 refine aC.region E.obj rfl ?_
 refine aj.val rfl (aa rfl) rfl ?_
 refine aj.val rfl (bu rfl jh) rfl ?_
 refine aj.val rfl (aD rfl rfl bq) rfl ?_
 refine aj.nil ?_
 refine aC.cond rfl (fun hb3=>?_) (fun hb3=>?_)
 ·
  replace h:=dE hb3 h
  refine aC.seq ?_
  refine aC.region E.obj rfl ?_
  refine aj.val rfl (au rfl) rfl ?_
  refine aj.nil ?_
  have hr:=Option.some.inj h
  subst hr
  exact aC.ret ⟨_,rfl,rfl,jW (aQ.eq .nil)⟩
 ·
  replace h:=dG hb3 h
  refine aC.skip ?_
  refine aC.seq ?_
  refine aC.region E.obj rfl ?_
  refine aj.val rfl (aa rfl) rfl ?_
  refine aj.val rfl (aa rfl) rfl ?_
  refine aj.val rfl (aa rfl) rfl ?_
  refine aj.val rfl (bu rfl jh) rfl ?_
  obtain ⟨z4,hzz4,h⟩:=bind_some h
  refine aj.val rfl (aD rfl rfl (BG hzz4)) rfl ?_
  obtain ⟨z5,hzz5,h⟩:=bind_some h
  refine aj.val rfl (bA rfl rfl (bS (enc:=(D.int .i64)) hzz5 fH pz (((fun _=>rfl) _).trans kH.symm))) rfl ?_
  refine aj.val rfl (aW rfl (bK nU rfl)) rfl ?_
  refine aj.val rfl (au rfl) rfl ?_
  refine aj.nil ?_
  have hr:=Option.some.inj h
  subst hr
  exact aC.ret ⟨_,rfl,rfl,jW (aQ.eq .nil)⟩
set_option maxRecDepth 20000 in
set_option maxHeartbeats 4000000 in
theorem tX (n:Nat) (a1:(List Int)) (a2:Int) (r:Int) (h:iZ n a1 a2=some r):fw R cfg.P 78 [(.sl ((a1).map (D.int .i64)) false),(.int .i64 a2)] (.d (.int .i64 r)):=by
 unfold iZ at h
 refine fw.of_wp E.obj.toObjOk (C:=cfg) Try.func78 rfl Nb rfl ?_
 have H0:Has aK aK []:=Has.pure
 refine aC.seq ?_
 refine aC.region E.obj rfl ?_
 refine aj.val rfl (au rfl) rfl ?_
 refine aj.nil ?_
 refine aC.seq ?_
 refine aC.region E.obj rfl ?_
 refine aj.val rfl (au rfl) rfl ?_
 refine aj.nil ?_
 refine aC.seq ?_
 refine aC.block ?_
 refine qd.start (B:=aK) (α:=Int × Int) (fun k a=>df a1 k a.1 a.2=some r) (fun a=>[(0,(.d (.sl ((a1).map (D.int .i64)) false))),(1,(.d (.int .i64 a.1))),(5,(.d (.int .i64 a.2)))]) (fun a=>[]) ?_ ?_ n ⟨⟨a2,0⟩,_,_,aK,.refl _ _,.refl _,(ai.r rfl (ai.r rfl (ai.r rfl ai.nil))),H0.sl [] rfl rfl,h⟩
 ·
  intro a h; simp [df] at h
 ·
  intro k13 a S9 H10 h
  obtain ⟨x11,x12⟩:=a
  replace h:df a1 (k13 + 1) x11 x12=some r:=h
  replace H10:Has aK S9 []:=H10
  unfold df at h
  refine aC.seq ?_
  refine aC.seq ?_
  refine aC.region E.obj rfl ?_
  refine aj.val rfl (aa rfl) rfl ?_
  refine aj.val rfl (aD rfl rfl qD) rfl ?_
  refine aj.val rfl (aa rfl) rfl ?_
  refine aj.kS 3 11 (.d (.bool ((decide (0 ≤ x11)) && (decide (x12 < 99))))) ?_ ?_
  ·
   rcases Bool.eq_false_or_eq_true ((decide (0 ≤ x11))) with hB14 | hB14
   ·
    refine aj.bool hB14 ?_
    refine aj.val rfl (aa rfl) rfl ?_
    refine aj.val rfl (aD rfl rfl dO) rfl ?_
    refine aj.val rfl (aB (b:=true) rfl rfl) rfl ?_
    exact aj.nil ⟨_,rfl,(ai.put (ai.push rfl (ai.push rfl (ai.put (.refl _) (Less.eq (by rw [hB14]))))) (Less.eq (by rw [hB14]; rw [Bool.true_and])))⟩
   ·
    refine aj.bool hB14 ?_
    refine aj.no rfl rfl ?_
    refine aj.no rfl rfl ?_
    refine aj.val rfl (aB (b:=false) rfl rfl) rfl ?_
    exact aj.nil ⟨_,rfl,(ai.put (ai.push rfl (ai.push rfl (ai.put (.refl _) (Less.eq (by rw [hB14]))))) (Less.eq (by rw [hB14]; rw [Bool.false_and])))⟩
  ·
   refine aj.nil ?_
   refine aC.cond rfl (fun hb15=>?_) (fun hb15=>?_)
   ·
    replace h:=dE hb15 h
    refine aC.skip ?_
    refine aC.block ?_
    obtain ⟨z16,hzz16,h⟩:=bind_some h
    refine aC.gG E.obj jr NV [(0,none),(1,some 7),(5,some 6)] (by kernel_rfl) [] (by decide) [some (.d (.int .i64 x12)),some (.d (.int .i64 (IntKind.wrap .i64 (x12 + 1)))),some (.d (.sl ((a1).map (D.int .i64)) false)),some (.d (.int .i64 x11)),some (.eptr (.int .i64 z16) 0),some (.d (.int .i64 z16)),some (.d (.int .i64 (IntKind.wrap .i64 (x12 + 1)))),some (.d (.int .i64 z16))] ?_
    refine ⟨[0,1,2,3,4,5,6,7],by kernel_rfl,?_,_,rfl,?_⟩
    ·
     refine .v rfl rfl rfl rfl (aa rfl) ?_
     refine .v rfl rfl rfl rfl (aD rfl rfl dx) ?_
     refine .v rfl rfl rfl rfl (aa rfl) ?_
     refine .v rfl rfl rfl rfl (aa rfl) ?_
     refine .v rfl rfl rfl rfl (bA rfl rfl (bS (enc:=(D.int .i64)) hzz16 fH pz (((fun _=>rfl) _).trans kH.symm))) ?_
     refine .v rfl rfl rfl rfl (aW rfl (bK nU rfl)) ?_
     refine .v rfl rfl rfl rfl (au rfl) ?_
     refine .v rfl rfl rfl rfl (au rfl) ?_
     exact .nil
    exact ⟨⟨z16,(IntKind.wrap .i64 (x12 + 1))⟩,_,_,S9,.refl _ _,.refl _,(ai.r rfl (ai.r rfl (ai.r rfl ai.nil))),H10.sl [] rfl rfl,h⟩
   ·
    replace h:=dG hb15 h
    refine aC.exit ?_
    refine aC.seq ?_
    refine aC.region E.obj rfl ?_
    refine aj.val rfl (aa rfl) rfl ?_
    refine aj.val rfl (au rfl) rfl ?_
    refine aj.nil ?_
    have hr:=Option.some.inj h
    subst hr
    exact aC.ret ⟨_,rfl,rfl,jW (aQ.eq .nil)⟩
set_option maxRecDepth 20000 in
set_option maxHeartbeats 4000000 in
theorem nE:∀ (n:Nat) (a1:(List bf)) (a2:(List Int)) (a3:Int) (r:Tree),bW n a1 a2 a3=some r→fw R cfg.P 79 [(.sl ((a1).map bP) false),(.sl ((a2).map (D.int .i64)) false),(.int .i64 a3)] (.d (ak r))
 | 0,a1,a2,a3,r,h=>by simp [bW] at h
 | n + 1,a1,a2,a3,r,h=>by
  have ih:=nE n
  unfold bW at h
  refine fw.of_wp E.obj.toObjOk (C:=cfg) Try.func79 rfl Nn rfl ?_
  have H0:Has aK aK []:=Has.pure
  refine aC.seq ?_
  refine aC.region E.obj rfl ?_
  refine aj.alloc H0 rfl qo jv rfl rfl (fun b4 S5 H6=>?_)
  refine aj.nil ?_
  refine aC.seq ?_
  refine aC.region E.obj rfl ?_
  refine aj.val rfl (aa rfl) rfl ?_
  refine aj.val rfl (aa rfl) rfl ?_
  obtain ⟨z7,hzz7,h⟩:=bind_some h
  refine aj.val rfl (bA rfl rfl (bS (enc:=bP) hzz7 qb kF ((bf.len _).trans bY.symm))) rfl ?_
  refine aj.val rfl (aW rfl (bf.rF fA bY)) rfl ?_
  refine aj.alloc H6 rfl qo jv rfl rfl (fun b8 S9 H10=>?_)
  refine aj.store H10 (i:=0) rfl rfl rfl rfl (bf.dN _) rfl bY rfl kF rfl rfl rfl (fun S11 H12=>?_)
  refine aj.nil ?_
  refine aC.seq ?_
  refine aC.seq ?_
  refine aC.region E.obj rfl ?_
  refine aj.val rfl (aa rfl) rfl ?_
  refine aj.val rfl (bu rfl AO) rfl ?_
  refine aj.val rfl (aa rfl) rfl ?_
  refine aj.nil ?_
  refine aC.block ?_
  have H48:=H12.IB
  refine qd.start (B:=aK) (α:=(List Tree) × AV × Int) (fun k a=>bV (bW n) a1 a2 a3 z7 k a.1 a.2.2=some r) (fun a=>[(0,(.d (.sl ((a1).map bP) false))),(1,(.d (.sl ((a2).map (D.int .i64)) false))),(2,(.d (.int .i64 a3))),(6,(.ptr b4 0 0)),(7,(.ptr b8 0 0)),(14,(.d (.int .i64 ((a1).length:Int)))),(15,(.d (.int .i64 a.2.2)))]) (fun a=>[.box b8 [(.d (.str z7.Tag)),(.d (.str z7.Key)),(.d (.str z7.Text)),(.d (.sl ((z7.aL).map az) false)),a.2.1],.box b4 [(.d (.str [])),(.d (.str [])),(.d (.str [])),(.d .aS),(.d .aS)],.grow a.2.1 ((a.1).map ak)]) ?_ ?_ n ⟨⟨[],(.d .aS),0⟩,_,_,S11,.refl _ _,.refl _,(ai.r rfl (ai.r rfl (ai.r rfl (ai.r rfl (ai.r rfl (ai.r rfl (ai.r rfl ai.nil))))))),H48.sl [1,2,0] rfl rfl,h⟩
  ·
   intro a h; simp [bV] at h
  ·
   intro k25 a S20 H21 h
   obtain ⟨x22,v23,x24⟩:=a
   replace h:bV (bW n) a1 a2 a3 z7 (k25 + 1) x22 x24=some r:=h
   replace H21:Has aK S20 [.box b8 [(.d (.str z7.Tag)),(.d (.str z7.Key)),(.d (.str z7.Text)),(.d (.sl ((z7.aL).map az) false)),v23],.box b4 [(.d (.str [])),(.d (.str [])),(.d (.str [])),(.d .aS),(.d .aS)],.grow v23 ((x22).map ak)]:=H21
   unfold bV at h
   refine aC.seq ?_
   refine aC.region E.obj rfl ?_
   refine aj.val rfl (aD rfl rfl dO) rfl ?_
   refine aj.nil ?_
   refine aC.seq ?_
   refine aC.cond rfl (fun hb26=>?_) (fun hb26=>?_)
   ·
    replace h:=dE hb26 h
    refine aC.skip ?_
    refine aC.join (B:=aK) (α:=(List Tree) × AV) (fun a=>eO x24 (bV (bW n) a1 a2 a3 z7 k25) a.1=some r) (fun a=>[(0,(.d (.sl ((a1).map bP) false))),(1,(.d (.sl ((a2).map (D.int .i64)) false))),(2,(.d (.int .i64 a3))),(6,(.ptr b4 0 0)),(7,(.ptr b8 0 0)),(14,(.d (.int .i64 ((a1).length:Int)))),(15,(.d (.int .i64 x24)))]) (fun a=>[.box b8 [(.d (.str z7.Tag)),(.d (.str z7.Key)),(.d (.str z7.Text)),(.d (.sl ((z7.aL).map az) false)),a.2],.box b4 [(.d (.str [])),(.d (.str [])),(.d (.str [])),(.d .aS),(.d .aS)],.grow a.2 ((a.1).map ak)]) ?_ ?_
    ·
     intro a S27 H28 h
     obtain ⟨x29,v30⟩:=a
     replace h:eO x24 (bV (bW n) a1 a2 a3 z7 k25) x29=some r:=h
     replace H28:Has aK S27 [.box b8 [(.d (.str z7.Tag)),(.d (.str z7.Key)),(.d (.str z7.Text)),(.d (.sl ((z7.aL).map az) false)),v30],.box b4 [(.d (.str [])),(.d (.str [])),(.d (.str [])),(.d .aS),(.d .aS)],.grow v30 ((x29).map ak)]:=H28
     unfold eO at h
     refine aC.region E.obj rfl ?_
     refine aj.val rfl (aD rfl rfl dx) rfl ?_
     refine aj.val rfl (aa rfl) rfl ?_
     refine aj.nil ?_
     exact ⟨⟨x29,v30,(IntKind.wrap .i64 (x24 + 1))⟩,_,_,S27,.refl _ _,.refl _,(ai.r rfl (ai.r rfl (ai.r rfl (ai.r rfl (ai.r rfl (ai.r rfl (ai.r rfl ai.nil))))))),H28.sl [0,1,2] rfl rfl,h⟩
    ·
     refine aC.block ?_
     refine aC.seq ?_
     refine aC.region E.obj rfl ?_
     refine aj.val rfl (aa rfl) rfl ?_
     refine aj.val rfl (au rfl) rfl ?_
     refine aj.nil ?_
     refine aC.seq ?_
     refine aC.region E.obj rfl ?_
     refine aj.val rfl (aa rfl) rfl ?_
     refine aj.val rfl (aa rfl) rfl ?_
     obtain ⟨z32,hzz32,h⟩:=bind_some h
     refine aj.val rfl (bA rfl rfl (bS (enc:=(D.int .i64)) hzz32 fH pz (((fun _=>rfl) _).trans kH.symm))) rfl ?_
     refine aj.val rfl (aW rfl (bK nU rfl)) rfl ?_
     refine aj.val rfl (aa rfl) rfl ?_
     refine aj.val rfl (aD rfl rfl bq) rfl ?_
     refine aj.nil ?_
     refine aC.cond rfl (fun hb33=>?_) (fun hb33=>?_)
     ·
      replace h:=dE hb33 h
      obtain ⟨z34,hzz34,h⟩:=bind_some h
      obtain ⟨z35,hzz35,h⟩:=bind_some h
      refine aC.gG E.obj jr Na [(0,none),(1,none),(2,none),(6,none),(7,none),(14,none),(15,none)] (by kernel_rfl) [7,9] (by decide) [some (.ptr b8 0 4),some v23,some (.d (.sl ((a1).map bP) false)),some (.d (.sl ((a2).map (D.int .i64)) false)),some (.d (.int .i64 x24)),some (.d (ak z34)),some (.d (.sl (([z34]).map ak) true)),none,none,none] ?_
      refine ⟨[0,1,2,3,4,5,6],by kernel_rfl,?_,_,_,rfl,rfl,.step ?_⟩
      ·
       refine .v rfl rfl rfl rfl (aF rfl jV rT rfl) ?_
       refine .v rfl rfl rfl rfl (aJ H21 (i:=0) rfl rfl (aU uW rfl)) ?_
       refine .v rfl rfl rfl rfl (aa rfl) ?_
       refine .v rfl rfl rfl rfl (aa rfl) ?_
       refine .v rfl rfl rfl rfl (aa rfl) ?_
       refine .cons rfl rfl rfl (.step ?_) ?_
       ·
        refine aj.ret rfl (aH rfl rfl) (ih _ _ _ _ hzz34 _ _ (aQ.eq (aQ.eq (aQ.eq .nil)))) rfl ?_
        exact aj.nil ⟨_,_,rfl,fun _ ht=>by cases ht; exact ⟨rfl,.refl _⟩⟩
       refine .v rfl rfl rfl rfl (cK (vs:=[(.d (ak z34))]) (ds:=[(ak z34)]) Am qb fA jv bY rfl (by decide) (.cons rfl (Tree.len _) .nil) rfl (by intro d hd; simp only [List.mem_cons,List.not_mem_nil,or_false] at hd; rcases hd with rfl <;> exact Tree.agg _) rfl) ?_
       exact .nil
      refine aj.append (xs:=(x22).map ak) (ys:=([z34]).map ak) (zs:=(z35).map ak) H21 rfl rfl rfl (i:=2) rfl rfl Am Ki qb (lC hzz35) Kk rfl (fI (enc:=ak) (fun z=>(Tree.len z).trans bY.symm) _) (fI (enc:=ak) (fun z=>(Tree.len z).trans bY.symm) _) Ka rfl (sG hzz35) (fun v41 S42 H43=>?_)
      refine aj.nil ⟨_,_,_,rfl,(fun _ ht=>by cases ht; rfl),[some (.ptr b8 0 4),some v23,some (.d (.sl ((a1).map bP) false)),some (.d (.sl ((a2).map (D.int .i64)) false)),some (.d (.int .i64 x24)),some (.d (ak z34)),some (.d (.sl (([z34]).map ak) true)),some v41,some (.ptr b8 0 4),none],(.o (.o (.o (.o (.o (.o (.o (.new (.new (.new .nil)))))))))),(fun _ ht=>by cases ht; exact ⟨_,rfl,.refl _⟩),?_⟩
      refine ⟨[8],by kernel_rfl,?_,_,_,rfl,rfl,.step ?_⟩
      ·
       refine .v rfl rfl rfl rfl (aF rfl jV rT rfl) ?_
       exact .nil
      refine aj.store H43 (i:=0) rfl rfl rfl rfl (vL (H43.at (i:=2) rfl)).2.2.2.2 rfl MC (vL (H43.at (i:=2) rfl)).2.2.2.1 Ms rfl rfl rfl (fun S44 H45=>?_)
      refine aj.nil ⟨_,.any,_,rfl,(fun _ ht=>by cases ht),[some (.ptr b8 0 4),some v23,some (.d (.sl ((a1).map bP) false)),some (.d (.sl ((a2).map (D.int .i64)) false)),some (.d (.int .i64 x24)),some (.d (ak z34)),some (.d (.sl (([z34]).map ak) true)),some v41,some (.ptr b8 0 4),some .any],(.o (.o (.o (.o (.o (.o (.o (.o (.o (.new .nil)))))))))),(fun _ ht=>by cases ht),?_⟩
      refine ⟨[],by kernel_rfl,?_,_,rfl,?_⟩
      ·
       exact .nil
      exact ⟨⟨z35,v41⟩,_,_,S44,.refl _ _,.refl _,(ai.r rfl (ai.r rfl (ai.r rfl (ai.r rfl (ai.r rfl (ai.r rfl (ai.r rfl ai.nil))))))),H45.sl [0,1,2] rfl rfl,h⟩
     ·
      replace h:=dG hb33 h
      refine aC.skip ?_
      exact ⟨⟨x22,v23⟩,_,_,S20,.refl _ _,.refl _,(ai.r rfl (ai.r rfl (ai.r rfl (ai.r rfl (ai.r rfl (ai.r rfl (ai.r rfl ai.nil))))))),H21.sl [0,1,2] rfl rfl,h⟩
   ·
    replace h:=dG hb26 h
    refine aC.exit ?_
    refine aC.seq ?_
    refine aC.region E.obj rfl ?_
    refine aj.val rfl (aJ H21 (i:=0) rfl rfl (aZ fA bY rfl)) rfl ?_
    refine aj.less (Less.agg' (d:=ak (Tree.mk z7.Tag z7.Key z7.Text z7.aL x22)) (ax.eq rfl (ax.eq rfl (ax.eq rfl (ax.eq rfl (ax.grow H21 (i:=2) rfl .nil))))) ((Tree.eq _).trans rfl)) ?_
    refine aj.store H21 (i:=1) rfl rfl rfl rfl (Tree.dN _) rfl bY rfl kF rfl rfl rfl (fun S46 H47=>?_)
    refine aj.nil ?_
    have hr:=Option.some.inj h
    subst hr
    exact aC.ret ⟨_,mH H47 (i:=1) rfl rfl rfl (aZ fA bY rfl),rfl,jW (aQ.lV (d:=ak (Tree.mk z7.Tag z7.Key z7.Text z7.aL x22)) (ax.eq rfl (ax.eq rfl (ax.eq rfl (ax.eq rfl (ax.eq rfl .nil))))) ((Tree.eq _).trans rfl))⟩
set_option maxRecDepth 20000 in
set_option maxHeartbeats 4000000 in
theorem kM (n:Nat) (a1:dP) (r:Tree) (h:fB n a1=some r):fw R cfg.P 43 [(gD a1)] (.d (ak r)):=by
 unfold fB at h
 refine fw.of_wp E.obj.toObjOk (C:=cfg) Try.func43 rfl Nf rfl ?_
 have H0:Has aK aK []:=Has.pure
 refine aC.seq ?_
 refine aC.region E.obj rfl ?_
 refine aj.box H0 rfl rfl rfl (dP.dN _) rfl (fun b2 S3 H4=>?_)
 refine aj.alloc H4 rfl qo jv rfl rfl (fun b5 S6 H7=>?_)
 refine aj.nil ?_
 refine aC.seq ?_
 refine aC.region E.obj rfl ?_
 refine aj.val rfl (cK (vs:=[(.d (.str [97])),(.d (.str [98])),(.d (.str [108,105])),(.d (.str [111,117,116,108,101,116]))]) (ds:=[(.str [97]),(.str [98]),(.str [108,105]),(.str [111,117,116,108,101,116])]) Mk JB tZ Ox Lt rfl (by decide) (.cons rfl rfl (.cons rfl rfl (.cons rfl rfl (.cons rfl rfl .nil)))) rfl (by intro d hd; simp only [List.mem_cons,List.not_mem_nil,or_false] at hd; rcases hd with rfl | rfl | rfl | rfl <;> rfl) rfl) rfl ?_
 refine aj.val rfl (au rfl) rfl ?_
 refine aj.nil ?_
 refine aC.seq ?_
 refine aC.region E.obj rfl ?_
 obtain ⟨z8,hzz8,h⟩:=bind_some h
 refine aj.ret rfl (aH rfl rfl) (sj E _  _ hzz8 _ _ .nil) rfl ?_
 refine aj.val rfl (au rfl) rfl ?_
 refine aj.nil ?_
 refine aC.seq ?_
 refine aC.region E.obj rfl ?_
 refine aj.val rfl (fu (cs:=[(.d (.str [100,105,118])),(.d (.str [])),(.d (.str [])),(.d .aS),(.d .aS)]) jv rfl (fC) (jl rfl rfl rfl rfl rfl)) rfl ?_
 refine aj.less (Less.agg' (d:=bP (bf.mk [100,105,118] [] [] [])) (ax.eq rfl (ax.eq rfl (ax.eq rfl (ax.jI rfl (.aS false) rfl rfl (ax.eq rfl .nil))))) ((bf.eq _).trans rfl)) ?_
 refine aj.val rfl (cK (vs:=[(.d (bP (bf.mk [100,105,118] [] [] [])))]) (ds:=[(bP (bf.mk [100,105,118] [] [] []))]) Am qb fA jv bY rfl (by decide) (.cons rfl (bf.len _) .nil) rfl (by intro d hd; simp only [List.mem_cons,List.not_mem_nil,or_false] at hd; rcases hd with rfl <;> exact bf.agg _) rfl) rfl ?_
 refine aj.val rfl (au rfl) rfl ?_
 refine aj.nil ?_
 refine aC.seq ?_
 refine aC.region E.obj rfl ?_
 refine aj.val rfl (cK (vs:=[(.d (.int .i64 (-1)))]) (ds:=[(.int .i64 (-1))]) EW fH nU Ie kH rfl (by decide) (.cons rfl rfl .nil) rfl (by intro d hd; simp only [List.mem_cons,List.not_mem_nil,or_false] at hd; rcases hd with rfl <;> rfl) rfl) rfl ?_
 refine aj.val rfl (au rfl) rfl ?_
 refine aj.nil ?_
 refine aC.seq ?_
 refine aC.seq ?_
 refine aC.region E.obj rfl ?_
 refine aj.val rfl (au rfl) rfl ?_
 refine aj.nil ?_
 refine aC.block ?_
 have H93:=H7.FN (([(bf.mk [100,105,118] [] [] [])]).map bP)
 have H94:=H93.FN (([(-1)]).map (D.int .i64))
 refine qd.start (B:=aK) (α:=(List bf) × AV × (List Int) × AV × Int) (fun k a=>aT n a1 z8 k a.1 a.2.2.1 a.2.2.2.2=some r) (fun a=>[(1,(.ptr b2 0 0)),(2,(.ptr b5 0 0)),(3,(.d (.sl (([[97],[98],[108,105],[111,117,116,108,101,116]]).map D.str) true))),(4,(.d (.sl ((z8).map D.str) false))),(5,a.2.1),(6,a.2.2.2.1),(7,(.d (.int .i64 a.2.2.2.2)))]) (fun a=>[.box b5 [(.d (.str [])),(.d (.str [])),(.d (.str [])),(.d .aS),(.d .aS)],.box b2 [(.d (.sl ((a1.Under).map (D.int .i64)) false)),(.d (.sl ((a1.Kinds).map (D.int .i64)) false)),(.d (.sl ((a1.Keys).map (D.int .i64)) false)),(.d (.sl ((a1.Texts).map (D.int .i64)) false))],.grow a.2.1 ((a.1).map bP),.grow a.2.2.2.1 ((a.2.2.1).map (D.int .i64))]) ?_ ?_ n ⟨⟨[(bf.mk [100,105,118] [] [] [])],(.d (.sl (([(bf.mk [100,105,118] [] [] [])]).map bP) true)),[(-1)],(.d (.sl (([(-1)]).map (D.int .i64)) true)),0⟩,_,_,S6,.refl _ _,.refl _,(ai.r rfl (ai.r rfl (ai.r rfl (ai.r rfl (ai.r rfl (ai.r rfl (ai.r rfl ai.nil))))))),H94.sl [2,3,1,0] rfl rfl,h⟩
 ·
  intro a h; simp [aT] at h
 ·
  intro k25 a S18 H19 h
  obtain ⟨x20,v21,x22,v23,x24⟩:=a
  replace h:aT n a1 z8 (k25 + 1) x20 x22 x24=some r:=h
  replace H19:Has aK S18 [.box b5 [(.d (.str [])),(.d (.str [])),(.d (.str [])),(.d .aS),(.d .aS)],.box b2 [(.d (.sl ((a1.Under).map (D.int .i64)) false)),(.d (.sl ((a1.Kinds).map (D.int .i64)) false)),(.d (.sl ((a1.Keys).map (D.int .i64)) false)),(.d (.sl ((a1.Texts).map (D.int .i64)) false))],.grow v21 ((x20).map bP),.grow v23 ((x22).map (D.int .i64))]:=H19
  unfold aT at h
  refine aC.seq ?_
  refine aC.seq ?_
  refine aC.region E.obj rfl ?_
  refine aj.val rfl (aa rfl) rfl ?_
  refine aj.val rfl (aF rfl Iw ng rfl) rfl ?_
  refine aj.val rfl (aJ H19 (i:=1) rfl rfl (aU pI rfl)) rfl ?_
  refine aj.val rfl (bu rfl jh) rfl ?_
  refine aj.val rfl (aD rfl rfl dO) rfl ?_
  refine aj.val rfl (aa rfl) rfl ?_
  refine aj.kS 3 25 (.d (.bool ((decide (x24 < ((a1.Under).length:Int))) && (decide (x24 < 12))))) ?_ ?_
  ·
   rcases Bool.eq_false_or_eq_true ((decide (x24 < ((a1.Under).length:Int)))) with hB26 | hB26
   ·
    refine aj.bool hB26 ?_
    refine aj.val rfl (aa rfl) rfl ?_
    refine aj.val rfl (aD rfl rfl dO) rfl ?_
    refine aj.val rfl (aB (b:=true) rfl rfl) rfl ?_
    exact aj.nil ⟨_,rfl,(ai.put (ai.push rfl (ai.push rfl (ai.put (.refl _) (Less.eq (by rw [hB26]))))) (Less.eq (by rw [hB26]; rw [Bool.true_and])))⟩
   ·
    refine aj.bool hB26 ?_
    refine aj.no rfl rfl ?_
    refine aj.no rfl rfl ?_
    refine aj.val rfl (aB (b:=false) rfl rfl) rfl ?_
    exact aj.nil ⟨_,rfl,(ai.put (ai.push rfl (ai.push rfl (ai.put (.refl _) (Less.eq (by rw [hB26]))))) (Less.eq (by rw [hB26]; rw [Bool.false_and])))⟩
  ·
   refine aj.nil ?_
   refine aC.cond rfl (fun hb27=>?_) (fun hb27=>?_)
   ·
    replace h:=dE hb27 h
    refine aC.skip ?_
    refine aC.seq ?_
    refine aC.block ?_
    refine aC.seq ?_
    refine aC.region E.obj rfl ?_
    refine aj.val rfl (aF rfl Iw ng rfl) rfl ?_
    refine aj.val rfl (aJ H19 (i:=1) rfl rfl (aU pI rfl)) rfl ?_
    refine aj.val rfl (aa rfl) rfl ?_
    obtain ⟨z28,hzz28,h⟩:=bind_some h
    refine aj.val rfl (bA rfl rfl (bS (enc:=(D.int .i64)) hzz28 fH pz (((fun _=>rfl) _).trans kH.symm))) rfl ?_
    refine aj.val rfl (aW rfl (bK nU rfl)) rfl ?_
    refine aj.val rfl (aa rfl) rfl ?_
    refine aj.val rfl (GJ H19 (i:=2) rfl rfl AO) rfl ?_
    refine aj.val rfl (aD rfl rfl gX) rfl ?_
    obtain ⟨z29,hzz29,h⟩:=bind_some h
    refine aj.ret rfl (aH rfl rfl) (gI E _ _ _ _ _ hzz29 _ _ (aQ.eq (aQ.eq (aQ.eq .nil)))) rfl ?_
    refine aj.val rfl (au rfl) rfl ?_
    refine aj.nil ?_
    refine aC.join (B:=aK) (α:=Int) (fun a=>cO n a1 z8 x20 x22 x24 (aT n a1 z8 k25) a=some r) (fun a=>[(1,(.ptr b2 0 0)),(2,(.ptr b5 0 0)),(3,(.d (.sl (([[97],[98],[108,105],[111,117,116,108,101,116]]).map D.str) true))),(4,(.d (.sl ((z8).map D.str) false))),(5,v21),(6,v23),(7,(.d (.int .i64 x24))),(8,(.d (.int .i64 a)))]) (fun a=>[.box b5 [(.d (.str [])),(.d (.str [])),(.d (.str [])),(.d .aS),(.d .aS)],.box b2 [(.d (.sl ((a1.Under).map (D.int .i64)) false)),(.d (.sl ((a1.Kinds).map (D.int .i64)) false)),(.d (.sl ((a1.Keys).map (D.int .i64)) false)),(.d (.sl ((a1.Texts).map (D.int .i64)) false))],.grow v21 ((x20).map bP),.grow v23 ((x22).map (D.int .i64))]) ?_ ?_
    ·
     intro x32 S30 H31 h
     replace h:cO n a1 z8 x20 x22 x24 (aT n a1 z8 k25) x32=some r:=h
     replace H31:Has aK S30 [.box b5 [(.d (.str [])),(.d (.str [])),(.d (.str [])),(.d .aS),(.d .aS)],.box b2 [(.d (.sl ((a1.Under).map (D.int .i64)) false)),(.d (.sl ((a1.Kinds).map (D.int .i64)) false)),(.d (.sl ((a1.Keys).map (D.int .i64)) false)),(.d (.sl ((a1.Texts).map (D.int .i64)) false))],.grow v21 ((x20).map bP),.grow v23 ((x22).map (D.int .i64))]:=H31
     unfold cO at h
     refine aC.seq ?_
     refine aC.region E.obj rfl ?_
     refine aj.val rfl (aa rfl) rfl ?_
     refine aj.val rfl (aF rfl E9 ng rfl) rfl ?_
     refine aj.val rfl (aJ H31 (i:=1) rfl rfl (aU pI rfl)) rfl ?_
     refine aj.val rfl (aa rfl) rfl ?_
     obtain ⟨z34,hzz34,h⟩:=bind_some h
     refine aj.ret rfl (aH rfl rfl) (ik E _ _ _ _ hzz34 _ _ (aQ.eq (aQ.eq .nil))) rfl ?_
     refine aj.val rfl (aa rfl) rfl ?_
     refine aj.val rfl (bu rfl LX) rfl ?_
     refine aj.val rfl (aD rfl rfl gX) rfl ?_
     obtain ⟨z35,hzz35,h⟩:=bind_some h
     refine aj.ret rfl (aH rfl rfl) (gI E _ _ _ _ _ hzz35 _ _ (aQ.eq (aQ.eq (aQ.eq .nil)))) rfl ?_
     obtain ⟨z36,hzz36,h⟩:=bind_some h
     refine aj.val rfl (bA rfl rfl (bS (enc:=D.str) hzz36 JB MN (((fun _=>rfl) _).trans Lt.symm))) rfl ?_
     refine aj.val rfl (aW rfl (bK tZ rfl)) rfl ?_
     refine aj.val rfl (fu (cs:=[(.d (.str [])),(.d (.str [])),(.d (.str z36)),(.d .aS),(.d .aS)]) jv rfl (fC) (jl rfl rfl rfl rfl rfl)) rfl ?_
     refine aj.less (Less.agg' (d:=bP (bf.mk [] [] z36 [])) (ax.eq rfl (ax.eq rfl (ax.eq rfl (ax.jI rfl (.aS false) rfl rfl (ax.eq rfl .nil))))) ((bf.eq _).trans rfl)) ?_
     refine aj.alloc H31 rfl qo jv rfl rfl (fun b37 S38 H39=>?_)
     refine aj.store H39 (i:=0) rfl rfl rfl rfl (bf.dN _) rfl bY rfl kF rfl rfl rfl (fun S40 H41=>?_)
     refine aj.nil ?_
     refine aC.join (B:=aK) (α:=Str × Str × Str × (List Attr)) (fun a=>cZ n x20 x22 x24 (aT n a1 z8 k25) x32 a.1 a.2.1 a.2.2.1 a.2.2.2=some r) (fun a=>[(1,(.ptr b2 0 0)),(2,(.ptr b5 0 0)),(3,(.d (.sl (([[97],[98],[108,105],[111,117,116,108,101,116]]).map D.str) true))),(4,(.d (.sl ((z8).map D.str) false))),(5,v21),(6,v23),(7,(.d (.int .i64 x24))),(8,(.d (.int .i64 x32))),(9,(.ptr b37 0 0))]) (fun a=>[.box b37 [(.d (.str a.1)),(.d (.str a.2.1)),(.d (.str a.2.2.1)),(.d (.sl ((a.2.2.2).map az) false)),(.d .aS)],.box b5 [(.d (.str [])),(.d (.str [])),(.d (.str [])),(.d .aS),(.d .aS)],.box b2 [(.d (.sl ((a1.Under).map (D.int .i64)) false)),(.d (.sl ((a1.Kinds).map (D.int .i64)) false)),(.d (.sl ((a1.Keys).map (D.int .i64)) false)),(.d (.sl ((a1.Texts).map (D.int .i64)) false))],.grow v21 ((x20).map bP),.grow v23 ((x22).map (D.int .i64))]) ?_ ?_
     ·
      intro a S42 H43 h
      obtain ⟨x44,x45,x46,x47⟩:=a
      replace h:cZ n x20 x22 x24 (aT n a1 z8 k25) x32 x44 x45 x46 x47=some r:=h
      replace H43:Has aK S42 [.box b37 [(.d (.str x44)),(.d (.str x45)),(.d (.str x46)),(.d (.sl ((x47).map az) false)),(.d .aS)],.box b5 [(.d (.str [])),(.d (.str [])),(.d (.str [])),(.d .aS),(.d .aS)],.box b2 [(.d (.sl ((a1.Under).map (D.int .i64)) false)),(.d (.sl ((a1.Kinds).map (D.int .i64)) false)),(.d (.sl ((a1.Keys).map (D.int .i64)) false)),(.d (.sl ((a1.Texts).map (D.int .i64)) false))],.grow v21 ((x20).map bP),.grow v23 ((x22).map (D.int .i64))]:=H43
      unfold cZ at h
      refine aC.join (B:=aK) (α:=Int) (fun a=>dD x20 x22 x24 (aT n a1 z8 k25) x44 x45 x46 x47 a=some r) (fun a=>[(1,(.ptr b2 0 0)),(2,(.ptr b5 0 0)),(3,(.d (.sl (([[97],[98],[108,105],[111,117,116,108,101,116]]).map D.str) true))),(4,(.d (.sl ((z8).map D.str) false))),(5,v21),(6,v23),(7,(.d (.int .i64 x24))),(8,(.d (.int .i64 a))),(9,(.ptr b37 0 0))]) (fun a=>[.box b37 [(.d (.str x44)),(.d (.str x45)),(.d (.str x46)),(.d (.sl ((x47).map az) false)),(.d .aS)],.box b5 [(.d (.str [])),(.d (.str [])),(.d (.str [])),(.d .aS),(.d .aS)],.box b2 [(.d (.sl ((a1.Under).map (D.int .i64)) false)),(.d (.sl ((a1.Kinds).map (D.int .i64)) false)),(.d (.sl ((a1.Keys).map (D.int .i64)) false)),(.d (.sl ((a1.Texts).map (D.int .i64)) false))],.grow v21 ((x20).map bP),.grow v23 ((x22).map (D.int .i64))]) ?_ ?_
      ·
       intro x51 S49 H50 h
       replace h:dD x20 x22 x24 (aT n a1 z8 k25) x44 x45 x46 x47 x51=some r:=h
       replace H50:Has aK S49 [.box b37 [(.d (.str x44)),(.d (.str x45)),(.d (.str x46)),(.d (.sl ((x47).map az) false)),(.d .aS)],.box b5 [(.d (.str [])),(.d (.str [])),(.d (.str [])),(.d .aS),(.d .aS)],.box b2 [(.d (.sl ((a1.Under).map (D.int .i64)) false)),(.d (.sl ((a1.Kinds).map (D.int .i64)) false)),(.d (.sl ((a1.Keys).map (D.int .i64)) false)),(.d (.sl ((a1.Texts).map (D.int .i64)) false))],.grow v21 ((x20).map bP),.grow v23 ((x22).map (D.int .i64))]:=H50
       unfold dD at h
       refine aC.region E.obj rfl ?_
       refine aj.val rfl (aa rfl) rfl ?_
       refine aj.val rfl (aJ H50 (i:=0) rfl rfl (aZ fA bY rfl)) rfl ?_
       refine aj.less (Less.agg' (d:=bP (bf.mk x44 x45 x46 x47)) (ax.eq rfl (ax.eq rfl (ax.eq rfl (ax.eq rfl (ax.eq rfl .nil))))) ((bf.eq _).trans rfl)) ?_
       refine aj.val rfl (cK (vs:=[(.d (bP (bf.mk x44 x45 x46 x47)))]) (ds:=[(bP (bf.mk x44 x45 x46 x47))]) Am qb fA jv bY rfl (by decide) (.cons rfl (bf.len _) .nil) rfl (by intro d hd; simp only [List.mem_cons,List.not_mem_nil,or_false] at hd; rcases hd with rfl <;> exact bf.agg _) rfl) rfl ?_
       obtain ⟨z53,hzz53,h⟩:=bind_some h
       refine aj.append (xs:=(x20).map bP) (ys:=([(bf.mk x44 x45 x46 x47)]).map bP) (zs:=(z53).map bP) H50 rfl rfl rfl (i:=3) rfl rfl Am Ki qb (lC hzz53) Kk rfl (fI (enc:=bP) (fun z=>(bf.len z).trans bY.symm) _) (fI (enc:=bP) (fun z=>(bf.len z).trans bY.symm) _) Ka rfl (sG hzz53) (fun v54 S55 H56=>?_)
       refine aj.val rfl (aa rfl) rfl ?_
       refine aj.val rfl (aa rfl) rfl ?_
       refine aj.val rfl (cK (vs:=[(.d (.int .i64 x51))]) (ds:=[(.int .i64 x51)]) EW fH nU Ie kH rfl (by decide) (.cons rfl rfl .nil) rfl (by intro d hd; simp only [List.mem_cons,List.not_mem_nil,or_false] at hd; rcases hd with rfl <;> rfl) rfl) rfl ?_
       obtain ⟨z57,hzz57,h⟩:=bind_some h
       refine aj.append (xs:=(x22).map (D.int .i64)) (ys:=([x51]).map (D.int .i64)) (zs:=(z57).map (D.int .i64)) H56 rfl rfl rfl (i:=4) rfl rfl EW JJ fH (lC hzz57) KO rfl (fI (enc:=(D.int .i64)) (fun _=>kH.symm) _) (fI (enc:=(D.int .i64)) (fun _=>kH.symm) _) M9 rfl (sG hzz57) (fun v58 S59 H60=>?_)
       refine aj.val rfl (au rfl) rfl ?_
       refine aj.val rfl (au rfl) rfl ?_
       refine aj.nil ?_
       refine aC.region E.obj rfl ?_
       refine aj.val rfl (aa rfl) rfl ?_
       refine aj.val rfl (aD rfl rfl dx) rfl ?_
       refine aj.val rfl (au rfl) rfl ?_
       refine aj.nil ?_
       exact ⟨⟨z53,v54,z57,v58,(IntKind.wrap .i64 (x24 + 1))⟩,_,_,S59,.refl _ _,.refl _,(ai.r rfl (ai.r rfl (ai.r rfl (ai.r rfl (ai.r rfl (ai.r rfl (ai.r rfl ai.nil))))))),H60.sl [1,2,3,4] rfl rfl,h⟩
      ·
       refine aC.seq ?_
       refine aC.region E.obj rfl ?_
       refine aj.val rfl (aa rfl) rfl ?_
       refine aj.val rfl (aa rfl) rfl ?_
       obtain ⟨z61,hzz61,h⟩:=bind_some h
       refine aj.ret rfl (aH rfl rfl) (tX E _ _ _ _ hzz61 _ _ (aQ.grow H43 (i:=4) rfl (aQ.eq .nil))) rfl ?_
       refine aj.val rfl (aD rfl rfl Er) rfl ?_
       refine aj.nil ?_
       refine aC.cond rfl (fun hb62=>?_) (fun hb62=>?_)
       ·
        replace h:=dE hb62 h
        refine aC.region E.obj rfl ?_
        refine aj.val rfl (au rfl) rfl ?_
        refine aj.nil ?_
        exact ⟨0,_,_,S42,.refl _ _,.refl _,(ai.r rfl (ai.r rfl (ai.r rfl (ai.r rfl (ai.r rfl (ai.r rfl (ai.r rfl (ai.r rfl (ai.r rfl ai.nil))))))))),H43.sl [0,1,2,3,4] rfl rfl,h⟩
       ·
        replace h:=dG hb62 h
        refine aC.skip ?_
        exact ⟨x32,_,_,S42,.refl _ _,.refl _,(ai.r rfl (ai.r rfl (ai.r rfl (ai.r rfl (ai.r rfl (ai.r rfl (ai.r rfl (ai.r rfl (ai.r rfl ai.nil))))))))),H43.sl [0,1,2,3,4] rfl rfl,h⟩
     ·
      refine aC.seq ?_
      refine aC.region E.obj rfl ?_
      refine aj.val rfl (aF rfl Lb ng rfl) rfl ?_
      refine aj.val rfl (aJ H41 (i:=2) rfl rfl (aU pI rfl)) rfl ?_
      refine aj.val rfl (aa rfl) rfl ?_
      obtain ⟨z63,hzz63,h⟩:=bind_some h
      refine aj.ret rfl (aH rfl rfl) (ik E _ _ _ _ hzz63 _ _ (aQ.eq (aQ.eq .nil))) rfl ?_
      obtain ⟨z64,hzz64,h⟩:=bind_some h
      refine aj.ret rfl (aH rfl rfl) (gI E _ _ _ _ _ hzz64 _ _ (aQ.eq (aQ.eq (aQ.eq .nil)))) rfl ?_
      refine aj.val rfl (au rfl) rfl ?_
      refine aj.nil ?_
      refine aC.seq ?_
      refine aC.region E.obj rfl ?_
      refine aj.val rfl (aa rfl) rfl ?_
      refine aj.val rfl (aD rfl rfl dO) rfl ?_
      refine aj.nil ?_
      refine aC.cond rfl (fun hb65=>?_) (fun hb65=>?_)
      ·
       replace h:=dE hb65 h
       refine aC.seq ?_
       refine aC.region E.obj rfl ?_
       refine aj.val rfl (aa rfl) rfl ?_
       refine aj.val rfl (aa rfl) rfl ?_
       obtain ⟨z66,hzz66,h⟩:=bind_some h
       refine aj.val rfl (bA rfl rfl (bS (enc:=D.str) hzz66 JB MN (((fun _=>rfl) _).trans Lt.symm))) rfl ?_
       refine aj.val rfl (aW rfl (bK tZ rfl)) rfl ?_
       refine aj.val rfl (fu (cs:=[(.d (.str z66)),(.d (.str [])),(.d (.str [])),(.d .aS),(.d .aS)]) jv rfl (fC) (jl rfl rfl rfl rfl rfl)) rfl ?_
       refine aj.less (Less.agg' (d:=bP (bf.mk z66 [] [] [])) (ax.eq rfl (ax.eq rfl (ax.eq rfl (ax.jI rfl (.aS false) rfl rfl (ax.eq rfl .nil))))) ((bf.eq _).trans rfl)) ?_
       refine aj.store H41 (i:=0) rfl rfl rfl rfl (bf.dN _) rfl bY rfl kF rfl rfl rfl (fun S67 H68=>?_)
       refine aj.nil ?_
       refine aC.join (B:=aK) (α:=Str) (fun a=>dC n a1 z8 x20 x22 x24 (aT n a1 z8 k25) x32 z66 a=some r) (fun a=>[(1,(.ptr b2 0 0)),(2,(.ptr b5 0 0)),(3,(.d (.sl (([[97],[98],[108,105],[111,117,116,108,101,116]]).map D.str) true))),(4,(.d (.sl ((z8).map D.str) false))),(5,v21),(6,v23),(7,(.d (.int .i64 x24))),(8,(.d (.int .i64 x32))),(9,(.ptr b37 0 0))]) (fun a=>[.box b37 [(.d (.str (bf.mk z66 [] [] []).Tag)),(.d (.str a)),(.d (.str (bf.mk z66 [] [] []).Text)),(.d (.sl (((bf.mk z66 [] [] []).aL).map az) false)),(.d .aS)],.box b5 [(.d (.str [])),(.d (.str [])),(.d (.str [])),(.d .aS),(.d .aS)],.box b2 [(.d (.sl ((a1.Under).map (D.int .i64)) false)),(.d (.sl ((a1.Kinds).map (D.int .i64)) false)),(.d (.sl ((a1.Keys).map (D.int .i64)) false)),(.d (.sl ((a1.Texts).map (D.int .i64)) false))],.grow v21 ((x20).map bP),.grow v23 ((x22).map (D.int .i64))]) ?_ ?_
       ·
        intro x71 S69 H70 h
        replace h:dC n a1 z8 x20 x22 x24 (aT n a1 z8 k25) x32 z66 x71=some r:=h
        replace H70:Has aK S69 [.box b37 [(.d (.str (bf.mk z66 [] [] []).Tag)),(.d (.str x71)),(.d (.str (bf.mk z66 [] [] []).Text)),(.d (.sl (((bf.mk z66 [] [] []).aL).map az) false)),(.d .aS)],.box b5 [(.d (.str [])),(.d (.str [])),(.d (.str [])),(.d .aS),(.d .aS)],.box b2 [(.d (.sl ((a1.Under).map (D.int .i64)) false)),(.d (.sl ((a1.Kinds).map (D.int .i64)) false)),(.d (.sl ((a1.Keys).map (D.int .i64)) false)),(.d (.sl ((a1.Texts).map (D.int .i64)) false))],.grow v21 ((x20).map bP),.grow v23 ((x22).map (D.int .i64))]:=H70
        unfold dC at h
        refine aC.seq ?_
        refine aC.region E.obj rfl ?_
        refine aj.val rfl (aF rfl E9 ng rfl) rfl ?_
        refine aj.val rfl (aJ H70 (i:=2) rfl rfl (aU pI rfl)) rfl ?_
        refine aj.val rfl (aa rfl) rfl ?_
        obtain ⟨z73,hzz73,h⟩:=bind_some h
        refine aj.ret rfl (aH rfl rfl) (ik E _ _ _ _ hzz73 _ _ (aQ.eq (aQ.eq .nil))) rfl ?_
        refine aj.val rfl (aD rfl rfl IJ) rfl ?_
        refine aj.val rfl (aD rfl rfl bq) rfl ?_
        refine aj.nil ?_
        refine aC.cond rfl (fun hb74=>?_) (fun hb74=>?_)
        ·
         replace h:=dE hb74 h
         refine aC.region E.obj rfl ?_
         refine aj.val rfl (aa rfl) rfl ?_
         refine aj.val rfl (aF rfl E9 ng rfl) rfl ?_
         refine aj.val rfl (aJ H70 (i:=2) rfl rfl (aU pI rfl)) rfl ?_
         refine aj.val rfl (aa rfl) rfl ?_
         refine aj.val rfl (aD rfl rfl dx) rfl ?_
         obtain ⟨z75,hzz75,h⟩:=bind_some h
         refine aj.ret rfl (aH rfl rfl) (ik E _ _ _ _ hzz75 _ _ (aQ.eq (aQ.eq .nil))) rfl ?_
         refine aj.val rfl (aa rfl) rfl ?_
         refine aj.val rfl (bu rfl LX) rfl ?_
         refine aj.val rfl (aD rfl rfl gX) rfl ?_
         obtain ⟨z76,hzz76,h⟩:=bind_some h
         refine aj.ret rfl (aH rfl rfl) (gI E _ _ _ _ _ hzz76 _ _ (aQ.eq (aQ.eq (aQ.eq .nil)))) rfl ?_
         obtain ⟨z77,hzz77,h⟩:=bind_some h
         refine aj.val rfl (bA rfl rfl (bS (enc:=D.str) hzz77 JB MN (((fun _=>rfl) _).trans Lt.symm))) rfl ?_
         refine aj.val rfl (aW rfl (bK tZ rfl)) rfl ?_
         refine aj.val rfl (fu (cs:=[(.d (.str [120])),(.d (.str z77))]) Mo rfl (y9) (jl rfl rfl rfl rfl (jl rfl rfl rfl rfl rfl))) rfl ?_
         refine aj.less (Less.agg' (d:=az (Attr.mk [120] z77)) (ax.eq rfl (ax.eq rfl .nil)) ((Attr.eq _).trans rfl)) ?_
         refine aj.val rfl (cK (vs:=[(.d (az (Attr.mk [120] z77)))]) (ds:=[(az (Attr.mk [120] z77))]) Lh Jr KD Mo Fx rfl (by decide) (.cons rfl (Attr.len _) .nil) rfl (by intro d hd; simp only [List.mem_cons,List.not_mem_nil,or_false] at hd; rcases hd with rfl <;> exact Attr.agg _) rfl) rfl ?_
         refine aj.val rfl (aF rfl yU DK rfl) rfl ?_
         refine aj.store H70 (i:=0) rfl rfl rfl rfl rfl rfl Mt rfl ME rfl rfl rfl (fun S78 H79=>?_)
         refine aj.nil ?_
         obtain ⟨S80,hw81,H82⟩:=H79.KC (i:=0) (cs':=[(.d (.str (bf.mk z66 [] [] []).Tag)),(.d (.str x71)),(.d (.str (bf.mk z66 [] [] []).Text)),(.d (.sl (([(Attr.mk [120] z77)]).map az) false)),(.d .aS)]) rfl (.cons (.refl _) (.cons (.refl _) (.cons (.refl _) (.cons LY (.cons (.refl _) .nil)))))
         exact ⟨⟨(bf.mk z66 [] [] []).Tag,x71,(bf.mk z66 [] [] []).Text,[(Attr.mk [120] z77)]⟩,_,_,S80,.refl _ _,hw81,(ai.r rfl (ai.r rfl (ai.r rfl (ai.r rfl (ai.r rfl (ai.r rfl (ai.r rfl (ai.r rfl (ai.r rfl ai.nil))))))))),H82.sl [0,1,2,3,4] rfl rfl,h⟩
        ·
         replace h:=dG hb74 h
         refine aC.skip ?_
         exact ⟨⟨(bf.mk z66 [] [] []).Tag,x71,(bf.mk z66 [] [] []).Text,(bf.mk z66 [] [] []).aL⟩,_,_,S69,.refl _ _,.refl _,(ai.r rfl (ai.r rfl (ai.r rfl (ai.r rfl (ai.r rfl (ai.r rfl (ai.r rfl (ai.r rfl (ai.r rfl ai.nil))))))))),H70.sl [0,1,2,3,4] rfl rfl,h⟩
       ·
        refine aC.seq ?_
        refine aC.region E.obj rfl ?_
        refine aj.val rfl (aF rfl Ld ng rfl) rfl ?_
        refine aj.val rfl (aJ H68 (i:=2) rfl rfl (aU pI rfl)) rfl ?_
        refine aj.val rfl (aa rfl) rfl ?_
        obtain ⟨z83,hzz83,h⟩:=bind_some h
        refine aj.ret rfl (aH rfl rfl) (ik E _ _ _ _ hzz83 _ _ (aQ.eq (aQ.eq .nil))) rfl ?_
        obtain ⟨z84,hzz84,h⟩:=bind_some h
        refine aj.ret rfl (aH rfl rfl) (gI E _ _ _ _ _ hzz84 _ _ (aQ.eq (aQ.eq (aQ.eq .nil)))) rfl ?_
        refine aj.val rfl (au rfl) rfl ?_
        refine aj.nil ?_
        refine aC.seq ?_
        refine aC.region E.obj rfl ?_
        refine aj.val rfl (aa rfl) rfl ?_
        refine aj.val rfl (aD rfl rfl dO) rfl ?_
        refine aj.nil ?_
        refine aC.cond rfl (fun hb85=>?_) (fun hb85=>?_)
        ·
         replace h:=dE hb85 h
         refine aC.region E.obj rfl ?_
         refine aj.val rfl (aa rfl) rfl ?_
         refine aj.val rfl (aD rfl rfl dx) rfl ?_
         refine aj.val rfl (AB rfl OB OH) rfl ?_
         refine aj.val rfl (cK (vs:=[(.d (.int .u8 (IntKind.wrap .u8 (IntKind.wrap .i64 (48 + z84)))))]) (ds:=[(.int .u8 (IntKind.wrap .u8 (IntKind.wrap .i64 (48 + z84))))]) Nt ND OU OD OW rfl (by decide) (.cons rfl rfl .nil) rfl (by intro d hd; simp only [List.mem_cons,List.not_mem_nil,or_false] at hd; rcases hd with rfl <;> rfl) rfl) rfl ?_
         refine aj.val rfl (yf (l:=[(IntKind.wrap .u8 (IntKind.wrap .i64 (48 + z84)))]) rfl OQ NS) rfl ?_
         refine aj.val rfl (aF rfl uO uY rfl) rfl ?_
         refine aj.store H68 (i:=0) rfl rfl rfl rfl rfl rfl Lt rfl MN rfl rfl rfl (fun S86 H87=>?_)
         refine aj.nil ?_
         exact ⟨(([(IntKind.wrap .u8 (IntKind.wrap .i64 (48 + z84)))]).map fun (n:Int)=>UInt8.ofNat n.toNat),_,_,S86,.refl _ _,.refl _,(ai.r rfl (ai.r rfl (ai.r rfl (ai.r rfl (ai.r rfl (ai.r rfl (ai.r rfl (ai.r rfl (ai.r rfl ai.nil))))))))),H87.sl [0,1,2,3,4] rfl rfl,h⟩
        ·
         replace h:=dG hb85 h
         refine aC.skip ?_
         exact ⟨(bf.mk z66 [] [] []).Key,_,_,S67,.refl _ _,.refl _,(ai.r rfl (ai.r rfl (ai.r rfl (ai.r rfl (ai.r rfl (ai.r rfl (ai.r rfl (ai.r rfl (ai.r rfl ai.nil))))))))),H68.sl [0,1,2,3,4] rfl rfl,h⟩
      ·
       replace h:=dG hb65 h
       refine aC.skip ?_
       exact ⟨⟨(bf.mk [] [] z36 []).Tag,(bf.mk [] [] z36 []).Key,(bf.mk [] [] z36 []).Text,(bf.mk [] [] z36 []).aL⟩,_,_,S40,.refl _ _,.refl _,(ai.r rfl (ai.r rfl (ai.r rfl (ai.r rfl (ai.r rfl (ai.r rfl (ai.r rfl (ai.r rfl (ai.r rfl ai.nil))))))))),H41.sl [0,1,2,3,4] rfl rfl,h⟩
    ·
     refine aC.seq ?_
     refine aC.region E.obj rfl ?_
     refine aj.val rfl (aa rfl) rfl ?_
     refine aj.val rfl (aa rfl) rfl ?_
     obtain ⟨z88,hzz88,h⟩:=bind_some h
     refine aj.val rfl (bA rfl rfl (BM (enc:=bP) H19 (i:=2) rfl hzz88 qb kF ((bf.len _).trans bY.symm))) rfl ?_
     refine aj.val rfl (x9 rfl qW uY rfl) rfl ?_
     refine aj.val rfl (aW rfl (by rw [bf.cells]; exact bK tZ rfl)) rfl ?_
     refine aj.val rfl (aD rfl rfl nR) rfl ?_
     refine aj.nil ?_
     refine aC.cond rfl (fun hb89=>?_) (fun hb89=>?_)
     ·
      replace h:=dE hb89 h
      refine aC.region E.obj rfl ?_
      refine aj.val rfl (au rfl) rfl ?_
      refine aj.nil ?_
      exact ⟨0,_,_,S18,.refl _ _,.refl _,(ai.r rfl (ai.r rfl (ai.r rfl (ai.r rfl (ai.r rfl (ai.r rfl (ai.r rfl (ai.r rfl ai.nil)))))))),H19.sl [0,1,2,3] rfl rfl,h⟩
     ·
      replace h:=dG hb89 h
      refine aC.skip ?_
      exact ⟨z29,_,_,S18,.refl _ _,.refl _,(ai.r rfl (ai.r rfl (ai.r rfl (ai.r rfl (ai.r rfl (ai.r rfl (ai.r rfl (ai.r rfl ai.nil)))))))),H19.sl [0,1,2,3] rfl rfl,h⟩
   ·
    replace h:=dG hb27 h
    refine aC.exit ?_
    refine aC.seq ?_
    refine aC.region E.obj rfl ?_
    refine aj.val rfl (aa rfl) rfl ?_
    refine aj.val rfl (aa rfl) rfl ?_
    obtain ⟨z90,hzz90,h⟩:=bind_some h
    refine aj.ret rfl (aH rfl rfl) (nE E _ _ _ _ _ hzz90 _ _ (aQ.grow H19 (i:=2) rfl (aQ.grow H19 (i:=3) rfl (aQ.eq .nil)))) rfl ?_
    refine aj.store H19 (i:=0) rfl rfl rfl rfl (Tree.dN _) rfl bY rfl kF rfl rfl rfl (fun S91 H92=>?_)
    refine aj.nil ?_
    have hr:=Option.some.inj h
    subst hr
    exact aC.ret ⟨_,mH H92 (i:=0) rfl rfl rfl (aZ fA bY rfl),rfl,jW (aQ.lV (d:=ak z90) (ax.eq rfl (ax.eq rfl (ax.eq rfl (ax.eq rfl (ax.eq rfl .nil))))) ((Tree.eq _).trans rfl))⟩
set_option maxRecDepth 20000 in
set_option maxHeartbeats 4000000 in
theorem jT:∀ (n:Nat) (a1:Tree) (r:Int),gH n a1=some r→fw R cfg.P 45 [(ak a1)] (.d (.int .i64 r))
 | 0,a1,r,h=>by simp [gH] at h
 | n + 1,a1,r,h=>by
  have ih:=jT n
  unfold gH at h
  refine fw.of_wp E.obj.toObjOk (C:=cfg) Try.func45 rfl NK rfl ?_
  have H0:Has aK aK []:=Has.pure
  refine aC.seq ?_
  refine aC.region E.obj rfl ?_
  refine aj.box H0 rfl rfl rfl (Tree.dN _) rfl (fun b2 S3 H4=>?_)
  refine aj.val rfl (au rfl) rfl ?_
  refine aj.nil ?_
  refine aC.seq ?_
  refine aC.region E.obj rfl ?_
  refine aj.val rfl (au rfl) rfl ?_
  refine aj.nil ?_
  refine aC.seq ?_
  refine aC.seq ?_
  refine aC.region E.obj rfl ?_
  refine aj.val rfl (aF rfl jV rT rfl) rfl ?_
  refine aj.val rfl (aJ H4 (i:=0) rfl rfl (aU uW rfl)) rfl ?_
  refine aj.val rfl (bu rfl AO) rfl ?_
  refine aj.val rfl (aa rfl) rfl ?_
  refine aj.nil ?_
  refine aC.block ?_
  refine qd.start (B:=aK) (α:=Int × Int) (fun k a=>fF (gH n) a1 k a.1 a.2=some r) (fun a=>[(3,(.d (.int .i64 a.1))),(7,(.d (.sl ((a1.Kids).map ak) false))),(8,(.d (.int .i64 ((a1.Kids).length:Int)))),(9,(.d (.int .i64 a.2)))]) (fun a=>[]) ?_ ?_ n ⟨⟨1,0⟩,_,_,S3,.refl _ _,.refl _,(ai.r rfl (ai.r rfl (ai.r rfl (ai.r rfl ai.nil)))),H4.sl [] rfl rfl,h⟩
  ·
   intro a h; simp [fF] at h
  ·
   intro k15 a S11 H12 h
   obtain ⟨x13,x14⟩:=a
   replace h:fF (gH n) a1 (k15 + 1) x13 x14=some r:=h
   replace H12:Has aK S11 []:=H12
   unfold fF at h
   refine aC.seq ?_
   refine aC.region E.obj rfl ?_
   refine aj.val rfl (aD rfl rfl dO) rfl ?_
   refine aj.nil ?_
   refine aC.seq ?_
   refine aC.cond rfl (fun hb16=>?_) (fun hb16=>?_)
   ·
    replace h:=dE hb16 h
    refine aC.skip ?_
    refine aC.seq ?_
    refine aC.block ?_
    refine aC.seq ?_
    refine aC.region E.obj rfl ?_
    obtain ⟨z17,hzz17,h⟩:=bind_some h
    refine aj.val rfl (bA rfl rfl (bS (enc:=ak) hzz17 qb kF ((Tree.len _).trans bY.symm))) rfl ?_
    refine aj.val rfl (aW rfl (Tree.rF fA bY)) rfl ?_
    refine aj.alloc H12 rfl qo jv rfl rfl (fun b18 S19 H20=>?_)
    refine aj.store H20 (i:=0) rfl rfl rfl rfl (Tree.dN _) rfl bY rfl kF rfl rfl rfl (fun S21 H22=>?_)
    refine aj.nil ?_
    refine aC.region E.obj rfl ?_
    refine aj.val rfl (aa rfl) rfl ?_
    refine aj.val rfl (aJ H22 (i:=0) rfl rfl (aZ fA bY rfl)) rfl ?_
    refine aj.less (Less.agg' (d:=ak z17) (ax.eq rfl (ax.eq rfl (ax.eq rfl (ax.eq rfl (ax.eq rfl .nil))))) ((Tree.eq _).trans rfl)) ?_
    obtain ⟨z23,hzz23,h⟩:=bind_some h
    refine aj.ret rfl (aH rfl rfl) (ih _ _ hzz23 _ _ (aQ.eq .nil)) rfl ?_
    refine aj.val rfl (aD rfl rfl dx) rfl ?_
    refine aj.val rfl (au rfl) rfl ?_
    refine aj.nil ?_
    refine aC.region E.obj rfl ?_
    refine aj.val rfl (aD rfl rfl dx) rfl ?_
    refine aj.val rfl (aa rfl) rfl ?_
    refine aj.nil ?_
    exact ⟨⟨(IntKind.wrap .i64 (x13 + z23)),(IntKind.wrap .i64 (x14 + 1))⟩,_,_,S21,.refl _ _,.refl _,(ai.r rfl (ai.r rfl (ai.r rfl (ai.r rfl ai.nil)))),H22.sl [] rfl rfl,h⟩
   ·
    replace h:=dG hb16 h
    refine aC.exit ?_
    refine aC.seq ?_
    refine aC.region E.obj rfl ?_
    refine aj.val rfl (aa rfl) rfl ?_
    refine aj.val rfl (au rfl) rfl ?_
    refine aj.nil ?_
    have hr:=Option.some.inj h
    subst hr
    exact aC.ret ⟨_,rfl,rfl,jW (aQ.eq .nil)⟩
end
end Pr
end Go.Ev

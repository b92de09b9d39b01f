import Derived.Test.YtbjneeknddapfaaPartD
import Derived.IntWalk
namespace Go.Ev
namespace Pr
set_option linter.unusedVariables false
set_option linter.unusedSimpArgs false
open Go.Proofs
section
variable {R:bN} (E:IV R)
include E
set_option maxRecDepth 20000 in
set_option maxHeartbeats 4000000 in
theorem nO:∀ (n:Nat) (a2:ax) (a6:Int) (a7:Tree) (r:(Bool × ax)),dU n a2 a6 a7=some r→∀ (b1:Nat) (v3:AV) (ws4:List (List AV)) (w5:AV),df R cfg.P 40 [.ptr b1 0 0,.d (.int .i64 a6),.d (au a7)] [.box b1 [v3,w5],ay ae ah.kids 7 5 v3 ws4 a2.l none,aG w5 a2.freed] (fun v l=>v=.d (.bool r.1)∧∃ dv0 dws0 dw0,l=[.box b1 [dv0,dw0],ay ae ah.kids 7 5 dv0 dws0 r.2.l none,aG dw0 r.2.freed])
 | 0,a2,a6,a7,r,h,b1,v3,ws4,w5=>by simp [dU] at h
 | n + 1,a2,a6,a7,r,h,b1,v3,ws4,w5=>by
  have ih:=nO n
  unfold dU at h
  refine df.of_wp (C:=cfg) Try.func40 rfl JP rfl (fun B0 S0 H0=>?_)
  replace H0:Has B0 S0 [.box b1 [v3,w5],ay ae ah.kids 7 5 v3 ws4 a2.l none,aG w5 a2.freed]:=H0
  refine aB.seq ?_
  refine aB.region E.obj rfl ?_
  refine ai.box H0 rfl rfl rfl (Tree.fD _) rfl (fun b8 S9 H10=>?_)
  refine ai.val rfl (ak rfl) rfl ?_
  refine ai.nil ?_
  refine aB.seq ?_
  refine aB.region E.obj rfl ?_
  refine ai.val rfl (aa rfl) rfl ?_
  refine ai.val rfl (aa rfl) rfl ?_
  obtain ⟨z11,hzz11,h⟩:=bind_some h
  refine ai.fw (ins:=[.box b1 [v3,w5],ay ae ah.kids 7 5 v3 ws4 a2.l none,aG w5 a2.freed]) (more:=[.box b8 [(.d (.str a7.Tag)),(.d (.str a7.Key)),(.d (.str a7.Text)),(.d (.sl ((a7.aQ).map az) false)),(.d (.sl ((a7.Kids).map au) false))]]) (H10.sl [1,2,3,0] rfl rfl) rfl (aJ rfl rfl) (lL E n _ _ _ hzz11 b1 v3 ws4 w5) (.cons (.refl _) (.cons (.refl _) .nil)) rfl ?_
  rintro _ S12 _ ⟨rfl,rfl⟩ H13
  have H14:Has B0 S12 [.box b8 [(.d (.str a7.Tag)),(.d (.str a7.Key)),(.d (.str a7.Text)),(.d (.sl ((a7.aQ).map az) false)),(.d (.sl ((a7.Kids).map au) false))],.box b1 [v3,w5],ay ae ah.kids 7 5 v3 ws4 a2.l none,aG w5 a2.freed]:=H13.sl [3,0,1,2] rfl rfl
  refine ai.val rfl (aa rfl) rfl ?_
  refine ai.val rfl (jq rfl rfl) rfl ?_
  refine ai.val rfl (jq rfl rfl) rfl ?_
  refine ai.alloc H14 rfl uf jM rfl rfl (fun b15 S16 H17=>?_)
  refine ai.store H17 (i:=0) rfl rfl rfl rfl (Tree.fD _) rfl dF rfl lJ rfl rfl rfl (fun S18 H19=>?_)
  refine ai.val rfl (ak rfl) rfl ?_
  refine ai.nil ?_
  refine aB.seq ?_
  refine aB.seq ?_
  refine aB.region E.obj rfl ?_
  refine ai.val rfl (aa rfl) rfl ?_
  refine ai.val rfl (qF rfl) rfl ?_
  refine ai.val rfl (aa rfl) rfl ?_
  refine ai.jG 6 29 (.d (.bool ((!z11.2) || (!(z11.1.Tag == a7.Tag))))) ?_ ?_
  ·
   rcases Bool.eq_false_or_eq_true ((!z11.2)) with hB20 | hB20
   ·
    refine ai.bool hB20 ?_
    refine ai.no rfl rfl ?_
    refine ai.no rfl rfl ?_
    refine ai.no rfl rfl ?_
    refine ai.no rfl rfl ?_
    refine ai.no rfl rfl ?_
    refine ai.val rfl (aF (b:=true) rfl rfl) rfl ?_
    exact ai.nil ⟨_,rfl,(aj.put (aj.push rfl (aj.push rfl (aj.push rfl (aj.push rfl (aj.push rfl (aj.put (.refl _) (Less.eq (by rw [hB20])))))))) (Less.eq (by rw [hB20]; rw [Bool.true_or])))⟩
   ·
    refine ai.bool hB20 ?_
    refine ai.val rfl (aD rfl nN sK rfl) rfl ?_
    refine ai.val rfl (aI H19 (i:=0) rfl rfl (aR rZ rfl)) rfl ?_
    refine ai.val rfl (aD rfl nN sK rfl) rfl ?_
    refine ai.val rfl (aI H19 (i:=1) rfl rfl (aR rZ rfl)) rfl ?_
    refine ai.val rfl (aH rfl rfl l5) rfl ?_
    refine ai.val rfl (aF (b:=false) rfl rfl) rfl ?_
    exact ai.nil ⟨_,rfl,(aj.put (aj.push rfl (aj.push rfl (aj.push rfl (aj.push rfl (aj.push rfl (aj.put (.refl _) (Less.eq (by rw [hB20])))))))) (Less.eq (by rw [hB20]; rw [Bool.false_or])))⟩
  ·
   refine ai.val rfl (aa rfl) rfl ?_
   refine ai.jG 6 36 (.d (.bool (((!z11.2) || (!(z11.1.Tag == a7.Tag))) || (!(z11.1.Key == a7.Key))))) ?_ ?_
   ·
    rcases Bool.eq_false_or_eq_true (((!z11.2) || (!(z11.1.Tag == a7.Tag)))) with hB21 | hB21
    ·
     refine ai.bool hB21 ?_
     refine ai.no rfl rfl ?_
     refine ai.no rfl rfl ?_
     refine ai.no rfl rfl ?_
     refine ai.no rfl rfl ?_
     refine ai.no rfl rfl ?_
     refine ai.val rfl (aF (b:=true) rfl rfl) rfl ?_
     exact ai.nil ⟨_,rfl,(aj.put (aj.push rfl (aj.push rfl (aj.push rfl (aj.push rfl (aj.push rfl (aj.put (.refl _) (Less.eq (by rw [hB21])))))))) (Less.eq (by rw [hB21]; rw [Bool.true_or])))⟩
    ·
     refine ai.bool hB21 ?_
     refine ai.val rfl (aD rfl uE sK rfl) rfl ?_
     refine ai.val rfl (aI H19 (i:=0) rfl rfl (aR rZ rfl)) rfl ?_
     refine ai.val rfl (aD rfl uE sK rfl) rfl ?_
     refine ai.val rfl (aI H19 (i:=1) rfl rfl (aR rZ rfl)) rfl ?_
     refine ai.val rfl (aH rfl rfl l5) rfl ?_
     refine ai.val rfl (aF (b:=false) rfl rfl) rfl ?_
     exact ai.nil ⟨_,rfl,(aj.put (aj.push rfl (aj.push rfl (aj.push rfl (aj.push rfl (aj.push rfl (aj.put (.refl _) (Less.eq (by rw [hB21])))))))) (Less.eq (by rw [hB21]; rw [Bool.false_or])))⟩
   ·
    refine ai.nil ?_
    refine aB.cond rfl (fun hb22=>?_) (fun hb22=>?_)
    ·
     replace h:=dK hb22 h
     refine aB.seq ?_
     refine aB.region E.obj rfl ?_
     refine ai.val rfl (ak rfl) rfl ?_
     refine ai.nil ?_
     have hr:=Option.some.inj h
     subst hr
     exact aB.ret ⟨_,rfl,rfl,_,_,_,.refl _,(.refl _),⟨rfl,v3,ws4,w5,rfl⟩,H19.sl [2,3,4] rfl rfl⟩
    ·
     replace h:=dJ hb22 h
     refine aB.skip ?_
     refine aB.seq ?_
     refine aB.seq ?_
     refine aB.region E.obj rfl ?_
     refine ai.val rfl (aD rfl nN sK rfl) rfl ?_
     refine ai.val rfl (aI H19 (i:=1) rfl rfl (aR rZ rfl)) rfl ?_
     refine ai.val rfl (aH rfl rfl kQ) rfl ?_
     refine ai.nil ?_
     refine aB.cond rfl (fun hb23=>?_) (fun hb23=>?_)
     ·
      replace h:=dK hb23 h
      refine aB.seq ?_
      refine aB.region E.obj rfl ?_
      refine ai.val rfl (aa rfl) rfl ?_
      refine ai.val rfl (aa rfl) rfl ?_
      refine ai.val rfl (aD rfl zG sK rfl) rfl ?_
      refine ai.val rfl (aI H19 (i:=1) rfl rfl (aR rZ rfl)) rfl ?_
      obtain ⟨z24,hzz24,h⟩:=bind_some h
      refine ai.fw (ins:=[.box b1 [v3,w5],ay ae ah.kids 7 5 v3 ws4 a2.l none,aG w5 a2.freed]) (more:=[.box b15 [(.d (.str z11.1.Tag)),(.d (.str z11.1.Key)),(.d (.str z11.1.Text)),(.d (.sl ((z11.1.aQ).map az) false)),(.d (.sl ((z11.1.Kids).map au) false))],.box b8 [(.d (.str a7.Tag)),(.d (.str a7.Key)),(.d (.str a7.Text)),(.d (.sl ((a7.aQ).map az) false)),(.d (.sl ((a7.Kids).map au) false))]]) (H19.sl [2,3,4,0,1] rfl rfl) rfl (aJ rfl rfl) (xN E n _ _ _ _ hzz24 b1 v3 ws4 w5) (.cons (.refl _) (.cons (.refl _) (.cons (.refl _) .nil))) rfl ?_
      rintro _ S27 _ ⟨rfl,ws25,w26,rfl⟩ H28
      have H29:Has B0 S27 [.box b15 [(.d (.str z11.1.Tag)),(.d (.str z11.1.Key)),(.d (.str z11.1.Text)),(.d (.sl ((z11.1.aQ).map az) false)),(.d (.sl ((z11.1.Kids).map au) false))],.box b8 [(.d (.str a7.Tag)),(.d (.str a7.Key)),(.d (.str a7.Text)),(.d (.sl ((a7.aQ).map az) false)),(.d (.sl ((a7.Kids).map au) false))],.box b1 [v3,w26],ay ae ah.kids 7 5 v3 ws25 z24.2.l none,aG w26 z24.2.freed]:=H28.sl [3,4,0,1,2] rfl rfl
      refine ai.val rfl (ak rfl) rfl ?_
      refine ai.nil ?_
      have hr:=Option.some.inj h
      subst hr
      exact aB.ret ⟨_,rfl,rfl,_,_,_,.refl _,(.refl _),⟨rfl,v3,ws25,w26,rfl⟩,H29.sl [2,3,4] rfl rfl⟩
     ·
      replace h:=dJ hb23 h
      refine aB.skip ?_
      refine aB.seq ?_
      refine aB.region E.obj rfl ?_
      refine ai.val rfl (aa rfl) rfl ?_
      refine ai.val rfl (aa rfl) rfl ?_
      refine ai.val rfl (aD rfl zI Ct rfl) rfl ?_
      refine ai.val rfl (aI H19 (i:=1) rfl rfl (aR DN rfl)) rfl ?_
      obtain ⟨z30,hzz30,h⟩:=bind_some h
      refine ai.fw (ins:=[.box b1 [v3,w5],ay ae ah.kids 7 5 v3 ws4 a2.l none,aG w5 a2.freed]) (more:=[.box b15 [(.d (.str z11.1.Tag)),(.d (.str z11.1.Key)),(.d (.str z11.1.Text)),(.d (.sl ((z11.1.aQ).map az) false)),(.d (.sl ((z11.1.Kids).map au) false))],.box b8 [(.d (.str a7.Tag)),(.d (.str a7.Key)),(.d (.str a7.Text)),(.d (.sl ((a7.aQ).map az) false)),(.d (.sl ((a7.Kids).map au) false))]]) (H19.sl [2,3,4,0,1] rfl rfl) rfl (aJ rfl rfl) (ow E n _ _ _ _ hzz30 b1 v3 ws4 w5) (.cons (.refl _) (.cons (.refl _) (.cons (.refl _) .nil))) rfl ?_
      rintro _ S33 _ ⟨rfl,ws31,w32,rfl⟩ H34
      have H35:Has B0 S33 [.box b15 [(.d (.str z11.1.Tag)),(.d (.str z11.1.Key)),(.d (.str z11.1.Text)),(.d (.sl ((z11.1.aQ).map az) false)),(.d (.sl ((z11.1.Kids).map au) false))],.box b8 [(.d (.str a7.Tag)),(.d (.str a7.Key)),(.d (.str a7.Text)),(.d (.sl ((a7.aQ).map az) false)),(.d (.sl ((a7.Kids).map au) false))],.box b1 [v3,w32],ay ae ah.kids 7 5 v3 ws31 z30.2.l none,aG w32 z30.2.freed]:=H34.sl [3,4,0,1,2] rfl rfl
      refine ai.nil ?_
      refine aB.seq ?_
      refine aB.region E.obj rfl ?_
      refine ai.val rfl (aa rfl) rfl ?_
      refine ai.val rfl (aa rfl) rfl ?_
      obtain ⟨z36,hzz36,h⟩:=bind_some h
      refine ai.fw (ins:=[.box b1 [v3,w32],ay ae ah.kids 7 5 v3 ws31 z30.2.l none,aG w32 z30.2.freed]) (more:=[.box b15 [(.d (.str z11.1.Tag)),(.d (.str z11.1.Key)),(.d (.str z11.1.Text)),(.d (.sl ((z11.1.aQ).map az) false)),(.d (.sl ((z11.1.Kids).map au) false))],.box b8 [(.d (.str a7.Tag)),(.d (.str a7.Key)),(.d (.str a7.Text)),(.d (.sl ((a7.aQ).map az) false)),(.d (.sl ((a7.Kids).map au) false))]]) (H35.sl [2,3,4,0,1] rfl rfl) rfl (aJ rfl rfl) (iQ E n _ _ _ hzz36 b1 v3 ws31 w32) (.cons (.refl _) (.cons (.refl _) .nil)) rfl ?_
      rintro _ S37 _ ⟨rfl,rfl⟩ H38
      have H39:Has B0 S37 [.box b15 [(.d (.str z11.1.Tag)),(.d (.str z11.1.Key)),(.d (.str z11.1.Text)),(.d (.sl ((z11.1.aQ).map az) false)),(.d (.sl ((z11.1.Kids).map au) false))],.box b8 [(.d (.str a7.Tag)),(.d (.str a7.Key)),(.d (.str a7.Text)),(.d (.sl ((a7.aQ).map az) false)),(.d (.sl ((a7.Kids).map au) false))],.box b1 [v3,w32],ay ae ah.kids 7 5 v3 ws31 z30.2.l none,aG w32 z30.2.freed]:=H38.sl [3,4,0,1,2] rfl rfl
      refine ai.val rfl (ak rfl) rfl ?_
      refine ai.nil ?_
      refine aB.seq ?_
      obtain ⟨z40,hzz40,h⟩:=bind_some h
      obtain ⟨z44,hzz44,h⟩:=bind_some h
      refine aB.gQ E.obj kF Kw [(0,none),(1,none),(5,none),(9,none),(10,some 6)] (by kernel_rfl) [2] (by decide) [some (.ptr b1 0 0),some (.d (.sl ((z36).map (D.int .i64)) false)),none,some (.ptr b8 0 4),some (.d (.sl ((a7.Kids).map au) false)),none,none] ?_
      refine ⟨[0,1,3,4],by kernel_rfl,?_,_,_,rfl,rfl,.step ?_⟩
      ·
       refine .v rfl rfl rfl rfl (aa rfl) ?_
       refine .v rfl rfl rfl rfl (aa rfl) ?_
       refine .v rfl rfl rfl rfl (aD rfl iq nX rfl) ?_
       refine .v rfl rfl rfl rfl (aI H39 (i:=1) rfl rfl (aR qz rfl)) ?_
       exact .nil
      refine ai.fw (ins:=[.box b1 [v3,w32],ay ae ah.kids 7 5 v3 ws31 z30.2.l none,aG w32 z30.2.freed]) (more:=[.box b15 [(.d (.str z11.1.Tag)),(.d (.str z11.1.Key)),(.d (.str z11.1.Text)),(.d (.sl ((z11.1.aQ).map az) false)),(.d (.sl ((z11.1.Kids).map au) false))],.box b8 [(.d (.str a7.Tag)),(.d (.str a7.Key)),(.d (.str a7.Text)),(.d (.sl ((a7.aQ).map az) false)),(.d (.sl ((a7.Kids).map au) false))]]) (H39.sl [2,3,4,0,1] rfl rfl) rfl (aJ rfl rfl) (yg E n _ _ _ hzz40 b1 v3 ws31 w32) (.cons (.refl _) (.cons (.refl _) .nil)) rfl ?_
      rintro _ S45 _ ⟨rfl,rfl⟩ H46
      have H47:Has B0 S45 [.box b15 [(.d (.str z11.1.Tag)),(.d (.str z11.1.Key)),(.d (.str z11.1.Text)),(.d (.sl ((z11.1.aQ).map az) false)),(.d (.sl ((z11.1.Kids).map au) false))],.box b8 [(.d (.str a7.Tag)),(.d (.str a7.Key)),(.d (.str a7.Text)),(.d (.sl ((a7.aQ).map az) false)),(.d (.sl ((a7.Kids).map au) false))],.box b1 [v3,w32],ay ae ah.kids 7 5 v3 ws31 z30.2.l none,aG w32 z30.2.freed]:=H46.sl [3,4,0,1,2] rfl rfl
      refine ai.nil ⟨_,_,_,rfl,(fun _ ht=>by cases ht; rfl),[some (.ptr b1 0 0),some (.d (.sl ((z36).map (D.int .i64)) false)),some (.d (.sl ((z40).map au) false)),some (.ptr b8 0 4),some (.d (.sl ((a7.Kids).map au) false)),some (.d (.sl ((z44).map (D.int .i64)) false)),some (.d (.sl ((z44).map (D.int .i64)) false))],(.o (.o (.new (.o (.o (.new (.new .nil))))))),(fun _ ht=>by cases ht; exact ⟨_,rfl,.refl _⟩),?_⟩
      refine ⟨[3,4,5,6],by kernel_rfl,?_,_,rfl,?_⟩
      ·
       refine .v rfl rfl rfl rfl (aD rfl iq nX rfl) ?_
       refine .v rfl rfl rfl rfl (aI H47 (i:=1) rfl rfl (aR qz rfl)) ?_
       refine .cons rfl rfl rfl (.step ?_) ?_
       ·
        refine ai.ret rfl (aJ rfl rfl) (yl E _ _ _ _ hzz44 _ _ (bM.eq (bM.eq .nil))) rfl ?_
        exact ai.nil ⟨_,_,rfl,fun _ ht=>by cases ht; exact ⟨rfl,.refl _⟩⟩
       refine .v rfl rfl rfl rfl (ak rfl) ?_
       exact .nil
      refine aB.seq ?_
      refine aB.seq ?_
      refine aB.region E.obj rfl ?_
      refine ai.val rfl (aa rfl) rfl ?_
      refine ai.val rfl (bF rfl jh) rfl ?_
      refine ai.val rfl (aa rfl) rfl ?_
      obtain ⟨z48,hzz48,h⟩:=bind_some h
      refine ai.ret rfl (aJ rfl rfl) (yx E _ _ _ _ hzz48 _ _ (bM.eq (bM.eq .nil))) rfl ?_
      refine ai.val rfl (bF rfl jh) rfl ?_
      refine ai.val rfl (aa rfl) rfl ?_
      refine ai.nil ?_
      refine aB.block ?_
      refine o9.start (B:=B0) (α:=ax × (List (List AV)) × AV × Int) (fun k a=>eX n (dU n) a6 a7 z36 z44 z48 k a.1 a.2.2.2=some r) (fun a=>[(0,(.ptr b1 0 0)),(1,(.d (.int .i64 a6))),(5,(.ptr b8 0 0)),(9,(.d (.sl ((z36).map (D.int .i64)) false))),(10,(.d (.sl ((z44).map (D.int .i64)) false))),(62,(.d (.sl ((z48).map (D.int .i64)) false))),(63,(.d (.int .i64 ((z48).length:Int)))),(64,(.d (.int .i64 a.2.2.2)))]) (fun a=>[.box b8 [(.d (.str a7.Tag)),(.d (.str a7.Key)),(.d (.str a7.Text)),(.d (.sl ((a7.aQ).map az) false)),(.d (.sl ((a7.Kids).map au) false))],.box b1 [v3,a.2.2.1],ay ae ah.kids 7 5 v3 a.2.1 a.1.l none,aG a.2.2.1 a.1.freed]) ?_ ?_ n ⟨⟨z30.2,ws31,w32,0⟩,_,_,S45,.refl _ _,.refl _,(aj.r rfl (aj.r rfl (aj.r rfl (aj.r rfl (aj.r rfl (aj.r rfl (aj.r rfl (aj.r rfl aj.nil)))))))),H47.sl [1,2,3,4] rfl rfl,h⟩
      ·
       intro a h; simp [eX] at h
      ·
       intro k63 a S57 H58 h
       obtain ⟨x59,ws60,w61,x62⟩:=a
       replace h:eX n (dU n) a6 a7 z36 z44 z48 (k63 + 1) x59 x62=some r:=h
       replace H58:Has B0 S57 [.box b8 [(.d (.str a7.Tag)),(.d (.str a7.Key)),(.d (.str a7.Text)),(.d (.sl ((a7.aQ).map az) false)),(.d (.sl ((a7.Kids).map au) false))],.box b1 [v3,w61],ay ae ah.kids 7 5 v3 ws60 x59.l none,aG w61 x59.freed]:=H58
       unfold eX at h
       refine aB.seq ?_
       refine aB.region E.obj rfl ?_
       refine ai.val rfl (aH rfl rfl dG) rfl ?_
       refine ai.nil ?_
       refine aB.seq ?_
       refine aB.cond rfl (fun hb64=>?_) (fun hb64=>?_)
       ·
        replace h:=dK hb64 h
        refine aB.skip ?_
        refine aB.seq ?_
        refine aB.block ?_
        refine aB.seq ?_
        refine aB.region E.obj rfl ?_
        obtain ⟨z65,hzz65,h⟩:=bind_some h
        refine ai.val rfl (bE rfl rfl (bW (enc:=(D.int .i64)) hzz65 dX oP (((fun _=>rfl) _).trans jA.symm))) rfl ?_
        refine ai.val rfl (aY rfl (bL nG rfl)) rfl ?_
        refine ai.val rfl (ak rfl) rfl ?_
        refine ai.nil ?_
        refine aB.region E.obj rfl ?_
        refine ai.val rfl (aa rfl) rfl ?_
        refine ai.val rfl (aa rfl) rfl ?_
        refine ai.val rfl (aa rfl) rfl ?_
        obtain ⟨z66,hzz66,h⟩:=bind_some h
        refine ai.val rfl (bE rfl rfl (bW (enc:=(D.int .i64)) hzz66 dX oP (((fun _=>rfl) _).trans jA.symm))) rfl ?_
        refine ai.val rfl (aY rfl (bL nG rfl)) rfl ?_
        obtain ⟨z67,hzz67,h⟩:=bind_some h
        refine ai.fw (ins:=[.box b1 [v3,w61],ay ae ah.kids 7 5 v3 ws60 x59.l none,aG w61 x59.freed]) (more:=[.box b8 [(.d (.str a7.Tag)),(.d (.str a7.Key)),(.d (.str a7.Text)),(.d (.sl ((a7.aQ).map az) false)),(.d (.sl ((a7.Kids).map au) false))]]) (H58.sl [1,2,3,0] rfl rfl) rfl (aJ rfl rfl) (nK E n _ _ _ hzz67 b1 v3 ws60 w61) (.cons (.refl _) (.cons (.refl _) .nil)) rfl ?_
        rintro _ S70 _ ⟨rfl,ws68,w69,rfl⟩ H71
        have H72:Has B0 S70 [.box b8 [(.d (.str a7.Tag)),(.d (.str a7.Key)),(.d (.str a7.Text)),(.d (.sl ((a7.aQ).map az) false)),(.d (.sl ((a7.Kids).map au) false))],.box b1 [v3,w69],ay ae ah.kids 7 5 v3 ws68 z67.2.l none,aG w69 z67.2.freed]:=H71.sl [3,0,1,2] rfl rfl
        refine ai.nil ?_
        refine aB.region E.obj rfl ?_
        refine ai.val rfl (aH rfl rfl dZ) rfl ?_
        refine ai.val rfl (aa rfl) rfl ?_
        refine ai.nil ?_
        exact ⟨⟨z67.2,ws68,w69,(IntKind.wrap .i64 (x62 + 1))⟩,_,_,S70,.refl _ _,.refl _,(aj.r rfl (aj.r rfl (aj.r rfl (aj.r rfl (aj.r rfl (aj.r rfl (aj.r rfl (aj.r rfl aj.nil)))))))),H72.sl [0,1,2,3] rfl rfl,h⟩
       ·
        replace h:=dJ hb64 h
        refine aB.exit ?_
        refine aB.seq ?_
        refine aB.seq ?_
        refine aB.region E.obj rfl ?_
        refine ai.val rfl (aD rfl iq nX rfl) rfl ?_
        refine ai.val rfl (aI H58 (i:=0) rfl rfl (aR qz rfl)) rfl ?_
        refine ai.val rfl (bF rfl zo) rfl ?_
        refine ai.val rfl (aa rfl) rfl ?_
        refine ai.nil ?_
        refine aB.block ?_
        refine o9.start (B:=B0) (α:=ax × AV × (List (List AV)) × AV × Int) (fun k a=>cZ n (dU n) a6 a7 z36 z44 k a.1 a.2.2.2.2=some r) (fun a=>[(0,(.ptr b1 0 0)),(1,(.d (.int .i64 a6))),(9,(.d (.sl ((z36).map (D.int .i64)) false))),(10,(.d (.sl ((z44).map (D.int .i64)) false))),(76,(.d (.sl ((a7.Kids).map au) false))),(77,(.d (.int .i64 ((a7.Kids).length:Int)))),(78,(.d (.int .i64 a.2.2.2.2)))]) (fun a=>[.box b1 [a.2.1,a.2.2.2.1],ay ae ah.kids 7 5 a.2.1 a.2.2.1 a.1.l none,aG a.2.2.2.1 a.1.freed]) ?_ ?_ n ⟨⟨x59,v3,ws60,w61,0⟩,_,_,S57,.refl _ _,.refl _,(aj.r rfl (aj.r rfl (aj.r rfl (aj.r rfl (aj.r rfl (aj.r rfl (aj.r rfl aj.nil))))))),H58.sl [1,2,3] rfl rfl,h⟩
        ·
         intro a h; simp [cZ] at h
        ·
         intro k89 a S82 H83 h
         obtain ⟨x84,v87,ws85,w86,x88⟩:=a
         replace h:cZ n (dU n) a6 a7 z36 z44 (k89 + 1) x84 x88=some r:=h
         replace H83:Has B0 S82 [.box b1 [v87,w86],ay ae ah.kids 7 5 v87 ws85 x84.l none,aG w86 x84.freed]:=H83
         unfold cZ at h
         refine aB.seq ?_
         refine aB.region E.obj rfl ?_
         refine ai.val rfl (aH rfl rfl dG) rfl ?_
         refine ai.nil ?_
         refine aB.seq ?_
         refine aB.cond rfl (fun hb90=>?_) (fun hb90=>?_)
         ·
          replace h:=dK hb90 h
          refine aB.skip ?_
          refine aB.join (B:=B0) (α:=ax × AV × (List (List AV)) × AV) (fun a=>gJ x88 (cZ n (dU n) a6 a7 z36 z44 k89) a.1=some r) (fun a=>[(0,(.ptr b1 0 0)),(1,(.d (.int .i64 a6))),(9,(.d (.sl ((z36).map (D.int .i64)) false))),(10,(.d (.sl ((z44).map (D.int .i64)) false))),(76,(.d (.sl ((a7.Kids).map au) false))),(77,(.d (.int .i64 ((a7.Kids).length:Int)))),(78,(.d (.int .i64 x88)))]) (fun a=>[.box b1 [a.2.1,a.2.2.2],ay ae ah.kids 7 5 a.2.1 a.2.2.1 a.1.l none,aG a.2.2.2 a.1.freed]) ?_ ?_
          ·
           intro a S91 H92 h
           obtain ⟨x93,v96,ws94,w95⟩:=a
           replace h:gJ x88 (cZ n (dU n) a6 a7 z36 z44 k89) x93=some r:=h
           replace H92:Has B0 S91 [.box b1 [v96,w95],ay ae ah.kids 7 5 v96 ws94 x93.l none,aG w95 x93.freed]:=H92
           unfold gJ at h
           refine aB.region E.obj rfl ?_
           refine ai.val rfl (aH rfl rfl dZ) rfl ?_
           refine ai.val rfl (aa rfl) rfl ?_
           refine ai.nil ?_
           exact ⟨⟨x93,v96,ws94,w95,(IntKind.wrap .i64 (x88 + 1))⟩,_,_,S91,.refl _ _,.refl _,(aj.r rfl (aj.r rfl (aj.r rfl (aj.r rfl (aj.r rfl (aj.r rfl (aj.r rfl aj.nil))))))),H92.sl [0,1,2] rfl rfl,h⟩
          ·
           refine aB.block ?_
           refine aB.seq ?_
           refine aB.region E.obj rfl ?_
           refine ai.val rfl (aa rfl) rfl ?_
           obtain ⟨z98,hzz98,h⟩:=bind_some h
           refine ai.val rfl (bE rfl rfl (bW (enc:=au) hzz98 qc lJ ((Tree.len _).trans dF.symm))) rfl ?_
           refine ai.val rfl (aY rfl (Tree.ug ig dF)) rfl ?_
           refine ai.alloc H83 rfl uf jM rfl rfl (fun b99 S100 H101=>?_)
           refine ai.val rfl (ak rfl) rfl ?_
           refine ai.store H101 (i:=0) rfl rfl rfl rfl (Tree.fD _) rfl dF rfl lJ rfl rfl rfl (fun S102 H103=>?_)
           refine ai.nil ?_
           refine aB.seq ?_
           refine aB.seq ?_
           refine aB.region E.obj rfl ?_
           refine ai.val rfl (aa rfl) rfl ?_
           refine ai.val rfl (aa rfl) rfl ?_
           obtain ⟨z104,hzz104,h⟩:=bind_some h
           refine ai.val rfl (bE rfl rfl (bW (enc:=(D.int .i64)) hzz104 dX oP (((fun _=>rfl) _).trans jA.symm))) rfl ?_
           refine ai.val rfl (aY rfl (bL nG rfl)) rfl ?_
           refine ai.val rfl (aH rfl rfl dG) rfl ?_
           refine ai.nil ?_
           refine aB.cond rfl (fun hb105=>?_) (fun hb105=>?_)
           ·
            replace h:=dK hb105 h
            refine aB.seq ?_
            refine aB.region E.obj rfl ?_
            refine ai.val rfl (aa rfl) rfl ?_
            refine ai.val rfl (aa rfl) rfl ?_
            refine ai.val rfl (aa rfl) rfl ?_
            refine ai.val rfl (aI H103 (i:=0) rfl rfl (bX ig dF rfl)) rfl ?_
            refine ai.less (Less.agg' (d:=au z98) (aC.eq rfl (aC.eq rfl (aC.eq rfl (aC.eq rfl (aC.eq rfl .nil))))) ((Tree.eq _).trans rfl)) ?_
            obtain ⟨z106,hzz106,h⟩:=bind_some h
            refine ai.fw (ins:=[.box b1 [v87,w86],ay ae ah.kids 7 5 v87 ws85 x84.l none,aG w86 x84.freed]) (more:=[.box b99 [(.d (.str z98.Tag)),(.d (.str z98.Key)),(.d (.str z98.Text)),(.d (.sl ((z98.aQ).map az) false)),(.d (.sl ((z98.Kids).map au) false))]]) (H103.sl [1,2,3,0] rfl rfl) rfl (aJ rfl rfl) (lU E n _ _ _ hzz106 b1 v87 ws85 w86) (.cons (.refl _) (.cons (.refl _) .nil)) rfl ?_
            rintro _ S110 _ ⟨rfl,v107,ws108,w109,rfl⟩ H111
            have H112:Has B0 S110 [.box b99 [(.d (.str z98.Tag)),(.d (.str z98.Key)),(.d (.str z98.Text)),(.d (.sl ((z98.aQ).map az) false)),(.d (.sl ((z98.Kids).map au) false))],.box b1 [v107,w109],ay ae ah.kids 7 5 v107 ws108 z106.2.l none,aG w109 z106.2.freed]:=H111.sl [3,0,1,2] rfl rfl
            refine ai.val rfl (aa rfl) rfl ?_
            obtain ⟨z113,hzz113,h⟩:=bind_some h
            refine ai.fw (ins:=[.box b1 [v107,w109],ay ae ah.kids 7 5 v107 ws108 z106.2.l none,aG w109 z106.2.freed]) (more:=[.box b99 [(.d (.str z98.Tag)),(.d (.str z98.Key)),(.d (.str z98.Text)),(.d (.sl ((z98.aQ).map az) false)),(.d (.sl ((z98.Kids).map au) false))]]) (H112.sl [1,2,3,0] rfl rfl) rfl (aJ rfl rfl) (kG E n _ _ _ _ _ hzz113 b1 v107 ws108 w109) (.cons (.refl _) (.cons (.refl _) (.cons (.refl _) (.cons (.refl _) .nil)))) rfl ?_
            rintro _ S116 _ ⟨rfl,ws114,w115,rfl⟩ H117
            have H118:Has B0 S116 [.box b99 [(.d (.str z98.Tag)),(.d (.str z98.Key)),(.d (.str z98.Text)),(.d (.sl ((z98.aQ).map az) false)),(.d (.sl ((z98.Kids).map au) false))],.box b1 [v107,w115],ay ae ah.kids 7 5 v107 ws114 z113.2.l none,aG w115 z113.2.freed]:=H117.sl [3,0,1,2] rfl rfl
            refine ai.nil ?_
            refine aB.exit ?_
            exact ⟨⟨z113.2,v107,ws114,w115⟩,_,_,S116,.refl _ _,.refl _,(aj.r rfl (aj.r rfl (aj.r rfl (aj.r rfl (aj.r rfl (aj.r rfl (aj.r rfl aj.nil))))))),H118.sl [1,2,3] rfl rfl,h⟩
           ·
            replace h:=dJ hb105 h
            refine aB.skip ?_
            refine aB.seq ?_
            refine aB.region E.obj rfl ?_
            refine ai.val rfl (aa rfl) rfl ?_
            refine ai.val rfl (aa rfl) rfl ?_
            refine ai.val rfl (aa rfl) rfl ?_
            refine ai.val rfl (aa rfl) rfl ?_
            refine ai.val rfl (aa rfl) rfl ?_
            obtain ⟨z119,hzz119,h⟩:=bind_some h
            refine ai.val rfl (bE rfl rfl (bW (enc:=(D.int .i64)) hzz119 dX oP (((fun _=>rfl) _).trans jA.symm))) rfl ?_
            refine ai.val rfl (aY rfl (bL nG rfl)) rfl ?_
            obtain ⟨z120,hzz120,h⟩:=bind_some h
            refine ai.val rfl (bE rfl rfl (bW (enc:=(D.int .i64)) hzz120 dX oP (((fun _=>rfl) _).trans jA.symm))) rfl ?_
            refine ai.val rfl (aY rfl (bL nG rfl)) rfl ?_
            refine ai.val rfl (aa rfl) rfl ?_
            obtain ⟨z121,hzz121,h⟩:=bind_some h
            refine ai.fw (ins:=[.box b1 [v87,w86],ay ae ah.kids 7 5 v87 ws85 x84.l none,aG w86 x84.freed]) (more:=[.box b99 [(.d (.str z98.Tag)),(.d (.str z98.Key)),(.d (.str z98.Text)),(.d (.sl ((z98.aQ).map az) false)),(.d (.sl ((z98.Kids).map au) false))]]) (H103.sl [1,2,3,0] rfl rfl) rfl (aJ rfl rfl) (kG E n _ _ _ _ _ hzz121 b1 v87 ws85 w86) (.cons (.refl _) (.cons (.refl _) (.cons (.refl _) (.cons (.refl _) .nil)))) rfl ?_
            rintro _ S124 _ ⟨rfl,ws122,w123,rfl⟩ H125
            have H126:Has B0 S124 [.box b99 [(.d (.str z98.Tag)),(.d (.str z98.Key)),(.d (.str z98.Text)),(.d (.sl ((z98.aQ).map az) false)),(.d (.sl ((z98.Kids).map au) false))],.box b1 [v87,w123],ay ae ah.kids 7 5 v87 ws122 z121.2.l none,aG w123 z121.2.freed]:=H125.sl [3,0,1,2] rfl rfl
            refine ai.nil ?_
            obtain ⟨z127,hzz127,h⟩:=bind_some h
            obtain ⟨z128,hzz128,h⟩:=bind_some h
            obtain ⟨z129,hzz129,h⟩:=bind_some h
            refine aB.gQ E.obj kF JS [(0,none),(1,none),(9,none),(10,none),(76,none),(77,none),(78,none)] (by kernel_rfl) [9] (by decide) [some (.ptr b1 0 0),some (.d (.sl ((z36).map (D.int .i64)) false)),some (.d (.sl ((z44).map (D.int .i64)) false)),some (.d (.int .i64 x88)),some (.eptr (.int .i64 z127) 0),some (.d (.int .i64 z127)),some (.eptr (.int .i64 z128) 0),some (.d (.int .i64 z128)),some (.d (au z98)),none] ?_
            refine ⟨[0,1,2,3,4,5,6,7,8],by kernel_rfl,?_,_,_,rfl,rfl,.step ?_⟩
            ·
             refine .v rfl rfl rfl rfl (aa rfl) ?_
             refine .v rfl rfl rfl rfl (aa rfl) ?_
             refine .v rfl rfl rfl rfl (aa rfl) ?_
             refine .v rfl rfl rfl rfl (aa rfl) ?_
             refine .v rfl rfl rfl rfl (bE rfl rfl (bW (enc:=(D.int .i64)) hzz127 dX oP (((fun _=>rfl) _).trans jA.symm))) ?_
             refine .v rfl rfl rfl rfl (aY rfl (bL nG rfl)) ?_
             refine .v rfl rfl rfl rfl (bE rfl rfl (bW (enc:=(D.int .i64)) hzz128 dX oP (((fun _=>rfl) _).trans jA.symm))) ?_
             refine .v rfl rfl rfl rfl (aY rfl (bL nG rfl)) ?_
             refine .cons rfl rfl rfl (.step ?_) ?_
             ·
              refine ai.val rfl (aI H126 (i:=0) rfl rfl (bX ig dF rfl)) rfl ?_
              refine ai.less (Less.agg' (d:=au z98) (aC.eq rfl (aC.eq rfl (aC.eq rfl (aC.eq rfl (aC.eq rfl .nil))))) ((Tree.eq _).trans rfl)) ?_
              exact ai.nil ⟨_,_,rfl,fun _ ht=>by cases ht; exact ⟨rfl,.refl _⟩⟩
             exact .nil
            refine ai.fw (ins:=[.box b1 [v87,w123],ay ae ah.kids 7 5 v87 ws122 z121.2.l none,aG w123 z121.2.freed]) (more:=[.box b99 [(.d (.str z98.Tag)),(.d (.str z98.Key)),(.d (.str z98.Text)),(.d (.sl ((z98.aQ).map az) false)),(.d (.sl ((z98.Kids).map au) false))]]) (H126.sl [1,2,3,0] rfl rfl) rfl (aJ rfl rfl) (ih _ _ _ _ hzz129 b1 v87 ws122 w123) (.cons (.refl _) (.cons (.refl _) (.cons (.refl _) .nil))) rfl ?_
            rintro _ S139 _ ⟨rfl,v136,ws137,w138,rfl⟩ H140
            have H141:Has B0 S139 [.box b99 [(.d (.str z98.Tag)),(.d (.str z98.Key)),(.d (.str z98.Text)),(.d (.sl ((z98.aQ).map az) false)),(.d (.sl ((z98.Kids).map au) false))],.box b1 [v136,w138],ay ae ah.kids 7 5 v136 ws137 z129.2.l none,aG w138 z129.2.freed]:=H140.sl [3,0,1,2] rfl rfl
            refine ai.nil ⟨_,_,_,rfl,(fun _ ht=>by cases ht; rfl),[some (.ptr b1 0 0),some (.d (.sl ((z36).map (D.int .i64)) false)),some (.d (.sl ((z44).map (D.int .i64)) false)),some (.d (.int .i64 x88)),some (.eptr (.int .i64 z127) 0),some (.d (.int .i64 z127)),some (.eptr (.int .i64 z128) 0),some (.d (.int .i64 z128)),some (.d (au z98)),some (.d (.bool z129.1))],(.o (.o (.o (.o (.o (.o (.o (.o (.o (.new .nil)))))))))),(fun _ ht=>by cases ht; exact ⟨_,rfl,.refl _⟩),?_⟩
            refine ⟨[],by kernel_rfl,?_,_,rfl,?_⟩
            ·
             exact .nil
            exact ⟨⟨z129.2,v136,ws137,w138⟩,_,_,S139,.refl _ _,.refl _,(aj.r rfl (aj.r rfl (aj.r rfl (aj.r rfl (aj.r rfl (aj.r rfl (aj.r rfl aj.nil))))))),H141.sl [1,2,3] rfl rfl,h⟩
         ·
          replace h:=dJ hb90 h
          refine aB.exit ?_
          refine aB.seq ?_
          refine aB.region E.obj rfl ?_
          refine ai.val rfl (ak rfl) rfl ?_
          refine ai.nil ?_
          have hr:=Option.some.inj h
          subst hr
          exact aB.ret ⟨_,rfl,rfl,_,_,_,.refl _,(.refl _),⟨rfl,v87,ws85,w86,rfl⟩,H83.sl [0,1,2] rfl rfl⟩
set_option maxRecDepth 20000 in
set_option maxHeartbeats 4000000 in
theorem lH (n:Nat) (a1:(List Attr)) (a2:(List Attr)) (r:Bool) (h:dS n a1 a2=some r):ib R cfg.P 75 [(.sl ((a1).map az) false),(.sl ((a2).map az) false)] (.d (.bool r)):=by
 unfold dS at h
 refine ib.of_wp E.obj.toObjOk (C:=cfg) Try.func75 rfl Kv rfl ?_
 have H0:Has aM aM []:=Has.pure
 refine aB.seq ?_
 refine aB.region E.obj rfl ?_
 refine ai.val rfl (ak rfl) rfl ?_
 refine ai.nil ?_
 refine aB.seq ?_
 refine aB.seq ?_
 refine aB.region E.obj rfl ?_
 refine ai.val rfl (aa rfl) rfl ?_
 refine ai.val rfl (bF rfl Ij) rfl ?_
 refine ai.val rfl (aa rfl) rfl ?_
 refine ai.val rfl (bF rfl Ij) rfl ?_
 refine ai.val rfl (aH rfl rfl lF) rfl ?_
 refine ai.nil ?_
 refine aB.cond rfl (fun hb3=>?_) (fun hb3=>?_)
 ·
  replace h:=dK hb3 h
  refine aB.seq ?_
  refine aB.region E.obj rfl ?_
  refine ai.val rfl (ak rfl) rfl ?_
  refine ai.nil ?_
  have hr:=Option.some.inj h
  subst hr
  exact aB.ret ⟨_,rfl,rfl,mW (bM.eq .nil)⟩
 ·
  replace h:=dJ hb3 h
  refine aB.skip ?_
  refine aB.seq ?_
  refine aB.seq ?_
  refine aB.region E.obj rfl ?_
  refine ai.val rfl (ak rfl) rfl ?_
  refine ai.nil ?_
  refine aB.block ?_
  refine o9.start (B:=aM) (α:=Int) (fun k a=>bB a1 a2 k a=some r) (fun a=>[(0,(.d (.sl ((a1).map az) false))),(1,(.d (.sl ((a2).map az) false))),(5,(.d (.int .i64 a)))]) (fun a=>[]) ?_ ?_ n ⟨0,_,_,aM,.refl _ _,.refl _,(aj.r rfl (aj.r rfl (aj.r rfl aj.nil))),H0.sl [] rfl rfl,h⟩
  ·
   intro a h; simp [bB] at h
  ·
   intro k12 x11 S9 H10 h
   replace h:bB a1 a2 (k12 + 1) x11=some r:=h
   replace H10:Has aM S9 []:=H10
   unfold bB at h
   refine aB.seq ?_
   refine aB.seq ?_
   refine aB.region E.obj rfl ?_
   refine ai.val rfl (aa rfl) rfl ?_
   refine ai.val rfl (aa rfl) rfl ?_
   refine ai.val rfl (bF rfl Ij) rfl ?_
   refine ai.val rfl (aH rfl rfl dG) rfl ?_
   refine ai.nil ?_
   refine aB.cond rfl (fun hb13=>?_) (fun hb13=>?_)
   ·
    replace h:=dK hb13 h
    refine aB.skip ?_
    refine aB.seq ?_
    refine aB.block ?_
    refine aB.seq ?_
    obtain ⟨z14,hzz14,h⟩:=bind_some h
    obtain ⟨z15,hzz15,h⟩:=bind_some h
    refine aB.gQ E.obj kF KP [(0,none),(1,none),(5,none),(25,some 8)] (by kernel_rfl) [] (by decide) [some (.d (.sl ((a1).map az) false)),some (.d (.int .i64 x11)),some (.eptr (az z14) 0),some (.d (az z14)),some (.d (.sl ((a2).map az) false)),some (.d (.int .i64 x11)),some (.eptr (az z15) 0),some (.d (az z15)),some (.d (.bool (!(Attr.beq z14 z15))))] ?_
    refine ⟨[0,1,2,3,4,5,6,7,8],by kernel_rfl,?_,_,rfl,?_⟩
    ·
     refine .v rfl rfl rfl rfl (aa rfl) ?_
     refine .v rfl rfl rfl rfl (aa rfl) ?_
     refine .v rfl rfl rfl rfl (bE rfl rfl (bW (enc:=az) hzz14 G8 Jl ((Attr.len _).trans En.symm))) ?_
     refine .v rfl rfl rfl rfl (aY rfl (Attr.ug Ik En)) ?_
     refine .v rfl rfl rfl rfl (aa rfl) ?_
     refine .v rfl rfl rfl rfl (aa rfl) ?_
     refine .v rfl rfl rfl rfl (bE rfl rfl (bW (enc:=az) hzz15 G8 Jl ((Attr.len _).trans En.symm))) ?_
     refine .v rfl rfl rfl rfl (aY rfl (Attr.ug Ik En)) ?_
     refine .v rfl rfl rfl rfl (aH rfl rfl (Ce (Attr.eq _) (Attr.eq _) (Jj _ _))) ?_
     exact .nil
    refine aB.cond rfl (fun hb16=>?_) (fun hb16=>?_)
    ·
     replace h:=dK hb16 h
     refine aB.seq ?_
     refine aB.region E.obj rfl ?_
     refine ai.val rfl (ak rfl) rfl ?_
     refine ai.nil ?_
     have hr:=Option.some.inj h
     subst hr
     exact aB.ret ⟨_,rfl,rfl,mW (bM.eq .nil)⟩
    ·
     replace h:=dJ hb16 h
     refine aB.skip ?_
     refine aB.region E.obj rfl ?_
     refine ai.val rfl (aa rfl) rfl ?_
     refine ai.val rfl (aH rfl rfl dZ) rfl ?_
     refine ai.val rfl (ak rfl) rfl ?_
     refine ai.nil ?_
     exact ⟨(IntKind.wrap .i64 (x11 + 1)),_,_,S9,.refl _ _,.refl _,(aj.r rfl (aj.r rfl (aj.r rfl aj.nil))),H10.sl [] rfl rfl,h⟩
   ·
    replace h:=dJ hb13 h
    refine aB.exit ?_
    refine aB.seq ?_
    refine aB.region E.obj rfl ?_
    refine ai.val rfl (ak rfl) rfl ?_
    refine ai.nil ?_
    have hr:=Option.some.inj h
    subst hr
    exact aB.ret ⟨_,rfl,rfl,mW (bM.eq .nil)⟩
set_option maxRecDepth 20000 in
set_option maxHeartbeats 4000000 in
theorem fU:∀ (n:Nat) (a1:Tree) (a2:Tree) (r:Bool),cO n a1 a2=some r→ib R cfg.P 41 [(au a1),(au a2)] (.d (.bool r))
 | 0,a1,a2,r,h=>by simp [cO] at h
 | n + 1,a1,a2,r,h=>by
  have ih:=fU n
  unfold cO at h
  refine ib.of_wp E.obj.toObjOk (C:=cfg) Try.func41 rfl KA rfl ?_
  have H0:Has aM aM []:=Has.pure
  refine aB.seq ?_
  refine aB.region E.obj rfl ?_
  refine ai.box H0 rfl rfl rfl (Tree.fD _) rfl (fun b3 S4 H5=>?_)
  refine ai.box H5 rfl rfl rfl (Tree.fD _) rfl (fun b6 S7 H8=>?_)
  refine ai.val rfl (ak rfl) rfl ?_
  refine ai.nil ?_
  refine aB.seq ?_
  refine aB.seq ?_
  refine aB.region E.obj rfl ?_
  refine ai.val rfl (aD rfl nN sK rfl) rfl ?_
  refine ai.val rfl (aI H8 (i:=1) rfl rfl (aR rZ rfl)) rfl ?_
  refine ai.val rfl (aD rfl nN sK rfl) rfl ?_
  refine ai.val rfl (aI H8 (i:=0) rfl rfl (aR rZ rfl)) rfl ?_
  refine ai.val rfl (aH rfl rfl l5) rfl ?_
  refine ai.val rfl (aa rfl) rfl ?_
  refine ai.jG 6 17 (.d (.bool ((!(a1.Tag == a2.Tag)) || (!(a1.Key == a2.Key))))) ?_ ?_
  ·
   rcases Bool.eq_false_or_eq_true ((!(a1.Tag == a2.Tag))) with hB9 | hB9
   ·
    refine ai.bool hB9 ?_
    refine ai.no rfl rfl ?_
    refine ai.no rfl rfl ?_
    refine ai.no rfl rfl ?_
    refine ai.no rfl rfl ?_
    refine ai.no rfl rfl ?_
    refine ai.val rfl (aF (b:=true) rfl rfl) rfl ?_
    exact ai.nil ⟨_,rfl,(aj.put (aj.push rfl (aj.push rfl (aj.push rfl (aj.push rfl (aj.push rfl (aj.put (.refl _) (Less.eq (by rw [hB9])))))))) (Less.eq (by rw [hB9]; rw [Bool.true_or])))⟩
   ·
    refine ai.bool hB9 ?_
    refine ai.val rfl (aD rfl uE sK rfl) rfl ?_
    refine ai.val rfl (aI H8 (i:=1) rfl rfl (aR rZ rfl)) rfl ?_
    refine ai.val rfl (aD rfl uE sK rfl) rfl ?_
    refine ai.val rfl (aI H8 (i:=0) rfl rfl (aR rZ rfl)) rfl ?_
    refine ai.val rfl (aH rfl rfl l5) rfl ?_
    refine ai.val rfl (aF (b:=false) rfl rfl) rfl ?_
    exact ai.nil ⟨_,rfl,(aj.put (aj.push rfl (aj.push rfl (aj.push rfl (aj.push rfl (aj.push rfl (aj.put (.refl _) (Less.eq (by rw [hB9])))))))) (Less.eq (by rw [hB9]; rw [Bool.false_or])))⟩
  ·
   refine ai.val rfl (aa rfl) rfl ?_
   refine ai.jG 6 24 (.d (.bool (((!(a1.Tag == a2.Tag)) || (!(a1.Key == a2.Key))) || (!(a1.Text == a2.Text))))) ?_ ?_
   ·
    rcases Bool.eq_false_or_eq_true (((!(a1.Tag == a2.Tag)) || (!(a1.Key == a2.Key)))) with hB10 | hB10
    ·
     refine ai.bool hB10 ?_
     refine ai.no rfl rfl ?_
     refine ai.no rfl rfl ?_
     refine ai.no rfl rfl ?_
     refine ai.no rfl rfl ?_
     refine ai.no rfl rfl ?_
     refine ai.val rfl (aF (b:=true) rfl rfl) rfl ?_
     exact ai.nil ⟨_,rfl,(aj.put (aj.push rfl (aj.push rfl (aj.push rfl (aj.push rfl (aj.push rfl (aj.put (.refl _) (Less.eq (by rw [hB10])))))))) (Less.eq (by rw [hB10]; rw [Bool.true_or])))⟩
    ·
     refine ai.bool hB10 ?_
     refine ai.val rfl (aD rfl zG sK rfl) rfl ?_
     refine ai.val rfl (aI H8 (i:=1) rfl rfl (aR rZ rfl)) rfl ?_
     refine ai.val rfl (aD rfl zG sK rfl) rfl ?_
     refine ai.val rfl (aI H8 (i:=0) rfl rfl (aR rZ rfl)) rfl ?_
     refine ai.val rfl (aH rfl rfl l5) rfl ?_
     refine ai.val rfl (aF (b:=false) rfl rfl) rfl ?_
     exact ai.nil ⟨_,rfl,(aj.put (aj.push rfl (aj.push rfl (aj.push rfl (aj.push rfl (aj.push rfl (aj.put (.refl _) (Less.eq (by rw [hB10])))))))) (Less.eq (by rw [hB10]; rw [Bool.false_or])))⟩
   ·
    refine ai.val rfl (aa rfl) rfl ?_
    obtain ⟨z12,hzz12,h⟩:=bind_some h
    refine ai.jG 7 32 (.d (.bool z12)) ?_ ?_
    ·
     rcases Bool.eq_false_or_eq_true ((((!(a1.Tag == a2.Tag)) || (!(a1.Key == a2.Key))) || (!(a1.Text == a2.Text)))) with hB11 | hB11
     ·
      refine ai.bool hB11 ?_
      refine ai.no rfl rfl ?_
      refine ai.no rfl rfl ?_
      refine ai.no rfl rfl ?_
      refine ai.no rfl rfl ?_
      refine ai.no rfl rfl ?_
      refine ai.no rfl rfl ?_
      refine ai.val rfl (aF (b:=true) rfl rfl) rfl ?_
      replace hzz12:=dK hB11 hzz12
      cases hzz12
      exact ai.nil ⟨_,rfl,(aj.put (aj.push rfl (aj.push rfl (aj.push rfl (aj.push rfl (aj.push rfl (aj.push rfl (aj.put (.refl _) (Less.eq (by rw [hB11]))))))))) (.refl _))⟩
     ·
      refine ai.bool hB11 ?_
      replace hzz12:=dJ hB11 hzz12
      refine ai.val rfl (aD rfl zI Ct rfl) rfl ?_
      refine ai.val rfl (aI H8 (i:=1) rfl rfl (aR DN rfl)) rfl ?_
      refine ai.val rfl (aD rfl zI Ct rfl) rfl ?_
      refine ai.val rfl (aI H8 (i:=0) rfl rfl (aR DN rfl)) rfl ?_
      obtain ⟨z13,hzz13,hzz12⟩:=bind_some hzz12
      refine ai.ret rfl (aJ rfl rfl) (lH E _ _ _ _ hzz13 _ _ (bM.eq (bM.eq .nil))) rfl ?_
      refine ai.val rfl (qF rfl) rfl ?_
      refine ai.val rfl (aF (b:=false) rfl rfl) rfl ?_
      cases hzz12
      exact ai.nil ⟨_,rfl,(aj.put (aj.push rfl (aj.push rfl (aj.push rfl (aj.push rfl (aj.push rfl (aj.push rfl (aj.put (.refl _) (Less.eq (by rw [hB11]))))))))) (.refl _))⟩
    ·
     refine ai.val rfl (aa rfl) rfl ?_
     refine ai.jG 8 41 (.d (.bool (z12 || (((a1.Kids).length:Int) != ((a2.Kids).length:Int))))) ?_ ?_
     ·
      rcases Bool.eq_false_or_eq_true (z12) with hB14 | hB14
      ·
       refine ai.bool hB14 ?_
       refine ai.no rfl rfl ?_
       refine ai.no rfl rfl ?_
       refine ai.no rfl rfl ?_
       refine ai.no rfl rfl ?_
       refine ai.no rfl rfl ?_
       refine ai.no rfl rfl ?_
       refine ai.no rfl rfl ?_
       refine ai.val rfl (aF (b:=true) rfl rfl) rfl ?_
       exact ai.nil ⟨_,rfl,(aj.put (aj.push rfl (aj.push rfl (aj.push rfl (aj.push rfl (aj.push rfl (aj.push rfl (aj.push rfl (aj.put (.refl _) (Less.eq (by rw [hB14])))))))))) (Less.eq (by rw [hB14]; rw [Bool.true_or])))⟩
      ·
       refine ai.bool hB14 ?_
       refine ai.val rfl (aD rfl iq nX rfl) rfl ?_
       refine ai.val rfl (aI H8 (i:=1) rfl rfl (aR qz rfl)) rfl ?_
       refine ai.val rfl (bF rfl zo) rfl ?_
       refine ai.val rfl (aD rfl iq nX rfl) rfl ?_
       refine ai.val rfl (aI H8 (i:=0) rfl rfl (aR qz rfl)) rfl ?_
       refine ai.val rfl (bF rfl zo) rfl ?_
       refine ai.val rfl (aH rfl rfl lF) rfl ?_
       refine ai.val rfl (aF (b:=false) rfl rfl) rfl ?_
       exact ai.nil ⟨_,rfl,(aj.put (aj.push rfl (aj.push rfl (aj.push rfl (aj.push rfl (aj.push rfl (aj.push rfl (aj.push rfl (aj.put (.refl _) (Less.eq (by rw [hB14])))))))))) (Less.eq (by rw [hB14]; rw [Bool.false_or])))⟩
     ·
      refine ai.nil ?_
      refine aB.cond rfl (fun hb15=>?_) (fun hb15=>?_)
      ·
       replace h:=dK hb15 h
       refine aB.seq ?_
       refine aB.region E.obj rfl ?_
       refine ai.val rfl (ak rfl) rfl ?_
       refine ai.nil ?_
       have hr:=Option.some.inj h
       subst hr
       exact aB.ret ⟨_,rfl,rfl,mW (bM.eq .nil)⟩
      ·
       replace h:=dJ hb15 h
       refine aB.skip ?_
       refine aB.seq ?_
       refine aB.seq ?_
       refine aB.region E.obj rfl ?_
       refine ai.val rfl (aD rfl iq nX rfl) rfl ?_
       refine ai.val rfl (aI H8 (i:=1) rfl rfl (aR qz rfl)) rfl ?_
       refine ai.val rfl (bF rfl zo) rfl ?_
       refine ai.val rfl (aa rfl) rfl ?_
       refine ai.nil ?_
       refine aB.block ?_
       refine o9.start (B:=aM) (α:=Int) (fun k a=>cz (cO n) a1 a2 k a=some r) (fun a=>[(2,(.ptr b3 0 0)),(3,(.ptr b6 0 0)),(44,(.d (.int .i64 ((a1.Kids).length:Int)))),(45,(.d (.int .i64 a)))]) (fun a=>[.box b6 [(.d (.str a2.Tag)),(.d (.str a2.Key)),(.d (.str a2.Text)),(.d (.sl ((a2.aQ).map az) false)),(.d (.sl ((a2.Kids).map au) false))],.box b3 [(.d (.str a1.Tag)),(.d (.str a1.Key)),(.d (.str a1.Text)),(.d (.sl ((a1.aQ).map az) false)),(.d (.sl ((a1.Kids).map au) false))]]) ?_ ?_ n ⟨0,_,_,S7,.refl _ _,.refl _,(aj.r rfl (aj.r rfl (aj.r rfl (aj.r rfl aj.nil)))),H8.sl [0,1] rfl rfl,h⟩
       ·
        intro a h; simp [cz] at h
       ·
        intro k24 x23 S21 H22 h
        replace h:cz (cO n) a1 a2 (k24 + 1) x23=some r:=h
        replace H22:Has aM S21 [.box b6 [(.d (.str a2.Tag)),(.d (.str a2.Key)),(.d (.str a2.Text)),(.d (.sl ((a2.aQ).map az) false)),(.d (.sl ((a2.Kids).map au) false))],.box b3 [(.d (.str a1.Tag)),(.d (.str a1.Key)),(.d (.str a1.Text)),(.d (.sl ((a1.aQ).map az) false)),(.d (.sl ((a1.Kids).map au) false))]]:=H22
        unfold cz at h
        refine aB.seq ?_
        refine aB.region E.obj rfl ?_
        refine ai.val rfl (aH rfl rfl dG) rfl ?_
        refine ai.nil ?_
        refine aB.seq ?_
        refine aB.cond rfl (fun hb25=>?_) (fun hb25=>?_)
        ·
         replace h:=dK hb25 h
         refine aB.skip ?_
         refine aB.seq ?_
         refine aB.block ?_
         refine aB.seq ?_
         refine aB.region E.obj rfl ?_
         refine ai.val rfl (aa rfl) rfl ?_
         refine ai.val rfl (ak rfl) rfl ?_
         refine ai.nil ?_
         refine aB.seq ?_
         obtain ⟨z26,hzz26,h⟩:=bind_some h
         obtain ⟨z27,hzz27,h⟩:=bind_some h
         obtain ⟨z28,hzz28,h⟩:=bind_some h
         refine aB.gQ E.obj kF KD [(2,none),(3,none),(44,none),(45,none),(59,some 11)] (by kernel_rfl) [] (by decide) [some (.ptr b3 0 4),some (.d (.sl ((a1.Kids).map au) false)),some (.d (.int .i64 x23)),some (.eptr (au z26) 0),some (.d (au z26)),some (.ptr b6 0 4),some (.d (.sl ((a2.Kids).map au) false)),some (.d (.int .i64 x23)),some (.eptr (au z27) 0),some (.d (au z27)),some (.d (.bool z28)),some (.d (.bool (!z28)))] ?_
         refine ⟨[0,1,2,3,4,5,6,7,8,9,10,11],by kernel_rfl,?_,_,rfl,?_⟩
         ·
          refine .v rfl rfl rfl rfl (aD rfl iq nX rfl) ?_
          refine .v rfl rfl rfl rfl (aI H22 (i:=1) rfl rfl (aR qz rfl)) ?_
          refine .v rfl rfl rfl rfl (aa rfl) ?_
          refine .v rfl rfl rfl rfl (bE rfl rfl (bW (enc:=au) hzz26 qc lJ ((Tree.len _).trans dF.symm))) ?_
          refine .v rfl rfl rfl rfl (aY rfl (Tree.ug ig dF)) ?_
          refine .v rfl rfl rfl rfl (aD rfl iq nX rfl) ?_
          refine .v rfl rfl rfl rfl (aI H22 (i:=0) rfl rfl (aR qz rfl)) ?_
          refine .v rfl rfl rfl rfl (aa rfl) ?_
          refine .v rfl rfl rfl rfl (bE rfl rfl (bW (enc:=au) hzz27 qc lJ ((Tree.len _).trans dF.symm))) ?_
          refine .v rfl rfl rfl rfl (aY rfl (Tree.ug ig dF)) ?_
          refine .cons rfl rfl rfl (.step ?_) ?_
          ·
           refine ai.ret rfl (aJ rfl rfl) (ih _ _ _ hzz28 _ _ (bM.eq (bM.eq .nil))) rfl ?_
           exact ai.nil ⟨_,_,rfl,fun _ ht=>by cases ht; exact ⟨rfl,.refl _⟩⟩
          refine .v rfl rfl rfl rfl (qF rfl) ?_
          exact .nil
         refine aB.cond rfl (fun hb29=>?_) (fun hb29=>?_)
         ·
          replace h:=dK hb29 h
          refine aB.seq ?_
          refine aB.region E.obj rfl ?_
          refine ai.val rfl (ak rfl) rfl ?_
          refine ai.nil ?_
          have hr:=Option.some.inj h
          subst hr
          exact aB.ret ⟨_,rfl,rfl,mW (bM.eq .nil)⟩
         ·
          replace h:=dJ hb29 h
          refine aB.skip ?_
          refine aB.region E.obj rfl ?_
          refine ai.val rfl (aH rfl rfl dZ) rfl ?_
          refine ai.val rfl (aa rfl) rfl ?_
          refine ai.nil ?_
          exact ⟨(IntKind.wrap .i64 (x23 + 1)),_,_,S21,.refl _ _,.refl _,(aj.r rfl (aj.r rfl (aj.r rfl (aj.r rfl aj.nil)))),H22.sl [0,1] rfl rfl,h⟩
        ·
         replace h:=dJ hb25 h
         refine aB.exit ?_
         refine aB.seq ?_
         refine aB.region E.obj rfl ?_
         refine ai.val rfl (ak rfl) rfl ?_
         refine ai.nil ?_
         have hr:=Option.some.inj h
         subst hr
         exact aB.ret ⟨_,rfl,rfl,mW (bM.eq .nil)⟩
set_option maxRecDepth 20000 in
set_option maxHeartbeats 4000000 in
theorem D8 (n:Nat) (a2:ax) (r:(List Int)) (h:rF n a2=some r) (b1:Nat) (v3:AV) (ws4:List (List AV)) (w5:AV):df R cfg.P 18 [.ptr b1 0 0] [.box b1 [v3,w5],ay ae ah.kids 7 5 v3 ws4 a2.l none,aG w5 a2.freed] (fun v l=>v=.d (.sl ((r).map (D.int .i64)) false)∧l=[.box b1 [v3,w5],ay ae ah.kids 7 5 v3 ws4 a2.l none,aG w5 a2.freed]):=by
 unfold rF at h
 refine df.of_wp (C:=cfg) Try.func18 rfl JL rfl (fun B0 S0 H0=>?_)
 replace H0:Has B0 S0 [.box b1 [v3,w5],ay ae ah.kids 7 5 v3 ws4 a2.l none,aG w5 a2.freed]:=H0
 refine aB.seq ?_
 refine aB.region E.obj rfl ?_
 refine ai.val rfl (ak rfl) rfl ?_
 refine ai.nil ?_
 refine aB.seq ?_
 refine aB.region E.obj rfl ?_
 refine ai.val rfl (ak rfl) rfl ?_
 refine ai.nil ?_
 refine aB.seq ?_
 refine aB.seq ?_
 refine aB.region E.obj rfl ?_
 refine ai.val rfl (aa rfl) rfl ?_
 refine ai.val rfl (bz rfl) rfl ?_
 refine ai.val rfl (aD rfl jH rq rfl) rfl ?_
 refine ai.val rfl (aI H0 (i:=0) rfl rfl (aR rY rfl)) rfl ?_
 refine ai.val rfl (qQ H0 (i:=1) rfl rfl Gb) rfl ?_
 refine ai.val rfl (aa rfl) rfl ?_
 refine ai.nil ?_
 refine aB.block ?_
 have H38:=H0.Cq
 refine o9.start (B:=B0) (α:=(List Int) × AV × Int) (fun k a=>dI a2 k a.1 a.2.2=some r) (fun a=>[(3,a.2.1),(10,v3),(11,(.d (.int .i64 ((a2.l).length:Int)))),(12,(.d (.int .i64 a.2.2)))]) (fun a=>[.grow a.2.1 ((a.1).map (D.int .i64)),.box b1 [v3,w5],ay ae ah.kids 7 5 v3 ws4 a2.l none,aG w5 a2.freed]) ?_ ?_ n ⟨⟨[],(.d .aT),0⟩,_,_,S0,.refl _ _,.refl _,(aj.r rfl (aj.r rfl (aj.r rfl (aj.r rfl aj.nil)))),H38.sl [0,1,2,3] rfl rfl,h⟩
 ·
  intro a h; simp [dI] at h
 ·
  intro k18 a S13 H14 h
  obtain ⟨x15,v16,x17⟩:=a
  replace h:dI a2 (k18 + 1) x15 x17=some r:=h
  replace H14:Has B0 S13 [.grow v16 ((x15).map (D.int .i64)),.box b1 [v3,w5],ay ae ah.kids 7 5 v3 ws4 a2.l none,aG w5 a2.freed]:=H14
  unfold dI at h
  refine aB.seq ?_
  refine aB.region E.obj rfl ?_
  refine ai.val rfl (aH rfl rfl dG) rfl ?_
  refine ai.nil ?_
  refine aB.seq ?_
  refine aB.cond rfl (fun hb19=>?_) (fun hb19=>?_)
  ·
   replace h:=dK hb19 h
   refine aB.skip ?_
   refine aB.join (B:=B0) (α:=(List Int) × AV) (fun a=>gU x17 (dI a2 k18) a.1=some r) (fun a=>[(3,a.2),(10,v3),(11,(.d (.int .i64 ((a2.l).length:Int)))),(12,(.d (.int .i64 x17)))]) (fun a=>[.grow a.2 ((a.1).map (D.int .i64)),.box b1 [v3,w5],ay ae ah.kids 7 5 v3 ws4 a2.l none,aG w5 a2.freed]) ?_ ?_
   ·
    intro a S20 H21 h
    obtain ⟨x22,v23⟩:=a
    replace h:gU x17 (dI a2 k18) x22=some r:=h
    replace H21:Has B0 S20 [.grow v23 ((x22).map (D.int .i64)),.box b1 [v3,w5],ay ae ah.kids 7 5 v3 ws4 a2.l none,aG w5 a2.freed]:=H21
    unfold gU at h
    refine aB.region E.obj rfl ?_
    refine ai.val rfl (aH rfl rfl dZ) rfl ?_
    refine ai.val rfl (aa rfl) rfl ?_
    refine ai.nil ?_
    exact ⟨⟨x22,v23,(IntKind.wrap .i64 (x17 + 1))⟩,_,_,S20,.refl _ _,.refl _,(aj.r rfl (aj.r rfl (aj.r rfl (aj.r rfl aj.nil)))),H21.sl [0,1,2,3] rfl rfl,h⟩
   ·
    refine aB.block ?_
    refine aB.seq ?_
    refine aB.region E.obj rfl ?_
    refine ai.val rfl (aa rfl) rfl ?_
    obtain ⟨z25,hzz25,h⟩:=bind_some h
    refine ai.val rfl (fJ H14 (i:=2) rfl hzz25 rfl rfl wh rQ oh) rfl ?_
    refine ai.yP (cs:=[(.d (.bool z25.lives)),(.d (.str z25.tag)),(.d (.str z25.key)),(.d (.str z25.text)),(.d (.sl ((z25.attrs).map az) false)),(gX 5 ws4 (Int.toNat x17)),(.d (.int .i64 z25.parent))]) H14 rfl (q:=2) rfl hzz25 rfl Gh oh rfl rfl ?_
    refine ai.alloc H14 rfl Jh DK rfl rfl (fun b26 S27 H28=>?_)
    refine ai.val rfl (ak rfl) rfl ?_
    refine ai.store H28 (i:=0) rfl rfl rfl rfl (vk _) rfl oh (vg _) rQ rfl rfl rfl (fun S29 H30=>?_)
    refine ai.nil ?_
    refine aB.seq ?_
    refine aB.region E.obj rfl ?_
    refine ai.val rfl (aa rfl) rfl ?_
    refine ai.val rfl (aH rfl rfl dZ) rfl ?_
    refine ai.val rfl (ak rfl) rfl ?_
    refine ai.nil ?_
    refine aB.seq ?_
    refine aB.region E.obj rfl ?_
    refine ai.val rfl (aD rfl CV JY rfl) rfl ?_
    refine ai.val rfl (aI H30 (i:=0) rfl rfl (aR KO rfl)) rfl ?_
    refine ai.val rfl (aa rfl) rfl ?_
    refine ai.jG 4 25 (.d (.bool (z25.lives && (z25.parent == 0)))) ?_ ?_
    ·
     rcases Bool.eq_false_or_eq_true (z25.lives) with hB31 | hB31
     ·
      refine ai.bool hB31 ?_
      refine ai.val rfl (aD rfl qj Hl rfl) rfl ?_
      refine ai.val rfl (aI H30 (i:=0) rfl rfl (aR nG rfl)) rfl ?_
      refine ai.val rfl (aH rfl rfl bD) rfl ?_
      refine ai.val rfl (aF (b:=true) rfl rfl) rfl ?_
      exact ai.nil ⟨_,rfl,(aj.put (aj.push rfl (aj.push rfl (aj.push rfl (aj.put (.refl _) (Less.eq (by rw [hB31])))))) (Less.eq (by rw [hB31]; rw [Bool.true_and])))⟩
     ·
      refine ai.bool hB31 ?_
      refine ai.no rfl rfl ?_
      refine ai.no rfl rfl ?_
      refine ai.no rfl rfl ?_
      refine ai.val rfl (aF (b:=false) rfl rfl) rfl ?_
      exact ai.nil ⟨_,rfl,(aj.put (aj.push rfl (aj.push rfl (aj.push rfl (aj.put (.refl _) (Less.eq (by rw [hB31])))))) (Less.eq (by rw [hB31]; rw [Bool.false_and])))⟩
    ·
     refine ai.val rfl (aa rfl) rfl ?_
     refine ai.jG 3 29 (.d (.bool ((z25.lives && (z25.parent == 0)) && ((IntKind.wrap .i64 (x17 + 1)) != 1)))) ?_ ?_
     ·
      rcases Bool.eq_false_or_eq_true ((z25.lives && (z25.parent == 0))) with hB32 | hB32
      ·
       refine ai.bool hB32 ?_
       refine ai.val rfl (aa rfl) rfl ?_
       refine ai.val rfl (aH rfl rfl lF) rfl ?_
       refine ai.val rfl (aF (b:=true) rfl rfl) rfl ?_
       exact ai.nil ⟨_,rfl,(aj.put (aj.push rfl (aj.push rfl (aj.put (.refl _) (Less.eq (by rw [hB32]))))) (Less.eq (by rw [hB32]; rw [Bool.true_and])))⟩
      ·
       refine ai.bool hB32 ?_
       refine ai.no rfl rfl ?_
       refine ai.no rfl rfl ?_
       refine ai.val rfl (aF (b:=false) rfl rfl) rfl ?_
       exact ai.nil ⟨_,rfl,(aj.put (aj.push rfl (aj.push rfl (aj.put (.refl _) (Less.eq (by rw [hB32]))))) (Less.eq (by rw [hB32]; rw [Bool.false_and])))⟩
     ·
      refine ai.nil ?_
      refine aB.cond rfl (fun hb33=>?_) (fun hb33=>?_)
      ·
       replace h:=dK hb33 h
       refine aB.region E.obj rfl ?_
       refine ai.val rfl (aa rfl) rfl ?_
       refine ai.val rfl (aa rfl) rfl ?_
       refine ai.val rfl (dO (vs:=[(.d (.int .i64 (IntKind.wrap .i64 (x17 + 1))))]) (ds:=[(.int .i64 (IntKind.wrap .i64 (x17 + 1)))]) AU dX nG ED jA rfl (by decide) (.cons rfl rfl .nil) rfl (by intro d hd; simp only [List.mem_cons,List.not_mem_nil,or_false] at hd; rcases hd with rfl <;> rfl) rfl) rfl ?_
       obtain ⟨z34,hzz34,h⟩:=bind_some h
       refine ai.append (xs:=(x15).map (D.int .i64)) (ys:=([(IntKind.wrap .i64 (x17 + 1))]).map (D.int .i64)) (zs:=(z34).map (D.int .i64)) H30 rfl rfl rfl (i:=1) rfl rfl AU FY dX (jw hzz34) F9 rfl (dP (enc:=(D.int .i64)) (fun _=>jA.symm) _) (dP (enc:=(D.int .i64)) (fun _=>jA.symm) _) Jw rfl (pG hzz34) (fun v35 S36 H37=>?_)
       refine ai.val rfl (ak rfl) rfl ?_
       refine ai.nil ?_
       exact ⟨⟨z34,v35⟩,_,_,S36,.refl _ _,.refl _,(aj.r rfl (aj.r rfl (aj.r rfl (aj.r rfl aj.nil)))),H37.sl [1,2,3,4] rfl rfl,h⟩
      ·
       replace h:=dJ hb33 h
       refine aB.skip ?_
       exact ⟨⟨x15,v16⟩,_,_,S29,.refl _ _,.refl _,(aj.r rfl (aj.r rfl (aj.r rfl (aj.r rfl aj.nil)))),H30.sl [1,2,3,4] rfl rfl,h⟩
  ·
   replace h:=dJ hb19 h
   refine aB.exit ?_
   refine aB.seq ?_
   refine aB.region E.obj rfl ?_
   refine ai.val rfl (aa rfl) rfl ?_
   refine ai.val rfl (ak rfl) rfl ?_
   refine ai.nil ?_
   have hr:=Option.some.inj h
   subst hr
   exact aB.ret ⟨_,rfl,rfl,_,_,_,.refl _,(vE H14 (i:=0) rfl),⟨rfl,rfl⟩,H14.sl [1,2,3] rfl rfl⟩
set_option maxRecDepth 20000 in
set_option maxHeartbeats 4000000 in
theorem mX (n:Nat)  (r:Bool) (h:gz n  = some r):ib R cfg.P 42 [] (.d (.bool r)):=by
 unfold gz at h
 refine ib.of_wp E.obj.toObjOk (C:=cfg) Try.func42 rfl J7 rfl ?_
 have H0:Has aM aM []:=Has.pure
 refine aB.seq ?_
 refine aB.region E.obj rfl ?_
 refine ai.val rfl (ak rfl) rfl ?_
 refine ai.nil ?_
 refine aB.seq ?_
 refine aB.region E.obj rfl ?_
 obtain ⟨z1,hzz1,h⟩:=bind_some h
 refine ai.fw (ins:=[]) (more:=[]) (H0.sl [] rfl rfl) rfl (aJ rfl rfl) (wK E n  _ hzz1 ) .nil rfl ?_
 rintro v2 S3 l4 hr5 H6
 rcases z1 with _ | x7
 ·
  obtain ⟨rfl,rfl⟩:=hr5
  replace h:=IZ h
  replace H6:Has aM S3 []:=H6
  refine ai.val rfl (ak rfl) rfl ?_
  refine ai.nil ?_
  refine aB.seq ?_
  refine aB.seq ?_
  refine aB.region E.obj rfl ?_
  refine ai.val rfl (aa rfl) rfl ?_
  refine ai.val rfl (aH rfl rfl (kC GH)) rfl ?_
  refine ai.nil ?_
  refine aB.cond rfl (fun hb=>?_) (fun hb=>?_)
  ·
   refine aB.seq ?_
   refine aB.region E.obj rfl ?_
   refine ai.val rfl (ak rfl) rfl ?_
   refine ai.nil ?_
   have hr:=Option.some.inj h
   subst hr
   exact aB.ret ⟨_,rfl,rfl,mW (bM.eq .nil)⟩
  ·
   cases hb
 ·
  obtain ⟨b8,v9,ws10,w11,rfl,rfl⟩:=hr5
  replace h:=Jq h
  have H12:Has aM S3 [.box b8 [v9,w11],ay ae ah.kids 7 5 v9 ws10 x7.l none,aG w11 x7.freed]:=H6.sl [0,1,2] rfl rfl
  refine ai.val rfl (ak rfl) rfl ?_
  refine ai.nil ?_
  refine aB.seq ?_
  refine aB.seq ?_
  refine aB.region E.obj rfl ?_
  refine ai.val rfl (aa rfl) rfl ?_
  refine ai.val rfl (aH rfl rfl (Ab GH)) rfl ?_
  refine ai.nil ?_
  refine aB.cond rfl (fun hb=>?_) (fun hb=>?_)
  ·
   cases hb
  ·
   refine aB.skip ?_
   refine aB.seq ?_
   refine aB.region E.obj rfl ?_
   refine ai.val rfl (eB (cs:=[(.d (.str [108,105])),(.d (.str [49])),(.d (.str [])),(.d .aT),(.d .aT)]) jM rfl (dY) (ja rfl rfl rfl rfl (ja rfl rfl rfl rfl rfl))) rfl ?_
   refine ai.less (Less.agg' (d:=au (Tree.mk [108,105] [49] [] [] [])) (aC.eq rfl (aC.eq rfl (aC.eq rfl (aC.iY rfl (.aT false) rfl rfl (aC.iY rfl (.aT false) rfl rfl .nil))))) ((Tree.eq _).trans rfl)) ?_
   refine ai.val rfl (eB (cs:=[(.d (.str [108,105])),(.d (.str [50])),(.d (.str [])),(.d .aT),(.d .aT)]) jM rfl (dY) (ja rfl rfl rfl rfl (ja rfl rfl rfl rfl rfl))) rfl ?_
   refine ai.less (Less.agg' (d:=au (Tree.mk [108,105] [50] [] [] [])) (aC.eq rfl (aC.eq rfl (aC.eq rfl (aC.iY rfl (.aT false) rfl rfl (aC.iY rfl (.aT false) rfl rfl .nil))))) ((Tree.eq _).trans rfl)) ?_
   refine ai.alloc H12 rfl uf jM rfl rfl (fun b13 S14 H15=>?_)
   refine ai.alloc H15 rfl uf jM rfl rfl (fun b16 S17 H18=>?_)
   refine ai.store H18 (i:=1) rfl rfl rfl rfl (Tree.fD _) rfl dF rfl lJ rfl rfl rfl (fun S19 H20=>?_)
   refine ai.store H20 (i:=0) rfl rfl rfl rfl (Tree.fD _) rfl dF rfl lJ rfl rfl rfl (fun S21 H22=>?_)
   refine ai.nil ?_
   refine aB.seq ?_
   refine aB.region E.obj rfl ?_
   refine ai.val rfl (aa rfl) rfl ?_
   refine ai.val rfl (aI H22 (i:=1) rfl rfl (bX ig dF rfl)) rfl ?_
   refine ai.less (Less.agg' (d:=au (Tree.mk [108,105] [49] [] [] [])) (aC.eq rfl (aC.eq rfl (aC.eq rfl (aC.eq rfl (aC.eq rfl .nil))))) ((Tree.eq _).trans rfl)) ?_
   refine ai.val rfl (aI H22 (i:=0) rfl rfl (bX ig dF rfl)) rfl ?_
   refine ai.less (Less.agg' (d:=au (Tree.mk [108,105] [50] [] [] [])) (aC.eq rfl (aC.eq rfl (aC.eq rfl (aC.eq rfl (aC.eq rfl .nil))))) ((Tree.eq _).trans rfl)) ?_
   refine ai.val rfl (dO (vs:=[(.d (au (Tree.mk [108,105] [49] [] [] []))),(.d (au (Tree.mk [108,105] [50] [] [] [])))]) (ds:=[(au (Tree.mk [108,105] [49] [] [] [])),(au (Tree.mk [108,105] [50] [] [] []))]) yj qc ig jM dF rfl (by decide) (.cons rfl (Tree.len _) (.cons rfl (Tree.len _) .nil)) rfl (by intro d hd; simp only [List.mem_cons,List.not_mem_nil,or_false] at hd; rcases hd with rfl | rfl <;> exact Tree.agg _) rfl) rfl ?_
   refine ai.val rfl (eB (cs:=[(.d (.str [117,108])),(.d (.str [])),(.d (.str [])),(.d .aT),(.d (.sl (([(Tree.mk [108,105] [49] [] [] []),(Tree.mk [108,105] [50] [] [] [])]).map au) true))]) jM rfl (dY) (ja rfl rfl rfl rfl (ja rfl rfl rfl rfl rfl))) rfl ?_
   refine ai.less (Less.agg' (d:=au (Tree.mk [117,108] [] [] [] [(Tree.mk [108,105] [49] [] [] []),(Tree.mk [108,105] [50] [] [] [])])) (aC.eq rfl (aC.eq rfl (aC.eq rfl (aC.iY rfl (.aT false) rfl rfl (aC.iY rfl (.wy _ _) rfl rfl .nil))))) ((Tree.eq _).trans rfl)) ?_
   obtain ⟨z23,hzz23,h⟩:=bind_some h
   refine ai.fw (ins:=[.box b8 [v9,w11],ay ae ah.kids 7 5 v9 ws10 x7.l none,aG w11 x7.freed]) (more:=[.box b16 [(.d (.str (Tree.mk [108,105] [50] [] [] []).Tag)),(.d (.str (Tree.mk [108,105] [50] [] [] []).Key)),(.d (.str (Tree.mk [108,105] [50] [] [] []).Text)),(.d (.sl (((Tree.mk [108,105] [50] [] [] []).aQ).map az) false)),(.d (.sl (((Tree.mk [108,105] [50] [] [] []).Kids).map au) false))],.box b13 [(.d (.str (Tree.mk [108,105] [49] [] [] []).Tag)),(.d (.str (Tree.mk [108,105] [49] [] [] []).Key)),(.d (.str (Tree.mk [108,105] [49] [] [] []).Text)),(.d (.sl (((Tree.mk [108,105] [49] [] [] []).aQ).map az) false)),(.d (.sl (((Tree.mk [108,105] [49] [] [] []).Kids).map au) false))]]) (H22.sl [2,3,4,0,1] rfl rfl) rfl (aJ rfl rfl) (lU E n _ _ _ hzz23 b8 v9 ws10 w11) (.cons (.refl _) (.cons (.refl _) .nil)) rfl ?_
   rintro _ S27 _ ⟨rfl,v24,ws25,w26,rfl⟩ H28
   have H29:Has aM S27 [.box b16 [(.d (.str (Tree.mk [108,105] [50] [] [] []).Tag)),(.d (.str (Tree.mk [108,105] [50] [] [] []).Key)),(.d (.str (Tree.mk [108,105] [50] [] [] []).Text)),(.d (.sl (((Tree.mk [108,105] [50] [] [] []).aQ).map az) false)),(.d (.sl (((Tree.mk [108,105] [50] [] [] []).Kids).map au) false))],.box b13 [(.d (.str (Tree.mk [108,105] [49] [] [] []).Tag)),(.d (.str (Tree.mk [108,105] [49] [] [] []).Key)),(.d (.str (Tree.mk [108,105] [49] [] [] []).Text)),(.d (.sl (((Tree.mk [108,105] [49] [] [] []).aQ).map az) false)),(.d (.sl (((Tree.mk [108,105] [49] [] [] []).Kids).map au) false))],.box b8 [v24,w26],ay ae ah.kids 7 5 v24 ws25 z23.2.l none,aG w26 z23.2.freed]:=H28.sl [3,4,0,1,2] rfl rfl
   refine ai.val rfl (ak rfl) rfl ?_
   refine ai.nil ?_
   refine aB.seq ?_
   refine aB.region E.obj rfl ?_
   refine ai.val rfl (aa rfl) rfl ?_
   refine ai.val rfl (aa rfl) rfl ?_
   obtain ⟨z30,hzz30,h⟩:=bind_some h
   refine ai.fw (ins:=[.box b8 [v24,w26],ay ae ah.kids 7 5 v24 ws25 z23.2.l none,aG w26 z23.2.freed]) (more:=[.box b16 [(.d (.str (Tree.mk [108,105] [50] [] [] []).Tag)),(.d (.str (Tree.mk [108,105] [50] [] [] []).Key)),(.d (.str (Tree.mk [108,105] [50] [] [] []).Text)),(.d (.sl (((Tree.mk [108,105] [50] [] [] []).aQ).map az) false)),(.d (.sl (((Tree.mk [108,105] [50] [] [] []).Kids).map au) false))],.box b13 [(.d (.str (Tree.mk [108,105] [49] [] [] []).Tag)),(.d (.str (Tree.mk [108,105] [49] [] [] []).Key)),(.d (.str (Tree.mk [108,105] [49] [] [] []).Text)),(.d (.sl (((Tree.mk [108,105] [49] [] [] []).aQ).map az) false)),(.d (.sl (((Tree.mk [108,105] [49] [] [] []).Kids).map au) false))]]) (H29.sl [2,3,4,0,1] rfl rfl) rfl (aJ rfl rfl) (iQ E n _ _ _ hzz30 b8 v24 ws25 w26) (.cons (.refl _) (.cons (.refl _) .nil)) rfl ?_
   rintro _ S31 _ ⟨rfl,rfl⟩ H32
   have H33:Has aM S31 [.box b16 [(.d (.str (Tree.mk [108,105] [50] [] [] []).Tag)),(.d (.str (Tree.mk [108,105] [50] [] [] []).Key)),(.d (.str (Tree.mk [108,105] [50] [] [] []).Text)),(.d (.sl (((Tree.mk [108,105] [50] [] [] []).aQ).map az) false)),(.d (.sl (((Tree.mk [108,105] [50] [] [] []).Kids).map au) false))],.box b13 [(.d (.str (Tree.mk [108,105] [49] [] [] []).Tag)),(.d (.str (Tree.mk [108,105] [49] [] [] []).Key)),(.d (.str (Tree.mk [108,105] [49] [] [] []).Text)),(.d (.sl (((Tree.mk [108,105] [49] [] [] []).aQ).map az) false)),(.d (.sl (((Tree.mk [108,105] [49] [] [] []).Kids).map au) false))],.box b8 [v24,w26],ay ae ah.kids 7 5 v24 ws25 z23.2.l none,aG w26 z23.2.freed]:=H32.sl [3,4,0,1,2] rfl rfl
   refine ai.val rfl (ak rfl) rfl ?_
   refine ai.nil ?_
   refine aB.seq ?_
   refine aB.region E.obj rfl ?_
   refine ai.val rfl (aa rfl) rfl ?_
   refine ai.val rfl (aa rfl) rfl ?_
   refine ai.val rfl (aI H33 (i:=0) rfl rfl (bX ig dF rfl)) rfl ?_
   refine ai.less (Less.agg' (d:=au (Tree.mk [108,105] [50] [] [] [])) (aC.eq rfl (aC.eq rfl (aC.eq rfl (aC.eq rfl (aC.eq rfl .nil))))) ((Tree.eq _).trans rfl)) ?_
   refine ai.val rfl (aI H33 (i:=1) rfl rfl (bX ig dF rfl)) rfl ?_
   refine ai.less (Less.agg' (d:=au (Tree.mk [108,105] [49] [] [] [])) (aC.eq rfl (aC.eq rfl (aC.eq rfl (aC.eq rfl (aC.eq rfl .nil))))) ((Tree.eq _).trans rfl)) ?_
   refine ai.val rfl (dO (vs:=[(.d (au (Tree.mk [108,105] [50] [] [] []))),(.d (au (Tree.mk [108,105] [49] [] [] [])))]) (ds:=[(au (Tree.mk [108,105] [50] [] [] [])),(au (Tree.mk [108,105] [49] [] [] []))]) yj qc ig jM dF rfl (by decide) (.cons rfl (Tree.len _) (.cons rfl (Tree.len _) .nil)) rfl (by intro d hd; simp only [List.mem_cons,List.not_mem_nil,or_false] at hd; rcases hd with rfl | rfl <;> exact Tree.agg _) rfl) rfl ?_
   refine ai.val rfl (eB (cs:=[(.d (.str [117,108])),(.d (.str [])),(.d (.str [])),(.d .aT),(.d (.sl (([(Tree.mk [108,105] [50] [] [] []),(Tree.mk [108,105] [49] [] [] [])]).map au) true))]) jM rfl (dY) (ja rfl rfl rfl rfl (ja rfl rfl rfl rfl rfl))) rfl ?_
   refine ai.less (Less.agg' (d:=au (Tree.mk [117,108] [] [] [] [(Tree.mk [108,105] [50] [] [] []),(Tree.mk [108,105] [49] [] [] [])])) (aC.eq rfl (aC.eq rfl (aC.eq rfl (aC.iY rfl (.aT false) rfl rfl (aC.iY rfl (.wy _ _) rfl rfl .nil))))) ((Tree.eq _).trans rfl)) ?_
   obtain ⟨z34,hzz34,h⟩:=bind_some h
   refine ai.fw (ins:=[.box b8 [v24,w26],ay ae ah.kids 7 5 v24 ws25 z23.2.l none,aG w26 z23.2.freed]) (more:=[.box b16 [(.d (.str (Tree.mk [108,105] [50] [] [] []).Tag)),(.d (.str (Tree.mk [108,105] [50] [] [] []).Key)),(.d (.str (Tree.mk [108,105] [50] [] [] []).Text)),(.d (.sl (((Tree.mk [108,105] [50] [] [] []).aQ).map az) false)),(.d (.sl (((Tree.mk [108,105] [50] [] [] []).Kids).map au) false))],.box b13 [(.d (.str (Tree.mk [108,105] [49] [] [] []).Tag)),(.d (.str (Tree.mk [108,105] [49] [] [] []).Key)),(.d (.str (Tree.mk [108,105] [49] [] [] []).Text)),(.d (.sl (((Tree.mk [108,105] [49] [] [] []).aQ).map az) false)),(.d (.sl (((Tree.mk [108,105] [49] [] [] []).Kids).map au) false))]]) (H33.sl [2,3,4,0,1] rfl rfl) rfl (aJ rfl rfl) (nO E n _ _ _ _ hzz34 b8 v24 ws25 w26) (.cons (.refl _) (.cons (.refl _) (.cons (.refl _) .nil))) rfl ?_
   rintro _ S38 _ ⟨rfl,v35,ws36,w37,rfl⟩ H39
   have H40:Has aM S38 [.box b16 [(.d (.str (Tree.mk [108,105] [50] [] [] []).Tag)),(.d (.str (Tree.mk [108,105] [50] [] [] []).Key)),(.d (.str (Tree.mk [108,105] [50] [] [] []).Text)),(.d (.sl (((Tree.mk [108,105] [50] [] [] []).aQ).map az) false)),(.d (.sl (((Tree.mk [108,105] [50] [] [] []).Kids).map au) false))],.box b13 [(.d (.str (Tree.mk [108,105] [49] [] [] []).Tag)),(.d (.str (Tree.mk [108,105] [49] [] [] []).Key)),(.d (.str (Tree.mk [108,105] [49] [] [] []).Text)),(.d (.sl (((Tree.mk [108,105] [49] [] [] []).aQ).map az) false)),(.d (.sl (((Tree.mk [108,105] [49] [] [] []).Kids).map au) false))],.box b8 [v35,w37],ay ae ah.kids 7 5 v35 ws36 z34.2.l none,aG w37 z34.2.freed]:=H39.sl [3,4,0,1,2] rfl rfl
   refine ai.val rfl (ak rfl) rfl ?_
   refine ai.nil ?_
   refine aB.seq ?_
   refine aB.region E.obj rfl ?_
   refine ai.val rfl (aa rfl) rfl ?_
   refine ai.val rfl (aa rfl) rfl ?_
   obtain ⟨z41,hzz41,h⟩:=bind_some h
   refine ai.fw (ins:=[.box b8 [v35,w37],ay ae ah.kids 7 5 v35 ws36 z34.2.l none,aG w37 z34.2.freed]) (more:=[.box b16 [(.d (.str (Tree.mk [108,105] [50] [] [] []).Tag)),(.d (.str (Tree.mk [108,105] [50] [] [] []).Key)),(.d (.str (Tree.mk [108,105] [50] [] [] []).Text)),(.d (.sl (((Tree.mk [108,105] [50] [] [] []).aQ).map az) false)),(.d (.sl (((Tree.mk [108,105] [50] [] [] []).Kids).map au) false))],.box b13 [(.d (.str (Tree.mk [108,105] [49] [] [] []).Tag)),(.d (.str (Tree.mk [108,105] [49] [] [] []).Key)),(.d (.str (Tree.mk [108,105] [49] [] [] []).Text)),(.d (.sl (((Tree.mk [108,105] [49] [] [] []).aQ).map az) false)),(.d (.sl (((Tree.mk [108,105] [49] [] [] []).Kids).map au) false))]]) (H40.sl [2,3,4,0,1] rfl rfl) rfl (aJ rfl rfl) (iQ E n _ _ _ hzz41 b8 v35 ws36 w37) (.cons (.refl _) (.cons (.refl _) .nil)) rfl ?_
   rintro _ S42 _ ⟨rfl,rfl⟩ H43
   have H44:Has aM S42 [.box b16 [(.d (.str (Tree.mk [108,105] [50] [] [] []).Tag)),(.d (.str (Tree.mk [108,105] [50] [] [] []).Key)),(.d (.str (Tree.mk [108,105] [50] [] [] []).Text)),(.d (.sl (((Tree.mk [108,105] [50] [] [] []).aQ).map az) false)),(.d (.sl (((Tree.mk [108,105] [50] [] [] []).Kids).map au) false))],.box b13 [(.d (.str (Tree.mk [108,105] [49] [] [] []).Tag)),(.d (.str (Tree.mk [108,105] [49] [] [] []).Key)),(.d (.str (Tree.mk [108,105] [49] [] [] []).Text)),(.d (.sl (((Tree.mk [108,105] [49] [] [] []).aQ).map az) false)),(.d (.sl (((Tree.mk [108,105] [49] [] [] []).Kids).map au) false))],.box b8 [v35,w37],ay ae ah.kids 7 5 v35 ws36 z34.2.l none,aG w37 z34.2.freed]:=H43.sl [3,4,0,1,2] rfl rfl
   refine ai.val rfl (ak rfl) rfl ?_
   refine ai.nil ?_
   refine aB.join (B:=aM) (α:=ax × (List (List AV)) × AV × Bool) (fun a=>bq a.1 a.2.2.2=some r) (fun a=>[(0,(.d (.bool a.2.2.2)))]) (fun a=>[]) ?_ ?_
   ·
    intro a S45 H46 h
    obtain ⟨x47,ws48,w49,x50⟩:=a
    replace h:bq x47 x50=some r:=h
    replace H46:Has aM S45 []:=H46
    unfold bq at h
    have hr:=Option.some.inj h
    subst hr
    exact aB.ret ⟨_,rfl,rfl,mW (bM.eq .nil)⟩
   ·
    rcases Bool.eq_false_or_eq_true ((z23.1 == 2)) with hb52 | hb52
    ·
     replace h:=dK hb52 h
     rcases Bool.eq_false_or_eq_true (z34.1) with hb53 | hb53
     ·
      replace h:=dK hb53 h
      rcases Bool.eq_false_or_eq_true ((((z30).length:Int) == 2)) with hb54 | hb54
      ·
       replace h:=dK hb54 h
       rcases Bool.eq_false_or_eq_true ((((z41).length:Int) == 2)) with hb55 | hb55
       ·
        replace h:=dK hb55 h
        obtain ⟨z56,hzz56,h⟩:=bind_some h
        obtain ⟨z57,hzz57,h⟩:=bind_some h
        rcases Bool.eq_false_or_eq_true ((z56 == z57)) with hb58 | hb58
        ·
         replace h:=dK hb58 h
         obtain ⟨z59,hzz59,h⟩:=bind_some h
         obtain ⟨z60,hzz60,h⟩:=bind_some h
         rcases Bool.eq_false_or_eq_true ((z59 == z60)) with hb61 | hb61
         ·
          replace h:=dK hb61 h
          obtain ⟨z62,hzz62,h⟩:=bind_some h
          rcases Bool.eq_false_or_eq_true ((z62.1 == 3)) with hb68 | hb68
          ·
           replace h:=dK hb68 h
           obtain ⟨z69,hzz69,h⟩:=bind_some h
           refine aB.gQ E.obj kF BB [(0,some 44)] (by kernel_rfl) [36,41] (by decide) [some (.d (.int .i64 z23.1)),some (.d (.bool (z23.1 == 2))),some (.d (.bool true)),some (.d (.bool z34.1)),some (.d (.bool z34.1)),some (.d (.bool true)),some (.d (.sl ((z30).map (D.int .i64)) false)),some (.d (.int .i64 ((z30).length:Int))),some (.d (.bool (((z30).length:Int) == 2))),some (.d (.bool (((z30).length:Int) == 2))),some (.d (.bool true)),some (.d (.sl ((z41).map (D.int .i64)) false)),some (.d (.int .i64 ((z41).length:Int))),some (.d (.bool (((z41).length:Int) == 2))),some (.d (.bool (((z41).length:Int) == 2))),some (.d (.bool true)),some (.d (.sl ((z30).map (D.int .i64)) false)),some (.eptr (.int .i64 z56) 0),some (.d (.int .i64 z56)),some (.d (.sl ((z41).map (D.int .i64)) false)),some (.eptr (.int .i64 z57) 0),some (.d (.int .i64 z57)),some (.d (.bool (z56 == z57))),some (.d (.bool (z56 == z57))),some (.d (.bool true)),some (.d (.sl ((z30).map (D.int .i64)) false)),some (.eptr (.int .i64 z59) 0),some (.d (.int .i64 z59)),some (.d (.sl ((z41).map (D.int .i64)) false)),some (.eptr (.int .i64 z60) 0),some (.d (.int .i64 z60)),some (.d (.bool (z59 == z60))),some (.d (.bool (z59 == z60))),some (.d (.bool true)),some (.ptr b8 0 0),some (.d (.int .i64 z23.1)),none,none,none,none,none,none,none,none,none] ?_
           refine ⟨[0,1,2,3,4,5,6,7,8,9,10,11,12,13,14,15,16,17,18,19,20,21,22,23,24,25,26,27,28,29,30,31,32,33,34,35],by kernel_rfl,?_,_,_,rfl,rfl,.step ?_⟩
           ·
            refine .v rfl rfl rfl rfl (aa rfl) ?_
            refine .v rfl rfl rfl rfl (aH rfl rfl bD) ?_
            refine .cons rfl rfl rfl (.val rfl (aa rfl) (.eq (by rw [hb52]))) ?_
            refine .v rfl rfl rfl rfl (aa rfl) ?_
            refine .v rfl rfl rfl rfl (aF (b:=true) rfl rfl) ?_
            refine .cons rfl rfl rfl (.val rfl (aa rfl) (.eq (by rw [hb53]))) ?_
            refine .v rfl rfl rfl rfl (aa rfl) ?_
            refine .v rfl rfl rfl rfl (bF rfl jh) ?_
            refine .v rfl rfl rfl rfl (aH rfl rfl bD) ?_
            refine .v rfl rfl rfl rfl (aF (b:=true) rfl rfl) ?_
            refine .cons rfl rfl rfl (.val rfl (aa rfl) (.eq (by rw [hb54]))) ?_
            refine .v rfl rfl rfl rfl (aa rfl) ?_
            refine .v rfl rfl rfl rfl (bF rfl jh) ?_
            refine .v rfl rfl rfl rfl (aH rfl rfl bD) ?_
            refine .v rfl rfl rfl rfl (aF (b:=true) rfl rfl) ?_
            refine .cons rfl rfl rfl (.val rfl (aa rfl) (.eq (by rw [hb55]))) ?_
            refine .v rfl rfl rfl rfl (aa rfl) ?_
            refine .v rfl rfl rfl rfl (bE rfl rfl (bW (enc:=(D.int .i64)) hzz56 dX oP (((fun _=>rfl) _).trans jA.symm))) ?_
            refine .v rfl rfl rfl rfl (aY rfl (bL nG rfl)) ?_
            refine .v rfl rfl rfl rfl (aa rfl) ?_
            refine .v rfl rfl rfl rfl (bE rfl rfl (bW (enc:=(D.int .i64)) hzz57 dX oP (((fun _=>rfl) _).trans jA.symm))) ?_
            refine .v rfl rfl rfl rfl (aY rfl (bL nG rfl)) ?_
            refine .v rfl rfl rfl rfl (aH rfl rfl bD) ?_
            refine .v rfl rfl rfl rfl (aF (b:=true) rfl rfl) ?_
            refine .cons rfl rfl rfl (.val rfl (aa rfl) (.eq (by rw [hb58]))) ?_
            refine .v rfl rfl rfl rfl (aa rfl) ?_
            refine .v rfl rfl rfl rfl (bE rfl rfl (bW (enc:=(D.int .i64)) hzz59 dX oP (((fun _=>rfl) _).trans jA.symm))) ?_
            refine .v rfl rfl rfl rfl (aY rfl (bL nG rfl)) ?_
            refine .v rfl rfl rfl rfl (aa rfl) ?_
            refine .v rfl rfl rfl rfl (bE rfl rfl (bW (enc:=(D.int .i64)) hzz60 dX oP (((fun _=>rfl) _).trans jA.symm))) ?_
            refine .v rfl rfl rfl rfl (aY rfl (bL nG rfl)) ?_
            refine .v rfl rfl rfl rfl (aH rfl rfl bD) ?_
            refine .v rfl rfl rfl rfl (aF (b:=true) rfl rfl) ?_
            refine .cons rfl rfl rfl (.val rfl (aa rfl) (.eq (by rw [hb61]))) ?_
            refine .v rfl rfl rfl rfl (aa rfl) ?_
            refine .v rfl rfl rfl rfl (aa rfl) ?_
            exact .nil
           refine ai.fw (ins:=[.box b8 [v35,w37],ay ae ah.kids 7 5 v35 ws36 z34.2.l none,aG w37 z34.2.freed]) (more:=[.box b16 [(.d (.str (Tree.mk [108,105] [50] [] [] []).Tag)),(.d (.str (Tree.mk [108,105] [50] [] [] []).Key)),(.d (.str (Tree.mk [108,105] [50] [] [] []).Text)),(.d (.sl (((Tree.mk [108,105] [50] [] [] []).aQ).map az) false)),(.d (.sl (((Tree.mk [108,105] [50] [] [] []).Kids).map au) false))],.box b13 [(.d (.str (Tree.mk [108,105] [49] [] [] []).Tag)),(.d (.str (Tree.mk [108,105] [49] [] [] []).Key)),(.d (.str (Tree.mk [108,105] [49] [] [] []).Text)),(.d (.sl (((Tree.mk [108,105] [49] [] [] []).aQ).map az) false)),(.d (.sl (((Tree.mk [108,105] [49] [] [] []).Kids).map au) false))]]) (H44.sl [2,3,4,0,1] rfl rfl) rfl (aJ rfl rfl) (nK E n _ _ _ hzz62 b8 v35 ws36 w37) (.cons (.refl _) (.cons (.refl _) .nil)) rfl ?_
           rintro _ S75 _ ⟨rfl,ws73,w74,rfl⟩ H76
           have H77:Has aM S75 [.box b16 [(.d (.str (Tree.mk [108,105] [50] [] [] []).Tag)),(.d (.str (Tree.mk [108,105] [50] [] [] []).Key)),(.d (.str (Tree.mk [108,105] [50] [] [] []).Text)),(.d (.sl (((Tree.mk [108,105] [50] [] [] []).aQ).map az) false)),(.d (.sl (((Tree.mk [108,105] [50] [] [] []).Kids).map au) false))],.box b13 [(.d (.str (Tree.mk [108,105] [49] [] [] []).Tag)),(.d (.str (Tree.mk [108,105] [49] [] [] []).Key)),(.d (.str (Tree.mk [108,105] [49] [] [] []).Text)),(.d (.sl (((Tree.mk [108,105] [49] [] [] []).aQ).map az) false)),(.d (.sl (((Tree.mk [108,105] [49] [] [] []).Kids).map au) false))],.box b8 [v35,w74],ay ae ah.kids 7 5 v35 ws73 z62.2.l none,aG w74 z62.2.freed]:=H76.sl [3,4,0,1,2] rfl rfl
           refine ai.nil ⟨_,_,_,rfl,(fun _ ht=>by cases ht; rfl),[some (.d (.int .i64 z23.1)),some (.d (.bool (z23.1 == 2))),some (.d (.bool true)),some (.d (.bool z34.1)),some (.d (.bool z34.1)),some (.d (.bool true)),some (.d (.sl ((z30).map (D.int .i64)) false)),some (.d (.int .i64 ((z30).length:Int))),some (.d (.bool (((z30).length:Int) == 2))),some (.d (.bool (((z30).length:Int) == 2))),some (.d (.bool true)),some (.d (.sl ((z41).map (D.int .i64)) false)),some (.d (.int .i64 ((z41).length:Int))),some (.d (.bool (((z41).length:Int) == 2))),some (.d (.bool (((z41).length:Int) == 2))),some (.d (.bool true)),some (.d (.sl ((z30).map (D.int .i64)) false)),some (.eptr (.int .i64 z56) 0),some (.d (.int .i64 z56)),some (.d (.sl ((z41).map (D.int .i64)) false)),some (.eptr (.int .i64 z57) 0),some (.d (.int .i64 z57)),some (.d (.bool (z56 == z57))),some (.d (.bool (z56 == z57))),some (.d (.bool true)),some (.d (.sl ((z30).map (D.int .i64)) false)),some (.eptr (.int .i64 z59) 0),some (.d (.int .i64 z59)),some (.d (.sl ((z41).map (D.int .i64)) false)),some (.eptr (.int .i64 z60) 0),some (.d (.int .i64 z60)),some (.d (.bool (z59 == z60))),some (.d (.bool (z59 == z60))),some (.d (.bool true)),some (.ptr b8 0 0),some (.d (.int .i64 z23.1)),some (.d (.int .i64 z62.1)),some (.d (.bool (z62.1 == 3))),some (.d (.bool (z62.1 == 3))),some (.d (.bool true)),some (.ptr b8 0 0),none,none,none,none],(.o (.o (.o (.o (.o (.o (.o (.o (.o (.o (.o (.o (.o (.o (.o (.o (.o (.o (.o (.o (.o (.o (.o (.o (.o (.o (.o (.o (.o (.o (.o (.o (.o (.o (.o (.o (.new (.new (.new (.new (.new (.new (.new (.new (.new .nil))))))))))))))))))))))))))))))))))))))))))))),(fun _ ht=>by cases ht; exact ⟨_,rfl,.refl _⟩),?_⟩
           refine ⟨[37,38,39,40],by kernel_rfl,?_,_,_,rfl,rfl,.step ?_⟩
           ·
            refine .v rfl rfl rfl rfl (aH rfl rfl bD) ?_
            refine .v rfl rfl rfl rfl (aF (b:=true) rfl rfl) ?_
            refine .cons rfl rfl rfl (.val rfl (aa rfl) (.eq (by rw [hb68]))) ?_
            refine .v rfl rfl rfl rfl (aa rfl) ?_
            exact .nil
           refine ai.fw (ins:=[.box b8 [v35,w74],ay ae ah.kids 7 5 v35 ws73 z62.2.l none,aG w74 z62.2.freed]) (more:=[.box b16 [(.d (.str (Tree.mk [108,105] [50] [] [] []).Tag)),(.d (.str (Tree.mk [108,105] [50] [] [] []).Key)),(.d (.str (Tree.mk [108,105] [50] [] [] []).Text)),(.d (.sl (((Tree.mk [108,105] [50] [] [] []).aQ).map az) false)),(.d (.sl (((Tree.mk [108,105] [50] [] [] []).Kids).map au) false))],.box b13 [(.d (.str (Tree.mk [108,105] [49] [] [] []).Tag)),(.d (.str (Tree.mk [108,105] [49] [] [] []).Key)),(.d (.str (Tree.mk [108,105] [49] [] [] []).Text)),(.d (.sl (((Tree.mk [108,105] [49] [] [] []).aQ).map az) false)),(.d (.sl (((Tree.mk [108,105] [49] [] [] []).Kids).map au) false))]]) (H77.sl [2,3,4,0,1] rfl rfl) rfl (aJ rfl rfl) (kS E n _ _ hzz69 b8 v35 ws73 w74) (.cons (.refl _) .nil) rfl ?_
           rintro _ S78 _ ⟨rfl,rfl⟩ H79
           have H80:Has aM S78 [.box b16 [(.d (.str (Tree.mk [108,105] [50] [] [] []).Tag)),(.d (.str (Tree.mk [108,105] [50] [] [] []).Key)),(.d (.str (Tree.mk [108,105] [50] [] [] []).Text)),(.d (.sl (((Tree.mk [108,105] [50] [] [] []).aQ).map az) false)),(.d (.sl (((Tree.mk [108,105] [50] [] [] []).Kids).map au) false))],.box b13 [(.d (.str (Tree.mk [108,105] [49] [] [] []).Tag)),(.d (.str (Tree.mk [108,105] [49] [] [] []).Key)),(.d (.str (Tree.mk [108,105] [49] [] [] []).Text)),(.d (.sl (((Tree.mk [108,105] [49] [] [] []).aQ).map az) false)),(.d (.sl (((Tree.mk [108,105] [49] [] [] []).Kids).map au) false))],.box b8 [v35,w74],ay ae ah.kids 7 5 v35 ws73 z62.2.l none,aG w74 z62.2.freed]:=H79.sl [3,4,0,1,2] rfl rfl
           refine ai.nil ⟨_,_,_,rfl,(fun _ ht=>by cases ht; rfl),[some (.d (.int .i64 z23.1)),some (.d (.bool (z23.1 == 2))),some (.d (.bool true)),some (.d (.bool z34.1)),some (.d (.bool z34.1)),some (.d (.bool true)),some (.d (.sl ((z30).map (D.int .i64)) false)),some (.d (.int .i64 ((z30).length:Int))),some (.d (.bool (((z30).length:Int) == 2))),some (.d (.bool (((z30).length:Int) == 2))),some (.d (.bool true)),some (.d (.sl ((z41).map (D.int .i64)) false)),some (.d (.int .i64 ((z41).length:Int))),some (.d (.bool (((z41).length:Int) == 2))),some (.d (.bool (((z41).length:Int) == 2))),some (.d (.bool true)),some (.d (.sl ((z30).map (D.int .i64)) false)),some (.eptr (.int .i64 z56) 0),some (.d (.int .i64 z56)),some (.d (.sl ((z41).map (D.int .i64)) false)),some (.eptr (.int .i64 z57) 0),some (.d (.int .i64 z57)),some (.d (.bool (z56 == z57))),some (.d (.bool (z56 == z57))),some (.d (.bool true)),some (.d (.sl ((z30).map (D.int .i64)) false)),some (.eptr (.int .i64 z59) 0),some (.d (.int .i64 z59)),some (.d (.sl ((z41).map (D.int .i64)) false)),some (.eptr (.int .i64 z60) 0),some (.d (.int .i64 z60)),some (.d (.bool (z59 == z60))),some (.d (.bool (z59 == z60))),some (.d (.bool true)),some (.ptr b8 0 0),some (.d (.int .i64 z23.1)),some (.d (.int .i64 z62.1)),some (.d (.bool (z62.1 == 3))),some (.d (.bool (z62.1 == 3))),some (.d (.bool true)),some (.ptr b8 0 0),some (.d (.int .i64 z69)),some (.d (.bool (z69 == 1))),some (.d (.bool (z69 == 1))),some (.d (.bool (z69 == 1)))],(.o (.o (.o (.o (.o (.o (.o (.o (.o (.o (.o (.o (.o (.o (.o (.o (.o (.o (.o (.o (.o (.o (.o (.o (.o (.o (.o (.o (.o (.o (.o (.o (.o (.o (.o (.o (.o (.o (.o (.o (.o (.new (.new (.new (.new .nil))))))))))))))))))))))))))))))))))))))))))))),(fun _ ht=>by cases ht; exact ⟨_,rfl,.refl _⟩),?_⟩
           refine ⟨[42,43,44],by kernel_rfl,?_,_,rfl,?_⟩
           ·
            refine .v rfl rfl rfl rfl (aH rfl rfl bD) ?_
            refine .v rfl rfl rfl rfl (aF (b:=true) rfl rfl) ?_
            refine .v rfl rfl rfl rfl (ak rfl) ?_
            exact .nil
           exact ⟨⟨z62.2,ws73,w74,(z69 == 1)⟩,_,_,S78,.refl _ _,.refl _,(aj.r rfl aj.nil),H80.sl [] rfl rfl,h⟩
          ·
           replace h:=dJ hb68 h
           refine aB.gQ E.obj kF BB [(0,some 44)] (by kernel_rfl) [36,41] (by decide) [some (.d (.int .i64 z23.1)),some (.d (.bool (z23.1 == 2))),some (.d (.bool true)),some (.d (.bool z34.1)),some (.d (.bool z34.1)),some (.d (.bool true)),some (.d (.sl ((z30).map (D.int .i64)) false)),some (.d (.int .i64 ((z30).length:Int))),some (.d (.bool (((z30).length:Int) == 2))),some (.d (.bool (((z30).length:Int) == 2))),some (.d (.bool true)),some (.d (.sl ((z41).map (D.int .i64)) false)),some (.d (.int .i64 ((z41).length:Int))),some (.d (.bool (((z41).length:Int) == 2))),some (.d (.bool (((z41).length:Int) == 2))),some (.d (.bool true)),some (.d (.sl ((z30).map (D.int .i64)) false)),some (.eptr (.int .i64 z56) 0),some (.d (.int .i64 z56)),some (.d (.sl ((z41).map (D.int .i64)) false)),some (.eptr (.int .i64 z57) 0),some (.d (.int .i64 z57)),some (.d (.bool (z56 == z57))),some (.d (.bool (z56 == z57))),some (.d (.bool true)),some (.d (.sl ((z30).map (D.int .i64)) false)),some (.eptr (.int .i64 z59) 0),some (.d (.int .i64 z59)),some (.d (.sl ((z41).map (D.int .i64)) false)),some (.eptr (.int .i64 z60) 0),some (.d (.int .i64 z60)),some (.d (.bool (z59 == z60))),some (.d (.bool (z59 == z60))),some (.d (.bool true)),some (.ptr b8 0 0),some (.d (.int .i64 z23.1)),none,none,none,none,none,none,none,none,none] ?_
           refine ⟨[0,1,2,3,4,5,6,7,8,9,10,11,12,13,14,15,16,17,18,19,20,21,22,23,24,25,26,27,28,29,30,31,32,33,34,35],by kernel_rfl,?_,_,_,rfl,rfl,.step ?_⟩
           ·
            refine .v rfl rfl rfl rfl (aa rfl) ?_
            refine .v rfl rfl rfl rfl (aH rfl rfl bD) ?_
            refine .cons rfl rfl rfl (.val rfl (aa rfl) (.eq (by rw [hb52]))) ?_
            refine .v rfl rfl rfl rfl (aa rfl) ?_
            refine .v rfl rfl rfl rfl (aF (b:=true) rfl rfl) ?_
            refine .cons rfl rfl rfl (.val rfl (aa rfl) (.eq (by rw [hb53]))) ?_
            refine .v rfl rfl rfl rfl (aa rfl) ?_
            refine .v rfl rfl rfl rfl (bF rfl jh) ?_
            refine .v rfl rfl rfl rfl (aH rfl rfl bD) ?_
            refine .v rfl rfl rfl rfl (aF (b:=true) rfl rfl) ?_
            refine .cons rfl rfl rfl (.val rfl (aa rfl) (.eq (by rw [hb54]))) ?_
            refine .v rfl rfl rfl rfl (aa rfl) ?_
            refine .v rfl rfl rfl rfl (bF rfl jh) ?_
            refine .v rfl rfl rfl rfl (aH rfl rfl bD) ?_
            refine .v rfl rfl rfl rfl (aF (b:=true) rfl rfl) ?_
            refine .cons rfl rfl rfl (.val rfl (aa rfl) (.eq (by rw [hb55]))) ?_
            refine .v rfl rfl rfl rfl (aa rfl) ?_
            refine .v rfl rfl rfl rfl (bE rfl rfl (bW (enc:=(D.int .i64)) hzz56 dX oP (((fun _=>rfl) _).trans jA.symm))) ?_
            refine .v rfl rfl rfl rfl (aY rfl (bL nG rfl)) ?_
            refine .v rfl rfl rfl rfl (aa rfl) ?_
            refine .v rfl rfl rfl rfl (bE rfl rfl (bW (enc:=(D.int .i64)) hzz57 dX oP (((fun _=>rfl) _).trans jA.symm))) ?_
            refine .v rfl rfl rfl rfl (aY rfl (bL nG rfl)) ?_
            refine .v rfl rfl rfl rfl (aH rfl rfl bD) ?_
            refine .v rfl rfl rfl rfl (aF (b:=true) rfl rfl) ?_
            refine .cons rfl rfl rfl (.val rfl (aa rfl) (.eq (by rw [hb58]))) ?_
            refine .v rfl rfl rfl rfl (aa rfl) ?_
            refine .v rfl rfl rfl rfl (bE rfl rfl (bW (enc:=(D.int .i64)) hzz59 dX oP (((fun _=>rfl) _).trans jA.symm))) ?_
            refine .v rfl rfl rfl rfl (aY rfl (bL nG rfl)) ?_
            refine .v rfl rfl rfl rfl (aa rfl) ?_
            refine .v rfl rfl rfl rfl (bE rfl rfl (bW (enc:=(D.int .i64)) hzz60 dX oP (((fun _=>rfl) _).trans jA.symm))) ?_
            refine .v rfl rfl rfl rfl (aY rfl (bL nG rfl)) ?_
            refine .v rfl rfl rfl rfl (aH rfl rfl bD) ?_
            refine .v rfl rfl rfl rfl (aF (b:=true) rfl rfl) ?_
            refine .cons rfl rfl rfl (.val rfl (aa rfl) (.eq (by rw [hb61]))) ?_
            refine .v rfl rfl rfl rfl (aa rfl) ?_
            refine .v rfl rfl rfl rfl (aa rfl) ?_
            exact .nil
           refine ai.fw (ins:=[.box b8 [v35,w37],ay ae ah.kids 7 5 v35 ws36 z34.2.l none,aG w37 z34.2.freed]) (more:=[.box b16 [(.d (.str (Tree.mk [108,105] [50] [] [] []).Tag)),(.d (.str (Tree.mk [108,105] [50] [] [] []).Key)),(.d (.str (Tree.mk [108,105] [50] [] [] []).Text)),(.d (.sl (((Tree.mk [108,105] [50] [] [] []).aQ).map az) false)),(.d (.sl (((Tree.mk [108,105] [50] [] [] []).Kids).map au) false))],.box b13 [(.d (.str (Tree.mk [108,105] [49] [] [] []).Tag)),(.d (.str (Tree.mk [108,105] [49] [] [] []).Key)),(.d (.str (Tree.mk [108,105] [49] [] [] []).Text)),(.d (.sl (((Tree.mk [108,105] [49] [] [] []).aQ).map az) false)),(.d (.sl (((Tree.mk [108,105] [49] [] [] []).Kids).map au) false))]]) (H44.sl [2,3,4,0,1] rfl rfl) rfl (aJ rfl rfl) (nK E n _ _ _ hzz62 b8 v35 ws36 w37) (.cons (.refl _) (.cons (.refl _) .nil)) rfl ?_
           rintro _ S83 _ ⟨rfl,ws81,w82,rfl⟩ H84
           have H85:Has aM S83 [.box b16 [(.d (.str (Tree.mk [108,105] [50] [] [] []).Tag)),(.d (.str (Tree.mk [108,105] [50] [] [] []).Key)),(.d (.str (Tree.mk [108,105] [50] [] [] []).Text)),(.d (.sl (((Tree.mk [108,105] [50] [] [] []).aQ).map az) false)),(.d (.sl (((Tree.mk [108,105] [50] [] [] []).Kids).map au) false))],.box b13 [(.d (.str (Tree.mk [108,105] [49] [] [] []).Tag)),(.d (.str (Tree.mk [108,105] [49] [] [] []).Key)),(.d (.str (Tree.mk [108,105] [49] [] [] []).Text)),(.d (.sl (((Tree.mk [108,105] [49] [] [] []).aQ).map az) false)),(.d (.sl (((Tree.mk [108,105] [49] [] [] []).Kids).map au) false))],.box b8 [v35,w82],ay ae ah.kids 7 5 v35 ws81 z62.2.l none,aG w82 z62.2.freed]:=H84.sl [3,4,0,1,2] rfl rfl
           refine ai.nil ⟨_,_,_,rfl,(fun _ ht=>by cases ht; rfl),[some (.d (.int .i64 z23.1)),some (.d (.bool (z23.1 == 2))),some (.d (.bool true)),some (.d (.bool z34.1)),some (.d (.bool z34.1)),some (.d (.bool true)),some (.d (.sl ((z30).map (D.int .i64)) false)),some (.d (.int .i64 ((z30).length:Int))),some (.d (.bool (((z30).length:Int) == 2))),some (.d (.bool (((z30).length:Int) == 2))),some (.d (.bool true)),some (.d (.sl ((z41).map (D.int .i64)) false)),some (.d (.int .i64 ((z41).length:Int))),some (.d (.bool (((z41).length:Int) == 2))),some (.d (.bool (((z41).length:Int) == 2))),some (.d (.bool true)),some (.d (.sl ((z30).map (D.int .i64)) false)),some (.eptr (.int .i64 z56) 0),some (.d (.int .i64 z56)),some (.d (.sl ((z41).map (D.int .i64)) false)),some (.eptr (.int .i64 z57) 0),some (.d (.int .i64 z57)),some (.d (.bool (z56 == z57))),some (.d (.bool (z56 == z57))),some (.d (.bool true)),some (.d (.sl ((z30).map (D.int .i64)) false)),some (.eptr (.int .i64 z59) 0),some (.d (.int .i64 z59)),some (.d (.sl ((z41).map (D.int .i64)) false)),some (.eptr (.int .i64 z60) 0),some (.d (.int .i64 z60)),some (.d (.bool (z59 == z60))),some (.d (.bool (z59 == z60))),some (.d (.bool true)),some (.ptr b8 0 0),some (.d (.int .i64 z23.1)),some (.d (.int .i64 z62.1)),some (.d (.bool (z62.1 == 3))),some (.d (.bool (z62.1 == 3))),some (.d (.bool false)),some (.tup []),none,none,none,none],(.o (.o (.o (.o (.o (.o (.o (.o (.o (.o (.o (.o (.o (.o (.o (.o (.o (.o (.o (.o (.o (.o (.o (.o (.o (.o (.o (.o (.o (.o (.o (.o (.o (.o (.o (.o (.new (.new (.new (.new (.new (.new (.new (.new (.new .nil))))))))))))))))))))))))))))))))))))))))))))),(fun _ ht=>by cases ht; exact ⟨_,rfl,.refl _⟩),?_⟩
           refine ⟨[37,38,39,40],by kernel_rfl,?_,_,_,rfl,rfl,.no rfl ?_⟩
           ·
            refine .v rfl rfl rfl rfl (aH rfl rfl bD) ?_
            refine .v rfl rfl rfl rfl (aF (b:=true) rfl rfl) ?_
            refine .cons rfl rfl rfl (.val rfl (aa rfl) (.eq (by rw [hb68]))) ?_
            refine .cons rfl rfl rfl (.no rfl (.refl _)) ?_
            exact .nil
           refine ⟨[some (.d (.int .i64 z23.1)),some (.d (.bool (z23.1 == 2))),some (.d (.bool true)),some (.d (.bool z34.1)),some (.d (.bool z34.1)),some (.d (.bool true)),some (.d (.sl ((z30).map (D.int .i64)) false)),some (.d (.int .i64 ((z30).length:Int))),some (.d (.bool (((z30).length:Int) == 2))),some (.d (.bool (((z30).length:Int) == 2))),some (.d (.bool true)),some (.d (.sl ((z41).map (D.int .i64)) false)),some (.d (.int .i64 ((z41).length:Int))),some (.d (.bool (((z41).length:Int) == 2))),some (.d (.bool (((z41).length:Int) == 2))),some (.d (.bool true)),some (.d (.sl ((z30).map (D.int .i64)) false)),some (.eptr (.int .i64 z56) 0),some (.d (.int .i64 z56)),some (.d (.sl ((z41).map (D.int .i64)) false)),some (.eptr (.int .i64 z57) 0),some (.d (.int .i64 z57)),some (.d (.bool (z56 == z57))),some (.d (.bool (z56 == z57))),some (.d (.bool true)),some (.d (.sl ((z30).map (D.int .i64)) false)),some (.eptr (.int .i64 z59) 0),some (.d (.int .i64 z59)),some (.d (.sl ((z41).map (D.int .i64)) false)),some (.eptr (.int .i64 z60) 0),some (.d (.int .i64 z60)),some (.d (.bool (z59 == z60))),some (.d (.bool (z59 == z60))),some (.d (.bool true)),some (.ptr b8 0 0),some (.d (.int .i64 z23.1)),some (.d (.int .i64 z62.1)),some (.d (.bool (z62.1 == 3))),some (.d (.bool (z62.1 == 3))),some (.d (.bool false)),some (.tup []),some (.tup []),some (.tup []),some (.d (.bool false)),some (.d (.bool false))],(.o (.o (.o (.o (.o (.o (.o (.o (.o (.o (.o (.o (.o (.o (.o (.o (.o (.o (.o (.o (.o (.o (.o (.o (.o (.o (.o (.o (.o (.o (.o (.o (.o (.o (.o (.o (.o (.o (.o (.o (.o (.new (.new (.new (.new .nil))))))))))))))))))))))))))))))))))))))))))))),(fun _ ht=>by cases ht; exact ⟨_,rfl,.refl _⟩),?_⟩
           refine ⟨[42,43,44],by kernel_rfl,?_,_,rfl,?_⟩
           ·
            refine .cons rfl rfl rfl (.no rfl (.refl _)) ?_
            refine .v rfl rfl rfl rfl (aF (b:=false) rfl rfl) ?_
            refine .v rfl rfl rfl rfl (ak rfl) ?_
            exact .nil
           exact ⟨⟨z62.2,ws81,w82,false⟩,_,_,S83,.refl _ _,.refl _,(aj.r rfl aj.nil),H85.sl [] rfl rfl,h⟩
         ·
          replace h:=dJ hb61 h
          refine aB.gQ E.obj kF BB [(0,some 44)] (by kernel_rfl) [36,41] (by decide) [some (.d (.int .i64 z23.1)),some (.d (.bool (z23.1 == 2))),some (.d (.bool true)),some (.d (.bool z34.1)),some (.d (.bool z34.1)),some (.d (.bool true)),some (.d (.sl ((z30).map (D.int .i64)) false)),some (.d (.int .i64 ((z30).length:Int))),some (.d (.bool (((z30).length:Int) == 2))),some (.d (.bool (((z30).length:Int) == 2))),some (.d (.bool true)),some (.d (.sl ((z41).map (D.int .i64)) false)),some (.d (.int .i64 ((z41).length:Int))),some (.d (.bool (((z41).length:Int) == 2))),some (.d (.bool (((z41).length:Int) == 2))),some (.d (.bool true)),some (.d (.sl ((z30).map (D.int .i64)) false)),some (.eptr (.int .i64 z56) 0),some (.d (.int .i64 z56)),some (.d (.sl ((z41).map (D.int .i64)) false)),some (.eptr (.int .i64 z57) 0),some (.d (.int .i64 z57)),some (.d (.bool (z56 == z57))),some (.d (.bool (z56 == z57))),some (.d (.bool true)),some (.d (.sl ((z30).map (D.int .i64)) false)),some (.eptr (.int .i64 z59) 0),some (.d (.int .i64 z59)),some (.d (.sl ((z41).map (D.int .i64)) false)),some (.eptr (.int .i64 z60) 0),some (.d (.int .i64 z60)),some (.d (.bool (z59 == z60))),some (.d (.bool (z59 == z60))),some (.d (.bool false)),some (.tup []),some (.tup []),none,none,none,none,none,none,none,none,none] ?_
          refine ⟨[0,1,2,3,4,5,6,7,8,9,10,11,12,13,14,15,16,17,18,19,20,21,22,23,24,25,26,27,28,29,30,31,32,33,34,35],by kernel_rfl,?_,_,_,rfl,rfl,.no rfl ?_⟩
          ·
           refine .v rfl rfl rfl rfl (aa rfl) ?_
           refine .v rfl rfl rfl rfl (aH rfl rfl bD) ?_
           refine .cons rfl rfl rfl (.val rfl (aa rfl) (.eq (by rw [hb52]))) ?_
           refine .v rfl rfl rfl rfl (aa rfl) ?_
           refine .v rfl rfl rfl rfl (aF (b:=true) rfl rfl) ?_
           refine .cons rfl rfl rfl (.val rfl (aa rfl) (.eq (by rw [hb53]))) ?_
           refine .v rfl rfl rfl rfl (aa rfl) ?_
           refine .v rfl rfl rfl rfl (bF rfl jh) ?_
           refine .v rfl rfl rfl rfl (aH rfl rfl bD) ?_
           refine .v rfl rfl rfl rfl (aF (b:=true) rfl rfl) ?_
           refine .cons rfl rfl rfl (.val rfl (aa rfl) (.eq (by rw [hb54]))) ?_
           refine .v rfl rfl rfl rfl (aa rfl) ?_
           refine .v rfl rfl rfl rfl (bF rfl jh) ?_
           refine .v rfl rfl rfl rfl (aH rfl rfl bD) ?_
           refine .v rfl rfl rfl rfl (aF (b:=true) rfl rfl) ?_
           refine .cons rfl rfl rfl (.val rfl (aa rfl) (.eq (by rw [hb55]))) ?_
           refine .v rfl rfl rfl rfl (aa rfl) ?_
           refine .v rfl rfl rfl rfl (bE rfl rfl (bW (enc:=(D.int .i64)) hzz56 dX oP (((fun _=>rfl) _).trans jA.symm))) ?_
           refine .v rfl rfl rfl rfl (aY rfl (bL nG rfl)) ?_
           refine .v rfl rfl rfl rfl (aa rfl) ?_
           refine .v rfl rfl rfl rfl (bE rfl rfl (bW (enc:=(D.int .i64)) hzz57 dX oP (((fun _=>rfl) _).trans jA.symm))) ?_
           refine .v rfl rfl rfl rfl (aY rfl (bL nG rfl)) ?_
           refine .v rfl rfl rfl rfl (aH rfl rfl bD) ?_
           refine .v rfl rfl rfl rfl (aF (b:=true) rfl rfl) ?_
           refine .cons rfl rfl rfl (.val rfl (aa rfl) (.eq (by rw [hb58]))) ?_
           refine .v rfl rfl rfl rfl (aa rfl) ?_
           refine .v rfl rfl rfl rfl (bE rfl rfl (bW (enc:=(D.int .i64)) hzz59 dX oP (((fun _=>rfl) _).trans jA.symm))) ?_
           refine .v rfl rfl rfl rfl (aY rfl (bL nG rfl)) ?_
           refine .v rfl rfl rfl rfl (aa rfl) ?_
           refine .v rfl rfl rfl rfl (bE rfl rfl (bW (enc:=(D.int .i64)) hzz60 dX oP (((fun _=>rfl) _).trans jA.symm))) ?_
           refine .v rfl rfl rfl rfl (aY rfl (bL nG rfl)) ?_
           refine .v rfl rfl rfl rfl (aH rfl rfl bD) ?_
           refine .v rfl rfl rfl rfl (aF (b:=true) rfl rfl) ?_
           refine .cons rfl rfl rfl (.val rfl (aa rfl) (.eq (by rw [hb61]))) ?_
           refine .cons rfl rfl rfl (.no rfl (.refl _)) ?_
           refine .cons rfl rfl rfl (.no rfl (.refl _)) ?_
           exact .nil
          refine ⟨[some (.d (.int .i64 z23.1)),some (.d (.bool (z23.1 == 2))),some (.d (.bool true)),some (.d (.bool z34.1)),some (.d (.bool z34.1)),some (.d (.bool true)),some (.d (.sl ((z30).map (D.int .i64)) false)),some (.d (.int .i64 ((z30).length:Int))),some (.d (.bool (((z30).length:Int) == 2))),some (.d (.bool (((z30).length:Int) == 2))),some (.d (.bool true)),some (.d (.sl ((z41).map (D.int .i64)) false)),some (.d (.int .i64 ((z41).length:Int))),some (.d (.bool (((z41).length:Int) == 2))),some (.d (.bool (((z41).length:Int) == 2))),some (.d (.bool true)),some (.d (.sl ((z30).map (D.int .i64)) false)),some (.eptr (.int .i64 z56) 0),some (.d (.int .i64 z56)),some (.d (.sl ((z41).map (D.int .i64)) false)),some (.eptr (.int .i64 z57) 0),some (.d (.int .i64 z57)),some (.d (.bool (z56 == z57))),some (.d (.bool (z56 == z57))),some (.d (.bool true)),some (.d (.sl ((z30).map (D.int .i64)) false)),some (.eptr (.int .i64 z59) 0),some (.d (.int .i64 z59)),some (.d (.sl ((z41).map (D.int .i64)) false)),some (.eptr (.int .i64 z60) 0),some (.d (.int .i64 z60)),some (.d (.bool (z59 == z60))),some (.d (.bool (z59 == z60))),some (.d (.bool false)),some (.tup []),some (.tup []),some (.tup []),some (.tup []),some (.d (.bool false)),some (.d (.bool false)),some (.tup []),none,none,none,none],(.o (.o (.o (.o (.o (.o (.o (.o (.o (.o (.o (.o (.o (.o (.o (.o (.o (.o (.o (.o (.o (.o (.o (.o (.o (.o (.o (.o (.o (.o (.o (.o (.o (.o (.o (.o (.new (.new (.new (.new (.new (.new (.new (.new (.new .nil))))))))))))))))))))))))))))))))))))))))))))),(fun _ ht=>by cases ht; exact ⟨_,rfl,.refl _⟩),?_⟩
          refine ⟨[37,38,39,40],by kernel_rfl,?_,_,_,rfl,rfl,.no rfl ?_⟩
          ·
           refine .cons rfl rfl rfl (.no rfl (.refl _)) ?_
           refine .v rfl rfl rfl rfl (aF (b:=false) rfl rfl) ?_
           refine .v rfl rfl rfl rfl (aa rfl) ?_
           refine .cons rfl rfl rfl (.no rfl (.refl _)) ?_
           exact .nil
          refine ⟨[some (.d (.int .i64 z23.1)),some (.d (.bool (z23.1 == 2))),some (.d (.bool true)),some (.d (.bool z34.1)),some (.d (.bool z34.1)),some (.d (.bool true)),some (.d (.sl ((z30).map (D.int .i64)) false)),some (.d (.int .i64 ((z30).length:Int))),some (.d (.bool (((z30).length:Int) == 2))),some (.d (.bool (((z30).length:Int) == 2))),some (.d (.bool true)),some (.d (.sl ((z41).map (D.int .i64)) false)),some (.d (.int .i64 ((z41).length:Int))),some (.d (.bool (((z41).length:Int) == 2))),some (.d (.bool (((z41).length:Int) == 2))),some (.d (.bool true)),some (.d (.sl ((z30).map (D.int .i64)) false)),some (.eptr (.int .i64 z56) 0),some (.d (.int .i64 z56)),some (.d (.sl ((z41).map (D.int .i64)) false)),some (.eptr (.int .i64 z57) 0),some (.d (.int .i64 z57)),some (.d (.bool (z56 == z57))),some (.d (.bool (z56 == z57))),some (.d (.bool true)),some (.d (.sl ((z30).map (D.int .i64)) false)),some (.eptr (.int .i64 z59) 0),some (.d (.int .i64 z59)),some (.d (.sl ((z41).map (D.int .i64)) false)),some (.eptr (.int .i64 z60) 0),some (.d (.int .i64 z60)),some (.d (.bool (z59 == z60))),some (.d (.bool (z59 == z60))),some (.d (.bool false)),some (.tup []),some (.tup []),some (.tup []),some (.tup []),some (.d (.bool false)),some (.d (.bool false)),some (.tup []),some (.tup []),some (.tup []),some (.d (.bool false)),some (.d (.bool false))],(.o (.o (.o (.o (.o (.o (.o (.o (.o (.o (.o (.o (.o (.o (.o (.o (.o (.o (.o (.o (.o (.o (.o (.o (.o (.o (.o (.o (.o (.o (.o (.o (.o (.o (.o (.o (.o (.o (.o (.o (.o (.new (.new (.new (.new .nil))))))))))))))))))))))))))))))))))))))))))))),(fun _ ht=>by cases ht; exact ⟨_,rfl,.refl _⟩),?_⟩
          refine ⟨[42,43,44],by kernel_rfl,?_,_,rfl,?_⟩
          ·
           refine .cons rfl rfl rfl (.no rfl (.refl _)) ?_
           refine .v rfl rfl rfl rfl (aF (b:=false) rfl rfl) ?_
           refine .v rfl rfl rfl rfl (ak rfl) ?_
           exact .nil
          exact ⟨⟨z34.2,ws36,w37,false⟩,_,_,S42,.refl _ _,.refl _,(aj.r rfl aj.nil),H44.sl [] rfl rfl,h⟩
        ·
         replace h:=dJ hb58 h
         refine aB.gQ E.obj kF BB [(0,some 44)] (by kernel_rfl) [36,41] (by decide) [some (.d (.int .i64 z23.1)),some (.d (.bool (z23.1 == 2))),some (.d (.bool true)),some (.d (.bool z34.1)),some (.d (.bool z34.1)),some (.d (.bool true)),some (.d (.sl ((z30).map (D.int .i64)) false)),some (.d (.int .i64 ((z30).length:Int))),some (.d (.bool (((z30).length:Int) == 2))),some (.d (.bool (((z30).length:Int) == 2))),some (.d (.bool true)),some (.d (.sl ((z41).map (D.int .i64)) false)),some (.d (.int .i64 ((z41).length:Int))),some (.d (.bool (((z41).length:Int) == 2))),some (.d (.bool (((z41).length:Int) == 2))),some (.d (.bool true)),some (.d (.sl ((z30).map (D.int .i64)) false)),some (.eptr (.int .i64 z56) 0),some (.d (.int .i64 z56)),some (.d (.sl ((z41).map (D.int .i64)) false)),some (.eptr (.int .i64 z57) 0),some (.d (.int .i64 z57)),some (.d (.bool (z56 == z57))),some (.d (.bool (z56 == z57))),some (.d (.bool false)),some (.tup []),some (.tup []),some (.tup []),some (.tup []),some (.tup []),some (.tup []),some (.tup []),some (.d (.bool false)),some (.d (.bool false)),some (.tup []),some (.tup []),none,none,none,none,none,none,none,none,none] ?_
         refine ⟨[0,1,2,3,4,5,6,7,8,9,10,11,12,13,14,15,16,17,18,19,20,21,22,23,24,25,26,27,28,29,30,31,32,33,34,35],by kernel_rfl,?_,_,_,rfl,rfl,.no rfl ?_⟩
         ·
          refine .v rfl rfl rfl rfl (aa rfl) ?_
          refine .v rfl rfl rfl rfl (aH rfl rfl bD) ?_
          refine .cons rfl rfl rfl (.val rfl (aa rfl) (.eq (by rw [hb52]))) ?_
          refine .v rfl rfl rfl rfl (aa rfl) ?_
          refine .v rfl rfl rfl rfl (aF (b:=true) rfl rfl) ?_
          refine .cons rfl rfl rfl (.val rfl (aa rfl) (.eq (by rw [hb53]))) ?_
          refine .v rfl rfl rfl rfl (aa rfl) ?_
          refine .v rfl rfl rfl rfl (bF rfl jh) ?_
          refine .v rfl rfl rfl rfl (aH rfl rfl bD) ?_
          refine .v rfl rfl rfl rfl (aF (b:=true) rfl rfl) ?_
          refine .cons rfl rfl rfl (.val rfl (aa rfl) (.eq (by rw [hb54]))) ?_
          refine .v rfl rfl rfl rfl (aa rfl) ?_
          refine .v rfl rfl rfl rfl (bF rfl jh) ?_
          refine .v rfl rfl rfl rfl (aH rfl rfl bD) ?_
          refine .v rfl rfl rfl rfl (aF (b:=true) rfl rfl) ?_
          refine .cons rfl rfl rfl (.val rfl (aa rfl) (.eq (by rw [hb55]))) ?_
          refine .v rfl rfl rfl rfl (aa rfl) ?_
          refine .v rfl rfl rfl rfl (bE rfl rfl (bW (enc:=(D.int .i64)) hzz56 dX oP (((fun _=>rfl) _).trans jA.symm))) ?_
          refine .v rfl rfl rfl rfl (aY rfl (bL nG rfl)) ?_
          refine .v rfl rfl rfl rfl (aa rfl) ?_
          refine .v rfl rfl rfl rfl (bE rfl rfl (bW (enc:=(D.int .i64)) hzz57 dX oP (((fun _=>rfl) _).trans jA.symm))) ?_
          refine .v rfl rfl rfl rfl (aY rfl (bL nG rfl)) ?_
          refine .v rfl rfl rfl rfl (aH rfl rfl bD) ?_
          refine .v rfl rfl rfl rfl (aF (b:=true) rfl rfl) ?_
          refine .cons rfl rfl rfl (.val rfl (aa rfl) (.eq (by rw [hb58]))) ?_
          refine .cons rfl rfl rfl (.no rfl (.refl _)) ?_
          refine .cons rfl rfl rfl (.no rfl (.refl _)) ?_
          refine .cons rfl rfl rfl (.no rfl (.refl _)) ?_
          refine .cons rfl rfl rfl (.no rfl (.refl _)) ?_
          refine .cons rfl rfl rfl (.no rfl (.refl _)) ?_
          refine .cons rfl rfl rfl (.no rfl (.refl _)) ?_
          refine .cons rfl rfl rfl (.no rfl (.refl _)) ?_
          refine .v rfl rfl rfl rfl (aF (b:=false) rfl rfl) ?_
          refine .v rfl rfl rfl rfl (aa rfl) ?_
          refine .cons rfl rfl rfl (.no rfl (.refl _)) ?_
          refine .cons rfl rfl rfl (.no rfl (.refl _)) ?_
          exact .nil
         refine ⟨[some (.d (.int .i64 z23.1)),some (.d (.bool (z23.1 == 2))),some (.d (.bool true)),some (.d (.bool z34.1)),some (.d (.bool z34.1)),some (.d (.bool true)),some (.d (.sl ((z30).map (D.int .i64)) false)),some (.d (.int .i64 ((z30).length:Int))),some (.d (.bool (((z30).length:Int) == 2))),some (.d (.bool (((z30).length:Int) == 2))),some (.d (.bool true)),some (.d (.sl ((z41).map (D.int .i64)) false)),some (.d (.int .i64 ((z41).length:Int))),some (.d (.bool (((z41).length:Int) == 2))),some (.d (.bool (((z41).length:Int) == 2))),some (.d (.bool true)),some (.d (.sl ((z30).map (D.int .i64)) false)),some (.eptr (.int .i64 z56) 0),some (.d (.int .i64 z56)),some (.d (.sl ((z41).map (D.int .i64)) false)),some (.eptr (.int .i64 z57) 0),some (.d (.int .i64 z57)),some (.d (.bool (z56 == z57))),some (.d (.bool (z56 == z57))),some (.d (.bool false)),some (.tup []),some (.tup []),some (.tup []),some (.tup []),some (.tup []),some (.tup []),some (.tup []),some (.d (.bool false)),some (.d (.bool false)),some (.tup []),some (.tup []),some (.tup []),some (.tup []),some (.d (.bool false)),some (.d (.bool false)),some (.tup []),none,none,none,none],(.o (.o (.o (.o (.o (.o (.o (.o (.o (.o (.o (.o (.o (.o (.o (.o (.o (.o (.o (.o (.o (.o (.o (.o (.o (.o (.o (.o (.o (.o (.o (.o (.o (.o (.o (.o (.new (.new (.new (.new (.new (.new (.new (.new (.new .nil))))))))))))))))))))))))))))))))))))))))))))),(fun _ ht=>by cases ht; exact ⟨_,rfl,.refl _⟩),?_⟩
         refine ⟨[37,38,39,40],by kernel_rfl,?_,_,_,rfl,rfl,.no rfl ?_⟩
         ·
          refine .cons rfl rfl rfl (.no rfl (.refl _)) ?_
          refine .v rfl rfl rfl rfl (aF (b:=false) rfl rfl) ?_
          refine .v rfl rfl rfl rfl (aa rfl) ?_
          refine .cons rfl rfl rfl (.no rfl (.refl _)) ?_
          exact .nil
         refine ⟨[some (.d (.int .i64 z23.1)),some (.d (.bool (z23.1 == 2))),some (.d (.bool true)),some (.d (.bool z34.1)),some (.d (.bool z34.1)),some (.d (.bool true)),some (.d (.sl ((z30).map (D.int .i64)) false)),some (.d (.int .i64 ((z30).length:Int))),some (.d (.bool (((z30).length:Int) == 2))),some (.d (.bool (((z30).length:Int) == 2))),some (.d (.bool true)),some (.d (.sl ((z41).map (D.int .i64)) false)),some (.d (.int .i64 ((z41).length:Int))),some (.d (.bool (((z41).length:Int) == 2))),some (.d (.bool (((z41).length:Int) == 2))),some (.d (.bool true)),some (.d (.sl ((z30).map (D.int .i64)) false)),some (.eptr (.int .i64 z56) 0),some (.d (.int .i64 z56)),some (.d (.sl ((z41).map (D.int .i64)) false)),some (.eptr (.int .i64 z57) 0),some (.d (.int .i64 z57)),some (.d (.bool (z56 == z57))),some (.d (.bool (z56 == z57))),some (.d (.bool false)),some (.tup []),some (.tup []),some (.tup []),some (.tup []),some (.tup []),some (.tup []),some (.tup []),some (.d (.bool false)),some (.d (.bool false)),some (.tup []),some (.tup []),some (.tup []),some (.tup []),some (.d (.bool false)),some (.d (.bool false)),some (.tup []),some (.tup []),some (.tup []),some (.d (.bool false)),some (.d (.bool false))],(.o (.o (.o (.o (.o (.o (.o (.o (.o (.o (.o (.o (.o (.o (.o (.o (.o (.o (.o (.o (.o (.o (.o (.o (.o (.o (.o (.o (.o (.o (.o (.o (.o (.o (.o (.o (.o (.o (.o (.o (.o (.new (.new (.new (.new .nil))))))))))))))))))))))))))))))))))))))))))))),(fun _ ht=>by cases ht; exact ⟨_,rfl,.refl _⟩),?_⟩
         refine ⟨[42,43,44],by kernel_rfl,?_,_,rfl,?_⟩
         ·
          refine .cons rfl rfl rfl (.no rfl (.refl _)) ?_
          refine .v rfl rfl rfl rfl (aF (b:=false) rfl rfl) ?_
          refine .v rfl rfl rfl rfl (ak rfl) ?_
          exact .nil
         exact ⟨⟨z34.2,ws36,w37,false⟩,_,_,S42,.refl _ _,.refl _,(aj.r rfl aj.nil),H44.sl [] rfl rfl,h⟩
       ·
        replace h:=dJ hb55 h
        refine aB.gQ E.obj kF BB [(0,some 44)] (by kernel_rfl) [36,41] (by decide) [some (.d (.int .i64 z23.1)),some (.d (.bool (z23.1 == 2))),some (.d (.bool true)),some (.d (.bool z34.1)),some (.d (.bool z34.1)),some (.d (.bool true)),some (.d (.sl ((z30).map (D.int .i64)) false)),some (.d (.int .i64 ((z30).length:Int))),some (.d (.bool (((z30).length:Int) == 2))),some (.d (.bool (((z30).length:Int) == 2))),some (.d (.bool true)),some (.d (.sl ((z41).map (D.int .i64)) false)),some (.d (.int .i64 ((z41).length:Int))),some (.d (.bool (((z41).length:Int) == 2))),some (.d (.bool (((z41).length:Int) == 2))),some (.d (.bool false)),some (.tup []),some (.tup []),some (.tup []),some (.tup []),some (.tup []),some (.tup []),some (.tup []),some (.d (.bool false)),some (.d (.bool false)),some (.tup []),some (.tup []),some (.tup []),some (.tup []),some (.tup []),some (.tup []),some (.tup []),some (.d (.bool false)),some (.d (.bool false)),some (.tup []),some (.tup []),none,none,none,none,none,none,none,none,none] ?_
        refine ⟨[0,1,2,3,4,5,6,7,8,9,10,11,12,13,14,15,16,17,18,19,20,21,22,23,24,25,26,27,28,29,30,31,32,33,34,35],by kernel_rfl,?_,_,_,rfl,rfl,.no rfl ?_⟩
        ·
         refine .v rfl rfl rfl rfl (aa rfl) ?_
         refine .v rfl rfl rfl rfl (aH rfl rfl bD) ?_
         refine .cons rfl rfl rfl (.val rfl (aa rfl) (.eq (by rw [hb52]))) ?_
         refine .v rfl rfl rfl rfl (aa rfl) ?_
         refine .v rfl rfl rfl rfl (aF (b:=true) rfl rfl) ?_
         refine .cons rfl rfl rfl (.val rfl (aa rfl) (.eq (by rw [hb53]))) ?_
         refine .v rfl rfl rfl rfl (aa rfl) ?_
         refine .v rfl rfl rfl rfl (bF rfl jh) ?_
         refine .v rfl rfl rfl rfl (aH rfl rfl bD) ?_
         refine .v rfl rfl rfl rfl (aF (b:=true) rfl rfl) ?_
         refine .cons rfl rfl rfl (.val rfl (aa rfl) (.eq (by rw [hb54]))) ?_
         refine .v rfl rfl rfl rfl (aa rfl) ?_
         refine .v rfl rfl rfl rfl (bF rfl jh) ?_
         refine .v rfl rfl rfl rfl (aH rfl rfl bD) ?_
         refine .v rfl rfl rfl rfl (aF (b:=true) rfl rfl) ?_
         refine .cons rfl rfl rfl (.val rfl (aa rfl) (.eq (by rw [hb55]))) ?_
         refine .cons rfl rfl rfl (.no rfl (.refl _)) ?_
         refine .cons rfl rfl rfl (.no rfl (.refl _)) ?_
         refine .cons rfl rfl rfl (.no rfl (.refl _)) ?_
         refine .cons rfl rfl rfl (.no rfl (.refl _)) ?_
         refine .cons rfl rfl rfl (.no rfl (.refl _)) ?_
         refine .cons rfl rfl rfl (.no rfl (.refl _)) ?_
         refine .cons rfl rfl rfl (.no rfl (.refl _)) ?_
         refine .v rfl rfl rfl rfl (aF (b:=false) rfl rfl) ?_
         refine .v rfl rfl rfl rfl (aa rfl) ?_
         refine .cons rfl rfl rfl (.no rfl (.refl _)) ?_
         refine .cons rfl rfl rfl (.no rfl (.refl _)) ?_
         refine .cons rfl rfl rfl (.no rfl (.refl _)) ?_
         refine .cons rfl rfl rfl (.no rfl (.refl _)) ?_
         refine .cons rfl rfl rfl (.no rfl (.refl _)) ?_
         refine .cons rfl rfl rfl (.no rfl (.refl _)) ?_
         refine .cons rfl rfl rfl (.no rfl (.refl _)) ?_
         refine .v rfl rfl rfl rfl (aF (b:=false) rfl rfl) ?_
         refine .v rfl rfl rfl rfl (aa rfl) ?_
         refine .cons rfl rfl rfl (.no rfl (.refl _)) ?_
         refine .cons rfl rfl rfl (.no rfl (.refl _)) ?_
         exact .nil
        refine ⟨[some (.d (.int .i64 z23.1)),some (.d (.bool (z23.1 == 2))),some (.d (.bool true)),some (.d (.bool z34.1)),some (.d (.bool z34.1)),some (.d (.bool true)),some (.d (.sl ((z30).map (D.int .i64)) false)),some (.d (.int .i64 ((z30).length:Int))),some (.d (.bool (((z30).length:Int) == 2))),some (.d (.bool (((z30).length:Int) == 2))),some (.d (.bool true)),some (.d (.sl ((z41).map (D.int .i64)) false)),some (.d (.int .i64 ((z41).length:Int))),some (.d (.bool (((z41).length:Int) == 2))),some (.d (.bool (((z41).length:Int) == 2))),some (.d (.bool false)),some (.tup []),some (.tup []),some (.tup []),some (.tup []),some (.tup []),some (.tup []),some (.tup []),some (.d (.bool false)),some (.d (.bool false)),some (.tup []),some (.tup []),some (.tup []),some (.tup []),some (.tup []),some (.tup []),some (.tup []),some (.d (.bool false)),some (.d (.bool false)),some (.tup []),some (.tup []),some (.tup []),some (.tup []),some (.d (.bool false)),some (.d (.bool false)),some (.tup []),none,none,none,none],(.o (.o (.o (.o (.o (.o (.o (.o (.o (.o (.o (.o (.o (.o (.o (.o (.o (.o (.o (.o (.o (.o (.o (.o (.o (.o (.o (.o (.o (.o (.o (.o (.o (.o (.o (.o (.new (.new (.new (.new (.new (.new (.new (.new (.new .nil))))))))))))))))))))))))))))))))))))))))))))),(fun _ ht=>by cases ht; exact ⟨_,rfl,.refl _⟩),?_⟩
        refine ⟨[37,38,39,40],by kernel_rfl,?_,_,_,rfl,rfl,.no rfl ?_⟩
        ·
         refine .cons rfl rfl rfl (.no rfl (.refl _)) ?_
         refine .v rfl rfl rfl rfl (aF (b:=false) rfl rfl) ?_
         refine .v rfl rfl rfl rfl (aa rfl) ?_
         refine .cons rfl rfl rfl (.no rfl (.refl _)) ?_
         exact .nil
        refine ⟨[some (.d (.int .i64 z23.1)),some (.d (.bool (z23.1 == 2))),some (.d (.bool true)),some (.d (.bool z34.1)),some (.d (.bool z34.1)),some (.d (.bool true)),some (.d (.sl ((z30).map (D.int .i64)) false)),some (.d (.int .i64 ((z30).length:Int))),some (.d (.bool (((z30).length:Int) == 2))),some (.d (.bool (((z30).length:Int) == 2))),some (.d (.bool true)),some (.d (.sl ((z41).map (D.int .i64)) false)),some (.d (.int .i64 ((z41).length:Int))),some (.d (.bool (((z41).length:Int) == 2))),some (.d (.bool (((z41).length:Int) == 2))),some (.d (.bool false)),some (.tup []),some (.tup []),some (.tup []),some (.tup []),some (.tup []),some (.tup []),some (.tup []),some (.d (.bool false)),some (.d (.bool false)),some (.tup []),some (.tup []),some (.tup []),some (.tup []),some (.tup []),some (.tup []),some (.tup []),some (.d (.bool false)),some (.d (.bool false)),some (.tup []),some (.tup []),some (.tup []),some (.tup []),some (.d (.bool false)),some (.d (.bool false)),some (.tup []),some (.tup []),some (.tup []),some (.d (.bool false)),some (.d (.bool false))],(.o (.o (.o (.o (.o (.o (.o (.o (.o (.o (.o (.o (.o (.o (.o (.o (.o (.o (.o (.o (.o (.o (.o (.o (.o (.o (.o (.o (.o (.o (.o (.o (.o (.o (.o (.o (.o (.o (.o (.o (.o (.new (.new (.new (.new .nil))))))))))))))))))))))))))))))))))))))))))))),(fun _ ht=>by cases ht; exact ⟨_,rfl,.refl _⟩),?_⟩
        refine ⟨[42,43,44],by kernel_rfl,?_,_,rfl,?_⟩
        ·
         refine .cons rfl rfl rfl (.no rfl (.refl _)) ?_
         refine .v rfl rfl rfl rfl (aF (b:=false) rfl rfl) ?_
         refine .v rfl rfl rfl rfl (ak rfl) ?_
         exact .nil
        exact ⟨⟨z34.2,ws36,w37,false⟩,_,_,S42,.refl _ _,.refl _,(aj.r rfl aj.nil),H44.sl [] rfl rfl,h⟩
      ·
       replace h:=dJ hb54 h
       refine aB.gQ E.obj kF BB [(0,some 44)] (by kernel_rfl) [36,41] (by decide) [some (.d (.int .i64 z23.1)),some (.d (.bool (z23.1 == 2))),some (.d (.bool true)),some (.d (.bool z34.1)),some (.d (.bool z34.1)),some (.d (.bool true)),some (.d (.sl ((z30).map (D.int .i64)) false)),some (.d (.int .i64 ((z30).length:Int))),some (.d (.bool (((z30).length:Int) == 2))),some (.d (.bool (((z30).length:Int) == 2))),some (.d (.bool false)),some (.tup []),some (.tup []),some (.tup []),some (.d (.bool false)),some (.d (.bool false)),some (.tup []),some (.tup []),some (.tup []),some (.tup []),some (.tup []),some (.tup []),some (.tup []),some (.d (.bool false)),some (.d (.bool false)),some (.tup []),some (.tup []),some (.tup []),some (.tup []),some (.tup []),some (.tup []),some (.tup []),some (.d (.bool false)),some (.d (.bool false)),some (.tup []),some (.tup []),none,none,none,none,none,none,none,none,none] ?_
       refine ⟨[0,1,2,3,4,5,6,7,8,9,10,11,12,13,14,15,16,17,18,19,20,21,22,23,24,25,26,27,28,29,30,31,32,33,34,35],by kernel_rfl,?_,_,_,rfl,rfl,.no rfl ?_⟩
       ·
        refine .v rfl rfl rfl rfl (aa rfl) ?_
        refine .v rfl rfl rfl rfl (aH rfl rfl bD) ?_
        refine .cons rfl rfl rfl (.val rfl (aa rfl) (.eq (by rw [hb52]))) ?_
        refine .v rfl rfl rfl rfl (aa rfl) ?_
        refine .v rfl rfl rfl rfl (aF (b:=true) rfl rfl) ?_
        refine .cons rfl rfl rfl (.val rfl (aa rfl) (.eq (by rw [hb53]))) ?_
        refine .v rfl rfl rfl rfl (aa rfl) ?_
        refine .v rfl rfl rfl rfl (bF rfl jh) ?_
        refine .v rfl rfl rfl rfl (aH rfl rfl bD) ?_
        refine .v rfl rfl rfl rfl (aF (b:=true) rfl rfl) ?_
        refine .cons rfl rfl rfl (.val rfl (aa rfl) (.eq (by rw [hb54]))) ?_
        refine .cons rfl rfl rfl (.no rfl (.refl _)) ?_
        refine .cons rfl rfl rfl (.no rfl (.refl _)) ?_
        refine .cons rfl rfl rfl (.no rfl (.refl _)) ?_
        refine .v rfl rfl rfl rfl (aF (b:=false) rfl rfl) ?_
        refine .v rfl rfl rfl rfl (aa rfl) ?_
        refine .cons rfl rfl rfl (.no rfl (.refl _)) ?_
        refine .cons rfl rfl rfl (.no rfl (.refl _)) ?_
        refine .cons rfl rfl rfl (.no rfl (.refl _)) ?_
        refine .cons rfl rfl rfl (.no rfl (.refl _)) ?_
        refine .cons rfl rfl rfl (.no rfl (.refl _)) ?_
        refine .cons rfl rfl rfl (.no rfl (.refl _)) ?_
        refine .cons rfl rfl rfl (.no rfl (.refl _)) ?_
        refine .v rfl rfl rfl rfl (aF (b:=false) rfl rfl) ?_
        refine .v rfl rfl rfl rfl (aa rfl) ?_
        refine .cons rfl rfl rfl (.no rfl (.refl _)) ?_
        refine .cons rfl rfl rfl (.no rfl (.refl _)) ?_
        refine .cons rfl rfl rfl (.no rfl (.refl _)) ?_
        refine .cons rfl rfl rfl (.no rfl (.refl _)) ?_
        refine .cons rfl rfl rfl (.no rfl (.refl _)) ?_
        refine .cons rfl rfl rfl (.no rfl (.refl _)) ?_
        refine .cons rfl rfl rfl (.no rfl (.refl _)) ?_
        refine .v rfl rfl rfl rfl (aF (b:=false) rfl rfl) ?_
        refine .v rfl rfl rfl rfl (aa rfl) ?_
        refine .cons rfl rfl rfl (.no rfl (.refl _)) ?_
        refine .cons rfl rfl rfl (.no rfl (.refl _)) ?_
        exact .nil
       refine ⟨[some (.d (.int .i64 z23.1)),some (.d (.bool (z23.1 == 2))),some (.d (.bool true)),some (.d (.bool z34.1)),some (.d (.bool z34.1)),some (.d (.bool true)),some (.d (.sl ((z30).map (D.int .i64)) false)),some (.d (.int .i64 ((z30).length:Int))),some (.d (.bool (((z30).length:Int) == 2))),some (.d (.bool (((z30).length:Int) == 2))),some (.d (.bool false)),some (.tup []),some (.tup []),some (.tup []),some (.d (.bool false)),some (.d (.bool false)),some (.tup []),some (.tup []),some (.tup []),some (.tup []),some (.tup []),some (.tup []),some (.tup []),some (.d (.bool false)),some (.d (.bool false)),some (.tup []),some (.tup []),some (.tup []),some (.tup []),some (.tup []),some (.tup []),some (.tup []),some (.d (.bool false)),some (.d (.bool false)),some (.tup []),some (.tup []),some (.tup []),some (.tup []),some (.d (.bool false)),some (.d (.bool false)),some (.tup []),none,none,none,none],(.o (.o (.o (.o (.o (.o (.o (.o (.o (.o (.o (.o (.o (.o (.o (.o (.o (.o (.o (.o (.o (.o (.o (.o (.o (.o (.o (.o (.o (.o (.o (.o (.o (.o (.o (.o (.new (.new (.new (.new (.new (.new (.new (.new (.new .nil))))))))))))))))))))))))))))))))))))))))))))),(fun _ ht=>by cases ht; exact ⟨_,rfl,.refl _⟩),?_⟩
       refine ⟨[37,38,39,40],by kernel_rfl,?_,_,_,rfl,rfl,.no rfl ?_⟩
       ·
        refine .cons rfl rfl rfl (.no rfl (.refl _)) ?_
        refine .v rfl rfl rfl rfl (aF (b:=false) rfl rfl) ?_
        refine .v rfl rfl rfl rfl (aa rfl) ?_
        refine .cons rfl rfl rfl (.no rfl (.refl _)) ?_
        exact .nil
       refine ⟨[some (.d (.int .i64 z23.1)),some (.d (.bool (z23.1 == 2))),some (.d (.bool true)),some (.d (.bool z34.1)),some (.d (.bool z34.1)),some (.d (.bool true)),some (.d (.sl ((z30).map (D.int .i64)) false)),some (.d (.int .i64 ((z30).length:Int))),some (.d (.bool (((z30).length:Int) == 2))),some (.d (.bool (((z30).length:Int) == 2))),some (.d (.bool false)),some (.tup []),some (.tup []),some (.tup []),some (.d (.bool false)),some (.d (.bool false)),some (.tup []),some (.tup []),some (.tup []),some (.tup []),some (.tup []),some (.tup []),some (.tup []),some (.d (.bool false)),some (.d (.bool false)),some (.tup []),some (.tup []),some (.tup []),some (.tup []),some (.tup []),some (.tup []),some (.tup []),some (.d (.bool false)),some (.d (.bool false)),some (.tup []),some (.tup []),some (.tup []),some (.tup []),some (.d (.bool false)),some (.d (.bool false)),some (.tup []),some (.tup []),some (.tup []),some (.d (.bool false)),some (.d (.bool false))],(.o (.o (.o (.o (.o (.o (.o (.o (.o (.o (.o (.o (.o (.o (.o (.o (.o (.o (.o (.o (.o (.o (.o (.o (.o (.o (.o (.o (.o (.o (.o (.o (.o (.o (.o (.o (.o (.o (.o (.o (.o (.new (.new (.new (.new .nil))))))))))))))))))))))))))))))))))))))))))))),(fun _ ht=>by cases ht; exact ⟨_,rfl,.refl _⟩),?_⟩
       refine ⟨[42,43,44],by kernel_rfl,?_,_,rfl,?_⟩
       ·
        refine .cons rfl rfl rfl (.no rfl (.refl _)) ?_
        refine .v rfl rfl rfl rfl (aF (b:=false) rfl rfl) ?_
        refine .v rfl rfl rfl rfl (ak rfl) ?_
        exact .nil
       exact ⟨⟨z34.2,ws36,w37,false⟩,_,_,S42,.refl _ _,.refl _,(aj.r rfl aj.nil),H44.sl [] rfl rfl,h⟩
     ·
      replace h:=dJ hb53 h
      refine aB.gQ E.obj kF BB [(0,some 44)] (by kernel_rfl) [36,41] (by decide) [some (.d (.int .i64 z23.1)),some (.d (.bool (z23.1 == 2))),some (.d (.bool true)),some (.d (.bool z34.1)),some (.d (.bool z34.1)),some (.d (.bool false)),some (.tup []),some (.tup []),some (.tup []),some (.d (.bool false)),some (.d (.bool false)),some (.tup []),some (.tup []),some (.tup []),some (.d (.bool false)),some (.d (.bool false)),some (.tup []),some (.tup []),some (.tup []),some (.tup []),some (.tup []),some (.tup []),some (.tup []),some (.d (.bool false)),some (.d (.bool false)),some (.tup []),some (.tup []),some (.tup []),some (.tup []),some (.tup []),some (.tup []),some (.tup []),some (.d (.bool false)),some (.d (.bool false)),some (.tup []),some (.tup []),none,none,none,none,none,none,none,none,none] ?_
      refine ⟨[0,1,2,3,4,5,6,7,8,9,10,11,12,13,14,15,16,17,18,19,20,21,22,23,24,25,26,27,28,29,30,31,32,33,34,35],by kernel_rfl,?_,_,_,rfl,rfl,.no rfl ?_⟩
      ·
       refine .v rfl rfl rfl rfl (aa rfl) ?_
       refine .v rfl rfl rfl rfl (aH rfl rfl bD) ?_
       refine .cons rfl rfl rfl (.val rfl (aa rfl) (.eq (by rw [hb52]))) ?_
       refine .v rfl rfl rfl rfl (aa rfl) ?_
       refine .v rfl rfl rfl rfl (aF (b:=true) rfl rfl) ?_
       refine .cons rfl rfl rfl (.val rfl (aa rfl) (.eq (by rw [hb53]))) ?_
       refine .cons rfl rfl rfl (.no rfl (.refl _)) ?_
       refine .cons rfl rfl rfl (.no rfl (.refl _)) ?_
       refine .cons rfl rfl rfl (.no rfl (.refl _)) ?_
       refine .v rfl rfl rfl rfl (aF (b:=false) rfl rfl) ?_
       refine .v rfl rfl rfl rfl (aa rfl) ?_
       refine .cons rfl rfl rfl (.no rfl (.refl _)) ?_
       refine .cons rfl rfl rfl (.no rfl (.refl _)) ?_
       refine .cons rfl rfl rfl (.no rfl (.refl _)) ?_
       refine .v rfl rfl rfl rfl (aF (b:=false) rfl rfl) ?_
       refine .v rfl rfl rfl rfl (aa rfl) ?_
       refine .cons rfl rfl rfl (.no rfl (.refl _)) ?_
       refine .cons rfl rfl rfl (.no rfl (.refl _)) ?_
       refine .cons rfl rfl rfl (.no rfl (.refl _)) ?_
       refine .cons rfl rfl rfl (.no rfl (.refl _)) ?_
       refine .cons rfl rfl rfl (.no rfl (.refl _)) ?_
       refine .cons rfl rfl rfl (.no rfl (.refl _)) ?_
       refine .cons rfl rfl rfl (.no rfl (.refl _)) ?_
       refine .v rfl rfl rfl rfl (aF (b:=false) rfl rfl) ?_
       refine .v rfl rfl rfl rfl (aa rfl) ?_
       refine .cons rfl rfl rfl (.no rfl (.refl _)) ?_
       refine .cons rfl rfl rfl (.no rfl (.refl _)) ?_
       refine .cons rfl rfl rfl (.no rfl (.refl _)) ?_
       refine .cons rfl rfl rfl (.no rfl (.refl _)) ?_
       refine .cons rfl rfl rfl (.no rfl (.refl _)) ?_
       refine .cons rfl rfl rfl (.no rfl (.refl _)) ?_
       refine .cons rfl rfl rfl (.no rfl (.refl _)) ?_
       refine .v rfl rfl rfl rfl (aF (b:=false) rfl rfl) ?_
       refine .v rfl rfl rfl rfl (aa rfl) ?_
       refine .cons rfl rfl rfl (.no rfl (.refl _)) ?_
       refine .cons rfl rfl rfl (.no rfl (.refl _)) ?_
       exact .nil
      refine ⟨[some (.d (.int .i64 z23.1)),some (.d (.bool (z23.1 == 2))),some (.d (.bool true)),some (.d (.bool z34.1)),some (.d (.bool z34.1)),some (.d (.bool false)),some (.tup []),some (.tup []),some (.tup []),some (.d (.bool false)),some (.d (.bool false)),some (.tup []),some (.tup []),some (.tup []),some (.d (.bool false)),some (.d (.bool false)),some (.tup []),some (.tup []),some (.tup []),some (.tup []),some (.tup []),some (.tup []),some (.tup []),some (.d (.bool false)),some (.d (.bool false)),some (.tup []),some (.tup []),some (.tup []),some (.tup []),some (.tup []),some (.tup []),some (.tup []),some (.d (.bool false)),some (.d (.bool false)),some (.tup []),some (.tup []),some (.tup []),some (.tup []),some (.d (.bool false)),some (.d (.bool false)),some (.tup []),none,none,none,none],(.o (.o (.o (.o (.o (.o (.o (.o (.o (.o (.o (.o (.o (.o (.o (.o (.o (.o (.o (.o (.o (.o (.o (.o (.o (.o (.o (.o (.o (.o (.o (.o (.o (.o (.o (.o (.new (.new (.new (.new (.new (.new (.new (.new (.new .nil))))))))))))))))))))))))))))))))))))))))))))),(fun _ ht=>by cases ht; exact ⟨_,rfl,.refl _⟩),?_⟩
      refine ⟨[37,38,39,40],by kernel_rfl,?_,_,_,rfl,rfl,.no rfl ?_⟩
      ·
       refine .cons rfl rfl rfl (.no rfl (.refl _)) ?_
       refine .v rfl rfl rfl rfl (aF (b:=false) rfl rfl) ?_
       refine .v rfl rfl rfl rfl (aa rfl) ?_
       refine .cons rfl rfl rfl (.no rfl (.refl _)) ?_
       exact .nil
      refine ⟨[some (.d (.int .i64 z23.1)),some (.d (.bool (z23.1 == 2))),some (.d (.bool true)),some (.d (.bool z34.1)),some (.d (.bool z34.1)),some (.d (.bool false)),some (.tup []),some (.tup []),some (.tup []),some (.d (.bool false)),some (.d (.bool false)),some (.tup []),some (.tup []),some (.tup []),some (.d (.bool false)),some (.d (.bool false)),some (.tup []),some (.tup []),some (.tup []),some (.tup []),some (.tup []),some (.tup []),some (.tup []),some (.d (.bool false)),some (.d (.bool false)),some (.tup []),some (.tup []),some (.tup []),some (.tup []),some (.tup []),some (.tup []),some (.tup []),some (.d (.bool false)),some (.d (.bool false)),some (.tup []),some (.tup []),some (.tup []),some (.tup []),some (.d (.bool false)),some (.d (.bool false)),some (.tup []),some (.tup []),some (.tup []),some (.d (.bool false)),some (.d (.bool false))],(.o (.o (.o (.o (.o (.o (.o (.o (.o (.o (.o (.o (.o (.o (.o (.o (.o (.o (.o (.o (.o (.o (.o (.o (.o (.o (.o (.o (.o (.o (.o (.o (.o (.o (.o (.o (.o (.o (.o (.o (.o (.new (.new (.new (.new .nil))))))))))))))))))))))))))))))))))))))))))))),(fun _ ht=>by cases ht; exact ⟨_,rfl,.refl _⟩),?_⟩
      refine ⟨[42,43,44],by kernel_rfl,?_,_,rfl,?_⟩
      ·
       refine .cons rfl rfl rfl (.no rfl (.refl _)) ?_
       refine .v rfl rfl rfl rfl (aF (b:=false) rfl rfl) ?_
       refine .v rfl rfl rfl rfl (ak rfl) ?_
       exact .nil
      exact ⟨⟨z34.2,ws36,w37,false⟩,_,_,S42,.refl _ _,.refl _,(aj.r rfl aj.nil),H44.sl [] rfl rfl,h⟩
    ·
     replace h:=dJ hb52 h
     refine aB.gQ E.obj kF BB [(0,some 44)] (by kernel_rfl) [36,41] (by decide) [some (.d (.int .i64 z23.1)),some (.d (.bool (z23.1 == 2))),some (.d (.bool false)),some (.tup []),some (.d (.bool false)),some (.d (.bool false)),some (.tup []),some (.tup []),some (.tup []),some (.d (.bool false)),some (.d (.bool false)),some (.tup []),some (.tup []),some (.tup []),some (.d (.bool false)),some (.d (.bool false)),some (.tup []),some (.tup []),some (.tup []),some (.tup []),some (.tup []),some (.tup []),some (.tup []),some (.d (.bool false)),some (.d (.bool false)),some (.tup []),some (.tup []),some (.tup []),some (.tup []),some (.tup []),some (.tup []),some (.tup []),some (.d (.bool false)),some (.d (.bool false)),some (.tup []),some (.tup []),none,none,none,none,none,none,none,none,none] ?_
     refine ⟨[0,1,2,3,4,5,6,7,8,9,10,11,12,13,14,15,16,17,18,19,20,21,22,23,24,25,26,27,28,29,30,31,32,33,34,35],by kernel_rfl,?_,_,_,rfl,rfl,.no rfl ?_⟩
     ·
      refine .v rfl rfl rfl rfl (aa rfl) ?_
      refine .v rfl rfl rfl rfl (aH rfl rfl bD) ?_
      refine .cons rfl rfl rfl (.val rfl (aa rfl) (.eq (by rw [hb52]))) ?_
      refine .cons rfl rfl rfl (.no rfl (.refl _)) ?_
      refine .v rfl rfl rfl rfl (aF (b:=false) rfl rfl) ?_
      refine .v rfl rfl rfl rfl (aa rfl) ?_
      refine .cons rfl rfl rfl (.no rfl (.refl _)) ?_
      refine .cons rfl rfl rfl (.no rfl (.refl _)) ?_
      refine .cons rfl rfl rfl (.no rfl (.refl _)) ?_
      refine .v rfl rfl rfl rfl (aF (b:=false) rfl rfl) ?_
      refine .v rfl rfl rfl rfl (aa rfl) ?_
      refine .cons rfl rfl rfl (.no rfl (.refl _)) ?_
      refine .cons rfl rfl rfl (.no rfl (.refl _)) ?_
      refine .cons rfl rfl rfl (.no rfl (.refl _)) ?_
      refine .v rfl rfl rfl rfl (aF (b:=false) rfl rfl) ?_
      refine .v rfl rfl rfl rfl (aa rfl) ?_
      refine .cons rfl rfl rfl (.no rfl (.refl _)) ?_
      refine .cons rfl rfl rfl (.no rfl (.refl _)) ?_
      refine .cons rfl rfl rfl (.no rfl (.refl _)) ?_
      refine .cons rfl rfl rfl (.no rfl (.refl _)) ?_
      refine .cons rfl rfl rfl (.no rfl (.refl _)) ?_
      refine .cons rfl rfl rfl (.no rfl (.refl _)) ?_
      refine .cons rfl rfl rfl (.no rfl (.refl _)) ?_
      refine .v rfl rfl rfl rfl (aF (b:=false) rfl rfl) ?_
      refine .v rfl rfl rfl rfl (aa rfl) ?_
      refine .cons rfl rfl rfl (.no rfl (.refl _)) ?_
      refine .cons rfl rfl rfl (.no rfl (.refl _)) ?_
      refine .cons rfl rfl rfl (.no rfl (.refl _)) ?_
      refine .cons rfl rfl rfl (.no rfl (.refl _)) ?_
      refine .cons rfl rfl rfl (.no rfl (.refl _)) ?_
      refine .cons rfl rfl rfl (.no rfl (.refl _)) ?_
      refine .cons rfl rfl rfl (.no rfl (.refl _)) ?_
      refine .v rfl rfl rfl rfl (aF (b:=false) rfl rfl) ?_
      refine .v rfl rfl rfl rfl (aa rfl) ?_
      refine .cons rfl rfl rfl (.no rfl (.refl _)) ?_
      refine .cons rfl rfl rfl (.no rfl (.refl _)) ?_
      exact .nil
     refine ⟨[some (.d (.int .i64 z23.1)),some (.d (.bool (z23.1 == 2))),some (.d (.bool false)),some (.tup []),some (.d (.bool false)),some (.d (.bool false)),some (.tup []),some (.tup []),some (.tup []),some (.d (.bool false)),some (.d (.bool false)),some (.tup []),some (.tup []),some (.tup []),some (.d (.bool false)),some (.d (.bool false)),some (.tup []),some (.tup []),some (.tup []),some (.tup []),some (.tup []),some (.tup []),some (.tup []),some (.d (.bool false)),some (.d (.bool false)),some (.tup []),some (.tup []),some (.tup []),some (.tup []),some (.tup []),some (.tup []),some (.tup []),some (.d (.bool false)),some (.d (.bool false)),some (.tup []),some (.tup []),some (.tup []),some (.tup []),some (.d (.bool false)),some (.d (.bool false)),some (.tup []),none,none,none,none],(.o (.o (.o (.o (.o (.o (.o (.o (.o (.o (.o (.o (.o (.o (.o (.o (.o (.o (.o (.o (.o (.o (.o (.o (.o (.o (.o (.o (.o (.o (.o (.o (.o (.o (.o (.o (.new (.new (.new (.new (.new (.new (.new (.new (.new .nil))))))))))))))))))))))))))))))))))))))))))))),(fun _ ht=>by cases ht; exact ⟨_,rfl,.refl _⟩),?_⟩
     refine ⟨[37,38,39,40],by kernel_rfl,?_,_,_,rfl,rfl,.no rfl ?_⟩
     ·
      refine .cons rfl rfl rfl (.no rfl (.refl _)) ?_
      refine .v rfl rfl rfl rfl (aF (b:=false) rfl rfl) ?_
      refine .v rfl rfl rfl rfl (aa rfl) ?_
      refine .cons rfl rfl rfl (.no rfl (.refl _)) ?_
      exact .nil
     refine ⟨[some (.d (.int .i64 z23.1)),some (.d (.bool (z23.1 == 2))),some (.d (.bool false)),some (.tup []),some (.d (.bool false)),some (.d (.bool false)),some (.tup []),some (.tup []),some (.tup []),some (.d (.bool false)),some (.d (.bool false)),some (.tup []),some (.tup []),some (.tup []),some (.d (.bool false)),some (.d (.bool false)),some (.tup []),some (.tup []),some (.tup []),some (.tup []),some (.tup []),some (.tup []),some (.tup []),some (.d (.bool false)),some (.d (.bool false)),some (.tup []),some (.tup []),some (.tup []),some (.tup []),some (.tup []),some (.tup []),some (.tup []),some (.d (.bool false)),some (.d (.bool false)),some (.tup []),some (.tup []),some (.tup []),some (.tup []),some (.d (.bool false)),some (.d (.bool false)),some (.tup []),some (.tup []),some (.tup []),some (.d (.bool false)),some (.d (.bool false))],(.o (.o (.o (.o (.o (.o (.o (.o (.o (.o (.o (.o (.o (.o (.o (.o (.o (.o (.o (.o (.o (.o (.o (.o (.o (.o (.o (.o (.o (.o (.o (.o (.o (.o (.o (.o (.o (.o (.o (.o (.o (.new (.new (.new (.new .nil))))))))))))))))))))))))))))))))))))))))))))),(fun _ ht=>by cases ht; exact ⟨_,rfl,.refl _⟩),?_⟩
     refine ⟨[42,43,44],by kernel_rfl,?_,_,rfl,?_⟩
     ·
      refine .cons rfl rfl rfl (.no rfl (.refl _)) ?_
      refine .v rfl rfl rfl rfl (aF (b:=false) rfl rfl) ?_
      refine .v rfl rfl rfl rfl (ak rfl) ?_
      exact .nil
     exact ⟨⟨z34.2,ws36,w37,false⟩,_,_,S42,.refl _ _,.refl _,(aj.r rfl aj.nil),H44.sl [] rfl rfl,h⟩
set_option maxRecDepth 20000 in
set_option maxHeartbeats 4000000 in
theorem xg (n:Nat) (a1:(List Str)) (a2:(List Str)) (r:Bool) (h:fV n a1 a2=some r):ib R cfg.P 6 [(.sl ((a1).map D.str) false),(.sl ((a2).map D.str) false)] (.d (.bool r)):=by
 unfold fV at h
 refine ib.of_wp E.obj.toObjOk (C:=cfg) Try.func6 rfl KS rfl ?_
 have H0:Has aM aM []:=Has.pure
 refine aB.seq ?_
 refine aB.region E.obj rfl ?_
 refine ai.val rfl (ak rfl) rfl ?_
 refine ai.nil ?_
 refine aB.seq ?_
 refine aB.region E.obj rfl ?_
 refine ai.val rfl (ak rfl) rfl ?_
 refine ai.nil ?_
 refine aB.seq ?_
 refine aB.region E.obj rfl ?_
 refine ai.val rfl (aa rfl) rfl ?_
 refine ai.val rfl (aa rfl) rfl ?_
 obtain ⟨z3,hzz3,h⟩:=bind_some h
 refine ai.ret rfl (vz rfl rfl) (iN E _ _ _ hzz3 _ _ (bM.eq .nil)) rfl ?_
 refine ai.val rfl (aa rfl) rfl ?_
 refine ai.val rfl (aa rfl) rfl ?_
 obtain ⟨z4,hzz4,h⟩:=bind_some h
 refine ai.ret rfl (vz rfl rfl) (iN E _ _ _ hzz4 _ _ (bM.eq .nil)) rfl ?_
 refine ai.alloc H0 rfl uf jM rfl rfl (fun b5 S6 H7=>?_)
 refine ai.alloc H7 rfl uf jM rfl rfl (fun b8 S9 H10=>?_)
 refine ai.store H10 (i:=1) rfl rfl rfl rfl (Tree.fD _) rfl dF rfl lJ rfl rfl rfl (fun S11 H12=>?_)
 refine ai.store H12 (i:=0) rfl rfl rfl rfl (Tree.fD _) rfl dF rfl lJ rfl rfl rfl (fun S13 H14=>?_)
 refine ai.nil ?_
 refine aB.seq ?_
 refine aB.region E.obj rfl ?_
 obtain ⟨z15,hzz15,h⟩:=bind_some h
 refine ai.fw (ins:=[]) (more:=[.box b8 [(.d (.str z4.Tag)),(.d (.str z4.Key)),(.d (.str z4.Text)),(.d (.sl ((z4.aQ).map az) false)),(.d (.sl ((z4.Kids).map au) false))],.box b5 [(.d (.str z3.Tag)),(.d (.str z3.Key)),(.d (.str z3.Text)),(.d (.sl ((z3.aQ).map az) false)),(.d (.sl ((z3.Kids).map au) false))]]) (H14.sl [0,1] rfl rfl) rfl (aJ rfl rfl) (wK E n  _ hzz15 ) .nil rfl ?_
 rintro v16 S17 l18 hr19 H20
 rcases z15 with _ | x21
 ·
  obtain ⟨rfl,rfl⟩:=hr19
  replace h:=IZ h
  replace H20:Has aM S17 [.box b8 [(.d (.str z4.Tag)),(.d (.str z4.Key)),(.d (.str z4.Text)),(.d (.sl ((z4.aQ).map az) false)),(.d (.sl ((z4.Kids).map au) false))],.box b5 [(.d (.str z3.Tag)),(.d (.str z3.Key)),(.d (.str z3.Text)),(.d (.sl ((z3.aQ).map az) false)),(.d (.sl ((z3.Kids).map au) false))]]:=H20
  refine ai.val rfl (ak rfl) rfl ?_
  refine ai.nil ?_
  refine aB.seq ?_
  refine aB.seq ?_
  refine aB.region E.obj rfl ?_
  refine ai.val rfl (aa rfl) rfl ?_
  refine ai.val rfl (aH rfl rfl (kC GH)) rfl ?_
  refine ai.nil ?_
  refine aB.cond rfl (fun hb=>?_) (fun hb=>?_)
  ·
   refine aB.seq ?_
   refine aB.region E.obj rfl ?_
   refine ai.val rfl (ak rfl) rfl ?_
   refine ai.nil ?_
   have hr:=Option.some.inj h
   subst hr
   exact aB.ret ⟨_,rfl,rfl,mW (bM.eq .nil)⟩
  ·
   cases hb
 ·
  obtain ⟨b22,v23,ws24,w25,rfl,rfl⟩:=hr19
  replace h:=Jq h
  have H26:Has aM S17 [.box b8 [(.d (.str z4.Tag)),(.d (.str z4.Key)),(.d (.str z4.Text)),(.d (.sl ((z4.aQ).map az) false)),(.d (.sl ((z4.Kids).map au) false))],.box b5 [(.d (.str z3.Tag)),(.d (.str z3.Key)),(.d (.str z3.Text)),(.d (.sl ((z3.aQ).map az) false)),(.d (.sl ((z3.Kids).map au) false))],.box b22 [v23,w25],ay ae ah.kids 7 5 v23 ws24 x21.l none,aG w25 x21.freed]:=H20.sl [3,4,0,1,2] rfl rfl
  refine ai.val rfl (ak rfl) rfl ?_
  refine ai.nil ?_
  refine aB.seq ?_
  refine aB.seq ?_
  refine aB.region E.obj rfl ?_
  refine ai.val rfl (aa rfl) rfl ?_
  refine ai.val rfl (aH rfl rfl (Ab GH)) rfl ?_
  refine ai.nil ?_
  refine aB.cond rfl (fun hb=>?_) (fun hb=>?_)
  ·
   cases hb
  ·
   refine aB.skip ?_
   refine aB.seq ?_
   refine aB.region E.obj rfl ?_
   refine ai.val rfl (aa rfl) rfl ?_
   refine ai.val rfl (aI H26 (i:=1) rfl rfl (bX ig dF rfl)) rfl ?_
   refine ai.less (Less.agg' (d:=au z3) (aC.eq rfl (aC.eq rfl (aC.eq rfl (aC.eq rfl (aC.eq rfl .nil))))) ((Tree.eq _).trans rfl)) ?_
   obtain ⟨z27,hzz27,h⟩:=bind_some h
   refine ai.fw (ins:=[.box b22 [v23,w25],ay ae ah.kids 7 5 v23 ws24 x21.l none,aG w25 x21.freed]) (more:=[.box b8 [(.d (.str z4.Tag)),(.d (.str z4.Key)),(.d (.str z4.Text)),(.d (.sl ((z4.aQ).map az) false)),(.d (.sl ((z4.Kids).map au) false))],.box b5 [(.d (.str z3.Tag)),(.d (.str z3.Key)),(.d (.str z3.Text)),(.d (.sl ((z3.aQ).map az) false)),(.d (.sl ((z3.Kids).map au) false))]]) (H26.sl [2,3,4,0,1] rfl rfl) rfl (aJ rfl rfl) (lU E n _ _ _ hzz27 b22 v23 ws24 w25) (.cons (.refl _) (.cons (.refl _) .nil)) rfl ?_
   rintro _ S31 _ ⟨rfl,v28,ws29,w30,rfl⟩ H32
   have H33:Has aM S31 [.box b8 [(.d (.str z4.Tag)),(.d (.str z4.Key)),(.d (.str z4.Text)),(.d (.sl ((z4.aQ).map az) false)),(.d (.sl ((z4.Kids).map au) false))],.box b5 [(.d (.str z3.Tag)),(.d (.str z3.Key)),(.d (.str z3.Text)),(.d (.sl ((z3.aQ).map az) false)),(.d (.sl ((z3.Kids).map au) false))],.box b22 [v28,w30],ay ae ah.kids 7 5 v28 ws29 z27.2.l none,aG w30 z27.2.freed]:=H32.sl [3,4,0,1,2] rfl rfl
   refine ai.val rfl (ak rfl) rfl ?_
   refine ai.nil ?_
   refine aB.seq ?_
   refine aB.region E.obj rfl ?_
   refine ai.val rfl (ak rfl) rfl ?_
   refine ai.val rfl (ak rfl) rfl ?_
   refine ai.nil ?_
   refine aB.seq ?_
   refine aB.seq ?_
   refine aB.region E.obj rfl ?_
   refine ai.val rfl (aa rfl) rfl ?_
   refine ai.val rfl (aa rfl) rfl ?_
   obtain ⟨z34,hzz34,h⟩:=bind_some h
   refine ai.fw (ins:=[.box b22 [v28,w30],ay ae ah.kids 7 5 v28 ws29 z27.2.l none,aG w30 z27.2.freed]) (more:=[.box b8 [(.d (.str z4.Tag)),(.d (.str z4.Key)),(.d (.str z4.Text)),(.d (.sl ((z4.aQ).map az) false)),(.d (.sl ((z4.Kids).map au) false))],.box b5 [(.d (.str z3.Tag)),(.d (.str z3.Key)),(.d (.str z3.Text)),(.d (.sl ((z3.aQ).map az) false)),(.d (.sl ((z3.Kids).map au) false))]]) (H33.sl [2,3,4,0,1] rfl rfl) rfl (aJ rfl rfl) (iQ E n _ _ _ hzz34 b22 v28 ws29 w30) (.cons (.refl _) (.cons (.refl _) .nil)) rfl ?_
   rintro _ S35 _ ⟨rfl,rfl⟩ H36
   have H37:Has aM S35 [.box b8 [(.d (.str z4.Tag)),(.d (.str z4.Key)),(.d (.str z4.Text)),(.d (.sl ((z4.aQ).map az) false)),(.d (.sl ((z4.Kids).map au) false))],.box b5 [(.d (.str z3.Tag)),(.d (.str z3.Key)),(.d (.str z3.Text)),(.d (.sl ((z3.aQ).map az) false)),(.d (.sl ((z3.Kids).map au) false))],.box b22 [v28,w30],ay ae ah.kids 7 5 v28 ws29 z27.2.l none,aG w30 z27.2.freed]:=H36.sl [3,4,0,1,2] rfl rfl
   refine ai.val rfl (bF rfl jh) rfl ?_
   refine ai.val rfl (aa rfl) rfl ?_
   refine ai.nil ?_
   refine aB.block ?_
   have H129:=H37.Cq
   refine o9.start (B:=aM) (α:=(List Int) × AV × Int) (fun k a=>aU n a2 z3 z4 z27 z34 k a.1 a.2.2=some r) (fun a=>[(1,(.d (.sl ((a2).map D.str) false))),(6,(.ptr b5 0 0)),(7,(.ptr b8 0 0)),(8,(.ptr b22 0 0)),(9,(.d (.int .i64 z27.1))),(10,a.2.1),(11,(.d .aT)),(33,(.d (.sl ((z34).map (D.int .i64)) false))),(34,(.d (.int .i64 ((z34).length:Int)))),(35,(.d (.int .i64 a.2.2)))]) (fun a=>[.box b8 [(.d (.str z4.Tag)),(.d (.str z4.Key)),(.d (.str z4.Text)),(.d (.sl ((z4.aQ).map az) false)),(.d (.sl ((z4.Kids).map au) false))],.box b5 [(.d (.str z3.Tag)),(.d (.str z3.Key)),(.d (.str z3.Text)),(.d (.sl ((z3.aQ).map az) false)),(.d (.sl ((z3.Kids).map au) false))],.grow a.2.1 ((a.1).map (D.int .i64)),.box b22 [v28,w30],ay ae ah.kids 7 5 v28 ws29 z27.2.l none,aG w30 z27.2.freed]) ?_ ?_ n ⟨⟨[],(.d .aT),0⟩,_,_,S35,.refl _ _,.refl _,(aj.r rfl (aj.r rfl (aj.r rfl (aj.r rfl (aj.r rfl (aj.r rfl (aj.r rfl (aj.r rfl (aj.r rfl (aj.r rfl aj.nil)))))))))),H129.sl [1,2,0,3,4,5] rfl rfl,h⟩
   ·
    intro a h; simp [aU] at h
   ·
    intro k50 a S45 H46 h
    obtain ⟨x47,v48,x49⟩:=a
    replace h:aU n a2 z3 z4 z27 z34 (k50 + 1) x47 x49=some r:=h
    replace H46:Has aM S45 [.box b8 [(.d (.str z4.Tag)),(.d (.str z4.Key)),(.d (.str z4.Text)),(.d (.sl ((z4.aQ).map az) false)),(.d (.sl ((z4.Kids).map au) false))],.box b5 [(.d (.str z3.Tag)),(.d (.str z3.Key)),(.d (.str z3.Text)),(.d (.sl ((z3.aQ).map az) false)),(.d (.sl ((z3.Kids).map au) false))],.grow v48 ((x47).map (D.int .i64)),.box b22 [v28,w30],ay ae ah.kids 7 5 v28 ws29 z27.2.l none,aG w30 z27.2.freed]:=H46
    unfold aU at h
    refine aB.seq ?_
    refine aB.region E.obj rfl ?_
    refine ai.val rfl (aH rfl rfl dG) rfl ?_
    refine ai.nil ?_
    refine aB.seq ?_
    refine aB.cond rfl (fun hb51=>?_) (fun hb51=>?_)
    ·
     replace h:=dK hb51 h
     refine aB.skip ?_
     refine aB.join (B:=aM) (α:=(List Int) × AV) (fun a=>bZ x49 (aU n a2 z3 z4 z27 z34 k50) a.1=some r) (fun a=>[(1,(.d (.sl ((a2).map D.str) false))),(6,(.ptr b5 0 0)),(7,(.ptr b8 0 0)),(8,(.ptr b22 0 0)),(9,(.d (.int .i64 z27.1))),(10,a.2),(11,(.d .aT)),(33,(.d (.sl ((z34).map (D.int .i64)) false))),(34,(.d (.int .i64 ((z34).length:Int)))),(35,(.d (.int .i64 x49)))]) (fun a=>[.box b8 [(.d (.str z4.Tag)),(.d (.str z4.Key)),(.d (.str z4.Text)),(.d (.sl ((z4.aQ).map az) false)),(.d (.sl ((z4.Kids).map au) false))],.box b5 [(.d (.str z3.Tag)),(.d (.str z3.Key)),(.d (.str z3.Text)),(.d (.sl ((z3.aQ).map az) false)),(.d (.sl ((z3.Kids).map au) false))],.grow a.2 ((a.1).map (D.int .i64)),.box b22 [v28,w30],ay ae ah.kids 7 5 v28 ws29 z27.2.l none,aG w30 z27.2.freed]) ?_ ?_
     ·
      intro a S52 H53 h
      obtain ⟨x54,v55⟩:=a
      replace h:bZ x49 (aU n a2 z3 z4 z27 z34 k50) x54=some r:=h
      replace H53:Has aM S52 [.box b8 [(.d (.str z4.Tag)),(.d (.str z4.Key)),(.d (.str z4.Text)),(.d (.sl ((z4.aQ).map az) false)),(.d (.sl ((z4.Kids).map au) false))],.box b5 [(.d (.str z3.Tag)),(.d (.str z3.Key)),(.d (.str z3.Text)),(.d (.sl ((z3.aQ).map az) false)),(.d (.sl ((z3.Kids).map au) false))],.grow v55 ((x54).map (D.int .i64)),.box b22 [v28,w30],ay ae ah.kids 7 5 v28 ws29 z27.2.l none,aG w30 z27.2.freed]:=H53
      unfold bZ at h
      refine aB.region E.obj rfl ?_
      refine ai.val rfl (aH rfl rfl dZ) rfl ?_
      refine ai.val rfl (aa rfl) rfl ?_
      refine ai.nil ?_
      exact ⟨⟨x54,v55,(IntKind.wrap .i64 (x49 + 1))⟩,_,_,S52,.refl _ _,.refl _,(aj.r rfl (aj.r rfl (aj.r rfl (aj.r rfl (aj.r rfl (aj.r rfl (aj.r rfl (aj.r rfl (aj.r rfl (aj.r rfl aj.nil)))))))))),H53.sl [0,1,2,3,4,5] rfl rfl,h⟩
     ·
      refine aB.block ?_
      refine aB.seq ?_
      refine aB.region E.obj rfl ?_
      refine ai.val rfl (aa rfl) rfl ?_
      obtain ⟨z57,hzz57,h⟩:=bind_some h
      refine ai.val rfl (bE rfl rfl (bW (enc:=(D.int .i64)) hzz57 dX oP (((fun _=>rfl) _).trans jA.symm))) rfl ?_
      refine ai.val rfl (aY rfl (bL nG rfl)) rfl ?_
      refine ai.val rfl (ak rfl) rfl ?_
      refine ai.val rfl (ak rfl) rfl ?_
      refine ai.nil ?_
      refine aB.seq ?_
      refine aB.region E.obj rfl ?_
      refine ai.val rfl (aa rfl) rfl ?_
      refine ai.val rfl (aD rfl iq nX rfl) rfl ?_
      refine ai.val rfl (aI H46 (i:=1) rfl rfl (aR qz rfl)) rfl ?_
      refine ai.val rfl (bF rfl zo) rfl ?_
      refine ai.val rfl (aH rfl rfl dG) rfl ?_
      refine ai.val rfl (aa rfl) rfl ?_
      obtain ⟨z59,hzz59,h⟩:=bind_some h
      refine ai.jG 8 53 (.d (.bool z59)) ?_ ?_
      ·
       rcases Bool.eq_false_or_eq_true ((decide (x49 < ((z3.Kids).length:Int)))) with hB58 | hB58
       ·
        refine ai.bool hB58 ?_
        replace hzz59:=dK hB58 hzz59
        refine ai.val rfl (aD rfl iq nX rfl) rfl ?_
        refine ai.val rfl (aI H46 (i:=1) rfl rfl (aR qz rfl)) rfl ?_
        refine ai.val rfl (aa rfl) rfl ?_
        obtain ⟨z60,hzz60,hzz59⟩:=bind_some hzz59
        refine ai.val rfl (bE rfl rfl (bW (enc:=au) hzz60 qc lJ ((Tree.len _).trans dF.symm))) rfl ?_
        refine ai.val rfl (pU rfl nN sK rfl) rfl ?_
        refine ai.val rfl (aY rfl (by rw [Tree.cells]; exact bL rZ rfl)) rfl ?_
        refine ai.val rfl (aH rfl rfl kQ) rfl ?_
        refine ai.val rfl (aF (b:=true) rfl rfl) rfl ?_
        cases hzz59
        exact ai.nil ⟨_,rfl,(aj.put (aj.push rfl (aj.push rfl (aj.push rfl (aj.push rfl (aj.push rfl (aj.push rfl (aj.push rfl (aj.put (.refl _) (Less.eq (by rw [hB58])))))))))) (.refl _))⟩
       ·
        refine ai.bool hB58 ?_
        refine ai.no rfl rfl ?_
        refine ai.no rfl rfl ?_
        refine ai.no rfl rfl ?_
        refine ai.no rfl rfl ?_
        refine ai.no rfl rfl ?_
        refine ai.no rfl rfl ?_
        refine ai.no rfl rfl ?_
        refine ai.val rfl (aF (b:=false) rfl rfl) rfl ?_
        replace hzz59:=dJ hB58 hzz59
        cases hzz59
        exact ai.nil ⟨_,rfl,(aj.put (aj.push rfl (aj.push rfl (aj.push rfl (aj.push rfl (aj.push rfl (aj.push rfl (aj.push rfl (aj.put (.refl _) (Less.eq (by rw [hB58])))))))))) (.refl _))⟩
      ·
       refine ai.nil ?_
       refine aB.cond rfl (fun hb61=>?_) (fun hb61=>?_)
       ·
        replace h:=dK hb61 h
        refine aB.region E.obj rfl ?_
        refine ai.val rfl (aa rfl) rfl ?_
        refine ai.val rfl (aa rfl) rfl ?_
        refine ai.val rfl (dO (vs:=[(.d (.int .i64 z57))]) (ds:=[(.int .i64 z57)]) AU dX nG ED jA rfl (by decide) (.cons rfl rfl .nil) rfl (by intro d hd; simp only [List.mem_cons,List.not_mem_nil,or_false] at hd; rcases hd with rfl <;> rfl) rfl) rfl ?_
        obtain ⟨z62,hzz62,h⟩:=bind_some h
        refine ai.append (xs:=(x47).map (D.int .i64)) (ys:=([z57]).map (D.int .i64)) (zs:=(z62).map (D.int .i64)) H46 rfl rfl rfl (i:=2) rfl rfl AU FY dX (jw hzz62) F9 rfl (dP (enc:=(D.int .i64)) (fun _=>jA.symm) _) (dP (enc:=(D.int .i64)) (fun _=>jA.symm) _) Jw rfl (pG hzz62) (fun v63 S64 H65=>?_)
        refine ai.val rfl (ak rfl) rfl ?_
        refine ai.nil ?_
        exact ⟨⟨z62,v63⟩,_,_,S64,.refl _ _,.refl _,(aj.r rfl (aj.r rfl (aj.r rfl (aj.r rfl (aj.r rfl (aj.r rfl (aj.r rfl (aj.r rfl (aj.r rfl (aj.r rfl aj.nil)))))))))),H65.sl [0,1,2,3,4,5] rfl rfl,h⟩
       ·
        replace h:=dJ hb61 h
        refine aB.skip ?_
        exact ⟨⟨x47,v48⟩,_,_,S45,.refl _ _,.refl _,(aj.r rfl (aj.r rfl (aj.r rfl (aj.r rfl (aj.r rfl (aj.r rfl (aj.r rfl (aj.r rfl (aj.r rfl (aj.r rfl aj.nil)))))))))),H46.sl [0,1,2,3,4,5] rfl rfl,h⟩
    ·
     replace h:=dJ hb51 h
     refine aB.exit ?_
     refine aB.seq ?_
     refine aB.seq ?_
     refine aB.region E.obj rfl ?_
     refine ai.val rfl (aa rfl) rfl ?_
     refine ai.val rfl (aa rfl) rfl ?_
     refine ai.val rfl (aI H46 (i:=0) rfl rfl (bX ig dF rfl)) rfl ?_
     refine ai.less (Less.agg' (d:=au z4) (aC.eq rfl (aC.eq rfl (aC.eq rfl (aC.eq rfl (aC.eq rfl .nil))))) ((Tree.eq _).trans rfl)) ?_
     obtain ⟨z66,hzz66,h⟩:=bind_some h
     refine ai.fw (ins:=[.box b22 [v28,w30],ay ae ah.kids 7 5 v28 ws29 z27.2.l none,aG w30 z27.2.freed]) (more:=[.box b8 [(.d (.str z4.Tag)),(.d (.str z4.Key)),(.d (.str z4.Text)),(.d (.sl ((z4.aQ).map az) false)),(.d (.sl ((z4.Kids).map au) false))],.box b5 [(.d (.str z3.Tag)),(.d (.str z3.Key)),(.d (.str z3.Text)),(.d (.sl ((z3.aQ).map az) false)),(.d (.sl ((z3.Kids).map au) false))],.grow v48 ((x47).map (D.int .i64))]) (H46.sl [3,4,5,0,1,2] rfl rfl) rfl (aJ rfl rfl) (nO E n _ _ _ _ hzz66 b22 v28 ws29 w30) (.cons (.refl _) (.cons (.refl _) (.cons (.refl _) .nil))) rfl ?_
     rintro _ S70 _ ⟨rfl,v67,ws68,w69,rfl⟩ H71
     have H72:Has aM S70 [.box b8 [(.d (.str z4.Tag)),(.d (.str z4.Key)),(.d (.str z4.Text)),(.d (.sl ((z4.aQ).map az) false)),(.d (.sl ((z4.Kids).map au) false))],.box b5 [(.d (.str z3.Tag)),(.d (.str z3.Key)),(.d (.str z3.Text)),(.d (.sl ((z3.aQ).map az) false)),(.d (.sl ((z3.Kids).map au) false))],.grow v48 ((x47).map (D.int .i64)),.box b22 [v67,w69],ay ae ah.kids 7 5 v67 ws68 z66.2.l none,aG w69 z66.2.freed]:=H71.sl [3,4,5,0,1,2] rfl rfl
     refine ai.val rfl (qF rfl) rfl ?_
     refine ai.nil ?_
     refine aB.cond rfl (fun hb73=>?_) (fun hb73=>?_)
     ·
      replace h:=dK hb73 h
      refine aB.seq ?_
      refine aB.region E.obj rfl ?_
      refine ai.val rfl (ak rfl) rfl ?_
      refine ai.nil ?_
      have hr:=Option.some.inj h
      subst hr
      exact aB.ret ⟨_,rfl,rfl,mW (bM.eq .nil)⟩
     ·
      replace h:=dJ hb73 h
      refine aB.skip ?_
      refine aB.seq ?_
      refine aB.seq ?_
      refine aB.region E.obj rfl ?_
      refine ai.val rfl (aa rfl) rfl ?_
      refine ai.val rfl (aa rfl) rfl ?_
      obtain ⟨z74,hzz74,h⟩:=bind_some h
      refine ai.fw (ins:=[.box b22 [v67,w69],ay ae ah.kids 7 5 v67 ws68 z66.2.l none,aG w69 z66.2.freed]) (more:=[.box b8 [(.d (.str z4.Tag)),(.d (.str z4.Key)),(.d (.str z4.Text)),(.d (.sl ((z4.aQ).map az) false)),(.d (.sl ((z4.Kids).map au) false))],.box b5 [(.d (.str z3.Tag)),(.d (.str z3.Key)),(.d (.str z3.Text)),(.d (.sl ((z3.aQ).map az) false)),(.d (.sl ((z3.Kids).map au) false))],.grow v48 ((x47).map (D.int .i64))]) (H72.sl [3,4,5,0,1,2] rfl rfl) rfl (aJ rfl rfl) (iQ E n _ _ _ hzz74 b22 v67 ws68 w69) (.cons (.refl _) (.cons (.refl _) .nil)) rfl ?_
      rintro _ S75 _ ⟨rfl,rfl⟩ H76
      have H77:Has aM S75 [.box b8 [(.d (.str z4.Tag)),(.d (.str z4.Key)),(.d (.str z4.Text)),(.d (.sl ((z4.aQ).map az) false)),(.d (.sl ((z4.Kids).map au) false))],.box b5 [(.d (.str z3.Tag)),(.d (.str z3.Key)),(.d (.str z3.Text)),(.d (.sl ((z3.aQ).map az) false)),(.d (.sl ((z3.Kids).map au) false))],.grow v48 ((x47).map (D.int .i64)),.box b22 [v67,w69],ay ae ah.kids 7 5 v67 ws68 z66.2.l none,aG w69 z66.2.freed]:=H76.sl [3,4,5,0,1,2] rfl rfl
      refine ai.val rfl (bF rfl jh) rfl ?_
      refine ai.val rfl (aa rfl) rfl ?_
      refine ai.nil ?_
      refine aB.block ?_
      have H128:=H77.Cq
      refine o9.start (B:=aM) (α:=(List Int) × AV × Int) (fun k a=>aV n a2 z4 z27 x47 z66 z74 k a.1 a.2.2=some r) (fun a=>[(1,(.d (.sl ((a2).map D.str) false))),(7,(.ptr b8 0 0)),(8,(.ptr b22 0 0)),(9,(.d (.int .i64 z27.1))),(10,v48),(11,a.2.1),(66,(.d (.sl ((z74).map (D.int .i64)) false))),(67,(.d (.int .i64 ((z74).length:Int)))),(68,(.d (.int .i64 a.2.2)))]) (fun a=>[.box b8 [(.d (.str z4.Tag)),(.d (.str z4.Key)),(.d (.str z4.Text)),(.d (.sl ((z4.aQ).map az) false)),(.d (.sl ((z4.Kids).map au) false))],.grow v48 ((x47).map (D.int .i64)),.grow a.2.1 ((a.1).map (D.int .i64)),.box b22 [v67,w69],ay ae ah.kids 7 5 v67 ws68 z66.2.l none,aG w69 z66.2.freed]) ?_ ?_ n ⟨⟨[],(.d .aT),0⟩,_,_,S75,.refl _ _,.refl _,(aj.r rfl (aj.r rfl (aj.r rfl (aj.r rfl (aj.r rfl (aj.r rfl (aj.r rfl (aj.r rfl (aj.r rfl aj.nil))))))))),H128.sl [1,3,0,4,5,6] rfl rfl,h⟩
      ·
       intro a h; simp [aV] at h
      ·
       intro k90 a S85 H86 h
       obtain ⟨x87,v88,x89⟩:=a
       replace h:aV n a2 z4 z27 x47 z66 z74 (k90 + 1) x87 x89=some r:=h
       replace H86:Has aM S85 [.box b8 [(.d (.str z4.Tag)),(.d (.str z4.Key)),(.d (.str z4.Text)),(.d (.sl ((z4.aQ).map az) false)),(.d (.sl ((z4.Kids).map au) false))],.grow v48 ((x47).map (D.int .i64)),.grow v88 ((x87).map (D.int .i64)),.box b22 [v67,w69],ay ae ah.kids 7 5 v67 ws68 z66.2.l none,aG w69 z66.2.freed]:=H86
       unfold aV at h
       refine aB.seq ?_
       refine aB.region E.obj rfl ?_
       refine ai.val rfl (aH rfl rfl dG) rfl ?_
       refine ai.nil ?_
       refine aB.seq ?_
       refine aB.cond rfl (fun hb91=>?_) (fun hb91=>?_)
       ·
        replace h:=dK hb91 h
        refine aB.skip ?_
        refine aB.join (B:=aM) (α:=(List Int) × AV) (fun a=>bY x89 (aV n a2 z4 z27 x47 z66 z74 k90) a.1=some r) (fun a=>[(1,(.d (.sl ((a2).map D.str) false))),(7,(.ptr b8 0 0)),(8,(.ptr b22 0 0)),(9,(.d (.int .i64 z27.1))),(10,v48),(11,a.2),(66,(.d (.sl ((z74).map (D.int .i64)) false))),(67,(.d (.int .i64 ((z74).length:Int)))),(68,(.d (.int .i64 x89)))]) (fun a=>[.box b8 [(.d (.str z4.Tag)),(.d (.str z4.Key)),(.d (.str z4.Text)),(.d (.sl ((z4.aQ).map az) false)),(.d (.sl ((z4.Kids).map au) false))],.grow v48 ((x47).map (D.int .i64)),.grow a.2 ((a.1).map (D.int .i64)),.box b22 [v67,w69],ay ae ah.kids 7 5 v67 ws68 z66.2.l none,aG w69 z66.2.freed]) ?_ ?_
        ·
         intro a S92 H93 h
         obtain ⟨x94,v95⟩:=a
         replace h:bY x89 (aV n a2 z4 z27 x47 z66 z74 k90) x94=some r:=h
         replace H93:Has aM S92 [.box b8 [(.d (.str z4.Tag)),(.d (.str z4.Key)),(.d (.str z4.Text)),(.d (.sl ((z4.aQ).map az) false)),(.d (.sl ((z4.Kids).map au) false))],.grow v48 ((x47).map (D.int .i64)),.grow v95 ((x94).map (D.int .i64)),.box b22 [v67,w69],ay ae ah.kids 7 5 v67 ws68 z66.2.l none,aG w69 z66.2.freed]:=H93
         unfold bY at h
         refine aB.region E.obj rfl ?_
         refine ai.val rfl (aH rfl rfl dZ) rfl ?_
         refine ai.val rfl (aa rfl) rfl ?_
         refine ai.nil ?_
         exact ⟨⟨x94,v95,(IntKind.wrap .i64 (x89 + 1))⟩,_,_,S92,.refl _ _,.refl _,(aj.r rfl (aj.r rfl (aj.r rfl (aj.r rfl (aj.r rfl (aj.r rfl (aj.r rfl (aj.r rfl (aj.r rfl aj.nil))))))))),H93.sl [0,1,2,3,4,5] rfl rfl,h⟩
        ·
         refine aB.block ?_
         refine aB.seq ?_
         refine aB.region E.obj rfl ?_
         refine ai.val rfl (aa rfl) rfl ?_
         obtain ⟨z97,hzz97,h⟩:=bind_some h
         refine ai.val rfl (bE rfl rfl (bW (enc:=(D.int .i64)) hzz97 dX oP (((fun _=>rfl) _).trans jA.symm))) rfl ?_
         refine ai.val rfl (aY rfl (bL nG rfl)) rfl ?_
         refine ai.val rfl (ak rfl) rfl ?_
         refine ai.val rfl (ak rfl) rfl ?_
         refine ai.nil ?_
         refine aB.seq ?_
         refine aB.region E.obj rfl ?_
         refine ai.val rfl (aa rfl) rfl ?_
         refine ai.val rfl (aD rfl iq nX rfl) rfl ?_
         refine ai.val rfl (aI H86 (i:=0) rfl rfl (aR qz rfl)) rfl ?_
         refine ai.val rfl (bF rfl zo) rfl ?_
         refine ai.val rfl (aH rfl rfl dG) rfl ?_
         refine ai.val rfl (aa rfl) rfl ?_
         obtain ⟨z99,hzz99,h⟩:=bind_some h
         refine ai.jG 8 86 (.d (.bool z99)) ?_ ?_
         ·
          rcases Bool.eq_false_or_eq_true ((decide (x89 < ((z4.Kids).length:Int)))) with hB98 | hB98
          ·
           refine ai.bool hB98 ?_
           replace hzz99:=dK hB98 hzz99
           refine ai.val rfl (aD rfl iq nX rfl) rfl ?_
           refine ai.val rfl (aI H86 (i:=0) rfl rfl (aR qz rfl)) rfl ?_
           refine ai.val rfl (aa rfl) rfl ?_
           obtain ⟨z100,hzz100,hzz99⟩:=bind_some hzz99
           refine ai.val rfl (bE rfl rfl (bW (enc:=au) hzz100 qc lJ ((Tree.len _).trans dF.symm))) rfl ?_
           refine ai.val rfl (pU rfl nN sK rfl) rfl ?_
           refine ai.val rfl (aY rfl (by rw [Tree.cells]; exact bL rZ rfl)) rfl ?_
           refine ai.val rfl (aH rfl rfl kQ) rfl ?_
           refine ai.val rfl (aF (b:=true) rfl rfl) rfl ?_
           cases hzz99
           exact ai.nil ⟨_,rfl,(aj.put (aj.push rfl (aj.push rfl (aj.push rfl (aj.push rfl (aj.push rfl (aj.push rfl (aj.push rfl (aj.put (.refl _) (Less.eq (by rw [hB98])))))))))) (.refl _))⟩
          ·
           refine ai.bool hB98 ?_
           refine ai.no rfl rfl ?_
           refine ai.no rfl rfl ?_
           refine ai.no rfl rfl ?_
           refine ai.no rfl rfl ?_
           refine ai.no rfl rfl ?_
           refine ai.no rfl rfl ?_
           refine ai.no rfl rfl ?_
           refine ai.val rfl (aF (b:=false) rfl rfl) rfl ?_
           replace hzz99:=dJ hB98 hzz99
           cases hzz99
           exact ai.nil ⟨_,rfl,(aj.put (aj.push rfl (aj.push rfl (aj.push rfl (aj.push rfl (aj.push rfl (aj.push rfl (aj.push rfl (aj.put (.refl _) (Less.eq (by rw [hB98])))))))))) (.refl _))⟩
         ·
          refine ai.nil ?_
          refine aB.cond rfl (fun hb101=>?_) (fun hb101=>?_)
          ·
           replace h:=dK hb101 h
           refine aB.region E.obj rfl ?_
           refine ai.val rfl (aa rfl) rfl ?_
           refine ai.val rfl (aa rfl) rfl ?_
           refine ai.val rfl (dO (vs:=[(.d (.int .i64 z97))]) (ds:=[(.int .i64 z97)]) AU dX nG ED jA rfl (by decide) (.cons rfl rfl .nil) rfl (by intro d hd; simp only [List.mem_cons,List.not_mem_nil,or_false] at hd; rcases hd with rfl <;> rfl) rfl) rfl ?_
           obtain ⟨z102,hzz102,h⟩:=bind_some h
           refine ai.append (xs:=(x87).map (D.int .i64)) (ys:=([z97]).map (D.int .i64)) (zs:=(z102).map (D.int .i64)) H86 rfl rfl rfl (i:=2) rfl rfl AU FY dX (jw hzz102) F9 rfl (dP (enc:=(D.int .i64)) (fun _=>jA.symm) _) (dP (enc:=(D.int .i64)) (fun _=>jA.symm) _) Jw rfl (pG hzz102) (fun v103 S104 H105=>?_)
           refine ai.val rfl (ak rfl) rfl ?_
           refine ai.nil ?_
           exact ⟨⟨z102,v103⟩,_,_,S104,.refl _ _,.refl _,(aj.r rfl (aj.r rfl (aj.r rfl (aj.r rfl (aj.r rfl (aj.r rfl (aj.r rfl (aj.r rfl (aj.r rfl aj.nil))))))))),H105.sl [0,1,2,3,4,5] rfl rfl,h⟩
          ·
           replace h:=dJ hb101 h
           refine aB.skip ?_
           exact ⟨⟨x87,v88⟩,_,_,S85,.refl _ _,.refl _,(aj.r rfl (aj.r rfl (aj.r rfl (aj.r rfl (aj.r rfl (aj.r rfl (aj.r rfl (aj.r rfl (aj.r rfl aj.nil))))))))),H86.sl [0,1,2,3,4,5] rfl rfl,h⟩
       ·
        replace h:=dJ hb91 h
        refine aB.exit ?_
        refine aB.seq ?_
        refine aB.region E.obj rfl ?_
        refine ai.val rfl (aa rfl) rfl ?_
        refine ai.val rfl (qX H86 (i:=1) rfl rfl jh) rfl ?_
        refine ai.val rfl (aa rfl) rfl ?_
        refine ai.val rfl (qX H86 (i:=2) rfl rfl jh) rfl ?_
        refine ai.val rfl (oF rfl rfl) rfl ?_
        refine ai.val rfl (ak rfl) rfl ?_
        refine ai.nil ?_
        refine aB.seq ?_
        refine aB.region E.obj rfl ?_
        refine ai.val rfl (aa rfl) rfl ?_
        refine ai.val rfl (aa rfl) rfl ?_
        obtain ⟨z106,hzz106,h⟩:=bind_some h
        refine ai.fw (ins:=[.box b22 [v67,w69],ay ae ah.kids 7 5 v67 ws68 z66.2.l none,aG w69 z66.2.freed]) (more:=[.box b8 [(.d (.str z4.Tag)),(.d (.str z4.Key)),(.d (.str z4.Text)),(.d (.sl ((z4.aQ).map az) false)),(.d (.sl ((z4.Kids).map au) false))],.grow v48 ((x47).map (D.int .i64)),.grow v88 ((x87).map (D.int .i64))]) (H86.sl [3,4,5,0,1,2] rfl rfl) rfl (aJ rfl rfl) (lL E n _ _ _ hzz106 b22 v67 ws68 w69) (.cons (.refl _) (.cons (.refl _) .nil)) rfl ?_
        rintro _ S107 _ ⟨rfl,rfl⟩ H108
        have H109:Has aM S107 [.box b8 [(.d (.str z4.Tag)),(.d (.str z4.Key)),(.d (.str z4.Text)),(.d (.sl ((z4.aQ).map az) false)),(.d (.sl ((z4.Kids).map au) false))],.grow v48 ((x47).map (D.int .i64)),.grow v88 ((x87).map (D.int .i64)),.box b22 [v67,w69],ay ae ah.kids 7 5 v67 ws68 z66.2.l none,aG w69 z66.2.freed]:=H108.sl [3,4,5,0,1,2] rfl rfl
        refine ai.val rfl (aa rfl) rfl ?_
        refine ai.val rfl (jq rfl rfl) rfl ?_
        refine ai.val rfl (jq rfl rfl) rfl ?_
        refine ai.alloc H109 rfl uf jM rfl rfl (fun b110 S111 H112=>?_)
        refine ai.store H112 (i:=0) rfl rfl rfl rfl (Tree.fD _) rfl dF rfl lJ rfl rfl rfl (fun S113 H114=>?_)
        refine ai.val rfl (ak rfl) rfl ?_
        refine ai.nil ?_
        refine aB.join (B:=aM) (α:=Bool) (fun a=>bJ a=some r) (fun a=>[(4,(.d (.bool a)))]) (fun a=>[]) ?_ ?_
        ·
         intro x117 S115 H116 h
         replace h:bJ x117=some r:=h
         replace H116:Has aM S115 []:=H116
         unfold bJ at h
         have hr:=Option.some.inj h
         subst hr
         exact aB.ret ⟨_,rfl,rfl,mW (bM.eq .nil)⟩
        ·
         rcases Bool.eq_false_or_eq_true (z106.2) with hb119 | hb119
         ·
          replace h:=dK hb119 h
          obtain ⟨z120,hzz120,h⟩:=bind_some h
          rcases Bool.eq_false_or_eq_true (z120) with hb121 | hb121
          ·
           replace h:=dK hb121 h
           obtain ⟨z122,hzz122,h⟩:=bind_some h
           obtain ⟨z123,hzz123,h⟩:=bind_some h
           obtain ⟨z124,hzz124,h⟩:=bind_some h
           rcases Bool.eq_false_or_eq_true (z124) with hb125 | hb125
           ·
            replace h:=dK hb125 h
            rcases Bool.eq_false_or_eq_true ((((x87).length:Int) == (jl ((a2).length:Int) 9))) with hb126 | hb126
            ·
             replace h:=dK hb126 h
             obtain ⟨z127,hzz127,h⟩:=bind_some h
             refine aB.gQ E.obj kF EX [(4,some 26)] (by kernel_rfl) [] (by decide) [some (.d (.bool z106.2)),some (.d (.bool true)),some (.d (au z106.1)),some (.d (au z4)),some (.d (.bool z120)),some (.d (.bool z120)),some (.d (.bool true)),some v48,some (.d (.int .i64 (jl ((x47).length:Int) ((x87).length:Int)))),some (.d (.sl ((z122).map (D.int .i64)) false)),some v88,some (.d (.int .i64 (jl ((x47).length:Int) ((x87).length:Int)))),some (.d (.sl ((z123).map (D.int .i64)) false)),some (.d (.bool z124)),some (.d (.bool z124)),some (.d (.bool true)),some v88,some (.d (.int .i64 ((x87).length:Int))),some (.d (.sl ((a2).map D.str) false)),some (.d (.int .i64 ((a2).length:Int))),some (.d (.int .i64 (jl ((a2).length:Int) 9))),some (.d (.bool (((x87).length:Int) == (jl ((a2).length:Int) 9)))),some (.d (.bool (((x87).length:Int) == (jl ((a2).length:Int) 9)))),some (.d (.bool true)),some (.d (.bool z127)),some (.d (.bool z127)),some (.d (.bool z127))] ?_
             refine ⟨[0,1,2,3,4,5,6,7,8,9,10,11,12,13,14,15,16,17,18,19,20,21,22,23,24,25,26],by kernel_rfl,?_,_,rfl,?_⟩
             ·
              refine .v rfl rfl rfl rfl (aa rfl) ?_
              refine .cons rfl rfl rfl (.val rfl (aa rfl) (.eq (by rw [hb119]))) ?_
              refine .cons rfl rfl rfl (.step ?_) ?_
              ·
               refine ai.val rfl (aI H114 (i:=0) rfl rfl (bX ig dF rfl)) rfl ?_
               refine ai.less (Less.agg' (d:=au z106.1) (aC.eq rfl (aC.eq rfl (aC.eq rfl (aC.eq rfl (aC.eq rfl .nil))))) ((Tree.eq _).trans rfl)) ?_
               exact ai.nil ⟨_,_,rfl,fun _ ht=>by cases ht; exact ⟨rfl,.refl _⟩⟩
              refine .cons rfl rfl rfl (.step ?_) ?_
              ·
               refine ai.val rfl (aI H114 (i:=1) rfl rfl (bX ig dF rfl)) rfl ?_
               refine ai.less (Less.agg' (d:=au z4) (aC.eq rfl (aC.eq rfl (aC.eq rfl (aC.eq rfl (aC.eq rfl .nil))))) ((Tree.eq _).trans rfl)) ?_
               exact ai.nil ⟨_,_,rfl,fun _ ht=>by cases ht; exact ⟨rfl,.refl _⟩⟩
              refine .cons rfl rfl rfl (.step ?_) ?_
              ·
               refine ai.ret rfl (aJ rfl rfl) (fU E _ _ _ _ hzz120 _ _ (bM.eq (bM.eq .nil))) rfl ?_
               exact ai.nil ⟨_,_,rfl,fun _ ht=>by cases ht; exact ⟨rfl,.refl _⟩⟩
              refine .v rfl rfl rfl rfl (aF (b:=true) rfl rfl) ?_
              refine .cons rfl rfl rfl (.val rfl (aa rfl) (.eq (by rw [hb121]))) ?_
              refine .v rfl rfl rfl rfl (aa rfl) ?_
              refine .v rfl rfl rfl rfl (aa rfl) ?_
              refine .cons rfl rfl rfl (.step ?_) ?_
              ·
               refine ai.weak (aj.cons (t:=110) rfl (vE H114 (i:=2) rfl) (.refl _)) ?_
               refine ai.val rfl (kL rfl rfl dX vY (fun z=>((fun _=>rfl) z).trans jA.symm) hzz122) rfl ?_
               exact ai.nil ⟨_,_,rfl,fun _ ht=>by cases ht; exact ⟨rfl,.refl _⟩⟩
              refine .v rfl rfl rfl rfl (aa rfl) ?_
              refine .v rfl rfl rfl rfl (aa rfl) ?_
              refine .cons rfl rfl rfl (.step ?_) ?_
              ·
               refine ai.weak (aj.cons (t:=113) rfl (vE H114 (i:=3) rfl) (.refl _)) ?_
               refine ai.val rfl (kL rfl rfl dX vY (fun z=>((fun _=>rfl) z).trans jA.symm) hzz123) rfl ?_
               exact ai.nil ⟨_,_,rfl,fun _ ht=>by cases ht; exact ⟨rfl,.refl _⟩⟩
              refine .cons rfl rfl rfl (.step ?_) ?_
              ·
               refine ai.ret rfl (aJ rfl rfl) (il E _ _ _ _ hzz124 _ _ (bM.eq (bM.eq .nil))) rfl ?_
               exact ai.nil ⟨_,_,rfl,fun _ ht=>by cases ht; exact ⟨rfl,.refl _⟩⟩
              refine .v rfl rfl rfl rfl (aF (b:=true) rfl rfl) ?_
              refine .cons rfl rfl rfl (.val rfl (aa rfl) (.eq (by rw [hb125]))) ?_
              refine .v rfl rfl rfl rfl (aa rfl) ?_
              refine .v rfl rfl rfl rfl (qX H114 (i:=3) rfl rfl jh) ?_
              refine .v rfl rfl rfl rfl (aa rfl) ?_
              refine .v rfl rfl rfl rfl (bF rfl IJ) ?_
              refine .v rfl rfl rfl rfl (oF rfl rfl) ?_
              refine .v rfl rfl rfl rfl (aH rfl rfl bD) ?_
              refine .v rfl rfl rfl rfl (aF (b:=true) rfl rfl) ?_
              refine .cons rfl rfl rfl (.val rfl (aa rfl) (.eq (by rw [hb126]))) ?_
              refine .cons rfl rfl rfl (.step ?_) ?_
              ·
               refine ai.ret rfl (aJ rfl rfl) (mX E _  _ hzz127 _ _ .nil) rfl ?_
               exact ai.nil ⟨_,_,rfl,fun _ ht=>by cases ht; exact ⟨rfl,.refl _⟩⟩
              refine .v rfl rfl rfl rfl (aF (b:=true) rfl rfl) ?_
              refine .v rfl rfl rfl rfl (ak rfl) ?_
              exact .nil
             exact ⟨z127,_,_,S113,.refl _ _,.refl _,(aj.r rfl aj.nil),H114.sl [] rfl rfl,h⟩
            ·
             replace h:=dJ hb126 h
             refine aB.gQ E.obj kF EX [(4,some 26)] (by kernel_rfl) [] (by decide) [some (.d (.bool z106.2)),some (.d (.bool true)),some (.d (au z106.1)),some (.d (au z4)),some (.d (.bool z120)),some (.d (.bool z120)),some (.d (.bool true)),some v48,some (.d (.int .i64 (jl ((x47).length:Int) ((x87).length:Int)))),some (.d (.sl ((z122).map (D.int .i64)) false)),some v88,some (.d (.int .i64 (jl ((x47).length:Int) ((x87).length:Int)))),some (.d (.sl ((z123).map (D.int .i64)) false)),some (.d (.bool z124)),some (.d (.bool z124)),some (.d (.bool true)),some v88,some (.d (.int .i64 ((x87).length:Int))),some (.d (.sl ((a2).map D.str) false)),some (.d (.int .i64 ((a2).length:Int))),some (.d (.int .i64 (jl ((a2).length:Int) 9))),some (.d (.bool (((x87).length:Int) == (jl ((a2).length:Int) 9)))),some (.d (.bool (((x87).length:Int) == (jl ((a2).length:Int) 9)))),some (.d (.bool false)),some (.tup []),some (.d (.bool false)),some (.d (.bool false))] ?_
             refine ⟨[0,1,2,3,4,5,6,7,8,9,10,11,12,13,14,15,16,17,18,19,20,21,22,23,24,25,26],by kernel_rfl,?_,_,rfl,?_⟩
             ·
              refine .v rfl rfl rfl rfl (aa rfl) ?_
              refine .cons rfl rfl rfl (.val rfl (aa rfl) (.eq (by rw [hb119]))) ?_
              refine .cons rfl rfl rfl (.step ?_) ?_
              ·
               refine ai.val rfl (aI H114 (i:=0) rfl rfl (bX ig dF rfl)) rfl ?_
               refine ai.less (Less.agg' (d:=au z106.1) (aC.eq rfl (aC.eq rfl (aC.eq rfl (aC.eq rfl (aC.eq rfl .nil))))) ((Tree.eq _).trans rfl)) ?_
               exact ai.nil ⟨_,_,rfl,fun _ ht=>by cases ht; exact ⟨rfl,.refl _⟩⟩
              refine .cons rfl rfl rfl (.step ?_) ?_
              ·
               refine ai.val rfl (aI H114 (i:=1) rfl rfl (bX ig dF rfl)) rfl ?_
               refine ai.less (Less.agg' (d:=au z4) (aC.eq rfl (aC.eq rfl (aC.eq rfl (aC.eq rfl (aC.eq rfl .nil))))) ((Tree.eq _).trans rfl)) ?_
               exact ai.nil ⟨_,_,rfl,fun _ ht=>by cases ht; exact ⟨rfl,.refl _⟩⟩
              refine .cons rfl rfl rfl (.step ?_) ?_
              ·
               refine ai.ret rfl (aJ rfl rfl) (fU E _ _ _ _ hzz120 _ _ (bM.eq (bM.eq .nil))) rfl ?_
               exact ai.nil ⟨_,_,rfl,fun _ ht=>by cases ht; exact ⟨rfl,.refl _⟩⟩
              refine .v rfl rfl rfl rfl (aF (b:=true) rfl rfl) ?_
              refine .cons rfl rfl rfl (.val rfl (aa rfl) (.eq (by rw [hb121]))) ?_
              refine .v rfl rfl rfl rfl (aa rfl) ?_
              refine .v rfl rfl rfl rfl (aa rfl) ?_
              refine .cons rfl rfl rfl (.step ?_) ?_
              ·
               refine ai.weak (aj.cons (t:=110) rfl (vE H114 (i:=2) rfl) (.refl _)) ?_
               refine ai.val rfl (kL rfl rfl dX vY (fun z=>((fun _=>rfl) z).trans jA.symm) hzz122) rfl ?_
               exact ai.nil ⟨_,_,rfl,fun _ ht=>by cases ht; exact ⟨rfl,.refl _⟩⟩
              refine .v rfl rfl rfl rfl (aa rfl) ?_
              refine .v rfl rfl rfl rfl (aa rfl) ?_
              refine .cons rfl rfl rfl (.step ?_) ?_
              ·
               refine ai.weak (aj.cons (t:=113) rfl (vE H114 (i:=3) rfl) (.refl _)) ?_
               refine ai.val rfl (kL rfl rfl dX vY (fun z=>((fun _=>rfl) z).trans jA.symm) hzz123) rfl ?_
               exact ai.nil ⟨_,_,rfl,fun _ ht=>by cases ht; exact ⟨rfl,.refl _⟩⟩
              refine .cons rfl rfl rfl (.step ?_) ?_
              ·
               refine ai.ret rfl (aJ rfl rfl) (il E _ _ _ _ hzz124 _ _ (bM.eq (bM.eq .nil))) rfl ?_
               exact ai.nil ⟨_,_,rfl,fun _ ht=>by cases ht; exact ⟨rfl,.refl _⟩⟩
              refine .v rfl rfl rfl rfl (aF (b:=true) rfl rfl) ?_
              refine .cons rfl rfl rfl (.val rfl (aa rfl) (.eq (by rw [hb125]))) ?_
              refine .v rfl rfl rfl rfl (aa rfl) ?_
              refine .v rfl rfl rfl rfl (qX H114 (i:=3) rfl rfl jh) ?_
              refine .v rfl rfl rfl rfl (aa rfl) ?_
              refine .v rfl rfl rfl rfl (bF rfl IJ) ?_
              refine .v rfl rfl rfl rfl (oF rfl rfl) ?_
              refine .v rfl rfl rfl rfl (aH rfl rfl bD) ?_
              refine .v rfl rfl rfl rfl (aF (b:=true) rfl rfl) ?_
              refine .cons rfl rfl rfl (.val rfl (aa rfl) (.eq (by rw [hb126]))) ?_
              refine .cons rfl rfl rfl (.no rfl (.refl _)) ?_
              refine .v rfl rfl rfl rfl (aF (b:=false) rfl rfl) ?_
              refine .v rfl rfl rfl rfl (ak rfl) ?_
              exact .nil
             exact ⟨false,_,_,S113,.refl _ _,.refl _,(aj.r rfl aj.nil),H114.sl [] rfl rfl,h⟩
           ·
            replace h:=dJ hb125 h
            refine aB.gQ E.obj kF EX [(4,some 26)] (by kernel_rfl) [] (by decide) [some (.d (.bool z106.2)),some (.d (.bool true)),some (.d (au z106.1)),some (.d (au z4)),some (.d (.bool z120)),some (.d (.bool z120)),some (.d (.bool true)),some v48,some (.d (.int .i64 (jl ((x47).length:Int) ((x87).length:Int)))),some (.d (.sl ((z122).map (D.int .i64)) false)),some v88,some (.d (.int .i64 (jl ((x47).length:Int) ((x87).length:Int)))),some (.d (.sl ((z123).map (D.int .i64)) false)),some (.d (.bool z124)),some (.d (.bool z124)),some (.d (.bool false)),some (.tup []),some (.tup []),some (.tup []),some (.tup []),some (.tup []),some (.tup []),some (.d (.bool false)),some (.d (.bool false)),some (.tup []),some (.d (.bool false)),some (.d (.bool false))] ?_
            refine ⟨[0,1,2,3,4,5,6,7,8,9,10,11,12,13,14,15,16,17,18,19,20,21,22,23,24,25,26],by kernel_rfl,?_,_,rfl,?_⟩
            ·
             refine .v rfl rfl rfl rfl (aa rfl) ?_
             refine .cons rfl rfl rfl (.val rfl (aa rfl) (.eq (by rw [hb119]))) ?_
             refine .cons rfl rfl rfl (.step ?_) ?_
             ·
              refine ai.val rfl (aI H114 (i:=0) rfl rfl (bX ig dF rfl)) rfl ?_
              refine ai.less (Less.agg' (d:=au z106.1) (aC.eq rfl (aC.eq rfl (aC.eq rfl (aC.eq rfl (aC.eq rfl .nil))))) ((Tree.eq _).trans rfl)) ?_
              exact ai.nil ⟨_,_,rfl,fun _ ht=>by cases ht; exact ⟨rfl,.refl _⟩⟩
             refine .cons rfl rfl rfl (.step ?_) ?_
             ·
              refine ai.val rfl (aI H114 (i:=1) rfl rfl (bX ig dF rfl)) rfl ?_
              refine ai.less (Less.agg' (d:=au z4) (aC.eq rfl (aC.eq rfl (aC.eq rfl (aC.eq rfl (aC.eq rfl .nil))))) ((Tree.eq _).trans rfl)) ?_
              exact ai.nil ⟨_,_,rfl,fun _ ht=>by cases ht; exact ⟨rfl,.refl _⟩⟩
             refine .cons rfl rfl rfl (.step ?_) ?_
             ·
              refine ai.ret rfl (aJ rfl rfl) (fU E _ _ _ _ hzz120 _ _ (bM.eq (bM.eq .nil))) rfl ?_
              exact ai.nil ⟨_,_,rfl,fun _ ht=>by cases ht; exact ⟨rfl,.refl _⟩⟩
             refine .v rfl rfl rfl rfl (aF (b:=true) rfl rfl) ?_
             refine .cons rfl rfl rfl (.val rfl (aa rfl) (.eq (by rw [hb121]))) ?_
             refine .v rfl rfl rfl rfl (aa rfl) ?_
             refine .v rfl rfl rfl rfl (aa rfl) ?_
             refine .cons rfl rfl rfl (.step ?_) ?_
             ·
              refine ai.weak (aj.cons (t:=110) rfl (vE H114 (i:=2) rfl) (.refl _)) ?_
              refine ai.val rfl (kL rfl rfl dX vY (fun z=>((fun _=>rfl) z).trans jA.symm) hzz122) rfl ?_
              exact ai.nil ⟨_,_,rfl,fun _ ht=>by cases ht; exact ⟨rfl,.refl _⟩⟩
             refine .v rfl rfl rfl rfl (aa rfl) ?_
             refine .v rfl rfl rfl rfl (aa rfl) ?_
             refine .cons rfl rfl rfl (.step ?_) ?_
             ·
              refine ai.weak (aj.cons (t:=113) rfl (vE H114 (i:=3) rfl) (.refl _)) ?_
              refine ai.val rfl (kL rfl rfl dX vY (fun z=>((fun _=>rfl) z).trans jA.symm) hzz123) rfl ?_
              exact ai.nil ⟨_,_,rfl,fun _ ht=>by cases ht; exact ⟨rfl,.refl _⟩⟩
             refine .cons rfl rfl rfl (.step ?_) ?_
             ·
              refine ai.ret rfl (aJ rfl rfl) (il E _ _ _ _ hzz124 _ _ (bM.eq (bM.eq .nil))) rfl ?_
              exact ai.nil ⟨_,_,rfl,fun _ ht=>by cases ht; exact ⟨rfl,.refl _⟩⟩
             refine .v rfl rfl rfl rfl (aF (b:=true) rfl rfl) ?_
             refine .cons rfl rfl rfl (.val rfl (aa rfl) (.eq (by rw [hb125]))) ?_
             refine .cons rfl rfl rfl (.no rfl (.refl _)) ?_
             refine .cons rfl rfl rfl (.no rfl (.refl _)) ?_
             refine .cons rfl rfl rfl (.no rfl (.refl _)) ?_
             refine .cons rfl rfl rfl (.no rfl (.refl _)) ?_
             refine .cons rfl rfl rfl (.no rfl (.refl _)) ?_
             refine .cons rfl rfl rfl (.no rfl (.refl _)) ?_
             refine .v rfl rfl rfl rfl (aF (b:=false) rfl rfl) ?_
             refine .v rfl rfl rfl rfl (aa rfl) ?_
             refine .cons rfl rfl rfl (.no rfl (.refl _)) ?_
             refine .v rfl rfl rfl rfl (aF (b:=false) rfl rfl) ?_
             refine .v rfl rfl rfl rfl (ak rfl) ?_
             exact .nil
            exact ⟨false,_,_,S113,.refl _ _,.refl _,(aj.r rfl aj.nil),H114.sl [] rfl rfl,h⟩
          ·
           replace h:=dJ hb121 h
           refine aB.gQ E.obj kF EX [(4,some 26)] (by kernel_rfl) [] (by decide) [some (.d (.bool z106.2)),some (.d (.bool true)),some (.d (au z106.1)),some (.d (au z4)),some (.d (.bool z120)),some (.d (.bool z120)),some (.d (.bool false)),some (.tup []),some (.tup []),some (.tup []),some (.tup []),some (.tup []),some (.tup []),some (.tup []),some (.d (.bool false)),some (.d (.bool false)),some (.tup []),some (.tup []),some (.tup []),some (.tup []),some (.tup []),some (.tup []),some (.d (.bool false)),some (.d (.bool false)),some (.tup []),some (.d (.bool false)),some (.d (.bool false))] ?_
           refine ⟨[0,1,2,3,4,5,6,7,8,9,10,11,12,13,14,15,16,17,18,19,20,21,22,23,24,25,26],by kernel_rfl,?_,_,rfl,?_⟩
           ·
            refine .v rfl rfl rfl rfl (aa rfl) ?_
            refine .cons rfl rfl rfl (.val rfl (aa rfl) (.eq (by rw [hb119]))) ?_
            refine .cons rfl rfl rfl (.step ?_) ?_
            ·
             refine ai.val rfl (aI H114 (i:=0) rfl rfl (bX ig dF rfl)) rfl ?_
             refine ai.less (Less.agg' (d:=au z106.1) (aC.eq rfl (aC.eq rfl (aC.eq rfl (aC.eq rfl (aC.eq rfl .nil))))) ((Tree.eq _).trans rfl)) ?_
             exact ai.nil ⟨_,_,rfl,fun _ ht=>by cases ht; exact ⟨rfl,.refl _⟩⟩
            refine .cons rfl rfl rfl (.step ?_) ?_
            ·
             refine ai.val rfl (aI H114 (i:=1) rfl rfl (bX ig dF rfl)) rfl ?_
             refine ai.less (Less.agg' (d:=au z4) (aC.eq rfl (aC.eq rfl (aC.eq rfl (aC.eq rfl (aC.eq rfl .nil))))) ((Tree.eq _).trans rfl)) ?_
             exact ai.nil ⟨_,_,rfl,fun _ ht=>by cases ht; exact ⟨rfl,.refl _⟩⟩
            refine .cons rfl rfl rfl (.step ?_) ?_
            ·
             refine ai.ret rfl (aJ rfl rfl) (fU E _ _ _ _ hzz120 _ _ (bM.eq (bM.eq .nil))) rfl ?_
             exact ai.nil ⟨_,_,rfl,fun _ ht=>by cases ht; exact ⟨rfl,.refl _⟩⟩
            refine .v rfl rfl rfl rfl (aF (b:=true) rfl rfl) ?_
            refine .cons rfl rfl rfl (.val rfl (aa rfl) (.eq (by rw [hb121]))) ?_
            refine .cons rfl rfl rfl (.no rfl (.refl _)) ?_
            refine .cons rfl rfl rfl (.no rfl (.refl _)) ?_
            refine .cons rfl rfl rfl (.no rfl (.refl _)) ?_
            refine .cons rfl rfl rfl (.no rfl (.refl _)) ?_
            refine .cons rfl rfl rfl (.no rfl (.refl _)) ?_
            refine .cons rfl rfl rfl (.no rfl (.refl _)) ?_
            refine .cons rfl rfl rfl (.no rfl (.refl _)) ?_
            refine .v rfl rfl rfl rfl (aF (b:=false) rfl rfl) ?_
            refine .v rfl rfl rfl rfl (aa rfl) ?_
            refine .cons rfl rfl rfl (.no rfl (.refl _)) ?_
            refine .cons rfl rfl rfl (.no rfl (.refl _)) ?_
            refine .cons rfl rfl rfl (.no rfl (.refl _)) ?_
            refine .cons rfl rfl rfl (.no rfl (.refl _)) ?_
            refine .cons rfl rfl rfl (.no rfl (.refl _)) ?_
            refine .cons rfl rfl rfl (.no rfl (.refl _)) ?_
            refine .v rfl rfl rfl rfl (aF (b:=false) rfl rfl) ?_
            refine .v rfl rfl rfl rfl (aa rfl) ?_
            refine .cons rfl rfl rfl (.no rfl (.refl _)) ?_
            refine .v rfl rfl rfl rfl (aF (b:=false) rfl rfl) ?_
            refine .v rfl rfl rfl rfl (ak rfl) ?_
            exact .nil
           exact ⟨false,_,_,S113,.refl _ _,.refl _,(aj.r rfl aj.nil),H114.sl [] rfl rfl,h⟩
         ·
          replace h:=dJ hb119 h
          refine aB.gQ E.obj kF EX [(4,some 26)] (by kernel_rfl) [] (by decide) [some (.d (.bool z106.2)),some (.d (.bool false)),some (.tup []),some (.tup []),some (.tup []),some (.d (.bool false)),some (.d (.bool false)),some (.tup []),some (.tup []),some (.tup []),some (.tup []),some (.tup []),some (.tup []),some (.tup []),some (.d (.bool false)),some (.d (.bool false)),some (.tup []),some (.tup []),some (.tup []),some (.tup []),some (.tup []),some (.tup []),some (.d (.bool false)),some (.d (.bool false)),some (.tup []),some (.d (.bool false)),some (.d (.bool false))] ?_
          refine ⟨[0,1,2,3,4,5,6,7,8,9,10,11,12,13,14,15,16,17,18,19,20,21,22,23,24,25,26],by kernel_rfl,?_,_,rfl,?_⟩
          ·
           refine .v rfl rfl rfl rfl (aa rfl) ?_
           refine .cons rfl rfl rfl (.val rfl (aa rfl) (.eq (by rw [hb119]))) ?_
           refine .cons rfl rfl rfl (.no rfl (.refl _)) ?_
           refine .cons rfl rfl rfl (.no rfl (.refl _)) ?_
           refine .cons rfl rfl rfl (.no rfl (.refl _)) ?_
           refine .v rfl rfl rfl rfl (aF (b:=false) rfl rfl) ?_
           refine .v rfl rfl rfl rfl (aa rfl) ?_
           refine .cons rfl rfl rfl (.no rfl (.refl _)) ?_
           refine .cons rfl rfl rfl (.no rfl (.refl _)) ?_
           refine .cons rfl rfl rfl (.no rfl (.refl _)) ?_
           refine .cons rfl rfl rfl (.no rfl (.refl _)) ?_
           refine .cons rfl rfl rfl (.no rfl (.refl _)) ?_
           refine .cons rfl rfl rfl (.no rfl (.refl _)) ?_
           refine .cons rfl rfl rfl (.no rfl (.refl _)) ?_
           refine .v rfl rfl rfl rfl (aF (b:=false) rfl rfl) ?_
           refine .v rfl rfl rfl rfl (aa rfl) ?_
           refine .cons rfl rfl rfl (.no rfl (.refl _)) ?_
           refine .cons rfl rfl rfl (.no rfl (.refl _)) ?_
           refine .cons rfl rfl rfl (.no rfl (.refl _)) ?_
           refine .cons rfl rfl rfl (.no rfl (.refl _)) ?_
           refine .cons rfl rfl rfl (.no rfl (.refl _)) ?_
           refine .cons rfl rfl rfl (.no rfl (.refl _)) ?_
           refine .v rfl rfl rfl rfl (aF (b:=false) rfl rfl) ?_
           refine .v rfl rfl rfl rfl (aa rfl) ?_
           refine .cons rfl rfl rfl (.no rfl (.refl _)) ?_
           refine .v rfl rfl rfl rfl (aF (b:=false) rfl rfl) ?_
           refine .v rfl rfl rfl rfl (ak rfl) ?_
           exact .nil
          exact ⟨false,_,_,S113,.refl _ _,.refl _,(aj.r rfl aj.nil),H114.sl [] rfl rfl,h⟩
end
end Pr
end Go.Ev

namespace Go.Ev
namespace Pr
set_option linter.unusedVariables false
set_option linter.unusedSimpArgs false
theorem sQ {n:Int} (h0:-9223372036854775808 ≤ n) (h1:n ≤ 9223372036854775807):IntKind.wrap .i64 n=n:=Go.IntWalk.i64_in n ⟨h0,h1⟩
theorem zq {α:Type} (l:List α) (i:Nat):idx l (i:Int)=l[i]?:=by
 unfold idx
 rw [if_pos (by omega)]
 simp
theorem fI {α:Type} {l done rest:List α} {z:α} (h:l=done ++ z :: rest):idx l (done.length:Int)=some z:=by
 rw [zq,h]; simp
theorem jR {α:Type} {nb:Nat} {l ys:List α} (h:(l.length + ys.length) * nb ≤ bound):app nb l ys=some (l ++ ys):=by
 unfold app; rw [if_pos h]
theorem bnd:bound=70368744177664:=rfl
end Pr
end Go.Ev

namespace Go.Ev
namespace Pr
set_option linter.unusedVariables false
set_option linter.unusedSimpArgs false
def nd (d:ax) (i:Int):Option ah:=if 1 ≤ i then d.l[(i - 1).toNat]? else none
theorem bV {d:ax} {i:Int} {z:ah} (h:nd d i=some z):1 ≤ i∧i ≤ d.l.length:=by
 unfold nd at h
 split at h
 ·
  have:=(List.getElem?_eq_some_iff.1 h).1
  omega
 ·
  cases h
theorem pM {d:ax} {i:Int} (h1:1 ≤ i) (h2:i ≤ d.l.length):∃ z,nd d i=some z:=by
 unfold nd; rw [if_pos h1]
 exact ⟨_,List.getElem?_eq_getElem (by omega)⟩
def dM:Nat:=100000
theorem iB {d:ax} (hl:d.l.length ≤ dM) {i:Int} {z:ah} (h:nd d i=some z):idx d.l (IntKind.wrap .i64 (i - 1))=some z:=by
 have hr:=bV h
 unfold dM at hl
 rw [sQ (by omega) (by omega)]
 unfold nd at h; rw [if_pos hr.1] at h
 unfold idx; rw [if_pos (by omega)]; exact h
def iO (d:ax) (i:Int) (z:ah):ax:={ d with l:=d.l.set (i - 1).toNat z }
theorem ni {d:ax} (hl:d.l.length ≤ dM) {i:Int} {z0:ah} (h:nd d i=some z0) (z:ah):jI d.l (IntKind.wrap .i64 (i - 1)) z=(iO d i z).l:=by
 have hr:=bV h
 unfold dM at hl
 rw [sQ (by omega) (by omega)]; rfl
theorem ik {d:ax} {i:Int} {z0:ah} (h:nd d i=some z0) (z:ah) (j:Int):nd (iO d i z) j=if j=i then some z else nd d j:=by
 have hr:=bV h
 unfold nd iO
 by_cases hj:1 ≤ j
 ·
  rw [if_pos hj,if_pos hj]
  by_cases hij:j=i
  ·
   subst hij; rw [if_pos rfl,List.getElem?_set_self (by omega)]
  ·
   rw [if_neg hij,List.getElem?_set_ne (by omega)]
 ·
  rw [if_neg hj,if_neg hj,if_neg (by omega)]
@[simp] theorem j6 (d:ax) (i:Int) (z:ah):(iO d i z).l.length=d.l.length:=by simp [iO]
@[simp] theorem Cj (d:ax) (i:Int) (z:ah):(iO d i z).freed=d.freed:=rfl
def jF (d:ax) (i:Int):Bool:=match nd d i with | some z=>z.lives | none=>false
theorem eU {d:ax} {i:Int} (h:jF d i=true):∃ z,nd d i=some z∧z.lives=true:=by
 unfold jF at h
 split at h
 ·
  exact ⟨_,‹_›,h⟩
 ·
  cases h
theorem vF {d:ax} (hl:d.l.length ≤ dM) (n:Nat) (i:Int):fE n d i=some (jF d i):=by
 unfold fE
 by_cases h:i < 1∨(d.l.length:Int) < i
 ·
  rw [if_pos (by simpa using h),Option.bind_some,if_pos rfl]
  have:nd d i=none:=by
   cases hn:nd d i with
   | none=>rfl
   | some z=>have:=bV hn; omega
  unfold jF; rw [this]
 ·
  obtain ⟨z,hz⟩:=pM (d:=d) (i:=i) (by omega) (by omega)
  rw [if_neg (by simpa using h),iB hl hz]
  simp only [Option.bind_some]
  unfold jF; rw [hz]
  cases hlv:z.lives <;> simp [hlv]
inductive Path (d:ax):Int→List Int→Prop
 | top {i:Int} {z:ah} (h:nd d i=some z) (hl:z.lives=true) (hp:z.parent=0):Path d i [i]
 | up {i:Int} {z:ah} {l:List Int} (h:nd d i=some z) (hl:z.lives=true) (hp:z.parent ≠ 0) (k:Path d z.parent l):Path d i (i :: l)
structure WF (d:ax):Prop where
 len:d.l.length ≤ 5000
 root:∃ z,nd d 1=some z∧z.lives=true∧z.parent=0∧z.tag ≠ []
 freedR:∀ i ∈ d.freed,1 < i∧i ≤ d.l.length
 freedN:d.freed.Nodup
 dead:∀ i z,nd d i=some z→(z.lives=false↔i ∈ d.freed)
 kidN:∀ i z,nd d i=some z→z.lives=true→z.kids.Nodup
 kid:∀ i z k,nd d i=some z→z.lives=true→k ∈ z.kids→∃ y,nd d k=some y∧y.lives=true∧y.parent=i
 par:∀ k y,nd d k=some y→y.lives=true→y.parent ≠ 0→∃ z,nd d y.parent=some z∧z.lives=true∧k ∈ z.kids∧z.tag ≠ []
 path:∀ i,jF d i=true→∃ l,Path d i l
 attrs:∀ i z,nd d i=some z→z.attrs.length ≤ 100000
theorem WF.dm {d:ax} (h:WF d):d.l.length ≤ dM:=Nat.le_trans h.len (by decide)
theorem di {d:ax} {i:Int} {z:ah} (h:nd d i=some z):jF d i=z.lives:=by unfold jF; rw [h]
theorem Path.uniq {d:ax} {i:Int} {l l':List Int} (h:Path d i l) (h':Path d i l'):l=l':=by
 induction h generalizing l' with
 | top h hl hp =>
  cases h' with
  | top=>rfl
  | up h2 _ hp2 _=>rw [h] at h2; cases h2; exact absurd hp hp2
 | up h hl hp k ih =>
  cases h' with
  | top h2 _ hp2=>rw [h] at h2; cases h2; exact absurd hp2 hp
  | up h2 _ _ k2=>rw [h] at h2; cases h2; rw [ih k2]
theorem Path.head {d:ax} {i:Int} {l:List Int} (h:Path d i l):∃ t,l=i :: t:=by cases h <;> exact ⟨_,rfl⟩
theorem Path.mem {d:ax} {i:Int} {l:List Int} (h:Path d i l):∀ j ∈ l,∃ l1 l2,l=l1 ++ l2∧Path d j l2∧∃ z,nd d j=some z∧z.lives=true:=by
 induction h with
 | top h hl hp =>
  intro j hj
  simp only [List.mem_singleton] at hj
  subst hj; exact ⟨[],_,rfl,.top h hl hp,_,h,hl⟩
 | up h hl hp k ih =>
  intro j hj
  rcases List.mem_cons.1 hj with rfl | hj
  ·
   exact ⟨[],_,rfl,.up h hl hp k,_,h,hl⟩
  ·
   obtain ⟨l1,l2,e,k2,r⟩:=ih j hj
   exact ⟨_ :: l1,l2,by rw [e]; rfl,k2,r⟩
theorem Path.nodup {d:ax} {i:Int} {l:List Int} (h:Path d i l):l.Nodup:=by
 induction h with
 | top=>simp
 | up h hl hp k ih =>
  refine List.nodup_cons.2 ⟨fun hm=>?_,ih⟩
  obtain ⟨l1,l2,e,k2,_⟩:=k.mem _ hm
  have:=k2.uniq (.up h hl hp k)
  have:=congrArg List.length this
  rw [e] at this
  simp at this
  omega
theorem gP:∀ (n:Nat) (l:List Int),l.Nodup→(∀ x ∈ l,1 ≤ x∧x ≤ (n:Int))→l.length ≤ n
 | 0,l,hn,h=>by
  cases l with
  | nil=>simp
  | cons x l=>have:=h x List.mem_cons_self; omega
 | n + 1,l,hn,h=>by
  by_cases hm:((n + 1:Nat):Int) ∈ l
  ·
   have:=gP n (l.erase ((n + 1:Nat):Int)) (hn.erase _) (fun x hx=>by
    have h1:=(List.Nodup.mem_erase_iff hn).1 hx
    have h2:=h x h1.2
    have h3:=h1.1
    omega)
   rw [List.length_erase_of_mem hm] at this
   omega
  ·
   have:=gP n l hn (fun x hx=>by
    have h2:=h x hx
    have h3:x ≠ ((n + 1:Nat):Int):=fun q=>hm (q ▸ hx)
    omega)
   omega
theorem Path.length {d:ax} {i:Int} {l:List Int} (h:Path d i l):l.length ≤ d.l.length:=by
 refine gP _ _ h.nodup (fun x hx=>?_)
 obtain ⟨_,_,_,_,z,hz,_⟩:=h.mem x hx
 exact bV hz
theorem Am {d:ax} (hm:d.l.length ≤ dM) {top:Int} (ht:top ≠ 0):∀ {i:Int} {l:List Int},Path d i l→∀ f,l.length < f→dA d top f i=some (decide (top ∈ l))
 | i,l,h,0,hf=>by omega
 | i,l,h,f + 1,hf=>by
  have hi:i ≠ 0:=by
   cases h with
   | top h=>have:=bV h; omega
   | up h=>have:=bV h; omega
  rw [dA]
  by_cases he:i=top
  ·
   subst he
   rw [if_neg (by simp)]
   obtain ⟨t,rfl⟩:=h.head
   simp
  ·
   rw [if_pos (by simp [he,hi])]
   cases h with
   | top h hl hp =>
    rw [iB hm h,Option.bind_some,hp]
    cases f with
    | zero=>simp at hf
    | succ f =>
     rw [dA,if_neg (by simp)]
     simp [he,Ne.symm he,Ne.symm ht]
   | up h hl hp k =>
    rw [iB hm h,Option.bind_some,Am hm ht k f (by simp at hf; omega)]
    simp [Ne.symm he]
end Pr
end Go.Ev

namespace Go.Ev
namespace Pr
set_option linter.unusedVariables false
set_option linter.unusedSimpArgs false
theorem WF.lp {d:ax} (h:WF d) {i:Int} (hi:jF d i=true):∃ z l,nd d i=some z∧z.lives=true∧Path d i l∧l.length ≤ 5000:=by
 obtain ⟨z,hz,hl⟩:=eU hi
 obtain ⟨l,hp⟩:=h.path i hi
 exact ⟨z,l,hz,hl,hp,Nat.le_trans hp.length h.len⟩
def under (d:ax) (top i:Int):Prop:=∃ l,Path d i l∧top ∈ l
theorem C8 {d:ax} (h:WF d) {i:Int} {l:List Int} (hp:Path d i l) {top:Int} (ht:top ≠ 0) {n:Nat} (hn:5000 < n):jm n d i top=some (decide (top ∈ l)):=by
 unfold jm
 exact Am h.dm ht hp n (by have:=hp.length; have:=h.len; omega)
theorem Ih (d:ax) (z:ah) (i:Int):nd { d with l:=d.l ++ [z] } i=if i=(d.l.length:Int) + 1 then some z else nd d i:=by
 unfold nd
 by_cases h1:1 ≤ i
 ·
  rw [if_pos h1,if_pos h1]
  by_cases h2:i=(d.l.length:Int) + 1
  ·
   subst h2
   rw [if_pos rfl,List.getElem?_append_right (by omega)]
   have:((d.l.length:Int) + 1 - 1).toNat - d.l.length=0:=by omega
   rw [this]; rfl
  ·
   rw [if_neg h2]
   by_cases h3:(i - 1).toNat < d.l.length
   ·
    rw [List.getElem?_append_left h3]
   ·
    rw [List.getElem?_eq_none (by simp; omega),List.getElem?_eq_none (by omega)]
 ·
  rw [if_neg h1,if_neg h1,if_neg (by omega)]
theorem Path.keep {d d':ax} {i:Int} {l:List Int} (h:Path d i l) (hk:∀ j ∈ l,∀ z,nd d j=some z→∃ z',nd d' j=some z'∧z'.lives=z.lives∧z'.parent=z.parent):Path d' i l:=by
 induction h with
 | top h hl hp =>
  obtain ⟨z',h1,h2,h3⟩:=hk _ List.mem_cons_self _ h
  exact .top h1 (by rw [h2,hl]) (by rw [h3,hp])
 | up h hl hp k ih =>
  obtain ⟨z',h1,h2,h3⟩:=hk _ List.mem_cons_self _ h
  refine .up h1 (by rw [h2,hl]) (by rw [h3]; exact hp) ?_
  rw [h3]; exact ih (fun j hj=>hk j (List.mem_cons_of_mem _ hj))
structure New (d d':ax) (id:Int) (z:ah):Prop where
 dead:jF d id=false
 notroot:id ≠ 1
 pos:1 ≤ id
 get:∀ j,nd d' j=if j=id then some z else nd d j
 len:d'.l.length ≤ d.l.length + 1
 ge:d.l.length ≤ d'.l.length
theorem New.wf {d d':ax} {id:Int} {z:ah} (h:WF d) (k:New d d' id z) (hz:z.lives=true) (hk:z.kids=[]) (hp:z.parent=0) (ha:z.attrs.length ≤ 100000) (hlen:d'.l.length ≤ 5000) (hf:∀ i,i ∈ d'.freed↔(i ∈ d.freed∧i ≠ id)) (hfn:d'.freed.Nodup):WF d':=by
 have old:∀ i,jF d i=true→i ≠ id:=fun i hi q=>by rw [q,k.dead] at hi; cases hi
 refine ⟨hlen,?_,fun i hi=>?_,hfn,fun i y hy=>?_,fun i y hy hl=>?_,fun i y c hy hl hc=>?_,fun c y hy hl hyp=>?_,fun i hi=>?_,fun i y hy=>?_⟩
 ·
  obtain ⟨r,h1,h2,h3,h4⟩:=h.root
  exact ⟨r,by rw [k.get,if_neg (Ne.symm k.notroot)]; exact h1,h2,h3,h4⟩
 ·
  have:=h.freedR i ((hf i).1 hi).1
  have:=k.ge; omega
 ·
  rw [k.get] at hy
  by_cases hi:i=id
  ·
   rw [if_pos hi] at hy; cases hy
   rw [hf]; simp [hz,hi]
  ·
   rw [if_neg hi] at hy
   rw [h.dead i y hy,hf]; simp [hi]
 ·
  rw [k.get] at hy
  by_cases hi:i=id
  ·
   rw [if_pos hi] at hy; cases hy; rw [hk]; simp
  ·
   rw [if_neg hi] at hy; exact h.kidN i y hy hl
 ·
  rw [k.get] at hy
  by_cases hi:i=id
  ·
   rw [if_pos hi] at hy; cases hy; rw [hk] at hc; cases hc
  ·
   rw [if_neg hi] at hy
   obtain ⟨x,h1,h2,h3⟩:=h.kid i y c hy hl hc
   exact ⟨x,by rw [k.get,if_neg (old c (by rw [di h1,h2]))]; exact h1,h2,h3⟩
 ·
  rw [k.get] at hy
  by_cases hi:c=id
  ·
   rw [if_pos hi] at hy; cases hy; exact absurd hp hyp
  ·
   rw [if_neg hi] at hy
   obtain ⟨x,h1,h2,h3⟩:=h.par c y hy hl hyp
   exact ⟨x,by rw [k.get,if_neg (old _ (by rw [di h1,h2]))]; exact h1,h2,h3⟩
 ·
  by_cases hq:i=id
  ·
   subst hq
   exact ⟨[i],.top (by rw [k.get,if_pos rfl]) hz hp⟩
  ·
   have:jF d i=true:=by unfold jF at hi ⊢; rw [k.get,if_neg hq] at hi; exact hi
   obtain ⟨l,hl⟩:=h.path i this
   refine ⟨l,hl.keep (fun j hj y hy=>⟨y,?_,rfl,rfl⟩)⟩
   obtain ⟨_,_,_,_,x,h1,h2⟩:=hl.mem j hj
   rw [k.get,if_neg (old j (by rw [di h1,h2]))]; exact hy
 ·
  rw [k.get] at hy
  by_cases hi:i=id
  ·
   rw [if_pos hi] at hy; cases hy; exact ha
  ·
   rw [if_neg hi] at hy; exact h.attrs i y hy
def nextId (d:ax):Int:=match d.freed.getLast? with | some i=>i | none=>(d.l.length:Int) + 1
def oQ (z:aA):ah:=ah.mk true z.tag z.key z.text z.attrs [] z.parent
theorem Fg {d:ax} (h:WF d) (hl:d.l.length < 5000) (n:Nat) (z:aA) (hz:z.parent=0) (ha:z.attrs.length ≤ 100000):∃ d',je n d z=some (nextId d,d')∧WF d'∧New d d' (nextId d) (oQ z)∧d'.freed=d.freed.dropLast∧d'.l.length=(if d.freed=[] then d.l.length + 1 else d.l.length):=by
 unfold je
 have hfl:d.freed.length ≤ d.l.length:=gP _ _ h.freedN (fun x hx=>⟨by have:=h.freedR x hx; omega,(h.freedR x hx).2⟩)
 have hw:IntKind.wrap .i64 ((d.freed.length:Int) - 1)=(d.freed.length:Int) - 1:=sQ (by omega) (by omega)
 rw [hw]
 by_cases h0:d.freed=[]
 ·
  rw [if_pos (by simp [h0])]
  have happ:∀ q:ah,app 112 d.l [q]=some (d.l ++ [q]):=fun q=>jR (by rw [bnd]; simp; omega)
  rw [happ,Option.bind_some]
  have hid:nextId d=(d.l.length:Int) + 1:=by unfold nextId; rw [h0]; rfl
  have hget:=Ih d (oQ z)
  have hnew:New d { d with l:=d.l ++ [oQ z] } (nextId d) (oQ z):=by
   refine ⟨?_,by rw [hid]; obtain ⟨r,h1,_⟩:=h.root; have:=bV h1; omega,by rw [hid]; omega,fun j=>by rw [hget,hid],by simp,by simp⟩
   unfold jF
   cases hn:nd d (nextId d) with
   | none=>rfl
   | some y=>have:=bV hn; omega
  refine ⟨{ d with l:=d.l ++ [oQ z] },?_,?_,hnew,by rw [h0]; rfl,by simp [h0]⟩
  ·
   rw [hid]
   simp only [Option.some.injEq,Prod.mk.injEq]
   refine ⟨by simp,rfl⟩
  ·
   refine hnew.wf h rfl rfl hz ha (by simp; omega) (fun i=>?_) h.freedN
   rw [h0]; simp
 ·
  have hpos:0 < d.freed.length:=by
   cases hq:d.freed with
   | nil=>exact absurd hq h0
   | cons a l=>simp
  rw [if_neg (by simp; omega)]
  have hlast:d.freed.getLast? = some (d.freed[d.freed.length - 1]):=by rw [List.getLast?_eq_getElem?]; exact List.getElem?_eq_getElem (by omega)
  have hidx:idx d.freed ((d.freed.length:Int) - 1)=some (nextId d):=by
   unfold idx; rw [if_pos (by omega)]
   unfold nextId; rw [hlast]
   rw [show ((d.freed.length:Int) - 1).toNat=d.freed.length - 1 by omega]
   exact List.getElem?_eq_getElem (by omega)
  have hcut:cut d.freed 0 ((d.freed.length:Int) - 1)=some d.freed.dropLast:=by
   unfold cut; rw [if_pos ⟨by omega,by omega,by omega⟩]
   rw [show ((d.freed.length:Int) - 1).toNat=d.freed.length - 1 by omega,List.dropLast_eq_take]; rfl
  rw [hidx,Option.bind_some,hcut,Option.bind_some]
  have hmem:nextId d ∈ d.freed:=by
   unfold nextId; rw [hlast]; exact List.getElem_mem _
  have hr:=h.freedR _ hmem
  obtain ⟨y,hy⟩:=pM (d:=d) (i:=nextId d) (by omega) hr.2
  have hdead:y.lives=false:=(h.dead _ y hy).2 hmem
  rw [iB h.dm hy,Option.bind_some]
  have hget:=ik hy (oQ z)
  have hnew:New d { l:=(iO d (nextId d) (oQ z)).l,freed:=d.freed.dropLast } (nextId d) (oQ z) :=
   ⟨by rw [di hy,hdead],by omega,by omega,fun j=>hget j,by simp,by simp⟩
  refine ⟨{ l:=(iO d (nextId d) (oQ z)).l,freed:=d.freed.dropLast },?_,?_,hnew,rfl,by simp [h0]⟩
  ·
   rw [ni h.dm hy]; rfl
  ·
   have hsplit:d.freed=d.freed.dropLast ++ [nextId d]:=by
    have e:nextId d=d.freed.getLast h0:=by unfold nextId; rw [List.getLast?_eq_some_getLast h0]
    rw [e,List.dropLast_concat_getLast]
   have hfn:=h.freedN
   rw [hsplit,List.nodup_append] at hfn
   refine hnew.wf h rfl rfl hz ha (by simp; exact h.len) (fun i=>?_) hfn.1
   constructor
   ·
    intro hi
    exact ⟨by rw [hsplit]; exact List.mem_append_left _ hi,fun q=>hfn.2.2 i hi (nextId d) (by simp) q⟩
   ·
    rintro ⟨hi,hne⟩
    rw [hsplit] at hi
    rcases List.mem_append.1 hi with hi | hi
    ·
     exact hi
    ·
     exact absurd (List.mem_singleton.1 hi) hne
end Pr
end Go.Ev

namespace Go.Ev
namespace Pr
set_option linter.unusedVariables false
set_option linter.unusedSimpArgs false
theorem wR (l:List Int) (c:Int):∀ (rest done:List Int) (f:Nat),l=done ++ rest→rest.length < f→l.length < 1000000→bI l c f (done.length:Int)=some (if c ∈ rest then ((done.length + rest.idxOf c:Nat):Int) else -1)
 | [],done,f + 1,h,hf,hl=>by
  rw [bI,if_neg (by subst h; simp)]
  simp
 | z :: rest,done,f + 1,h,hf,hl=>by
  have hd:done.length < l.length:=by subst h; simp
  rw [bI,if_pos (by rw [decide_eq_true_eq]; omega),fI h,Option.bind_some]
  by_cases hq:c=z
  ·
   subst hq
   rw [if_pos (by simp)]
   simp [List.idxOf_cons_self]
  ·
   rw [if_neg (by simpa using hq),sQ (by omega) (by omega)]
   have:=wR l c rest (done ++ [z]) f (by rw [h]; simp) (by simpa using hf) hl
   simp only [List.length_append,List.length_singleton,Int.natCast_add] at this
   rw [show ((done.length:Int) + 1)=(done.length:Int) + ((1:Nat):Int) by omega,this]
   by_cases hm:c ∈ rest
   ·
    rw [if_pos hm,if_pos (List.mem_cons_of_mem _ hm),List.idxOf_cons]
    have hb:(z == c)=false:=by simpa using Ne.symm hq
    rw [hb]
    simp; omega
   ·
    rw [if_neg hm,if_neg (by simp [hq,hm])]
theorem ET {l:List Int} {c:Int} (h:c ∈ l) {n:Nat} (hn:l.length < n) (hl:l.length < 1000000):eG n l c=some (l.idxOf c:Int):=by
 unfold eG
 have:=wR l c l [] n rfl hn hl
 rw [if_pos h] at this
 simpa using this
theorem Ef {l:List Int} {c:Int} (h:c ∈ l) (hl:l.length < 1000000) (n:Nat):eD n l (l.idxOf c:Int) (IntKind.wrap .i64 ((l.idxOf c:Int) + 1))=some (l.erase c):=by
 have hi:l.idxOf c < l.length:=List.idxOf_lt_length_of_mem h
 rw [sQ (by omega) (by omega)]
 unfold eD EB
 rw [if_pos ⟨by omega,by omega,by omega⟩,Option.bind_some,if_neg (by simp; omega)]
 rw [List.erase_eq_eraseIdx_of_idxOf rfl,List.eraseIdx_eq_take_drop_succ]
 rw [Int.toNat_natCast,show ((l.idxOf c:Int) + 1).toNat=l.idxOf c + 1 by omega]
def cB (d:ax) (c:Int):ax:=match nd d c with
 | some z=>if z.parent=0 then d else match nd d z.parent with
  | some y=>iO (iO d z.parent { y with kids:=y.kids.erase c }) c { z with parent:=0 }
  | none=>d
 | none=>d
theorem qh {d:ax} (h:WF d) {i:Int} {z:ah} (hz:nd d i=some z) (hl:z.lives=true):z.kids.length ≤ 5000:=by
 refine Nat.le_trans (gP d.l.length _ (h.kidN i z hz hl) (fun k hk=>?_)) h.len
 obtain ⟨y,h1,_⟩:=h.kid i z k hz hl hk
 exact bV h1
theorem uz {d:ax} (h:WF d) {c:Int} {z:ah} (hz:nd d c=some z) (hl:z.lives=true):z.parent ≠ c:=fun q=>by
 obtain ⟨l,hp⟩:=h.path c (by rw [di hz,hl])
 have hc:=bV hz
 cases hp with
 | top h2 _ hp2=>rw [hz] at h2; cases h2; omega
 | up h2 hl2 hp2 k =>
  rw [hz] at h2; cases h2
  rw [q] at k
  have:=k.uniq (.up hz hl2 hp2 (by rw [q]; exact k))
  have:=congrArg List.length this
  simp at this
theorem oq {d:ax} {c:Int} {z y:ah} (hz:nd d c=some z) (hp:z.parent ≠ 0) (hy:nd d z.parent=some y) (hne:z.parent ≠ c) (j:Int) :
  nd (cB d c) j=if j=c then some { z with parent:=0 } else if j=z.parent then some { y with kids:=y.kids.erase c } else nd d j:=by
 unfold cB
 rw [hz]
 simp only
 rw [if_neg hp,hy]
 simp only
 have h1:=ik hy { y with kids:=y.kids.erase c } c
 rw [if_neg (Ne.symm hne)] at h1
 rw [ik (h1.trans hz),ik hy]
theorem jQ {d:ax} {c:Int} {z:ah} (hz:nd d c=some z) (hp:z.parent=0):cB d c=d:=by
 unfold cB; rw [hz]; simp only; rw [if_pos hp]
@[simp] theorem rO (d:ax) (c:Int):(cB d c).l.length=d.l.length:=by
 unfold cB; split
 ·
  split
  ·
   rfl
  ·
   split <;> simp
 ·
  rfl
@[simp] theorem pI (d:ax) (c:Int):(cB d c).freed=d.freed:=by
 unfold cB; split
 ·
  split
  ·
   rfl
  ·
   split <;> simp
 ·
  rfl
theorem Bg {d:ax} (h:WF d) {c:Int} (hc:jF d c=true) {n:Nat} (hn:6000 ≤ n):iW n d c=some (cB d c):=by
 obtain ⟨z,hz,hl⟩:=eU hc
 unfold iW
 rw [iB h.dm hz,Option.bind_some]
 by_cases hp:z.parent=0
 ·
  rw [if_pos (by simpa using hp),jQ hz hp]
 ·
  rw [if_neg (by simpa using hp)]
  obtain ⟨y,hy,hyl,hm,_⟩:=h.par c z hz hl hp
  have hk:=qh h hy hyl
  have hne:=uz h hz hl
  rw [iB h.dm hy]
  simp only [Option.bind_some]
  rw [ET hm (by omega) (by omega),Option.bind_some,Ef hm (by omega),Option.bind_some]
  rw [ni h.dm hy]
  have h1:=ik hy { y with kids:=y.kids.erase c } c
  rw [if_neg (Ne.symm hne)] at h1
  have hd:(iO d z.parent { y with kids:=y.kids.erase c }).l.length ≤ dM:=by rw [j6]; exact h.dm
  have e1:ah.mk y.lives y.tag y.key y.text y.attrs (y.kids.erase c) y.parent = { y with kids:=y.kids.erase c }:=rfl
  rw [e1,iB hd (h1.trans hz),Option.bind_some,ni hd (h1.trans hz)]
  unfold cB
  rw [hz]
  simp only
  rw [if_neg hp,hy]
  rfl
theorem uM {d:ax} (h:WF d) {c:Int} (hc:jF d c=true):WF (cB d c):=by
 obtain ⟨z,hz,hl⟩:=eU hc
 by_cases hp:z.parent=0
 ·
  rw [jQ hz hp]; exact h
 obtain ⟨y,hy,hyl,hm,ht⟩:=h.par c z hz hl hp
 have hne:=uz h hz hl
 have hget:=oq hz hp hy hne
 have low:∀ i z',nd (cB d c) i=some z'→∃ z0,nd d i=some z0∧z'.lives=z0.lives∧z'.attrs=z0.attrs∧z'.tag=z0.tag∧(i=c∧z'.parent=0∨i ≠ c∧z'.parent=z0.parent)∧(i=z.parent∧z'.kids=z0.kids.erase c∨i ≠ z.parent∧z'.kids=z0.kids):=fun i z' hi=>by
  rw [hget] at hi
  by_cases h1:i=c
  ·
   subst h1; rw [if_pos rfl] at hi; cases hi
   exact ⟨z,hz,rfl,rfl,rfl,.inl ⟨rfl,rfl⟩,.inr ⟨Ne.symm hne,rfl⟩⟩
  ·
   rw [if_neg h1] at hi
   by_cases h2:i=z.parent
   ·
    subst h2; rw [if_pos rfl] at hi; cases hi
    exact ⟨y,hy,rfl,rfl,rfl,.inr ⟨h1,rfl⟩,.inl ⟨rfl,rfl⟩⟩
   ·
    rw [if_neg h2] at hi
    exact ⟨z',hi,rfl,rfl,rfl,.inr ⟨h1,rfl⟩,.inr ⟨h2,rfl⟩⟩
 have up:∀ i z0,nd d i=some z0→∃ z',nd (cB d c) i=some z':=fun i z0 hi=>by
  have:=bV hi
  exact pM this.1 (by rw [rO]; exact this.2)
 have lvs:∀ i,jF (cB d c) i=true→jF d i=true:=fun i hi=>by
  obtain ⟨z',h1,h2⟩:=eU hi
  obtain ⟨z0,q1,q2,_⟩:=low i z' h1
  rw [di q1,← q2,h2]
 refine ⟨by rw [rO]; exact h.len,?_,fun i hi=>?_,by rw [pI]; exact h.freedN,fun i z' hi=>?_,fun i z' hi hl'=>?_,fun i z' k hi hl' hk=>?_,fun k y' hk hl' hp'=>?_,fun i hi=>?_,fun i z' hi=>?_⟩
 ·
  obtain ⟨r,r1,r2,r3,r4⟩:=h.root
  obtain ⟨r',hr'⟩:=up 1 r r1
  obtain ⟨z0,q1,q2,q3,q4,q5,q6⟩:=low 1 r' hr'
  rw [r1] at q1; cases q1
  refine ⟨r',hr',by rw [q2,r2],?_,by rw [q4]; exact r4⟩
  rcases q5 with ⟨_,q⟩ | ⟨_,q⟩
  ·
   exact q
  ·
   rw [q,r3]
 ·
  rw [pI] at hi; rw [rO]; exact h.freedR i hi
 ·
  obtain ⟨z0,q1,q2,_⟩:=low i z' hi
  rw [q2,pI]; exact h.dead i z0 q1
 ·
  obtain ⟨z0,q1,q2,q3,q4,q5,q6⟩:=low i z' hi
  have:=h.kidN i z0 q1 (by rw [← q2,hl'])
  rcases q6 with ⟨_,q⟩ | ⟨_,q⟩
  ·
   rw [q]; exact this.erase _
  ·
   rw [q]; exact this
 ·
  obtain ⟨z0,q1,q2,q3,q4,q5,q6⟩:=low i z' hi
  have hkm:k ∈ z0.kids:=by
   rcases q6 with ⟨_,q⟩ | ⟨_,q⟩
   ·
    rw [q] at hk; exact List.mem_of_mem_erase hk
   ·
    rw [q] at hk; exact hk
  obtain ⟨x,x1,x2,x3⟩:=h.kid i z0 k q1 (by rw [← q2,hl']) hkm
  have hkc:k ≠ c:=fun q=>by
   subst q
   rw [hz] at x1; cases x1
   rcases q6 with ⟨e,q⟩ | ⟨e,q⟩
   ·
    rw [q] at hk
    have:=h.kidN i z0 q1 (by rw [← q2,hl'])
    exact ((List.Nodup.mem_erase_iff this).1 hk).1 rfl
   ·
    exact e x3.symm
  obtain ⟨x',hx'⟩:=up k x x1
  obtain ⟨x0,p1,p2,p3,p4,p5,p6⟩:=low k x' hx'
  rw [x1] at p1; cases p1
  rcases p5 with ⟨e,_⟩ | ⟨_,e⟩
  ·
   exact absurd e hkc
  ·
   exact ⟨x',hx',by rw [p2,x2],by rw [e,x3]⟩
 ·
  obtain ⟨z0,q1,q2,q3,q4,q5,q6⟩:=low k y' hk
  rcases q5 with ⟨_,q⟩ | ⟨hkc,q⟩
  ·
   exact absurd q hp'
  ·
   obtain ⟨x,x1,x2,x3,x4⟩:=h.par k z0 q1 (by rw [← q2,hl']) (by rw [← q]; exact hp')
   rw [q]
   obtain ⟨x',hx'⟩:=up _ x x1
   obtain ⟨x0,p1,p2,p3,p4,p5,p6⟩:=low _ x' hx'
   rw [x1] at p1; cases p1
   refine ⟨x',hx',by rw [p2,x2],?_,by rw [p4]; exact x4⟩
   rcases p6 with ⟨_,e⟩ | ⟨_,e⟩
   ·
    rw [e]; exact (List.mem_erase_of_ne hkc).2 x3
   ·
    rw [e]; exact x3
 ·
  obtain ⟨l,hpath⟩:=h.path i (lvs i hi)
  clear hi
  induction hpath with
  | top g gl gp =>
   obtain ⟨g',hg'⟩:=up _ _ g
   obtain ⟨z0,q1,q2,q3,q4,q5,q6⟩:=low _ g' hg'
   rw [g] at q1; cases q1
   refine ⟨[_],.top hg' (by rw [q2,gl]) ?_⟩
   rcases q5 with ⟨_,q⟩ | ⟨_,q⟩
   ·
    exact q
   ·
    rw [q,gp]
  | up g gl gp k ih =>
   obtain ⟨g',hg'⟩:=up _ _ g
   obtain ⟨z0,q1,q2,q3,q4,q5,q6⟩:=low _ g' hg'
   rw [g] at q1; cases q1
   rcases q5 with ⟨_,q⟩ | ⟨_,q⟩
   ·
    exact ⟨[_],.top hg' (by rw [q2,gl]) q⟩
   ·
    obtain ⟨l',hl'⟩:=ih
    exact ⟨_ :: l',.up hg' (by rw [q2,gl]) (by rw [q]; exact gp) (by rw [q]; exact hl')⟩
 ·
  obtain ⟨z0,q1,q2,q3,_⟩:=low i z' hi
  rw [q3]; exact h.attrs i z0 q1
end Pr
end Go.Ev

namespace Go.Ev
namespace Pr
set_option linter.unusedVariables false
set_option linter.unusedSimpArgs false
def uO (a:Int) (n:Nat):Nat:=(max 0 (min a (n:Int))).toNat
def mU (l:List Int) (a c:Int):List Int:=l.take (uO a l.length) ++ c :: l.drop (uO a l.length)
theorem wS {l:List Int} {a c x:Int}:x ∈ mU l a c↔x=c∨x ∈ l:=by
 unfold mU
 have e:=List.take_append_drop (uO a l.length) l
 constructor
 ·
  intro h
  rcases List.mem_append.1 h with h | h
  ·
   exact .inr (List.mem_of_mem_take h)
  ·
   rcases List.mem_cons.1 h with h | h
   ·
    exact .inl h
   ·
    exact .inr (List.mem_of_mem_drop h)
 ·
  rintro (rfl | h)
  ·
   simp
  ·
   rw [← e] at h
   rcases List.mem_append.1 h with h | h
   ·
    exact List.mem_append_left _ h
   ·
    exact List.mem_append_right _ (List.mem_cons_of_mem _ h)
theorem Eu (l:List Int) (a c:Int):(mU l a c).Perm (c :: l):=by
 unfold mU
 refine List.perm_middle.trans ?_
 rw [List.take_append_drop]
theorem Ca {l:List Int} {a c:Int} (h:l.Nodup) (hc:c ∉ l):(mU l a c).Nodup:=(Eu l a c).nodup_iff.2 (List.nodup_cons.2 ⟨hc,h⟩)
theorem IC {l:List Int} {a c:Int} (h:l.length ≤ 100000):EM l (sP 0 (jl a (l.length:Int))) c=some (mU l a c):=by
 have e:sP 0 (jl a (l.length:Int))=max 0 (min a (l.length:Int)):=by
  unfold sP jl; split <;> split <;> omega
 rw [e]
 unfold EM
 rw [if_pos ⟨by omega,by omega,by omega⟩]
 rfl
def Iu (d:ax):Nat→Int→List Int
 | 0,_=>[]
 | f + 1,i=>match nd d i with
  | some z=>if z.lives=true then (if z.parent=0 then [i] else i :: Iu d f z.parent) else []
  | none=>[]
def pathOf (d:ax) (i:Int):List Int:=Iu d d.l.length i
theorem Path.Iu {d:ax} {i:Int} {l:List Int} (h:Path d i l):∀ f,l.length ≤ f→Iu d f i=l:=by
 induction h with
 | top h hl hp =>
  intro f hf
  cases f with
  | zero=>simp at hf
  | succ f=>simp only [Pr.Iu,h,hl,hp,if_true]
 | up h hl hp k ih =>
  intro f hf
  cases f with
  | zero=>simp at hf
  | succ f=>simp only [Pr.Iu,h,hl,if_true,if_neg hp]; rw [ih f (by simpa using hf)]
theorem Path.of {d:ax} {i:Int} {l:List Int} (h:Path d i l):pathOf d i=l:=h.Iu _ h.length
def qo (d:ax) (i:Int):Str:=match nd d i with | some z=>z.tag | none=>[]
def j5 (d:ax) (p c:Int):Bool:=jF d p && jF d c && !(qo d p == []) && !(c == 1) && !(decide (c ∈ pathOf d p))
def ic (d:ax) (p c a:Int):ax:=match nd d p,nd d c with
 | some y,some z=>iO (iO d p { y with kids:=mU y.kids a c }) c { z with parent:=p }
 | _,_=>d
theorem Aq {d:ax} {p c a:Int} {y z:ah} (hy:nd d p=some y) (hz:nd d c=some z) (hne:c ≠ p) (j:Int) :
  nd (ic d p c a) j=if j=c then some { z with parent:=p } else if j=p then some { y with kids:=mU y.kids a c } else nd d j:=by
 unfold ic
 rw [hy,hz]
 simp only
 have h1:=ik hy { y with kids:=mU y.kids a c } c
 rw [if_neg hne] at h1
 rw [ik (h1.trans hz),ik hy]
@[simp] theorem uq (d:ax) (p c a:Int):(ic d p c a).l.length=d.l.length:=by unfold ic; split <;> simp
@[simp] theorem qH (d:ax) (p c a:Int):(ic d p c a).freed=d.freed:=by unfold ic; split <;> simp
theorem FH {d:ax} (h:WF d) {p c a:Int} {y z:ah} (hy:nd d p=some y) (hyl:y.lives=true) (ht:y.tag ≠ []) (hz:nd d c=some z) (hzl:z.lives=true) (hzp:z.parent=0) (hc1:c ≠ 1) {l:List Int} (hp:Path d p l) (hcl:c ∉ l):WF (ic d p c a):=by
 have hne:c ≠ p:=fun q=>by obtain ⟨t,rfl⟩:=hp.head; exact hcl (by rw [q]; exact List.mem_cons_self)
 have hget:=Aq (a:=a) hy hz hne
 have hpr:=bV hy
 have low:∀ i z',nd (ic d p c a) i=some z'→∃ z0,nd d i=some z0∧z'.lives=z0.lives∧z'.attrs=z0.attrs∧z'.tag=z0.tag∧(i=c∧z'.parent=p∨i ≠ c∧z'.parent=z0.parent)∧(i=p∧z'.kids=mU z0.kids a c∨i ≠ p∧z'.kids=z0.kids):=fun i z' hi=>by
  rw [hget] at hi
  by_cases h1:i=c
  ·
   subst h1; rw [if_pos rfl] at hi; cases hi
   exact ⟨z,hz,rfl,rfl,rfl,.inl ⟨rfl,rfl⟩,.inr ⟨hne,rfl⟩⟩
  ·
   rw [if_neg h1] at hi
   by_cases h2:i=p
   ·
    subst h2; rw [if_pos rfl] at hi; cases hi
    exact ⟨y,hy,rfl,rfl,rfl,.inr ⟨h1,rfl⟩,.inl ⟨rfl,rfl⟩⟩
   ·
    rw [if_neg h2] at hi
    exact ⟨z',hi,rfl,rfl,rfl,.inr ⟨h1,rfl⟩,.inr ⟨h2,rfl⟩⟩
 have up:∀ i z0,nd d i=some z0→∃ z',nd (ic d p c a) i=some z':=fun i z0 hi=>by
  have:=bV hi
  exact pM this.1 (by rw [uq]; exact this.2)
 have lvs:∀ i,jF (ic d p c a) i=true→jF d i=true:=fun i hi=>by
  obtain ⟨z',h1,h2⟩:=eU hi
  obtain ⟨z0,q1,q2,_⟩:=low i z' h1
  rw [di q1,← q2,h2]
 have hcy:c ∉ y.kids:=fun q=>by
  obtain ⟨x,x1,x2,x3⟩:=h.kid p y c hy hyl q
  rw [hz] at x1; cases x1
  omega
 have hpath:∃ l',Path (ic d p c a) p l':=⟨l,hp.keep (fun j hj x hx=>by
  obtain ⟨x',hx'⟩:=up j x hx
  obtain ⟨x0,q1,q2,q3,q4,q5,q6⟩:=low j x' hx'
  rw [hx] at q1; cases q1
  rcases q5 with ⟨e,_⟩ | ⟨_,e⟩
  ·
   exact absurd (e ▸ hj) hcl
  ·
   exact ⟨x',hx',q2,e⟩)⟩
 refine ⟨by rw [uq]; exact h.len,?_,fun i hi=>?_,by rw [qH]; exact h.freedN,fun i z' hi=>?_,fun i z' hi hl'=>?_,fun i z' k hi hl' hk=>?_,fun k y' hk hl' hp'=>?_,fun i hi=>?_,fun i z' hi=>?_⟩
 ·
  obtain ⟨r,r1,r2,r3,r4⟩:=h.root
  obtain ⟨r',hr'⟩:=up 1 r r1
  obtain ⟨z0,q1,q2,q3,q4,q5,q6⟩:=low 1 r' hr'
  rw [r1] at q1; cases q1
  refine ⟨r',hr',by rw [q2,r2],?_,by rw [q4]; exact r4⟩
  rcases q5 with ⟨q,_⟩ | ⟨_,q⟩
  ·
   exact absurd q.symm hc1
  ·
   rw [q,r3]
 ·
  rw [qH] at hi; rw [uq]; exact h.freedR i hi
 ·
  obtain ⟨z0,q1,q2,_⟩:=low i z' hi
  rw [q2,qH]; exact h.dead i z0 q1
 ·
  obtain ⟨z0,q1,q2,q3,q4,q5,q6⟩:=low i z' hi
  have:=h.kidN i z0 q1 (by rw [← q2,hl'])
  rcases q6 with ⟨e,q⟩ | ⟨_,q⟩
  ·
   subst e; rw [hy] at q1; cases q1
   rw [q]; exact Ca this hcy
  ·
   rw [q]; exact this
 ·
  obtain ⟨z0,q1,q2,q3,q4,q5,q6⟩:=low i z' hi
  by_cases hkc:k=c
  ·
   subst hkc
   obtain ⟨x',hx'⟩:=up k z hz
   obtain ⟨x0,p1,p2,p3,p4,p5,p6⟩:=low k x' hx'
   rw [hz] at p1; cases p1
   refine ⟨x',hx',by rw [p2,hzl],?_⟩
   have hxp:x'.parent=p:=by
    rcases p5 with ⟨_,e⟩ | ⟨e,_⟩
    ·
     exact e
    ·
     exact absurd rfl e
   rw [hxp]
   rcases q6 with ⟨e,_⟩ | ⟨_,q⟩
   ·
    exact e.symm
   ·
    rw [q] at hk
    obtain ⟨w,w1,w2,w3⟩:=h.kid i z0 k q1 (by rw [← q2,hl']) hk
    rw [hz] at w1; cases w1
    have:=bV q1
    omega
  ·
   have hkm:k ∈ z0.kids:=by
    rcases q6 with ⟨_,q⟩ | ⟨_,q⟩
    ·
     rw [q] at hk; exact (wS.1 hk).resolve_left hkc
    ·
     rw [q] at hk; exact hk
   obtain ⟨x,x1,x2,x3⟩:=h.kid i z0 k q1 (by rw [← q2,hl']) hkm
   obtain ⟨x',hx'⟩:=up k x x1
   obtain ⟨x0,p1,p2,p3,p4,p5,p6⟩:=low k x' hx'
   rw [x1] at p1; cases p1
   rcases p5 with ⟨e,_⟩ | ⟨_,e⟩
   ·
    exact absurd e hkc
   ·
    exact ⟨x',hx',by rw [p2,x2],by rw [e,x3]⟩
 ·
  obtain ⟨z0,q1,q2,q3,q4,q5,q6⟩:=low k y' hk
  rcases q5 with ⟨e,q⟩ | ⟨hkc,q⟩
  ·
   obtain ⟨x',hx'⟩:=up p y hy
   obtain ⟨x0,p1,p2,p3,p4,p5,p6⟩:=low p x' hx'
   rw [hy] at p1; cases p1
   rw [q]
   refine ⟨x',hx',by rw [p2,hyl],?_,by rw [p4]; exact ht⟩
   rcases p6 with ⟨_,e2⟩ | ⟨e2,_⟩
   ·
    rw [e2,e]; exact wS.2 (.inl rfl)
   ·
    exact absurd rfl e2
  ·
   obtain ⟨x,x1,x2,x3,x4⟩:=h.par k z0 q1 (by rw [← q2,hl']) (by rw [← q]; exact hp')
   rw [q]
   obtain ⟨x',hx'⟩:=up _ x x1
   obtain ⟨x0,p1,p2,p3,p4,p5,p6⟩:=low _ x' hx'
   rw [x1] at p1; cases p1
   refine ⟨x',hx',by rw [p2,x2],?_,by rw [p4]; exact x4⟩
   rcases p6 with ⟨_,e⟩ | ⟨_,e⟩
   ·
    rw [e]; exact wS.2 (.inr x3)
   ·
    rw [e]; exact x3
 ·
  obtain ⟨l,hpath'⟩:=h.path i (lvs i hi)
  clear hi
  induction hpath' with
  | top g gl gp =>
   obtain ⟨g',hg'⟩:=up _ _ g
   obtain ⟨z0,q1,q2,q3,q4,q5,q6⟩:=low _ g' hg'
   rw [g] at q1; cases q1
   rcases q5 with ⟨_,q⟩ | ⟨_,q⟩
   ·
    obtain ⟨l',hl'⟩:=hpath
    exact ⟨_ :: l',.up hg' (by rw [q2,gl]) (by rw [q]; omega) (by rw [q]; exact hl')⟩
   ·
    exact ⟨[_],.top hg' (by rw [q2,gl]) (by rw [q,gp])⟩
  | up g gl gp k ih =>
   obtain ⟨g',hg'⟩:=up _ _ g
   obtain ⟨z0,q1,q2,q3,q4,q5,q6⟩:=low _ g' hg'
   rw [g] at q1; cases q1
   rcases q5 with ⟨_,q⟩ | ⟨_,q⟩
   ·
    obtain ⟨l',hl'⟩:=hpath
    exact ⟨_ :: l',.up hg' (by rw [q2,gl]) (by rw [q]; omega) (by rw [q]; exact hl')⟩
   ·
    obtain ⟨l',hl'⟩:=ih
    exact ⟨_ :: l',.up hg' (by rw [q2,gl]) (by rw [q]; exact gp) (by rw [q]; exact hl')⟩
 ·
  obtain ⟨z0,q1,q2,q3,_⟩:=low i z' hi
  rw [q3]; exact h.attrs i z0 q1
theorem uW {d:ax} (h:WF d) {c:Int} (hc:jF d c=true) {i:Int} {l:List Int} (hp:Path d i l) (hcl:c ∉ l):Path (cB d c) i l:=by
 obtain ⟨z,hz,hl⟩:=eU hc
 by_cases hp0:z.parent=0
 ·
  rw [jQ hz hp0]; exact hp
 obtain ⟨y,hy,hyl,hm,ht⟩:=h.par c z hz hl hp0
 have hget:=oq hz hp0 hy (uz h hz hl)
 refine hp.keep (fun j hj x hx=>?_)
 rw [hget,if_neg (fun (q:j=c)=>hcl (by rw [← q]; exact hj))]
 by_cases h2:j=z.parent
 ·
  rw [if_pos h2]
  subst h2
  rw [hy] at hx; cases hx
  exact ⟨_,rfl,rfl,rfl⟩
 ·
  rw [if_neg h2]; exact ⟨x,hx,rfl,rfl⟩
theorem qI {d:ax} (h:WF d) {c:Int} (hc:jF d c=true):∃ z,nd (cB d c) c=some z∧z.lives=true∧z.parent=0:=by
 obtain ⟨z,hz,hl⟩:=eU hc
 by_cases hp0:z.parent=0
 ·
  rw [jQ hz hp0]; exact ⟨z,hz,hl,hp0⟩
 obtain ⟨y,hy,hyl,hm,ht⟩:=h.par c z hz hl hp0
 have hget:=oq hz hp0 hy (uz h hz hl)
 exact ⟨{ z with parent:=0 },by rw [hget,if_pos rfl],hl,rfl⟩
theorem o6 {d:ax} (h:WF d) {c:Int} (hc:jF d c=true) {i:Int} {z:ah} (hz:nd d i=some z) (hzl:z.lives=true):nd (cB d c) i=some { z with kids:=z.kids.erase c,parent:=if i=c then 0 else z.parent }:=by
 obtain ⟨zc,hzc,hl⟩:=eU hc
 have hno:i ≠ zc.parent→z.kids.erase c=z.kids:=fun hne=>List.erase_of_not_mem (fun hm=>by
  obtain ⟨x,x1,x2,x3⟩:=h.kid i z c hz hzl hm
  rw [hzc] at x1; cases x1
  exact hne x3.symm)
 by_cases hp0:zc.parent=0
 ·
  rw [jQ hzc hp0,hno (by have:=bV hz; omega),hz]
  by_cases hi:i=c
  ·
   subst hi; rw [hzc] at hz; cases hz; rw [if_pos rfl,← hp0]
  ·
   rw [if_neg hi]
 obtain ⟨y,hy,hyl,hm,ht⟩:=h.par c zc hzc hl hp0
 have hne:=uz h hzc hl
 rw [oq hzc hp0 hy hne]
 by_cases hi:i=c
 ·
  subst hi; rw [hzc] at hz; cases hz
  rw [if_pos rfl,if_pos rfl,hno (Ne.symm hne)]
 ·
  rw [if_neg hi,if_neg hi]
  by_cases h2:i=zc.parent
  ·
   subst h2; rw [hy] at hz; cases hz; rw [if_pos rfl]
  ·
   rw [if_neg h2,hno h2,hz]
theorem El {d:ax} {p c a:Int} {y z:ah} (hy:nd d p=some y) (hz:nd d c=some z) (hne:c ≠ p) {i:Int} {x:ah} (hx:nd d i=some x):nd (ic d p c a) i=some { x with kids:=if i=p then mU x.kids a c else x.kids,parent:=if i=c then p else x.parent }:=by
 rw [Aq hy hz hne]
 by_cases hi:i=c
 ·
  subst hi; rw [hz] at hx; cases hx
  rw [if_pos rfl,if_pos rfl,if_neg hne]
 ·
  rw [if_neg hi,if_neg hi]
  by_cases h2:i=p
  ·
   subst h2; rw [hy] at hx; cases hx; rw [if_pos rfl,if_pos rfl]
  ·
   rw [if_neg h2,if_neg h2,hx]
theorem uP {d:ax} (h:WF d) {n:Nat} (hn:6000 ≤ n) (p c a:Int):eH n d p c a=some (if j5 d p c=true then (true,ic (cB d c) p c a) else (false,d)):=by
 unfold eH
 rw [vF h.dm,vF h.dm]
 simp only [Option.bind_some]
 by_cases hp:jF d p=true
 rotate_left 1
 ·
  rw [if_neg hp]
  have:j5 d p c=false:=by unfold j5; simp [hp]
  rw [this]; simp
 by_cases hc:jF d c=true
 rotate_left 1
 ·
  rw [if_pos hp,if_neg hc]
  have:j5 d p c=false:=by unfold j5; simp [hc]
  obtain ⟨y,hy,_⟩:=eU hp
  rw [this,iB h.dm hy]; simp
 rw [if_pos hp,if_pos hc]
 obtain ⟨y,l,hy,hyl,hpath,_⟩:=h.lp hp
 obtain ⟨z,hz,hzl⟩:=eU hc
 have hcr:=bV hz
 rw [iB h.dm hy,iB h.dm hz]
 simp only [Option.bind_some]
 have htag:qo d p=y.tag:=by unfold qo; rw [hy]
 by_cases hg:y.tag=[]∨c=1
 ·
  rw [if_pos (by simpa using hg)]
  have:j5 d p c=false:=by unfold j5; rw [htag]; rcases hg with q | q <;> simp [q]
  rw [this]; simp
 rw [if_neg (by simpa using hg),C8 h hpath (by omega) (by omega),Option.bind_some]
 by_cases hin:c ∈ l
 ·
  rw [if_pos (by simpa using hin)]
  have:j5 d p c=false:=by unfold j5; rw [hpath.of]; simp [hin]
  rw [this]; simp
 rw [if_neg (by simpa using hin),Bg h hc hn,Option.bind_some]
 have hok:j5 d p c=true:=by
  unfold j5; rw [htag,hpath.of]
  simp only [not_or] at hg
  simp [hp,hc,hin,hg.1,hg.2]
 rw [hok,if_pos rfl]
 have hW:=uM h hc
 have hP:=uW h hc hpath hin
 obtain ⟨y1,hy1,hyl1⟩:∃ y1,nd (cB d c) p=some y1∧y1.lives=true:=by
  obtain ⟨_,_,_,_,x,x1,x2⟩:=hP.mem p (by obtain ⟨t,rfl⟩:=hP.head; exact List.mem_cons_self)
  exact ⟨x,x1,x2⟩
 obtain ⟨z1,hz1,hzl1,hzp1⟩:=qI h hc
 have hne:c ≠ p:=fun q=>by obtain ⟨t,rfl⟩:=hpath.head; exact hin (by rw [q]; exact List.mem_cons_self)
 have hk:=qh hW hy1 hyl1
 rw [iB hW.dm hy1,Option.bind_some,IC (by omega),Option.bind_some,ni hW.dm hy1]
 have e1:ah.mk y1.lives y1.tag y1.key y1.text y1.attrs (mU y1.kids a c) y1.parent = { y1 with kids:=mU y1.kids a c }:=rfl
 rw [e1]
 have h1:=ik hy1 { y1 with kids:=mU y1.kids a c } c
 rw [if_neg hne] at h1
 have hd:(iO (cB d c) p { y1 with kids:=mU y1.kids a c }).l.length ≤ dM:=by rw [j6]; exact hW.dm
 rw [iB hd (h1.trans hz1),Option.bind_some,ni hd (h1.trans hz1)]
 unfold ic
 rw [hy1,hz1]
 rfl
theorem Cs {d:ax} (h:WF d) {p c:Int} (a:Int) (hok:j5 d p c=true):WF (ic (cB d c) p c a)∧(∀ i z,nd d i=some z→z.lives=true →
  nd (ic (cB d c) p c a) i=some { z with kids:=if i=p then mU (z.kids.erase c) a c else z.kids.erase c,parent:=if i=c then p else z.parent }):=by
 unfold j5 at hok
 simp only [Bool.and_eq_true,Bool.not_eq_true',beq_eq_false_iff_ne,decide_eq_false_iff_not] at hok
 obtain ⟨⟨⟨⟨hp,hc⟩,ht⟩,hc1⟩,hin⟩:=hok
 obtain ⟨y,l,hy,hyl,hpath,_⟩:=h.lp hp
 rw [hpath.of] at hin
 have htag:qo d p=y.tag:=by unfold qo; rw [hy]
 rw [htag] at ht
 have hW:=uM h hc
 have hP:=uW h hc hpath hin
 have hy1:=o6 h hc hy hyl
 obtain ⟨z1,hz1,hzl1,hzp1⟩:=qI h hc
 have hne:c ≠ p:=fun q=>by obtain ⟨t,rfl⟩:=hpath.head; exact hin (by rw [q]; exact List.mem_cons_self)
 refine ⟨FH hW hy1 hyl ht hz1 hzl1 hzp1 hc1 hP hin,fun i z hz hzl=>?_⟩
 rw [El hy1 hz1 hne (o6 h hc hz hzl)]
 by_cases hi:i=c
 ·
  subst hi; simp
 ·
  simp [hi]
theorem Eb {d:ax} (h:WF d) {n:Nat} (hn:6000 ≤ n) (c:Int):∃ b,ji n d c=some (b,if b=true then cB d c else d)∧(b=true↔∃ z,nd d c=some z∧z.lives=true∧z.parent ≠ 0):=by
 unfold ji
 rw [vF h.dm,Option.bind_some]
 by_cases hc:jF d c=true
 ·
  obtain ⟨z,hz,hl⟩:=eU hc
  rw [if_pos hc,iB h.dm hz,Option.bind_some]
  by_cases hp:z.parent=0
  ·
   rw [if_pos (by simpa using hp)]
   exact ⟨false,rfl,by simp only [Bool.false_eq_true,false_iff]; rintro ⟨x,x1,x2,x3⟩; rw [hz] at x1; cases x1; exact x3 hp⟩
  ·
   rw [if_neg (by simpa using hp),Bg h hc hn,Option.bind_some]
   exact ⟨true,rfl,by simp only [true_iff]; exact ⟨z,hz,hl,hp⟩⟩
 ·
  rw [if_neg hc]
  exact ⟨false,rfl,by simp only [Bool.false_eq_true,false_iff]; rintro ⟨x,x1,x2,x3⟩; exact hc (by rw [di x1,x2])⟩
theorem zM {d:ax} (h:WF d) (n:Nat) (i:Int):gy n d i=some (match nd d i with | some z=>if z.lives=true then z.kids else [] | none=>[]):=by
 unfold gy
 rw [vF h.dm,Option.bind_some]
 unfold jF
 cases hz:nd d i with
 | none=>rfl
 | some z =>
  simp only
  by_cases hl:z.lives=true
  ·
   have:=qh h hz hl
   rw [if_pos hl,if_pos hl,iB h.dm hz,Option.bind_some]
   unfold gB
   rw [jR (by rw [bnd]; simp; omega)]; rfl
  ·
   rw [if_neg hl,if_neg hl]
theorem Ar {d:ax} (h:WF d) (n:Nat):gY n d=some ((d.l.length:Int) - d.freed.length):=by
 have hfl:d.freed.length ≤ d.l.length:=gP _ _ h.freedN (fun x hx=>⟨by have:=h.freedR x hx; omega,(h.freedR x hx).2⟩)
 have:=h.len
 unfold gY
 rw [sQ (by omega) (by omega)]
end Pr
end Go.Ev

namespace Go.Ev
namespace Pr
set_option linter.unusedVariables false
set_option linter.unusedSimpArgs false
def rD:ah:=ah.mk true [114,111,111,116] [] [] [] [] 0
def yn:ax:=ax.mk [rD] []
theorem HY (n:Nat):qR n=some (some yn):=by
 unfold qR gm je
 rfl
theorem GA (i:Int):nd yn i=if i=1 then some rD else none:=by
 unfold nd yn
 by_cases h:1 ≤ i
 ·
  rw [if_pos h]
  by_cases h1:i=1
  ·
   subst h1; rfl
  ·
   rw [if_neg h1,List.getElem?_eq_none (by simp; omega)]
 ·
  rw [if_neg h,if_neg (by omega)]
theorem GG:WF yn:=by
 have one:∀ i z,nd yn i=some z→i=1∧z=rD:=fun i z h=>by
  rw [GA] at h
  split at h
  ·
   exact ⟨‹_›,(Option.some.inj h).symm⟩
  ·
   cases h
 refine ⟨by decide,⟨rD,rfl,rfl,rfl,by simp [rD]⟩,fun i hi=>by simp [yn] at hi,by simp [yn],fun i z h=>?_,fun i z h _=>?_,fun i z k h _ hk=>?_,fun k y h _ hp=>?_,fun i h=>?_,fun i z h=>?_⟩
 ·
  obtain ⟨rfl,rfl⟩:=one i z h; simp [yn,rD]
 ·
  obtain ⟨rfl,rfl⟩:=one i z h; simp [rD]
 ·
  obtain ⟨rfl,rfl⟩:=one i z h; simp [rD] at hk
 ·
  obtain ⟨rfl,rfl⟩:=one k y h; simp [rD] at hp
 ·
  obtain ⟨z,hz,hl⟩:=eU h
  obtain ⟨rfl,rfl⟩:=one i z hz
  exact ⟨[1],.top hz rfl rfl⟩
 ·
  obtain ⟨rfl,rfl⟩:=one i z h; simp [rD]
theorem CY {d:ax} (h:WF d) (hl:d.l.length < 5000) (n:Nat) {tag key:Str} (ht:tag ≠ []):∃ d',gm n d tag key=some (nextId d,d')∧WF d'∧New d d' (nextId d) (ah.mk true tag key [] [] [] 0)∧d'.freed=d.freed.dropLast∧d'.l.length=(if d.freed=[] then d.l.length + 1 else d.l.length):=by
 obtain ⟨d',h1,h2⟩:=Fg h hl n (aA.mk false tag key [] [] 0) rfl (by simp)
 refine ⟨d',?_,h2⟩
 unfold gm
 rw [if_neg (by simpa using ht),h1]; rfl
theorem Gn {d:ax} (h:WF d) (hl:d.l.length < 5000) (n:Nat) (s:Str):∃ d',jr n d s=some (nextId d,d')∧WF d'∧New d d' (nextId d) (ah.mk true [] [] s [] [] 0)∧d'.freed=d.freed.dropLast∧d'.l.length=(if d.freed=[] then d.l.length + 1 else d.l.length):=by
 obtain ⟨d',h1,h2⟩:=Fg h hl n (aA.mk false [] [] s [] 0) rfl (by simp)
 refine ⟨d',?_,h2⟩
 unfold jr
 rw [h1]; rfl
end Pr
end Go.Ev

namespace Go.Ev
namespace Pr
set_option linter.unusedVariables false
set_option linter.unusedSimpArgs false
theorem yT (a b:List Int):∀ (rest done rest2:List Int) (f:Nat),a=done ++ rest→b=done ++ rest2→rest.length=rest2.length→rest.length < f→a.length < 1000000→bP a b f (done.length:Int)=some (rest == rest2)
 | [],done,[],f + 1,h,h2,_,hf,hl=>by rw [bP,if_neg (by subst h; simp)]; rfl
 | z :: rest,done,y :: rest2,f + 1,h,h2,he,hf,hl=>by
  have hd:done.length < a.length:=by subst h; simp
  rw [bP,if_pos (by rw [decide_eq_true_eq]; omega),fI h,fI h2,Option.bind_some,Option.bind_some]
  by_cases hq:z=y
  ·
   subst hq
   rw [if_neg (by simp),sQ (by omega) (by omega)]
   have:=yT a b rest (done ++ [z]) rest2 f (by simp [h]) (by simp [h2]) (by simpa using he) (by simp at hf; omega) hl
   simp only [List.length_append,List.length_cons,List.length_nil,Nat.zero_add,Int.natCast_add,Int.cast_ofNat_Int] at this
   rw [this]; simp
  ·
   rw [if_pos (by simp [hq])]; simp [hq]
theorem GJ (n:Nat) (a b:List Int) (h:a.length < n) (hl:a.length < 1000000):fT n a b=some (a == b):=by
 unfold fT
 by_cases he:a.length=b.length
 ·
  rw [if_neg (by simp [he])]
  exact yT a b a [] b n rfl rfl he h hl
 ·
  rw [if_pos (by simp; omega)]
  have:(a == b)=false:=by rw [beq_eq_false_iff_ne]; intro q; exact he (by rw [q])
  rw [this]
end Pr
end Go.Ev

namespace Go.Ev
namespace Pr
set_option linter.unusedVariables false
set_option linter.unusedSimpArgs false
mutual
inductive TA (d:ax):Int→Tree→List Int→Prop
 | mk {i:Int} {z:ah} {ts:List Tree} {F:List Int} (h:nd d i=some z) (hl:z.lives=true) (k:iM d z.kids ts F):TA d i (Tree.mk z.tag z.key z.text z.attrs ts) (i :: F)
inductive iM (d:ax):List Int→List Tree→List Int→Prop
 | nil:iM d [] [] []
 | cons {i:Int} {is:List Int} {t:Tree} {ts:List Tree} {F G:List Int} (h:TA d i t F) (k:iM d is ts G):iM d (i :: is) (t :: ts) (F ++ G)
end
mutual
def iF:Tree→Nat
 | .mk _ _ _ _ ks=>1 + fC ks
def fC:List Tree→Nat
 | []=>0
 | t :: l=>iF t + fC l
end
mutual
theorem TA.len {d:ax}:∀ {i:Int} {t:Tree} {F:List Int},TA d i t F→F.length=iF t
 | _,_,_,.mk h hl k=>by simp only [List.length_cons,iF,k.len]; omega
theorem iM.len {d:ax}:∀ {is:List Int} {ts:List Tree} {F:List Int},iM d is ts F→F.length=fC ts
 | _,_,_,.nil=>rfl
 | _,_,_,.cons h k=>by simp only [List.length_append,fC,h.len,k.len]
end
mutual
theorem TA.keep {d d':ax}:∀ {i:Int} {t:Tree} {F:List Int},TA d i t F→(∀ j ∈ F,∀ z,nd d j=some z→∃ z',nd d' j=some z'∧z'.lives=z.lives∧z'.tag=z.tag∧z'.key=z.key∧z'.text=z.text∧z'.attrs=z.attrs∧z'.kids=z.kids)→TA d' i t F
 | _,_,_,.mk h hl k,hk=>by
  obtain ⟨z',q1,q2,q3,q4,q5,q6,q7⟩:=hk _ List.mem_cons_self _ h
  rw [← q3,← q4,← q5,← q6]
  refine .mk q1 (by rw [q2,hl]) ?_
  rw [q7]
  exact k.keep (fun j hj=>hk j (List.mem_cons_of_mem _ hj))
theorem iM.keep {d d':ax}:∀ {is:List Int} {ts:List Tree} {F:List Int},iM d is ts F→(∀ j ∈ F,∀ z,nd d j=some z→∃ z',nd d' j=some z'∧z'.lives=z.lives∧z'.tag=z.tag∧z'.key=z.key∧z'.text=z.text∧z'.attrs=z.attrs∧z'.kids=z.kids)→iM d' is ts F
 | _,_,_,.nil,hk=>.nil
 | _,_,_,.cons h k,hk=>.cons (h.keep (fun j hj=>hk j (List.mem_append_left _ hj))) (k.keep (fun j hj=>hk j (List.mem_append_right _ hj)))
end
theorem TA.rH {d d':ax} {i:Int} {t:Tree} {F:List Int} (h:TA d i t F) (hk:∀ j ∈ F,nd d' j=nd d j):TA d' i t F :=
 h.keep (fun j hj z hz=>⟨z,by rw [hk j hj]; exact hz,rfl,rfl,rfl,rfl,rfl,rfl⟩)
theorem iM.rH {d d':ax} {is:List Int} {ts:List Tree} {F:List Int} (h:iM d is ts F) (hk:∀ j ∈ F,nd d' j=nd d j):iM d' is ts F :=
 h.keep (fun j hj z hz=>⟨z,by rw [hk j hj]; exact hz,rfl,rfl,rfl,rfl,rfl,rfl⟩)
theorem TA.head {d:ax} {i:Int} {t:Tree} {F:List Int} (h:TA d i t F):∃ G,F=i :: G:=by cases h; exact ⟨_,rfl⟩
mutual
theorem TA.live {d:ax}:∀ {i:Int} {t:Tree} {F:List Int},TA d i t F→∀ j ∈ F,∃ z,nd d j=some z∧z.lives=true∧∀ k ∈ z.kids,k ∈ F
 | _,_,_,.mk h hl k,j,hj=>by
  rcases List.mem_cons.1 hj with rfl | hj
  ·
   exact ⟨_,h,hl,fun q hq=>List.mem_cons_of_mem _ (k.heads q hq)⟩
  ·
   obtain ⟨z,q1,q2,q3⟩:=k.live j hj
   exact ⟨z,q1,q2,fun q hq=>List.mem_cons_of_mem _ (q3 q hq)⟩
theorem iM.live {d:ax}:∀ {is:List Int} {ts:List Tree} {F:List Int},iM d is ts F→∀ j ∈ F,∃ z,nd d j=some z∧z.lives=true∧∀ k ∈ z.kids,k ∈ F
 | _,_,_,.nil,j,hj=>by cases hj
 | _,_,_,.cons h k,j,hj=>by
  rcases List.mem_append.1 hj with hj | hj
  ·
   obtain ⟨z,q1,q2,q3⟩:=h.live j hj
   exact ⟨z,q1,q2,fun q hq=>List.mem_append_left _ (q3 q hq)⟩
  ·
   obtain ⟨z,q1,q2,q3⟩:=k.live j hj
   exact ⟨z,q1,q2,fun q hq=>List.mem_append_right _ (q3 q hq)⟩
theorem iM.heads {d:ax}:∀ {is:List Int} {ts:List Tree} {F:List Int},iM d is ts F→∀ j ∈ is,j ∈ F
 | _,_,_,.nil,j,hj=>by cases hj
 | _,_,_,.cons h k,j,hj=>by
  rcases List.mem_cons.1 hj with rfl | hj
  ·
   obtain ⟨G,rfl⟩:=h.head; simp
  ·
   exact List.mem_append_right _ (k.heads j hj)
end
mutual
theorem TA.uniq {d:ax}:∀ {i:Int} {t t':Tree} {F F':List Int},TA d i t F→TA d i t' F'→t=t'∧F=F'
 | _,_,_,_,_,.mk h hl k,.mk h' hl' k'=>by
  rw [h] at h'; cases h'
  obtain ⟨e1,e2⟩:=k.uniq k'
  rw [e1,e2]; exact ⟨rfl,rfl⟩
theorem iM.uniq {d:ax}:∀ {is:List Int} {t t':List Tree} {F F':List Int},iM d is t F→iM d is t' F'→t=t'∧F=F'
 | _,_,_,_,_,.nil,.nil=>⟨rfl,rfl⟩
 | _,_,_,_,_,.cons h k,.cons h' k'=>by
  obtain ⟨e1,e2⟩:=h.uniq h'
  obtain ⟨e3,e4⟩:=k.uniq k'
  rw [e1,e2,e3,e4]; exact ⟨rfl,rfl⟩
end
theorem iM.lens {d:ax}:∀ {is:List Int} {ts:List Tree} {F:List Int},iM d is ts F→is.length=ts.length
 | _,_,_,.nil=>rfl
 | _,_,_,.cons h k=>by simp [k.lens]
theorem iM.app {d:ax}:∀ {is is2:List Int} {ts ts2:List Tree} {F F2:List Int},iM d is ts F→iM d is2 ts2 F2→iM d (is ++ is2) (ts ++ ts2) (F ++ F2)
 | _,_,_,_,_,_,.nil,h=>h
 | _,_,_,_,_,_,.cons a b,h=>by
  have:=iM.cons a (b.app h)
  simpa [List.append_assoc] using this
theorem iM.one {d:ax} {i:Int} {t:Tree} {F:List Int} (h:TA d i t F):iM d [i] [t] F:=by
 have:=iM.cons h (.nil (d:=d))
 simpa using this
mutual
theorem TA.path {d:ax} (hW:WF d):∀ {i:Int} {t:Tree} {F:List Int} {l:List Int},TA d i t F→Path d i l→∀ j ∈ F,∃ l1,Path d j (l1 ++ l)
 | i,_,_,l,.mk h hl k,hp,j,hj=>by
  rcases List.mem_cons.1 hj with rfl | hj
  ·
   exact ⟨[],hp⟩
  ·
   obtain ⟨l1,q⟩:=k.path hW hp (fun c hc=>hW.kid i _ c h hl hc) (bV h).1 j hj
   exact ⟨l1,q⟩
theorem iM.path {d:ax} (hW:WF d):∀ {is:List Int} {ts:List Tree} {F:List Int} {l:List Int} {p:Int},iM d is ts F→Path d p l→(∀ c ∈ is,∃ y,nd d c=some y∧y.lives=true∧y.parent=p)→1 ≤ p→∀ j ∈ F,∃ l1,Path d j (l1 ++ l)
 | _,_,_,l,p,.nil,hp,hc,h1,j,hj=>by cases hj
 | _,_,_,l,p,.cons h k,hp,hc,h1,j,hj=>by
  rcases List.mem_append.1 hj with hj | hj
  ·
   obtain ⟨y,y1,y2,y3⟩:=hc _ List.mem_cons_self
   have hp2:Path d _ (_ :: l):=.up y1 y2 (by omega) (by rw [y3]; exact hp)
   obtain ⟨l1,q⟩:=h.path hW hp2 j hj
   exact ⟨l1 ++ [_],by simpa using q⟩
  ·
   exact k.path hW hp (fun c hcc=>hc c (List.mem_cons_of_mem _ hcc)) h1 j hj
end
theorem Et {d:ax} {j:Int} {l1 l2 l:List Int} (h1:Path d j (l1 ++ l)) (h2:Path d j (l2 ++ l)):l1=l2:=List.append_cancel_right (h1.uniq h2)
mutual
theorem TA.nodup {d:ax} (hW:WF d):∀ {i:Int} {t:Tree} {F:List Int} {l:List Int},TA d i t F→Path d i l→F.Nodup
 | i,_,_,l,.mk h hl k,hp=>by
  refine List.nodup_cons.2 ⟨fun hm=>?_,k.nodup hW hp (fun c hc=>hW.kid i _ c h hl hc) (bV h).1 (hW.kidN i _ h hl)⟩
  obtain ⟨l1,q⟩:=k.F4 hW hp (fun c hc=>hW.kid i _ c h hl hc) (bV h).1 i hm
  obtain ⟨c,hc⟩:=q
  have:=hc.uniq hp
  have:=congrArg List.length this
  simp at this
  omega
theorem iM.nodup {d:ax} (hW:WF d):∀ {is:List Int} {ts:List Tree} {F:List Int} {l:List Int} {p:Int},iM d is ts F→Path d p l→(∀ c ∈ is,∃ y,nd d c=some y∧y.lives=true∧y.parent=p)→1 ≤ p→is.Nodup→F.Nodup
 | _,_,_,l,p,.nil,hp,hc,h1,hn=>List.nodup_nil
 | _,_,_,l,p,.cons (i:=i) (is:=is) h k,hp,hc,h1,hn=>by
  obtain ⟨y,y1,y2,y3⟩:=hc _ List.mem_cons_self
  have hp2:Path d i (i :: l):=.up y1 y2 (by omega) (by rw [y3]; exact hp)
  have hn':=List.nodup_cons.1 hn
  refine List.nodup_append.2 ⟨h.nodup hW hp2,k.nodup hW hp (fun c hcc=>hc c (List.mem_cons_of_mem _ hcc)) h1 hn'.2,fun a ha b hb hab=>?_⟩
  subst hab
  obtain ⟨l1,q1⟩:=h.path hW hp2 a ha
  obtain ⟨l2,c,hc2,q2⟩:=k.BD hW hp (fun c hcc=>hc c (List.mem_cons_of_mem _ hcc)) h1 a hb
  have e:l1 ++ [i]=l2 ++ [c]:=Et (l:=l) (by simpa using q1) (by simpa using q2)
  have:=List.append_inj_right' e rfl
  simp at this
  subst this
  exact hn'.1 hc2
theorem iM.F4 {d:ax} (hW:WF d) {is:List Int} {ts:List Tree} {F:List Int} {l:List Int} {p:Int} (h:iM d is ts F) (hp:Path d p l) (hc:∀ c ∈ is,∃ y,nd d c=some y∧y.lives=true∧y.parent=p) (h1:1 ≤ p):∀ j ∈ F,∃ l1:List Int,∃ c,Path d j (l1 ++ c :: l):=fun j hj=>by
 obtain ⟨l1,c,_,q⟩:=h.BD hW hp hc h1 j hj
 exact ⟨l1,c,q⟩
theorem iM.BD {d:ax} (hW:WF d):∀ {is:List Int} {ts:List Tree} {F:List Int} {l:List Int} {p:Int},iM d is ts F→Path d p l→(∀ c ∈ is,∃ y,nd d c=some y∧y.lives=true∧y.parent=p)→1 ≤ p→∀ j ∈ F,∃ l1:List Int,∃ c,c ∈ is∧Path d j (l1 ++ c :: l)
 | _,_,_,l,p,.nil,hp,hc,h1,j,hj=>by cases hj
 | _,_,_,l,p,.cons (i:=i) h k,hp,hc,h1,j,hj=>by
  rcases List.mem_append.1 hj with hj | hj
  ·
   obtain ⟨y,y1,y2,y3⟩:=hc _ List.mem_cons_self
   have hp2:Path d i (i :: l):=.up y1 y2 (by omega) (by rw [y3]; exact hp)
   obtain ⟨l1,q⟩:=h.path hW hp2 j hj
   exact ⟨l1,i,List.mem_cons_self,q⟩
  ·
   obtain ⟨l1,c,c1,q⟩:=k.BD hW hp (fun c hcc=>hc c (List.mem_cons_of_mem _ hcc)) h1 j hj
   exact ⟨l1,c,List.mem_cons_of_mem _ c1,q⟩
end
end Pr
end Go.Ev

namespace Go.Ev
namespace Pr
set_option linter.unusedVariables false
set_option linter.unusedSimpArgs false
theorem Al (t:Tree):1 ≤ iF t:=by cases t; simp only [iF]; omega
theorem om:∀ (l:List Tree),l.length ≤ fC l
 | []=>by simp
 | t :: l=>by have:=om l; have:=Al t; simp only [List.length_cons,fC]; omega
theorem y7 {n:Nat} {d:ax} (ih:∀ {i:Int} {t:Tree} {F:List Int},TA d i t F→iF t < n→fu n d i=some t) {z:ah} (at_:List Attr) (hk:z.kids.length ≤ 5000):∀ {is:List Int} {ts:List Tree} {F:List Int} (done:List Int) (dts:List Tree) (f:Nat),iM d is ts F→z.kids=done ++ is→dts.length=done.length→fC ts < n→is.length < f →
  dR (fu n) d z at_ f dts (done.length:Int)=some (Tree.mk z.tag z.key z.text at_ (dts ++ ts))
 | _,_,_,done,dts,f + 1,.nil,h,hd,hn,hf=>by
  rw [dR,if_neg (by rw [h]; simp)]
  simp
 | _,_,_,done,dts,f + 1,.cons (i:=i) (is:=is) (t:=t) (ts:=ts) a b,h,hd,hn,hf=>by
  have hl:z.kids.length=done.length + 1 + is.length:=by rw [h]; simp; omega
  simp only [fC] at hn
  rw [dR,if_pos (by rw [decide_eq_true_eq]; omega),fI h,Option.bind_some,ih a (by omega),Option.bind_some,jR (by rw [bnd]; simp; omega),Option.bind_some,sQ (by omega) (by omega)]
  have:=y7 ih at_ hk (done ++ [i]) (dts ++ [t]) f b (by rw [h]; simp) (by simp [hd]) (by omega) (by simpa using hf)
  simpa using this
theorem Dt {d:ax} (hW:WF d):∀ (n:Nat) {i:Int} {t:Tree} {F:List Int},TA d i t F→iF t < n→fu n d i=some t
 | 0,_,_,_,_,h=>by omega
 | n + 1,i,_,_,.mk (z:=z) (ts:=ts) h hl k,hn=>by
  simp only [iF] at hn
  have hat:=hW.attrs _ _ h
  have hkl:=qh hW h hl
  have htl:=om ts
  have hkt:=k.lens
  rw [fu,iB hW.dm h,Option.bind_some]
  unfold bT
  rw [jR (by rw [bnd]; simp; omega),Option.bind_some,List.nil_append]
  have:=y7 (Dt hW n) z.attrs hkl [] [] n k rfl rfl (by omega) (by omega)
  simpa using this
theorem zO {d:ax} (hW:WF d) {n:Nat} {i:Int} {t:Tree} {F:List Int} (h:TA d i t F) (hn:iF t < n):iJ n d i=some (t,true):=by
 unfold iJ
 have ht:=Dt hW n h hn
 cases h with
 | mk h hl k =>
  rw [vF hW.dm,Option.bind_some,di h,if_pos hl,iB hW.dm h,Option.bind_some,ht]; rfl
def vM:ah:=ah.mk false [] [] [] [] [] 0
def qg (l:List ah):List Int→List ah
 | []=>l
 | i :: F=>qg (l.set (i - 1).toNat vM) F
def cu (d:ax) (F:List Int):ax:=ax.mk (qg d.l F) (d.freed ++ F)
theorem yA:∀ (F G:List Int) (l:List ah),qg l (F ++ G)=qg (qg l F) G
 | [],G,l=>rfl
 | i :: F,G,l=>by simp only [List.cons_append,qg,yA F G]
theorem vw (d:ax) (F G:List Int):cu (cu d F) G=cu d (F ++ G):=by
 unfold cu; simp [yA]
theorem l6:∀ (F:List Int) (l:List ah),(qg l F).length=l.length
 | [],l=>rfl
 | i :: F,l=>by simp [qg,l6 F]
@[simp] theorem mY (d:ax) (F:List Int):(cu d F).l.length=d.l.length:=l6 F d.l
theorem mg:∀ (F:List Int) (d:ax),(∀ i ∈ F,1 ≤ i∧i ≤ d.l.length)→∀ j,nd (cu d F) j=if j ∈ F then some vM else nd d j
 | [],d,h,j=>by simp only [List.not_mem_nil,if_false]; unfold nd cu qg; rfl
 | i :: F,d,h,j=>by
  have hi:=h i List.mem_cons_self
  obtain ⟨z0,hz0⟩:=pM hi.1 hi.2
  have e:cu d (i :: F)=ax.mk (qg (iO d i vM).l F) (d.freed ++ i :: F):=rfl
  have h2:=mg F (iO d i vM) (fun k hk=>by rw [j6]; exact h k (List.mem_cons_of_mem _ hk)) j
  have e2:nd (cu d (i :: F)) j=nd (cu (iO d i vM) F) j:=by rw [e]; unfold nd cu; rfl
  rw [e2,h2,ik hz0]
  by_cases hj:j ∈ F
  ·
   rw [if_pos hj,if_pos (List.mem_cons_of_mem _ hj)]
  ·
   rw [if_neg hj]
   by_cases hji:j=i
   ·
    rw [if_pos hji,if_pos (by rw [hji]; exact List.mem_cons_self)]
   ·
    rw [if_neg hji,if_neg (by simp [hji,hj])]
theorem TA.GQ {d:ax} {i:Int} {t:Tree} {F:List Int} (h:TA d i t F):∀ j ∈ F,1 ≤ j∧j ≤ d.l.length:=fun j hj=>by
 obtain ⟨z,hz,_⟩:=h.live j hj; exact bV hz
theorem iM.GQ {d:ax} {i:List Int} {t:List Tree} {F:List Int} (h:iM d i t F):∀ j ∈ F,1 ≤ j∧j ≤ d.l.length:=fun j hj=>by
 obtain ⟨z,hz,_⟩:=h.live j hj; exact bV hz
theorem yI {n:Nat} (ih:∀ {d:ax} {i:Int} {t:Tree} {F:List Int},TA d i t F→F.Nodup→d.l.length ≤ 5000→d.freed.length + F.length ≤ 100000→iF t < n→eO n d i=some (cu d F)) {z:ah} (hk:z.kids.length ≤ 5000) :
  ∀ (is:List Int) (ts:List Tree) (F:List Int) (d:ax) (done:List Int) (f:Nat),iM d is ts F→F.Nodup→d.l.length ≤ 5000→d.freed.length + F.length ≤ 100000→z.kids=done ++ is→fC ts < n→is.length < f →
  dQ (eO n) z f d (done.length:Int)=some (cu d F)
 | [],_,_,d,done,f + 1,.nil,hn,hl,hb,h,ht,hf=>by
  rw [dQ,if_neg (by rw [h]; simp)]
  unfold cu qg; simp
 | i :: is,_,_,d,done,f + 1,.cons (t:=t) (ts:=ts) (F:=F) (G:=G) a b,hn,hl,hb,h,ht,hf=>by
  have hkl:z.kids.length=done.length + 1 + is.length:=by rw [h]; simp; omega
  simp only [fC] at ht
  have hnd:=List.nodup_append.1 hn
  rw [List.length_append] at hb
  rw [dQ,if_pos (by rw [decide_eq_true_eq]; omega),fI h,Option.bind_some,ih a hnd.1 hl (by omega) (by omega),Option.bind_some,sQ (by omega) (by omega)]
  have b2:iM (cu d F) is ts G:=b.rH (fun j hj=>by rw [mg F d a.GQ,if_neg (fun q=>hnd.2.2 j q j hj rfl)])
  have:=yI ih hk is ts G (cu d F) (done ++ [i]) f b2 hnd.2.1 (by rw [mY]; exact hl) (by simp [cu]; omega) (by rw [h]; simp) (by omega) (by simpa using hf)
  rw [vw] at this
  simpa using this
theorem DC:∀ (n:Nat) {d:ax} {i:Int} {t:Tree} {F:List Int},TA d i t F→F.Nodup→d.l.length ≤ 5000→d.freed.length + F.length ≤ 100000→iF t < n→eO n d i=some (cu d F)
 | 0,_,_,_,_,_,_,_,_,h=>by omega
 | n + 1,d,i,_,_,.mk (z:=z) (ts:=ts) (F:=F) h hl k,hn,hlen,hb,ht=>by
  simp only [iF] at ht
  simp only [List.length_cons] at hb
  have hkt:=k.lens
  have htl:=om ts
  have hkF:z.kids.length ≤ F.length:=by have:=k.len; omega
  have hFl:F.length ≤ 5000:=Nat.le_trans (gP d.l.length F (List.nodup_cons.1 hn).2 (fun x hx=>k.GQ x hx)) hlen
  have hdm:d.l.length ≤ dM:=Nat.le_trans hlen (by decide)
  rw [eO,iB hdm h,Option.bind_some,jR (by rw [bnd]; simp; omega),Option.bind_some,ni hdm h]
  have e1:ax.mk (iO d i (ah.mk (aA.mk false [] [] [] [] 0).lives (aA.mk false [] [] [] [] 0).tag (aA.mk false [] [] [] [] 0).key (aA.mk false [] [] [] [] 0).text (aA.mk false [] [] [] [] 0).attrs [] (aA.mk false [] [] [] [] 0).parent)).l (d.freed ++ [i])=cu d [i]:=rfl
  rw [e1]
  have hn':=List.nodup_cons.1 hn
  have k2:iM (cu d [i]) z.kids ts F:=k.rH (fun j hj=>by rw [mg [i] d (fun q hq=>by rw [List.mem_singleton.1 hq]; exact bV h),if_neg (by simp only [List.mem_singleton]; exact fun q=>hn'.1 (q ▸ hj))])
  have:=yI (DC n) (z:=z) (by omega) z.kids ts F (cu d [i]) [] n k2 hn'.2 (by rw [mY]; exact hlen) (by simp [cu]; omega) rfl (by omega) (by omega)
  rw [vw] at this
  simpa using this
end Pr
end Go.Ev

namespace Go.Ev
namespace Pr
set_option linter.unusedVariables false
set_option linter.unusedSimpArgs false
theorem Path.tail {d:ax} {i:Int} {l:List Int} (h:Path d i l):∃ z,nd d i=some z∧z.lives=true∧((z.parent=0∧l=[i])∨(z.parent ≠ 0∧∃ t,l=i :: t∧Path d z.parent t)):=by
 cases h with
 | top g gl gp=>exact ⟨_,g,gl,.inl ⟨gp,rfl⟩⟩
 | up g gl gp k=>exact ⟨_,g,gl,.inr ⟨gp,_,rfl,k⟩⟩
theorem TA.sub {d:ax} (hW:WF d) {i:Int} {t:Tree} {F l:List Int} (h:TA d i t F) (hp:Path d i l):∀ j ∈ F,j ≠ i→∃ z,nd d j=some z∧z.lives=true∧z.parent ∈ F∧z.parent ≠ 0:=by
 obtain ⟨G,hG⟩:=h.head
 obtain ⟨li,hli⟩:=hp.head
 have step:∀ (a:Int) (l1:List Int) (p:Int),Path d p ((a :: l1) ++ l)→a=p∧∃ z,nd d p=some z∧z.lives=true∧z.parent ≠ 0∧Path d z.parent (l1 ++ l):=fun a l1 p q=>by
  obtain ⟨z,z1,z2,z3⟩:=q.tail
  rcases z3 with ⟨_,e⟩ | ⟨z3,t,e,k⟩
  ·
   exfalso
   have:=congrArg List.length e
   rw [hli] at this; simp at this
  ·
   have e1:=List.cons.inj (by simpa using e)
   exact ⟨e1.1,z,z1,z2,z3,by rw [e1.2]; exact k⟩
 have key:∀ (l1:List Int) (p:Int),Path d p (l1 ++ l)→p ∈ F:=by
  intro l1
  induction l1 with
  | nil =>
   intro p hq
   obtain ⟨e,he⟩:=hq.head
   rw [List.nil_append,hli] at he
   rw [← (List.cons.inj he).1,hG]
   exact List.mem_cons_self
  | cons b l2 ih =>
   intro p hq
   obtain ⟨rfl,z,z1,z2,z3,k⟩:=step b l2 p hq
   have hin:=ih _ k
   obtain ⟨zp,p1,p2,p3⟩:=h.live _ hin
   obtain ⟨x,x1,x2,x3,_⟩:=hW.par _ _ z1 z2 z3
   rw [x1] at p1; cases p1
   exact p3 _ x3
 intro j hj hne
 obtain ⟨l1,q⟩:=h.path hW hp j hj
 cases l1 with
 | nil =>
  obtain ⟨b,hb⟩:=q.head
  rw [List.nil_append,hli] at hb
  exact absurd (List.cons.inj hb).1.symm hne
 | cons a l1 =>
  obtain ⟨rfl,z,z1,z2,z3,k⟩:=step a l1 j q
  exact ⟨z,z1,z2,key l1 _ k,z3⟩
theorem Gx {d:ax} (hW:WF d) {i:Int} {t:Tree} {F:List Int} (h:TA d i t F) {zi:ah} (hzi:nd d i=some zi) (hp0:zi.parent=0) (hi1:i ≠ 1):WF (cu d F)∧F.Nodup∧(∀ j,j ∉ F→nd (cu d F) j=nd d j):=by
 have hli:zi.lives=true:=by
  obtain ⟨z,z1,z2,_⟩:=h.live i (by obtain ⟨G,rfl⟩:=h.head; exact List.mem_cons_self)
  rw [hzi] at z1; cases z1; exact z2
 have hp:Path d i [i]:=.top hzi hli hp0
 have hsub:=h.sub hW hp
 have hnF:=h.nodup hW hp
 have hget:=mg F d h.GQ
 have out:∀ j,j ∉ F→nd (cu d F) j=nd d j:=fun j hj=>by rw [hget,if_neg hj]
 have one:(1:Int) ∉ F:=fun hm=>by
  obtain ⟨r,r1,r2,r3,_⟩:=hW.root
  obtain ⟨z,z1,z2,z3,z4⟩:=hsub 1 hm (Ne.symm hi1)
  rw [r1] at z1; cases z1; exact z4 r3
 have low:∀ j z,nd (cu d F) j=some z→z.lives=true→j ∉ F∧nd d j=some z:=fun j z hz hl=>by
  rw [hget] at hz
  by_cases hj:j ∈ F
  ·
   rw [if_pos hj] at hz; cases hz; simp [vM] at hl
  ·
   rw [if_neg hj] at hz; exact ⟨hj,hz⟩
 have kidOut:∀ j z k,j ∉ F→nd d j=some z→z.lives=true→k ∈ z.kids→k ∉ F:=fun j z k hj hz hl hk hm=>by
  obtain ⟨y,y1,y2,y3⟩:=hW.kid j z k hz hl hk
  by_cases hki:k=i
  ·
   subst hki; rw [hzi] at y1; cases y1
   have:=bV hz; omega
  ·
   obtain ⟨x,x1,x2,x3,x4⟩:=hsub k hm hki
   rw [y1] at x1; cases x1
   rw [y3] at x3; exact hj x3
 have parOut:∀ k y,k ∉ F→nd d k=some y→y.lives=true→y.parent ≠ 0→y.parent ∉ F:=fun k y hk hy hl hpk hm=>by
  obtain ⟨x,x1,x2,x3,_⟩:=hW.par k y hy hl hpk
  obtain ⟨z,z1,z2,z3⟩:=h.live _ hm
  rw [x1] at z1; cases z1
  exact hk (z3 k x3)
 refine ⟨⟨by rw [mY]; exact hW.len,?_,fun j hj=>?_,?_,fun j z hz=>?_,fun j z hz hl=>?_,fun j z k hz hl hk=>?_,fun k y hy hl hpk=>?_,fun j hj=>?_,fun j z hz=>?_⟩,hnF,out⟩
 ·
  obtain ⟨r,r1,r2⟩:=hW.root
  exact ⟨r,by rw [out 1 one]; exact r1,r2⟩
 ·
  rw [mY]
  rcases List.mem_append.1 (show j ∈ d.freed ++ F from hj) with hj | hj
  ·
   exact hW.freedR j hj
  ·
   have:=h.GQ j hj
   exact ⟨by have:j ≠ 1:=fun q=>one (q ▸ hj); omega,this.2⟩
 ·
  show (d.freed ++ F).Nodup
  refine List.nodup_append.2 ⟨hW.freedN,hnF,fun a ha b hb hab=>?_⟩
  subst hab
  obtain ⟨z,z1,z2,_⟩:=h.live a hb
  have:=(hW.dead a z z1).2 ha
  rw [z2] at this; cases this
 ·
  show z.lives=false↔j ∈ d.freed ++ F
  rw [hget] at hz
  by_cases hj:j ∈ F
  ·
   rw [if_pos hj] at hz; cases hz
   simp [vM,hj]
  ·
   rw [if_neg hj] at hz
   rw [hW.dead j z hz]; simp [hj]
 ·
  obtain ⟨q1,q2⟩:=low j z hz hl; exact hW.kidN j z q2 hl
 ·
  obtain ⟨q1,q2⟩:=low j z hz hl
  obtain ⟨y,y1,y2,y3⟩:=hW.kid j z k q2 hl hk
  exact ⟨y,by rw [out k (kidOut j z k q1 q2 hl hk)]; exact y1,y2,y3⟩
 ·
  obtain ⟨q1,q2⟩:=low k y hy hl
  obtain ⟨x,x1,x2,x3⟩:=hW.par k y q2 hl hpk
  exact ⟨x,by rw [out _ (parOut k y q1 q2 hl hpk)]; exact x1,x2,x3⟩
 ·
  obtain ⟨z,hz,hl⟩:=eU hj
  obtain ⟨q1,q2⟩:=low j z hz hl
  obtain ⟨l,hl2⟩:=hW.path j (by rw [di q2,hl])
  refine ⟨l,?_⟩
  clear hj hz
  induction hl2 generalizing z with
  | top g gl gp =>
   rw [g] at q2; cases q2
   exact .top (by rw [out _ q1]; exact g) gl gp
  | up g gl gp k ih =>
   rw [g] at q2; cases q2
   obtain ⟨x,x1,x2,_⟩:=hW.par _ _ g gl gp
   exact .up (by rw [out _ q1]; exact g) gl gp (ih x x2 (parOut _ _ q1 g gl gp) x1)
 ·
  rw [hget] at hz
  by_cases hj:j ∈ F
  ·
   rw [if_pos hj] at hz; cases hz; simp [vM]
  ·
   rw [if_neg hj] at hz; exact hW.attrs j z hz
theorem Gt {d:ax} (hW:WF d) {n:Nat} {i:Int} {t:Tree} {F:List Int} (h:TA d i t F) {zi:ah} (hzi:nd d i=some zi) (hp0:zi.parent=0) (hi1:i ≠ 1) (hn:iF t < n):kz n d i=some (true,cu d F):=by
 have hli:zi.lives=true:=by
  obtain ⟨z,z1,z2,_⟩:=h.live i (by obtain ⟨G,rfl⟩:=h.head; exact List.mem_cons_self)
  rw [hzi] at z1; cases z1; exact z2
 have hF:=h.nodup hW (.top hzi hli hp0)
 have hfl:d.freed.length ≤ d.l.length:=gP _ _ hW.freedN (fun x hx=>⟨by have:=hW.freedR x hx; omega,(hW.freedR x hx).2⟩)
 have hFl:F.length ≤ d.l.length:=gP _ _ hF h.GQ
 have:=hW.len
 unfold kz
 rw [vF hW.dm,Option.bind_some,di hzi,if_pos hli,iB hW.dm hzi,Option.bind_some,if_neg (by simp [hi1,hp0]),DC n h hF hW.len (by omega) hn]
 rfl
def cnt (d:ax):Int:=(d.l.length:Int) - d.freed.length
theorem FJ (d:ax) (F:List Int):cnt (cu d F)=cnt d - F.length:=by unfold cnt cu; simp [l6]; omega
theorem TA.cB {d:ax} (hW:WF d) {c:Int} (hc:jF d c=true) {i:Int} {t:Tree} {F:List Int} (h:TA d i t F) (hno:∀ j ∈ F,∀ z,nd d j=some z→c ∉ z.kids):TA (Pr.cB d c) i t F :=
 h.keep (fun j hj z hz=>by
  obtain ⟨z',z1,z2,_⟩:=h.live j hj
  rw [hz] at z1; cases z1
  refine ⟨_,o6 hW hc hz z2,rfl,rfl,rfl,rfl,rfl,?_⟩
  exact List.erase_of_not_mem (hno j hj z hz))
theorem GN {d:ax} (hW:WF d) {n:Nat} (hn6:6000 ≤ n) {c:Int} {t:Tree} {F:List Int} (h:TA d c t F) (hc1:c ≠ 1):∃ d',jP n d c=some ((F.length:Int),d')∧WF d'∧cnt d'=cnt d - F.length∧d'.l.length=d.l.length∧(∀ j ∈ F,jF d' j=false) ∧
  (∀ j z,j ∉ F→nd d j=some z→nd d' j=some (if z.lives=true then { z with kids:=z.kids.erase c } else z)):=by
 obtain ⟨z,hz,hl,_⟩:=h.live c (by obtain ⟨G,rfl⟩:=h.head; exact List.mem_cons_self)
 have hc:jF d c=true:=by rw [di hz,hl]
 obtain ⟨l,hp⟩:=hW.path c hc
 have hF:=h.nodup hW hp
 have hFl:F.length ≤ d.l.length:=gP _ _ hF h.GQ
 have hlen:=hW.len
 have htn:iF t < n:=by have:=h.len; omega
 have hW1:=uM hW hc
 have hno:∀ j ∈ F,∀ y,nd d j=some y→c ∉ y.kids:=fun j hj y hy hm=>by
  obtain ⟨y0,y1,y2,_⟩:=h.live j hj
  rw [hy] at y1; cases y1
  obtain ⟨x,x1,x2,x3⟩:=hW.kid j y c hy y2 hm
  rw [hz] at x1; cases x1
  obtain ⟨l1,q⟩:=h.path hW hp j hj
  have hr:=bV hy
  have:=(Path.up hz hl (by omega) (by rw [x3]; exact q)).uniq hp
  have:=congrArg List.length this
  simp at this; omega
 have h1:TA (cB d c) c t F:=h.cB hW hc hno
 obtain ⟨z1,hz1,hl1,hp1⟩:=qI hW hc
 obtain ⟨w1,w2,w3⟩:=Gx hW1 h1 hz1 hp1 hc1
 have hfl:d.freed.length ≤ d.l.length:=gP _ _ hW.freedN (fun x hx=>⟨by have:=hW.freedR x hx; omega,(hW.freedR x hx).2⟩)
 have hfl2:=gP (cu (cB d c) F).l.length _ w1.freedN (fun x hx=>⟨by have:=w1.freedR x hx; omega,(w1.freedR x hx).2⟩)
 have hc2:cnt (cu (cB d c) F)=cnt d - F.length:=by rw [FJ]; unfold cnt; simp
 refine ⟨cu (cB d c) F,?_,w1,hc2,by simp,fun j hj=>?_,fun j y hj hy=>?_⟩
 ·
  obtain ⟨b,hb1,hb2⟩:=Eb hW hn6 c
  have hd:(if b=true then cB d c else d)=cB d c:=by
   cases b with
   | true=>rfl
   | false =>
    by_cases hp0:z.parent=0
    ·
     rw [jQ hz hp0]; rfl
    ·
     exact absurd (hb2.2 ⟨z,hz,hl,hp0⟩) (by simp)
  unfold jP
  unfold lS
  rw [Option.bind_some,if_neg (by simpa using hc1),Ar hW,Option.bind_some,hb1,Option.bind_some,hd]
  simp only
  rw [Gt hW1 h1 hz1 hp1 hc1 htn,Option.bind_some]
  simp only
  rw [Ar w1,Option.bind_some]
  have e:IntKind.wrap .i64 (((d.l.length:Int) - d.freed.length) - (((cu (cB d c) F).l.length:Int) - (cu (cB d c) F).freed.length))=(F.length:Int):=by
   rw [sQ (by simp [cu,l6]; omega) (by simp [cu,l6]; omega)]
   simp [cu,l6]; omega
  rw [e]
 ·
  unfold jF
  rw [mg F _ h1.GQ,if_pos hj]; rfl
 ·
  rw [w3 j hj]
  have hjc:j ≠ c:=fun q=>by subst q; obtain ⟨G,rfl⟩:=h.head; exact hj List.mem_cons_self
  by_cases hyl:y.lives=true
  ·
   rw [if_pos hyl,o6 hW hc hy hyl,if_neg hjc]
  ·
   rw [if_neg hyl]
   by_cases hp0:z.parent=0
   ·
    rw [jQ hz hp0]; exact hy
   ·
    obtain ⟨x,x1,x2,_⟩:=hW.par c z hz hl hp0
    rw [oq hz hp0 x1 (uz hW hz hl),if_neg hjc,if_neg (fun q=>by subst q; rw [x1] at hy; cases hy; exact hyl x2)]
    exact hy
end Pr
end Go.Ev

namespace Go.Ev
namespace Pr
set_option linter.unusedVariables false
set_option linter.unusedSimpArgs false
mutual
def Rt:Tree→Prop
 | .mk tag key text attrs ks=>(tag=[]→key=[]∧attrs=[]∧ks=[])∧(tag ≠ []→text=[]∧attrs.length ≤ 100000∧F6 ks)
def F6:List Tree→Prop
 | []=>True
 | t :: l=>Rt t∧F6 l
end
theorem F6.mem:∀ {l:List Tree},F6 l→∀ t ∈ l,Rt t
 | [],_,t,h=>by cases h
 | a :: l,⟨h1,h2⟩,t,h=>by
  rcases List.mem_cons.1 h with rfl | h
  ·
   exact h1
  ·
   exact h2.mem t h
theorem WF.iO {d:ax} (h:WF d) {i:Int} {z z':ah} (hz:nd d i=some z) (h1:z'.lives=z.lives) (h2:z'.kids=z.kids) (h3:z'.parent=z.parent) (h4:z'.tag=z.tag) (h5:z'.attrs.length ≤ 100000):WF (iO d i z'):=by
 have hget:=ik hz z'
 have low:∀ j y',nd (Pr.iO d i z') j=some y'→∃ y,nd d j=some y∧y'.lives=y.lives∧y'.kids=y.kids∧y'.parent=y.parent∧y'.tag=y.tag:=fun j y' hj=>by
  rw [hget] at hj
  by_cases e:j=i
  ·
   subst e; rw [if_pos rfl] at hj; cases hj; exact ⟨z,hz,h1,h2,h3,h4⟩
  ·
   rw [if_neg e] at hj; exact ⟨y',hj,rfl,rfl,rfl,rfl⟩
 have up:∀ j y,nd d j=some y→∃ y',nd (Pr.iO d i z') j=some y':=fun j y hj=>by
  have:=bV hj
  exact pM this.1 (by rw [j6]; exact this.2)
 refine ⟨by rw [j6]; exact h.len,?_,fun j hj=>by rw [j6]; exact h.freedR j hj,h.freedN,fun j y hj=>?_,fun j y hj hl=>?_,fun j y k hj hl hk=>?_,fun k y hk hl hp=>?_,fun j hj=>?_,fun j y hj=>?_⟩
 ·
  obtain ⟨r,r1,r2,r3,r4⟩:=h.root
  obtain ⟨r',hr'⟩:=up 1 r r1
  obtain ⟨y,q1,q2,q3,q4,q5⟩:=low 1 r' hr'
  rw [r1] at q1; cases q1
  exact ⟨r',hr',by rw [q2,r2],by rw [q4,r3],by rw [q5]; exact r4⟩
 ·
  obtain ⟨y0,q1,q2,_⟩:=low j y hj
  rw [q2,Cj]; exact h.dead j y0 q1
 ·
  obtain ⟨y0,q1,q2,q3,_⟩:=low j y hj
  rw [q3]; exact h.kidN j y0 q1 (by rw [← q2,hl])
 ·
  obtain ⟨y0,q1,q2,q3,_⟩:=low j y hj
  obtain ⟨x,x1,x2,x3⟩:=h.kid j y0 k q1 (by rw [← q2,hl]) (by rw [← q3]; exact hk)
  obtain ⟨x',hx'⟩:=up k x x1
  obtain ⟨x0,p1,p2,p3,p4,p5⟩:=low k x' hx'
  rw [x1] at p1; cases p1
  exact ⟨x',hx',by rw [p2,x2],by rw [p4,x3]⟩
 ·
  obtain ⟨y0,q1,q2,q3,q4,q5⟩:=low k y hk
  obtain ⟨x,x1,x2,x3,x4⟩:=h.par k y0 q1 (by rw [← q2,hl]) (by rw [← q4]; exact hp)
  rw [q4]
  obtain ⟨x',hx'⟩:=up _ x x1
  obtain ⟨x0,p1,p2,p3,p4,p5⟩:=low _ x' hx'
  rw [x1] at p1; cases p1
  exact ⟨x',hx',by rw [p2,x2],by rw [p3]; exact x3,by rw [p5]; exact x4⟩
 ·
  obtain ⟨y,y1,y2⟩:=eU hj
  obtain ⟨y0,q1,q2,_⟩:=low j y y1
  obtain ⟨l,hl⟩:=h.path j (by rw [di q1,← q2,y2])
  refine ⟨l,hl.keep (fun k hk x hx=>?_)⟩
  obtain ⟨x',hx'⟩:=up k x hx
  obtain ⟨x0,p1,p2,p3,p4,p5⟩:=low k x' hx'
  rw [hx] at p1; cases p1
  exact ⟨x',hx',p2,p4⟩
 ·
  rw [hget] at hj
  by_cases e:j=i
  ·
   rw [if_pos e] at hj; cases hj; exact h5
  ·
   rw [if_neg e] at hj; exact h.attrs j y hj
theorem Bp {d:ax} (h:WF d) (n:Nat) {i:Int} {z:ah} (hz:nd d i=some z) (hl:z.lives=true) (ht:z.tag ≠ []) {at_:List Attr} (ha:at_.length ≤ 100000):iV n d i at_=some (true,iO d i { z with attrs:=at_ })∧WF (iO d i { z with attrs:=at_ }):=by
 refine ⟨?_,h.iO hz rfl rfl rfl rfl ha⟩
 unfold iV
 rw [vF h.dm,Option.bind_some,di hz,if_pos hl,iB h.dm hz,Option.bind_some,if_neg (by simpa using ht)]
 unfold bT
 rw [jR (by rw [bnd]; simp; omega),Option.bind_some,ni h.dm hz]
 rfl
theorem II {d:ax} (h:WF d) (n:Nat) {i:Int} {z:ah} (hz:nd d i=some z) (hl:z.lives=true) (ht:z.tag=[]) (s:Str):lC n d i s=some (true,iO d i { z with text:=s })∧WF (iO d i { z with text:=s }):=by
 refine ⟨?_,h.iO hz rfl rfl rfl rfl (h.attrs i z hz)⟩
 unfold lC
 rw [vF h.dm,Option.bind_some,di hz,if_pos hl,iB h.dm hz,Option.bind_some,if_neg (by simp [ht]),ni h.dm hz]
 rfl
theorem FB (l:List Int) (c:Int):mU l (l.length:Int) c=l ++ [c]:=by
 unfold mU uO
 rw [show (max 0 (min (l.length:Int) (l.length:Int))).toNat=l.length by omega]
 simp
theorem yJ {d:ax} (h:WF d) {d':ax} {z:ah} (k:New d d' (nextId d) z) {j:Int} (hj:jF d j=true):j ≠ nextId d:=fun q=>by rw [q,k.dead] at hj; cases hj
structure Put (d d':ax) (id:Int) (t:Tree) (F:List Int):Prop where
 wf:WF d'
 ta:TA d' id t F
 top:∃ z,nd d' id=some z∧z.lives=true∧z.parent=0
 ne1:id ≠ 1
 old:∀ j z,nd d j=some z→z.lives=true→nd d' j=some z
 new:∀ j ∈ F,jF d j=false
 cnt:cnt d'=Pr.cnt d + iF t
 len:d'.l.length ≤ d.l.length + iF t
 all:∀ j,jF d' j=true→jF d j=true∨j ∈ F
theorem Ba {n:Nat} (hn:6000 ≤ n) {t0:Tree} (ih:∀ (t:Tree) (d:ax),WF d→Rt t→iF t + 6000 < n→d.l.length + iF t ≤ 5000→∃ id d' F,gH n d t=some (id,d')∧Put d d' id t F) {z18:Int × ax} (hk:t0.Kids.length ≤ 5000) :
  ∀ (rest done:List Tree) (d:ax) (zi:ah) (F:List Int) (f:Nat),t0.Kids=done ++ rest→WF d→nd d z18.1=some zi→zi.lives=true→zi.tag ≠ []→zi.parent=0→iM d zi.kids done F→F6 rest→fC rest + 6000 < n→d.l.length + fC rest ≤ 5000→rest.length < f →
  ∃ d' ks G,fM n (gH n) t0 z18 f d (done.length:Int)=some (z18.1,d')∧WF d'∧nd d' z18.1=some { zi with kids:=zi.kids ++ ks }∧iM d' (zi.kids ++ ks) (done ++ rest) (F ++ G)∧(∀ j z,j ≠ z18.1→nd d j=some z→z.lives=true→nd d' j=some z)∧(∀ j ∈ G,jF d j=false) ∧
   cnt d'=cnt d + fC rest∧d'.l.length ≤ d.l.length + fC rest∧(∀ j,jF d' j=true→jF d j=true∨j ∈ G)
 | [],done,d,zi,F,f + 1,h0,hW,hz,hl,ht,hp,hT,hR,hb,hlen,hf=>by
  rw [fM,if_neg (by rw [h0]; simp)]
  refine ⟨d,[],[],rfl,hW,by simp [hz],by simpa using hT,fun j z _ h _=>h,fun j hj=>(by cases hj),by simp [fC],by simp [fC],fun j hj=>.inl hj⟩
 | t :: rest,done,d,zi,F,f + 1,h0,hW,hz,hl,ht,hp,hT,hR,hb,hlen,hf=>by
  have hkl:t0.Kids.length=done.length + 1 + rest.length:=by rw [h0]; simp; omega
  simp only [fC] at hb hlen
  obtain ⟨hR1,hR2⟩:=hR
  rw [fM,if_pos (by rw [decide_eq_true_eq]; omega),fI h0,Option.bind_some]
  obtain ⟨kid,d1,Fk,e1,P⟩:=ih t d hW hR1 (by omega) (by omega)
  rw [e1,Option.bind_some]
  simp only
  have hz1:=P.old _ _ hz hl
  obtain ⟨zk,hzk,hkl1,hkp⟩:=P.top
  have hkF:kid ∈ Fk:=by obtain ⟨G,hG⟩:=P.ta.head; rw [hG]; exact List.mem_cons_self
  have hkd:jF d kid=false:=P.new kid hkF
  have hid:jF d z18.1=true:=by rw [di hz,hl]
  have hne:kid ≠ z18.1:=fun q=>by rw [q,hid] at hkd; cases hkd
  have hpath:Path d1 z18.1 [z18.1]:=.top hz1 hl hp
  have hok:j5 d1 z18.1 kid=true:=by
   unfold j5
   have ht1:qo d1 z18.1=zi.tag:=by unfold qo; rw [hz1]
   rw [di hz1,di hzk,hl,hkl1,ht1,hpath.of]
   simp [ht,P.ne1,hne]
  obtain ⟨hW2,hg2⟩:=Cs P.wf (done.length:Int) hok
  rw [uP P.wf hn,Option.bind_some,if_pos hok]
  simp only
  rw [sQ (by omega) (by omega)]
  have hkk:∀ j z,nd d1 j=some z→z.lives=true→kid ∉ z.kids:=fun j z hj hjl hm=>by
   obtain ⟨x,x1,x2,x3⟩:=P.wf.kid j z kid hj hjl hm
   rw [hzk] at x1; cases x1
   have:=bV hj; omega
  have hg:∀ j z,nd d1 j=some z→z.lives=true→nd (ic (cB d1 kid) z18.1 kid (done.length:Int)) j=some { z with kids:=if j=z18.1 then mU z.kids (done.length:Int) kid else z.kids,parent:=if j=kid then z18.1 else z.parent }:=fun j z hj hjl=>by
   rw [hg2 j z hj hjl,List.erase_of_not_mem (hkk j z hj hjl)]
  have hlens:=hT.lens
  have hz2:nd (ic (cB d1 kid) z18.1 kid (done.length:Int)) z18.1=some { zi with kids:=zi.kids ++ [kid] }:=by
   rw [hg _ _ hz1 hl,if_pos rfl,if_neg (Ne.symm hne),← hlens,FB]
  have hFold:∀ j ∈ F,j ≠ z18.1∧∃ z,nd d j=some z∧z.lives=true:=fun j hj=>by
   obtain ⟨z,z1,z2,_⟩:=hT.live j hj
   refine ⟨fun q=>?_,z,z1,z2⟩
   subst q
   obtain ⟨l1,c,q⟩:=hT.F4 hW (.top hz hl hp) (fun c hc=>hW.kid _ _ c hz hl hc) (bV hz).1 _ hj
   have:=congrArg List.length (q.uniq (.top hz hl hp))
   simp at this
  have hT2:iM (ic (cB d1 kid) z18.1 kid (done.length:Int)) zi.kids done F:=hT.keep (fun j hj z hz'=>by
   obtain ⟨q1,z0,q2,q3⟩:=hFold j hj
   rw [hz'] at q2; cases q2
   exact ⟨_,hg j z (P.old j z hz' q3) q3,rfl,rfl,rfl,rfl,rfl,by simp [q1]⟩)
  have hK2:TA (ic (cB d1 kid) z18.1 kid (done.length:Int)) kid t Fk:=P.ta.keep (fun j hj z hz'=>by
   obtain ⟨z0,q2,q3,_⟩:=P.ta.live j hj
   rw [hz'] at q2; cases q2
   have hj1:j ≠ z18.1:=fun q=>by have:=P.new j hj; rw [q,hid] at this; cases this
   exact ⟨_,hg j z hz' q3,rfl,rfl,rfl,rfl,rfl,by simp [hj1]⟩)
  have hl2:(ic (cB d1 kid) z18.1 kid (done.length:Int)).l.length=d1.l.length:=by simp
  have hlen1:=P.len
  obtain ⟨d',ks,G,r1,r2,r3,r4,r5,r6,r7,r8,r9⟩:=Ba hn ih hk rest (done ++ [t]) _ { zi with kids:=zi.kids ++ [kid] } (F ++ Fk) f (by rw [h0]; simp) hW2 hz2 hl ht hp (hT2.app (.one hK2)) hR2 (by omega) (by omega) (by simpa using hf)
  have hcnt2:cnt (ic (cB d1 kid) z18.1 kid (done.length:Int))=cnt d1:=by unfold cnt; simp
  refine ⟨d',[kid] ++ ks,Fk ++ G,by simpa using r1,r2,by simpa using r3,by simpa using r4,fun j z hj hz' hjl=>?_,fun j hj=>?_,?_,by rw [hl2] at r8; simp only [fC]; omega,fun j hj=>?_⟩
  ·
   have h1:=P.old j z hz' hjl
   have h2:=hg j z h1 hjl
   have hjk:j ≠ kid:=fun q=>by rw [q] at hz'; rw [di hz',hjl] at hkd; cases hkd
   rw [if_neg hj,if_neg hjk] at h2
   exact r5 j _ hj h2 hjl
  ·
   rcases List.mem_append.1 hj with hj | hj
   ·
    exact P.new j hj
   ·
    have h2:=r6 j hj
    cases hq:jF d j with
    | false=>rfl
    | true =>
     obtain ⟨z,z1,z2⟩:=eU hq
     have:=hg j z (P.old j z z1 z2) z2
     rw [di this] at h2
     rw [z2] at h2; cases h2
  ·
   have:=P.cnt
   simp only [fC]
   omega
  ·
   rcases r9 j hj with h | h
   ·
    obtain ⟨z,z1,z2⟩:=eU h
    have h1:jF d1 j=true:=by
     cases hq:nd d1 j with
     | none =>
      have hr:=bV z1
      rw [hl2] at hr
      obtain ⟨y,hy⟩:=pM hr.1 hr.2
      rw [hq] at hy; cases hy
     | some y =>
      cases hyl:y.lives with
      | true=>rw [di hq,hyl]
      | false =>
       exfalso
       have hdead:=(P.wf.dead j y hq).1 hyl
       have:=(hW2.dead j z z1).2 (by simpa using hdead)
       rw [z2] at this; cases this
    rcases P.all j h1 with h | h
    ·
     exact .inl h
    ·
     exact .inr (List.mem_append_left _ h)
   ·
    exact .inr (List.mem_append_right _ h)
theorem Dc:∀ (n:Nat) (t:Tree) (d:ax),WF d→Rt t→iF t + 6000 < n→d.l.length + iF t ≤ 5000→∃ id d' F,gH n d t=some (id,d')∧Put d d' id t F
 | 0,t,d,_,_,h,_=>by omega
 | n + 1,.mk tag key text at_ ks,d,hW,hR,hn,hlen=>by
  have hpos:=Al (.mk tag key text at_ ks)
  have hfl:d.freed.length ≤ d.l.length:=gP _ _ hW.freedN (fun x hx=>⟨by have:=hW.freedR x hx; omega,(hW.freedR x hx).2⟩)
  have fl:d.freed=[]∨0 < d.freed.length:=by
   cases d.freed with
   | nil=>exact .inl rfl
   | cons a l=>exact .inr (by simp)
  rw [gH]
  by_cases ht:tag=[]
  ·
   obtain ⟨rfl,rfl,rfl⟩:=hR.1 ht
   subst ht
   obtain ⟨d1,e1,e2,e3,e4,e5⟩:=Gn hW (by omega) n text
   rw [if_pos (by simp [Tree.Tag])]
   simp only [Tree.Text]
   rw [e1,Option.bind_some]
   have hg:nd d1 (nextId d)=some (ah.mk true [] [] text [] [] 0):=by rw [e3.get,if_pos rfl]
   refine ⟨nextId d,d1,[nextId d],rfl,e2,.mk hg rfl .nil,⟨_,hg,rfl,rfl⟩,e3.notroot,fun j z hz hl=>?_,fun j hj=>?_,?_,?_,fun j hj=>?_⟩
   ·
    rw [e3.get,if_neg (yJ hW e3 (by rw [di hz,hl]))]; exact hz
   ·
    rw [List.mem_singleton.1 hj]; exact e3.dead
   ·
    unfold cnt
    rw [e4,e5]
    simp only [iF,fC]
    rcases fl with h | h
    ·
     rw [if_pos h,h]; simp
    ·
     rw [if_neg (fun q=>by rw [q] at h; simp at h)]; simp; omega
   ·
    have:=e3.len; omega
   ·
    by_cases hj2:j=nextId d
    ·
     exact .inr (by rw [hj2]; simp)
    ·
     left; unfold jF at hj ⊢; rw [e3.get,if_neg hj2] at hj; exact hj
  ·
   obtain ⟨rfl,ha,hR2⟩:=hR.2 ht
   simp only [iF] at hn hlen
   obtain ⟨d1,e1,e2,e3,e4,e5⟩:=CY hW (by omega) n (tag:=tag) (key:=key) ht
   rw [if_neg (by simpa [Tree.Tag] using ht)]
   simp only [Tree.Tag,Tree.Key,Tree.aQ]
   rw [e1,Option.bind_some]
   simp only
   have hg:nd d1 (nextId d)=some (ah.mk true tag key [] [] [] 0):=by rw [e3.get,if_pos rfl]
   obtain ⟨a1,a2⟩:=Bp e2 n hg rfl ht ha
   rw [a1,Option.bind_some]
   simp only
   have hg2:=ik hg (ah.mk true tag key [] at_ [] 0)
   have hl1:d1.l.length ≤ d.l.length + 1:=e3.len
   have hkl:=om ks
   obtain ⟨d',ks',G,r1,r2,r3,r4,r5,r6,r7,r8,r9⟩:=Ba (n:=n) (by omega) (t0:=.mk tag key [] at_ ks) (Dc n) (z18:=(nextId d,d1)) (by simp only [Tree.Kids]; omega) ks [] _ (ah.mk true tag key [] at_ [] 0) [] n rfl a2 (by rw [hg2,if_pos rfl]) rfl ht rfl .nil hR2 (by omega) (by rw [j6]; omega) (by omega)
   refine ⟨nextId d,d',nextId d :: G,r1,r2,.mk (z:=ah.mk true tag key [] at_ ks' 0) (by simpa using r3) rfl (by simpa using r4),⟨_,r3,rfl,rfl⟩,e3.notroot,fun j z hz hl=>?_,fun j hj=>?_,?_,?_,fun j hj=>?_⟩
   ·
    have hne:=yJ hW e3 (by rw [di hz,hl]:jF d j=true)
    exact r5 j z hne (by rw [hg2,if_neg hne,e3.get,if_neg hne]; exact hz) hl
   ·
    rcases List.mem_cons.1 hj with rfl | hj
    ·
     exact e3.dead
    ·
     have h6:=r6 j hj
     have hne:j ≠ nextId d:=fun q=>by
      rw [q] at h6
      unfold jF at h6
      rw [hg2,if_pos rfl] at h6
      exact Bool.noConfusion h6
     unfold jF at h6 ⊢
     rw [hg2,if_neg hne,e3.get,if_neg hne] at h6
     exact h6
   ·
    have e:cnt (iO d1 (nextId d) (ah.mk true tag key [] at_ [] 0))=cnt d1:=by unfold cnt; simp
    rw [r7]
    simp only [iF]
    have e':cnt (iO d1 (nextId d) { (ah.mk true tag key [] [] [] 0) with attrs:=at_ })=cnt d1:=e
    rw [e']
    unfold cnt
    rw [e4,e5]
    rcases fl with h | h
    ·
     rw [if_pos h,h]; simp; omega
    ·
     rw [if_neg (fun q=>by rw [q] at h; simp at h)]; simp; omega
   ·
    rw [j6] at r8; simp only [iF]; omega
   ·
    rcases r9 j hj with h | h
    ·
     by_cases hj2:j=nextId d
     ·
      exact .inr (by rw [hj2]; exact List.mem_cons_self)
     ·
      left; unfold jF at h ⊢; rw [hg2,if_neg hj2,e3.get,if_neg hj2] at h; exact h
    ·
     exact .inr (List.mem_cons_of_mem _ h)
end Pr
end Go.Ev

namespace Go.Ev
namespace Pr
set_option linter.unusedVariables false
set_option linter.unusedSimpArgs false
set_option linter.unusedSectionVars false
section
variable {κ ν:Type} [BEq κ] [LawfulBEq κ]
theorem qm (k:κ):∀ (m:List (κ × ν)) (i:Nat),(fB k m i).map (·.2)=(fB k m 0).map (·.2)
 | [],i=>rfl
 | (a,b) :: l,i=>by
  simp only [fB]
  split
  ·
   rfl
  ·
   rw [qm k l (i + 1),qm k l 1]
theorem oJ (a:κ) (b:ν) (l:List (κ × ν)) (k:κ):zw ((a,b) :: l) k=if (k == a)=true then some b else zw l k:=by
 unfold zw
 simp only [fB]
 split
 ·
  rfl
 ·
  exact qm k l 1
theorem yM (k:κ):∀ (m:List (κ × ν)) (i:Nat),fB k m (i + 1)=(fB k m i).map fun r=>(r.1 + 1,r.2)
 | [],i=>rfl
 | (c,e) :: m,i=>by
  simp only [fB]
  cases (k == c) with
  | true=>rfl
  | false=>exact yM k m (i + 1)
theorem EA (a:κ) (b:ν) (l:List (κ × ν)) (k:κ) (v:ν):jD ((a,b) :: l) k v=if (k == a)=true then (k,v) :: l else (a,b) :: jD l k v:=by
 unfold jD
 simp only [fB,yM]
 cases h:(k == a) with
 | true=>have:=eq_of_beq h; subst this; simp
 | false=>cases fB k l 0 <;> simp
theorem yE:∀ (m:List (κ × ν)) (k k':κ) (v:ν),zw (jD m k v) k'=if (k' == k)=true then some v else zw m k'
 | [],k,k',v=>by
  have:jD ([]:List (κ × ν)) k v=[(k,v)]:=rfl
  rw [this,oJ]
 | (a,b) :: l,k,k',v=>by
  rw [EA]
  by_cases h:(k == a)=true
  ·
   rw [if_pos h,oJ,oJ]
   have:=eq_of_beq h
   subst this
   by_cases h2:(k' == k)=true
   ·
    rw [if_pos h2,if_pos h2]
   ·
    rw [if_neg h2,if_neg h2,if_neg h2]
  ·
   rw [if_neg h,oJ,yE l k k' v,oJ]
   by_cases h2:(k' == a)=true
   ·
    rw [if_pos h2,if_pos h2]
    have:=eq_of_beq h2
    subst this
    have h3:(k' == k)=false:=by
     cases hq:k' == k with
     | false=>rfl
     | true=>have:=eq_of_beq hq; subst this; simp at h
    rw [h3]; rfl
   ·
    rw [if_neg h2,if_neg h2]
theorem sD (m:List (κ × ν)) (k k':κ) (v z:ν):gN (jD m k v) k' z=if (k' == k)=true then v else gN m k' z:=by
 unfold gN
 rw [yE]
 split <;> rfl
end
def kd (t:Tree):aS:=aS.mk t.Tag t.Key
def dh (k:aS):List Tree→Nat→List Int
 | [],_=>[]
 | t :: l,i=>if kd t=k then (i:Int) :: dh k l (i + 1) else dh k l (i + 1)
theorem vo (k:aS):∀ (l m:List Tree) (i:Nat),dh k (l ++ m) i=dh k l i ++ dh k m (i + l.length)
 | [],m,i=>by simp [dh]
 | t :: l,m,i=>by
  simp only [List.cons_append,dh,vo k l m (i + 1),List.length_cons]
  rw [show i + 1 + l.length=i + (l.length + 1) by omega]
  split <;> simp
theorem jg (k:aS):∀ (l:List Tree) (i:Nat) (x:Int),x ∈ dh k l i↔∃ j t,l[j]? = some t∧kd t=k∧x=((i + j:Nat):Int)
 | [],i,x=>by simp [dh]
 | t :: l,i,x=>by
  simp only [dh]
  have ih:=jg k l (i + 1) x
  have hstep:(∃ j t',l[j]? = some t'∧kd t'=k∧x=((i + 1 + j:Nat):Int))↔∃ j t',(t :: l)[j + 1]? = some t'∧kd t'=k∧x=((i + (j + 1):Nat):Int):=by
   constructor
   ·
    rintro ⟨j,t',h1,h2,h3⟩; exact ⟨j,t',by simpa using h1,h2,by rw [h3]; omega⟩
   ·
    rintro ⟨j,t',h1,h2,h3⟩; exact ⟨j,t',by simpa using h1,h2,by rw [h3]; omega⟩
  split
  ·
   rename_i hk
   rw [List.mem_cons,ih,hstep]
   constructor
   ·
    rintro (rfl | ⟨j,t',h⟩)
    ·
     exact ⟨0,t,rfl,hk,by simp⟩
    ·
     exact ⟨j + 1,t',h⟩
   ·
    rintro ⟨j,t',h1,h2,h3⟩
    cases j with
    | zero=>left; simpa using h3
    | succ j=>exact .inr ⟨j,t',h1,h2,h3⟩
  ·
   rename_i hk
   rw [ih,hstep]
   constructor
   ·
    rintro ⟨j,t',h⟩; exact ⟨j + 1,t',h⟩
   ·
    rintro ⟨j,t',h1,h2,h3⟩
    cases j with
    | zero=>simp at h1; subst h1; exact absurd h2 hk
    | succ j=>exact ⟨j,t',h1,h2,h3⟩
theorem nQ (k:aS):∀ (l:List Tree) (i:Nat),(dh k l i).Nodup
 | [],i=>by simp [dh]
 | t :: l,i=>by
  simp only [dh]
  split
  ·
   refine List.nodup_cons.2 ⟨fun h=>?_,nQ k l (i + 1)⟩
   obtain ⟨j,_,_,_,h3⟩:=(jg k l (i + 1) _).1 h
   omega
  ·
   exact nQ k l (i + 1)
def jX:List Tree→(aS→List Int)→List Int
 | [],_=>[]
 | t :: now,av=>match av (kd t) with
  | []=>-1 :: jX now av
  | k :: r=>k :: jX now (fun q=>if q=kd t then r else av q)
def ng (old now:List Tree):List Int:=jX now (fun k=>dh k old 0)
theorem uV (k:aS):∀ (l:List Tree) (i:Nat),(dh k l i).length ≤ l.length
 | [],i=>by simp [dh]
 | t :: l,i=>by
  have:=uV k l (i + 1)
  simp only [dh]
  split <;> simp <;> omega
theorem AX {n:Nat} (now:List Tree) (hl:now.length ≤ 100000):∀ (rest done:List Tree) (m:List (aS × List Int)) (av:aS→List Int) (out:List Int) (f:Nat),now=done ++ rest→out.length=done.length→(∀ k,gN m k []=av k)→rest.length < f→dE n now f m out (done.length:Int)=some (out ++ jX rest av)
 | [],done,m,av,out,f + 1,h,ho,hm,hf=>by
  rw [dE,if_neg (by rw [h]; simp)]
  simp [jX]
 | t :: rest,done,m,av,out,f + 1,h,ho,hm,hf=>by
  have hnl:now.length=done.length + 1 + rest.length:=by rw [h]; simp; omega
  have hk:l8 n t=some (kd t):=rfl
  rw [dE,if_pos (by rw [decide_eq_true_eq]; omega),fI h,Option.bind_some,hk,Option.bind_some,hm]
  have ih:=fun m' av' out' h1 h2=>AX (n:=n) now hl rest (done ++ [t]) m' av' out' f (by rw [h]; simp) h1 h2 (by simpa using hf)
  cases ha:av (kd t) with
  | nil =>
   rw [if_pos (by simp),jR (by rw [bnd]; simp; omega),Option.bind_some]
   unfold gI
   rw [sQ (by omega) (by omega)]
   have:=ih m av (out ++ [-1]) (by simp [ho]) hm
   simp only [jX,ha]
   simpa using this
  | cons k r =>
   have e0:idx (k :: r) (0:Int)=some k:=rfl
   have ec:cut (k :: r) 1 ((k :: r).length:Int)=some r:=by
    unfold cut; rw [if_pos ⟨by omega,by simp; omega,by omega⟩]; simp
   rw [if_neg (by simp; omega),e0,Option.bind_some,jR (by rw [bnd]; simp; omega),Option.bind_some,Option.bind_some,ec,Option.bind_some]
   unfold gI
   rw [sQ (by omega) (by omega)]
   have:=ih (jD m (kd t) r) (fun q=>if q=kd t then r else av q) (out ++ [k]) (by simp [ho]) (fun q=>by
    rw [sD,hm]
    by_cases e:q=kd t
    ·
     rw [if_pos (by rw [e]; simp),if_pos e]
    ·
     rw [if_neg (by simpa using e),if_neg e])
   simp only [jX,ha]
   simpa using this
theorem Be {n:Nat} (old now:List Tree) (ho:old.length ≤ 100000) (hl:now.length ≤ 100000) (hn:now.length < n):∀ (rest done:List Tree) (m:List (aS × List Int)) (f:Nat),old=done ++ rest→(∀ k,gN m k []=dh k done 0)→rest.length < f→eT n old now f m (done.length:Int)=some (ng old now)
 | [],done,m,f + 1,h,hm,hf=>by
  rw [eT,if_neg (by rw [h]; simp)]
  have:=AX (n:=n) now hl now [] m (fun k=>dh k done 0) [] n rfl rfl hm hn
  rw [List.append_nil] at h
  subst h
  simpa [ng] using this
 | t :: rest,done,m,f + 1,h,hm,hf=>by
  have hnl:old.length=done.length + 1 + rest.length:=by rw [h]; simp; omega
  have hk:l8 n t=some (kd t):=rfl
  have hpl:=uV (kd t) done 0
  rw [eT,if_pos (by rw [decide_eq_true_eq]; omega),fI h,Option.bind_some,hk,Option.bind_some,hm,jR (by rw [bnd]; simp; omega),Option.bind_some,sQ (by omega) (by omega)]
  have:=Be old now ho hl hn rest (done ++ [t]) (jD m (kd t) (dh (kd t) done 0 ++ [(done.length:Int)])) f (by rw [h]; simp) (fun q=>by
   rw [sD,hm,vo]
   simp only [dh,Nat.zero_add]
   by_cases e:q=kd t
   ·
    rw [if_pos (by rw [e]; simp),e,if_pos rfl]
   ·
    rw [if_neg (by simpa using e),if_neg (Ne.symm e),List.append_nil]) (by simpa using hf)
  simpa using this
theorem Gm {n:Nat} {old now:List Tree} (ho:old.length ≤ 100000) (hl:now.length ≤ 100000) (hn:now.length < n) (hn2:old.length < n):mF n old now=some (ng old now):=by
 unfold mF
 exact Be old now ho hl hn old [] [] n rfl (fun k=>rfl) hn2
theorem uQ:∀ (now:List Tree) (av:aS→List Int),(jX now av).length=now.length
 | [],av=>rfl
 | t :: now,av=>by
  simp only [jX]
  split <;> simp [uQ]
theorem xk:∀ (now:List Tree) (av:aS→List Int),(∀ k x,x ∈ av k→0 ≤ x)→(∀ k,(av k).Nodup)→(∀ k k' x,x ∈ av k→x ∈ av k'→k=k') →
  (∀ (i:Nat) (x:Int) (t:Tree),(jX now av)[i]? = some x→now[i]? = some t→x = -1∨0 ≤ x∧x ∈ av (kd t))∧(∀ (i j:Nat) (x:Int),(jX now av)[i]? = some x→(jX now av)[j]? = some x→0 ≤ x→i=j)
 | [],av,h0,hn,hd=>⟨fun i x t h=>by simp [jX] at h,fun i j x h=>by simp [jX] at h⟩
 | t :: now,av,h0,hn,hd=>by
  simp only [jX]
  split
  ·
   rename_i ha
   obtain ⟨q1,q2⟩:=xk now av h0 hn hd
   refine ⟨fun i x t' h h'=>?_,fun i j x h h' hx=>?_⟩
   ·
    cases i with
    | zero=>left; simpa using h.symm
    | succ i=>exact q1 i x t' (by simpa using h) (by simpa using h')
   ·
    cases i with
    | zero=>simp at h; omega
    | succ i=>cases j with
     | zero=>simp at h'; omega
     | succ j=>have:=q2 i j x (by simpa using h) (by simpa using h') hx; omega
  ·
   rename_i k r ha
   have hnk:=hn (kd t)
   rw [ha] at hnk
   have hsub:∀ q x,x ∈ (fun q=>if q=kd t then r else av q) q→x ∈ av q:=fun q x hx=>by
    by_cases e:q=kd t
    ·
     have hx:x ∈ r:=by simpa [e] using hx
     rw [e,ha]; exact List.mem_cons_of_mem _ hx
    ·
     simpa [e] using hx
   have hkno:∀ q,k ∉ (fun q=>if q=kd t then r else av q) q:=fun q hx=>by
    by_cases e:q=kd t
    ·
     have hx:k ∈ r:=by simpa [e] using hx
     exact (List.nodup_cons.1 hnk).1 hx
    ·
     have hx:k ∈ av q:=by simpa [e] using hx
     exact e (hd q (kd t) k hx (by rw [ha]; exact List.mem_cons_self))
   obtain ⟨q1,q2⟩:=xk now (fun q=>if q=kd t then r else av q) (fun q x hx=>h0 q x (hsub q x hx)) (fun q=>by
    split
    ·
     exact (List.nodup_cons.1 hnk).2
    ·
     exact hn q) (fun q q' x hx hx'=>hd q q' x (hsub q x hx) (hsub q' x hx'))
   have nok:∀ i,(jX now (fun q=>if q=kd t then r else av q))[i]? ≠ some k:=fun i hi=>by
    have hlt:i < now.length:=by have:=(List.getElem?_eq_some_iff.1 hi).1; rwa [uQ] at this
    rcases q1 i k _ hi (List.getElem?_eq_getElem hlt) with e | ⟨_,e⟩
    ·
     have:=h0 (kd t) k (by rw [ha]; exact List.mem_cons_self); omega
    ·
     exact hkno _ e
   refine ⟨fun i x t' h h'=>?_,fun i j x h h' hx=>?_⟩
   ·
    cases i with
    | zero =>
     simp at h h'
     subst h; subst h'
     have hm:k ∈ av (kd t):=by rw [ha]; exact List.mem_cons_self
     exact .inr ⟨h0 _ _ hm,hm⟩
    | succ i =>
     rcases q1 i x t' (by simpa using h) (by simpa using h') with e | ⟨e1,e2⟩
     ·
      exact .inl e
     ·
      exact .inr ⟨e1,hsub _ _ e2⟩
   ·
    cases i with
    | zero=>cases j with
     | zero=>rfl
     | succ j=>simp at h; subst h; exact absurd (by simpa using h') (nok j)
    | succ i=>cases j with
     | zero=>simp at h'; subst h'; exact absurd (by simpa using h) (nok i)
     | succ j=>have:=q2 i j x (by simpa using h) (by simpa using h') hx; omega
theorem Fx (old now:List Tree):(ng old now).length=now.length∧(∀ (i:Nat) (x:Int) (t:Tree),(ng old now)[i]? = some x→now[i]? = some t→x = -1∨0 ≤ x∧∃ u,old[x.toNat]? = some u∧u.Tag=t.Tag∧u.Key=t.Key)∧(∀ (i j:Nat) (x:Int),(ng old now)[i]? = some x→(ng old now)[j]? = some x→0 ≤ x→i=j):=by
 obtain ⟨q1,q2⟩:=xk now (fun k=>dh k old 0) (fun k x hx=>by obtain ⟨j,_,_,_,h⟩:=(jg k old 0 x).1 hx; omega) (fun k=>nQ k old 0) (fun k k' x hx hx'=>by
  obtain ⟨j,u,h1,h2,h3⟩:=(jg k old 0 x).1 hx
  obtain ⟨j',u',h1',h2',h3'⟩:=(jg k' old 0 x).1 hx'
  have:j=j':=by omega
  subst this
  rw [h1] at h1'; cases h1'
  rw [← h2,← h2'])
 refine ⟨uQ _ _,fun i x t h h'=>?_,q2⟩
 rcases q1 i x t h h' with e | ⟨e1,e2⟩
 ·
  exact .inl e
 ·
  obtain ⟨j,u,h1,h2,h3⟩:=(jg _ old 0 x).1 e2
  refine .inr ⟨e1,u,?_,?_⟩
  ·
   rw [h3]; simpa using h1
  ·
   unfold kd at h2
   simp only [aS.mk.injEq] at h2
   exact h2
end Pr
end Go.Ev

namespace Go.Ev
namespace Pr
set_option linter.unusedVariables false
set_option linter.unusedSimpArgs false
set_option linter.unusedSectionVars false
theorem xZ {n1:Nat} (m:List (Int × Int)) (a2:List Int) (hm:∀ k,gN m k 0=(a2.count k:Int)) (hn1:n1 ≤ 5000):∀ (r i:Nat) (out:List Int) (f:Nat),i + r=n1→out.length ≤ i→r < f →
  ∃ g,dD (n1:Int) m f out (i:Int)=some (out ++ g)∧g.Nodup∧(∀ x,x ∈ g↔(i:Int) ≤ x∧x < n1∧x ∉ a2)∧g.length ≤ r
 | 0,i,out,f + 1,h,ho,hf=>by
  rw [dD,if_neg (by simp [sP]; omega)]
  exact ⟨[],by simp,by simp,fun x=>by simp; omega,by simp⟩
 | r + 1,i,out,f + 1,h,ho,hf=>by
  rw [dD,if_pos (by simp [sP]; omega),hm]
  have hw:IntKind.wrap .i64 ((i:Int) + 1)=((i + 1:Nat):Int):=by rw [sQ (by omega) (by omega)]; omega
  by_cases hc:(i:Int) ∈ a2
  ·
   have:a2.count (i:Int) ≠ 0:=by have:=List.count_pos_iff.2 hc; omega
   rw [if_neg (by simpa using this)]
   unfold gM
   rw [hw]
   obtain ⟨g,g1,g2,g3,g4⟩:=xZ m a2 hm hn1 r (i + 1) out f (by omega) (by omega) (by omega)
   refine ⟨g,g1,g2,fun x=>?_,by omega⟩
   rw [g3]
   constructor
   ·
    rintro ⟨h1,h2,h3⟩; exact ⟨by omega,h2,h3⟩
   ·
    rintro ⟨h1,h2,h3⟩
    have:x ≠ (i:Int):=fun q=>h3 (q ▸ hc)
    exact ⟨by omega,h2,h3⟩
  ·
   have:a2.count (i:Int)=0:=List.count_eq_zero.2 hc
   rw [if_pos (by simpa using this),jR (by rw [bnd]; simp; omega),Option.bind_some]
   unfold gM
   rw [hw]
   obtain ⟨g,g1,g2,g3,g4⟩:=xZ m a2 hm hn1 r (i + 1) (out ++ [(i:Int)]) f (by omega) (by simp; omega) (by omega)
   refine ⟨(i:Int) :: g,by rw [g1]; simp,List.nodup_cons.2 ⟨fun q=>?_,g2⟩,fun x=>?_,by simp; omega⟩
   ·
    have:=(g3 _).1 q; omega
   ·
    rw [List.mem_cons,g3]
    constructor
    ·
     rintro (rfl | ⟨h1,h2,h3⟩)
     ·
      exact ⟨by omega,by omega,hc⟩
     ·
      exact ⟨by omega,h2,h3⟩
    ·
     rintro ⟨h1,h2,h3⟩
     by_cases q:x=(i:Int)
     ·
      exact .inl q
     ·
      exact .inr ⟨by omega,h2,h3⟩
theorem BG {n n1:Nat} (a2:List Int) (hn:n1 < n) (hn1:n1 ≤ 5000) (ha:a2.length ≤ 5000):∀ (rest done:List Int) (m:List (Int × Int)) (f:Nat),a2=done ++ rest→(∀ k,gN m k 0=(done.count k:Int))→rest.length < f →
  ∃ g,fe n (n1:Int) a2 f m (done.length:Int)=some g∧g.Nodup∧(∀ x,x ∈ g↔0 ≤ x∧x < n1∧x ∉ a2)∧g.length ≤ n1
 | [],done,m,f + 1,h,hm,hf=>by
  rw [fe,if_neg (by rw [h]; simp)]
  rw [List.append_nil] at h
  subst h
  obtain ⟨g,g1,g2,g3,g4⟩:=xZ m a2 hm hn1 n1 0 [] n (by omega) (by simp) hn
  exact ⟨g,by simpa using g1,g2,by simpa using g3,g4⟩
 | x :: rest,done,m,f + 1,h,hm,hf=>by
  have hl:a2.length=done.length + 1 + rest.length:=by rw [h]; simp; omega
  have hcl:=List.count_le_length (a:=x) (l:=done)
  rw [fe,if_pos (by rw [decide_eq_true_eq]; omega),fI h,Option.bind_some,hm,sQ (by omega) (by omega),sQ (by omega) (by omega)]
  have:=BG a2 hn hn1 ha rest (done ++ [x]) (jD m x ((done.count x:Int) + 1)) f (by rw [h]; simp) (fun k=>by
   rw [sD,hm,List.count_append,List.count_singleton]
   by_cases e:k=x
   ·
    subst e; simp
   ·
    have e':¬ x=k:=fun q=>e q.symm
    rw [if_neg (by simpa using e)]; simp [e']) (by simpa using hf)
  simpa using this
theorem Gy {n n1:Nat} (a2:List Int) (hn:n1 < n) (hn1:n1 ≤ 5000) (ha:a2.length ≤ 5000) (hn2:a2.length < n):∃ g,mr n (n1:Int) a2=some g∧g.Nodup∧(∀ x,x ∈ g↔0 ≤ x∧x < n1∧x ∉ a2)∧g.length ≤ n1:=by
 unfold mr
 exact BG a2 hn hn1 ha a2 [] [] n rfl (fun k=>rfl) hn2
theorem Bo {n:Nat} {d:ax} (hW:WF d) {all:List Int} (ha:all.length ≤ 5000):∀ (rest done:List Int) (dts ts:List Tree) (F:List Int) (f:Nat),all=done ++ rest→dts.length=done.length→iM d rest ts F→fC ts < n→rest.length < f →
  fq n d all f dts (done.length:Int)=some (dts ++ ts)
 | [],done,dts,_,_,f + 1,h,hd,.nil,hn,hf=>by
  rw [fq,if_neg (by rw [h]; simp)]; simp
 | c :: rest,done,dts,_,_,f + 1,h,hd,.cons (t:=t) (ts:=ts) (G:=G) hk k,hn,hf=>by
  have hl:all.length=done.length + 1 + rest.length:=by rw [h]; simp; omega
  simp only [fC] at hn
  rw [fq,if_pos (by rw [decide_eq_true_eq]; omega),fI h,Option.bind_some,zO hW hk (show iF t < n by omega),Option.bind_some,jR (by rw [bnd]; simp; omega),Option.bind_some,sQ (by omega) (by omega)]
  have:=Bo (n:=n) hW ha rest (done ++ [c]) (dts ++ [t]) ts G f (by rw [h]; simp) (by simp [hd]) k (by omega) (by simpa using hf)
  simpa using this
theorem ES {n:Nat} {d:ax} (hW:WF d) {ks:List Int} {ts:List Tree} {F:List Int} (ha:ks.length ≤ 5000) (h:iM d ks ts F) (hn:fC ts < n) (hn2:ks.length < n):mG n d ks=some ts:=by
 unfold mG
 exact Bo hW ha ks [] [] ts F n rfl rfl h hn hn2
theorem yK {d:ax} (hW:WF d) {id c:Int} {y:ah} (hy:nd d id=some y) (hl:y.lives=true) (hc:c ∈ y.kids):∃ x l,nd d c=some x∧x.lives=true∧x.parent=id∧c ≠ 1∧Path d id l∧Path d c (c :: l)∧c ∉ l∧c ≠ id:=by
 obtain ⟨x,x1,x2,x3⟩:=hW.kid id y c hy hl hc
 obtain ⟨l,hp⟩:=hW.path id (by rw [di hy,hl])
 have hr:=bV hy
 have hpc:Path d c (c :: l):=.up x1 x2 (by omega) (by rw [x3]; exact hp)
 have hcl:c ∉ l:=(List.nodup_cons.1 hpc.nodup).1
 refine ⟨x,l,x1,x2,x3,?_,hp,hpc,hcl,?_⟩
 ·
  rintro rfl; obtain ⟨r,r1,_,r3,_⟩:=hW.root; rw [x1] at r1; cases r1; omega
 ·
  rintro rfl; obtain ⟨t,rfl⟩:=hp.head; exact hcl List.mem_cons_self
theorem iM.zy {d:ax} (hW:WF d) {id:Int} {y:ah} (hy:nd d id=some y) (hl:y.lives=true) {A:List Int} {ts:List Tree} {F:List Int} (h:iM d A ts F) (hA:∀ c ∈ A,c ∈ y.kids):∀ j ∈ F,j ≠ id:=by
 rintro j hj rfl
 obtain ⟨l,hp⟩:=hW.path j (by rw [di hy,hl])
 obtain ⟨l1,c,q⟩:=h.F4 hW hp (fun c hc=>hW.kid _ _ c hy hl (hA c hc)) (bV hy).1 _ hj
 have:=congrArg List.length (q.uniq hp)
 simp at this
 omega
theorem iM.Ko {d:ax} (hW:WF d) {id:Int} {y:ah} (hy:nd d id=some y) (hl:y.lives=true) {A B:List Int} {ts us:List Tree} {F G:List Int} (h:iM d A ts F) (h2:iM d B us G) (hA:∀ c ∈ A,c ∈ y.kids) (hB:∀ c ∈ B,c ∈ y.kids) (hAB:∀ c ∈ A,c ∉ B):∀ j ∈ F,j ∉ G:=by
 intro j hj hg
 obtain ⟨l,hp⟩:=hW.path id (by rw [di hy,hl])
 obtain ⟨l1,c,hc,q⟩:=h.BD hW hp (fun c hc=>hW.kid _ _ c hy hl (hA c hc)) (bV hy).1 _ hj
 obtain ⟨l2,c2,hc2,q2⟩:=h2.BD hW hp (fun c hc=>hW.kid _ _ c hy hl (hB c hc)) (bV hy).1 _ hg
 have e:=q.uniq q2
 rw [show l1 ++ c :: l=(l1 ++ [c]) ++ l by simp,show l2 ++ c2 :: l=(l2 ++ [c2]) ++ l by simp] at e
 have:=List.append_cancel_right e
 have e2:=congrArg List.getLast? this
 simp at e2
 exact hAB c hc (e2 ▸ hc2)
theorem iM.split {d:ax}:∀ {r1:List Int} {c:Int} {r2:List Int} {ts:List Tree} {F:List Int},iM d (r1 ++ c :: r2) ts F→∃ s1 tc s2 F1 Fc F2,ts=s1 ++ tc :: s2∧F=F1 ++ (Fc ++ F2)∧iM d r1 s1 F1∧TA d c tc Fc∧iM d r2 s2 F2
 | [],c,r2,_,_,.cons h k=>⟨[],_,_,[],_,_,rfl,rfl,.nil,h,k⟩
 | a :: r1,c,r2,_,_,.cons (t:=t) (F:=F0) h k=>by
  obtain ⟨s1,tc,s2,F1,Fc,F2,e1,e2,k1,k2,k3⟩:=k.split
  exact ⟨t :: s1,tc,s2,F0 ++ F1,Fc,F2,by rw [e1]; rfl,by rw [e2]; simp,.cons h k1,k2,k3⟩
theorem iM.Dy {d:ax} {c:Int} {t:Tree} {F:List Int} (h:iM d [c] [t] F):TA d c t F:=by
 cases h with
 | cons h k=>cases k; simpa using h
structure St (d:ax) (id:Int) (z:ah) (P rest:List Int) (pts rts:List Tree) (FP FR:List Int):Prop where
 wf:WF d
 hz:nd d id=some { z with kids:=P ++ rest }
 hl:z.lives=true
 ht:z.tag ≠ []
 tp:iM d P pts FP
 tr:iM d rest rts FR
theorem St.nodup {d:ax} {id:Int} {z:ah} {P rest:List Int} {pts rts:List Tree} {FP FR:List Int} (S:St d id z P rest pts rts FP FR):(P ++ rest).Nodup:=S.wf.kidN _ _ S.hz S.hl
theorem St.keep {d d':ax} {id:Int} {z:ah} {P rest:List Int} {pts rts:List Tree} {FP FR:List Int} (S:St d id z P rest pts rts FP FR) {C:List Int} {tc:List Tree} {Fc:List Int} (hC:iM d C tc Fc) (hCk:∀ c ∈ C,c ∈ P ++ rest) (fr:∀ j,j ≠ id→j ∉ Fc→jF d j=true→nd d' j=nd d j) {L:List Int} {ts:List Tree} {F:List Int} (h:iM d L ts F) (hL:∀ c ∈ L,c ∈ P ++ rest) (hd:∀ c ∈ L,c ∉ C):iM d' L ts F :=
 h.rH fun j hj=>fr j (h.zy S.wf S.hz S.hl hL j hj) (h.Ko S.wf S.hz S.hl hC hL hCk hd j hj) (by
  obtain ⟨x,x1,x2,_⟩:=h.live j hj
  rw [di x1,x2])
theorem St.Hq {d d':ax} {id:Int} {z:ah} {P rest:List Int} {pts rts:List Tree} {FP FR:List Int} (S:St d id z P rest pts rts FP FR) {C:List Int} {tc:List Tree} {Fc:List Int} (hC:iM d C tc Fc) (hCk:∀ c ∈ C,c ∈ P ++ rest) (fr:∀ j,j ≠ id→j ∉ Fc→jF d j=true→nd d' j=nd d j) {c:Int} {t:Tree} {F:List Int} (h:TA d c t F) (hL:c ∈ P ++ rest) (hd:c ∉ C):TA d' c t F :=
 (S.keep hC hCk fr (.one h) (by simpa using hL) (by simpa using hd)).Dy
theorem uA {d d':ax} {j:Int} (h:nd d' j=nd d j):jF d' j=jF d j:=by unfold jF; rw [h]
theorem St.drop {d:ax} {id:Int} {z:ah} {r1 r2:List Int} {c:Int} {rts FR} (S:St d id z [] (r1 ++ c :: r2) [] rts [] FR) {n:Nat} (hn:6000 ≤ n) :
  ∃ m d' s1 tc s2 F1 Fc F2,jP n d c=some (m,d')∧FR=F1 ++ (Fc ++ F2)∧TA d c tc Fc∧St d' id z [] (r1 ++ r2) [] (s1 ++ s2) [] (F1 ++ F2)∧cnt d'=cnt d - Fc.length∧d'.l.length=d.l.length∧(∀ j,j ≠ id→j ∉ Fc→jF d j=true→nd d' j=nd d j):=by
 obtain ⟨s1,tc,s2,F1,Fc,F2,e1,e2,k1,k2,k3⟩:=S.tr.split
 have hc:c ∈ ([]:List Int) ++ (r1 ++ c :: r2):=by simp
 obtain ⟨x,l,x1,x2,x3,x4,x5,x6,x7,x8⟩:=yK S.wf S.hz S.hl hc
 obtain ⟨d',q1,q2,q3,q4,q5,q6⟩:=GN S.wf hn k2 x4
 have hnd:=S.nodup
 rw [List.nil_append] at hnd
 have hC1:∀ c' ∈ [c],c' ∈ ([]:List Int) ++ (r1 ++ c :: r2):=fun c' h=>by rw [List.mem_singleton.1 h]; exact hc
 have fr:∀ j,j ≠ id→j ∉ Fc→jF d j=true→nd d' j=nd d j:=fun j hj hjF hlv=>by
  obtain ⟨y,y1,y2⟩:=eU hlv
  have:=q6 j y hjF y1
  rw [if_pos y2,List.erase_of_not_mem (fun hm=>by
   obtain ⟨w,w1,w2,w3⟩:=S.wf.kid j y c y1 y2 hm
   rw [x1] at w1; cases w1
   exact hj (w3.symm.trans x3))] at this
  rw [this,y1]
 have hid:id ∉ Fc:=fun h=>(iM.one k2).zy S.wf S.hz S.hl hC1 _ h rfl
 have hz':=q6 id _ hid S.hz
 rw [if_pos S.hl] at hz'
 have hera:(([]:List Int) ++ (r1 ++ c :: r2)).erase c=[] ++ (r1 ++ r2):=by
  have hn2:=List.nodup_append.1 hnd
  have:c ∉ r1:=fun h=>hn2.2.2 c h c List.mem_cons_self rfl
  rw [List.nil_append,List.nil_append,List.erase_append_right _ this,List.erase_cons_head]
 simp only [hera] at hz'
 have hd:∀ c' ∈ r1 ++ r2,c' ∉ [c]:=fun c' h hm=>by
  rw [List.mem_singleton.1 hm] at h
  have hn2:=List.nodup_append.1 hnd
  rcases List.mem_append.1 h with h | h
  ·
   exact hn2.2.2 c h c List.mem_cons_self rfl
  ·
   exact (List.nodup_cons.1 hn2.2.1).1 h
 refine ⟨_,d',s1,tc,s2,F1,Fc,F2,q1,e2,k2,⟨q2,hz',S.hl,S.ht,.nil,?_⟩,q3,q4,fr⟩
 exact S.keep (.one k2) hC1 fr (k1.app k3) (fun c' h=>by
  rcases List.mem_append.1 h with h | h <;> simp [h]) hd
end Pr
end Go.Ev

namespace Go.Ev
namespace Pr
set_option linter.unusedVariables false
set_option linter.unusedSimpArgs false
set_option linter.unusedSectionVars false
theorem Bn (P l:List Int) (c:Int):mU (P ++ l) (P.length:Int) c=P ++ c :: l:=by
 unfold mU
 have:uO (P.length:Int) (P ++ l).length=P.length:=by unfold uO; simp; omega
 rw [this,List.take_left,List.drop_left]
theorem Path.I8 {d d':ax} (h:∀ j z,nd d j=some z→z.lives=true→nd d' j=some z) {i:Int} {l:List Int} (p:Path d i l):Path d' i l:=by
 induction p with
 | top q hl hp=>exact .top (h _ _ q hl) hl hp
 | up q hl hp k ih=>exact .up (h _ _ q hl) hl hp ih
theorem D7 {P r1 r2:List Int} {c:Int} (h:(P ++ (r1 ++ c :: r2)).Nodup):(P ++ (r1 ++ c :: r2)).erase c=P ++ (r1 ++ r2):=by
 have h1:=List.nodup_append.1 h
 have h2:=List.nodup_append.1 h1.2.1
 have n1:c ∉ P:=fun q=>h1.2.2 c q c (by simp) rfl
 have n2:c ∉ r1:=fun q=>h2.2.2 c q c (by simp) rfl
 rw [List.erase_append_right _ n1,List.erase_append_right _ n2,List.erase_cons_head]
theorem St.move {d:ax} {id:Int} {z:ah} {P r1 r2:List Int} {c:Int} {pts rts FP FR} (S:St d id z P (r1 ++ c :: r2) pts rts FP FR) {n:Nat} (hn:6000 ≤ n) :
  ∃ d' s1 tc s2 F1 Fc F2,eH n d id c (P.length:Int)=some (true,d')∧FR=F1 ++ (Fc ++ F2)∧TA d c tc Fc∧TA d' c tc Fc∧St d' id z (P ++ [c]) (r1 ++ r2) (pts ++ [tc]) (s1 ++ s2) (FP ++ Fc) (F1 ++ F2)∧cnt d'=cnt d∧d'.l.length=d.l.length∧(∀ j,j ≠ id→jF d j=true→nd d' j=nd d j):=by
 obtain ⟨s1,tc,s2,F1,Fc,F2,e1,e2,k1,k2,k3⟩:=S.tr.split
 have hc:c ∈ P ++ (r1 ++ c :: r2):=by simp
 obtain ⟨x,l,x1,x2,x3,x4,x5,x6,x7,x8⟩:=yK S.wf S.hz S.hl hc
 have hok:j5 d id c=true:=by
  unfold j5
  have ht1:qo d id=z.tag:=by unfold qo; rw [S.hz]
  rw [di S.hz,di x1,x2,ht1,x5.of]
  simp [S.hl,S.ht,x4,x7]
 obtain ⟨hW2,hg2⟩:=Cs S.wf (P.length:Int) hok
 have hi:=uP S.wf hn id c (P.length:Int)
 rw [if_pos hok] at hi
 have fr:∀ j,j ≠ id→jF d j=true→nd (ic (cB d c) id c (P.length:Int)) j=nd d j:=fun j hj hlv=>by
  obtain ⟨y,y1,y2⟩:=eU hlv
  have:=hg2 j y y1 y2
  rw [if_neg hj,List.erase_of_not_mem (fun hm=>by
   obtain ⟨w,w1,w2,w3⟩:=S.wf.kid j y c y1 y2 hm
   rw [x1] at w1; cases w1
   exact hj (w3.symm.trans x3))] at this
  rw [this,y1]
  by_cases hjc:j=c
  ·
   subst hjc
   rw [x1] at y1; cases y1
   rw [if_pos rfl,← x3]
  ·
   rw [if_neg hjc]
 have hz':=hg2 id _ S.hz S.hl
 rw [if_pos rfl,if_neg (Ne.symm x8)] at hz'
 simp only [D7 S.nodup,Bn] at hz'
 have kk:∀ {L:List Int} {ts:List Tree} {F:List Int},iM d L ts F→(∀ c' ∈ L,c' ∈ P ++ (r1 ++ c :: r2))→iM (ic (cB d c) id c (P.length:Int)) L ts F:=fun h hL =>
  h.rH fun j hj=>fr j (h.zy S.wf S.hz S.hl hL j hj) (by
   obtain ⟨x,x1,x2,_⟩:=h.live j hj
   rw [di x1,x2])
 have kc:=kk (.one k2) (by simp)
 refine ⟨_,s1,tc,s2,F1,Fc,F2,hi,e2,k2,kc.Dy,⟨hW2,by rw [hz']; simp,S.hl,S.ht,(kk S.tp (fun c' h=>by simp [h])).app kc,kk (k1.app k3) (fun c' h=>by
  rcases List.mem_append.1 h with h | h <;> simp [h])⟩,by unfold cnt; simp,by simp,fr⟩
theorem St.put {d:ax} {id:Int} {z:ah} {P rest:List Int} {pts rts FP FR} (S:St d id z P rest pts rts FP FR) {n:Nat} (hn:6000 ≤ n) {d1:ax} {kid:Int} {t:Tree} {Fk:List Int} (Q:Put d d1 kid t Fk) :
  ∃ d',eH n d1 id kid (P.length:Int)=some (true,d')∧St d' id z (P ++ [kid]) rest (pts ++ [t]) rts (FP ++ Fk) FR∧cnt d'=cnt d1∧d'.l.length=d1.l.length∧(∀ j,j ≠ id→jF d j=true→nd d' j=nd d j):=by
 have hkF:kid ∈ Fk:=by obtain ⟨G,hG⟩:=Q.ta.head; rw [hG]; exact List.mem_cons_self
 have hkd:jF d kid=false:=Q.new kid hkF
 have hidl:jF d id=true:=by rw [di S.hz]; exact S.hl
 have hne:kid ≠ id:=fun q=>by rw [q,hidl] at hkd; cases hkd
 obtain ⟨l,hp⟩:=S.wf.path id hidl
 have hp1:Path d1 id l:=hp.I8 Q.old
 have hkl:kid ∉ l:=fun h=>by
  obtain ⟨_,_,_,_,y,y1,y2⟩:=hp.mem kid h
  rw [di y1,y2] at hkd; cases hkd
 obtain ⟨zk,hzk,hkl1,hkp⟩:=Q.top
 have hz1:=Q.old _ _ S.hz S.hl
 have hok:j5 d1 id kid=true:=by
  unfold j5
  have ht1:qo d1 id=z.tag:=by unfold qo; rw [hz1]
  rw [di hz1,di hzk,hkl1,ht1,hp1.of]
  simp [S.hl,S.ht,Q.ne1,hkl]
 obtain ⟨hW2,hg2⟩:=Cs Q.wf (P.length:Int) hok
 have hi:=uP Q.wf hn id kid (P.length:Int)
 rw [if_pos hok] at hi
 have hkk:∀ j z,nd d1 j=some z→z.lives=true→kid ∉ z.kids:=fun j z hj hjl hm=>by
  obtain ⟨x,x1,x2,x3⟩:=Q.wf.kid j z kid hj hjl hm
  rw [hzk] at x1; cases x1
  have:=bV hj; omega
 have hg:∀ j z,nd d1 j=some z→z.lives=true→nd (ic (cB d1 kid) id kid (P.length:Int)) j=some { z with kids:=if j=id then mU z.kids (P.length:Int) kid else z.kids,parent:=if j=kid then id else z.parent }:=fun j z hj hjl=>by
  rw [hg2 j z hj hjl,List.erase_of_not_mem (hkk j z hj hjl)]
 have fr:∀ j,j ≠ id→jF d j=true→nd (ic (cB d1 kid) id kid (P.length:Int)) j=nd d j:=fun j hj hlv=>by
  obtain ⟨y,y1,y2⟩:=eU hlv
  have:=hg j y (Q.old j y y1 y2) y2
  have hjk:j ≠ kid:=fun q=>by rw [q,hkd] at hlv; cases hlv
  rw [if_neg hj,if_neg hjk] at this
  rw [this,y1]
 have hz':=hg id _ hz1 S.hl
 rw [if_pos rfl,if_neg (Ne.symm hne)] at hz'
 simp only [Bn] at hz'
 have kk:∀ {L:List Int} {ts:List Tree} {F:List Int},iM d L ts F→(∀ c' ∈ L,c' ∈ P ++ rest)→iM (ic (cB d1 kid) id kid (P.length:Int)) L ts F:=fun h hL =>
  h.rH fun j hj=>fr j (h.zy S.wf S.hz S.hl hL j hj) (by
   obtain ⟨x,x1,x2,_⟩:=h.live j hj
   rw [di x1,x2])
 have kc:TA (ic (cB d1 kid) id kid (P.length:Int)) kid t Fk:=Q.ta.keep (fun j hj z hz'=>by
  obtain ⟨z0,q2,q3,_⟩:=Q.ta.live j hj
  rw [hz'] at q2; cases q2
  have hj1:j ≠ id:=fun q=>by have:=Q.new j hj; rw [q,hidl] at this; cases this
  exact ⟨_,hg j z hz' q3,rfl,rfl,rfl,rfl,rfl,by simp [hj1]⟩)
 refine ⟨_,hi,⟨hW2,by rw [hz']; simp,S.hl,S.ht,(kk S.tp (fun c' h=>by simp [h])).app (.one kc),kk S.tr (fun c' h=>by simp [h])⟩,by unfold cnt; simp,by simp,fr⟩
structure Turned (d d':ax) (id:Int) (old t:Tree) (F F':List Int):Prop where
 wf:WF d'
 ta:TA d' id t F'
 fr:∀ j,j ∉ F→jF d j=true→nd d' j=nd d j
 cnt:cnt d' - F'.length=Pr.cnt d - F.length
 len:d'.l.length ≤ d.l.length + iF t
 kids:∃ z z',nd d id=some z∧nd d' id=some z'∧∀ (i:Nat) k,(ng old.Kids t.Kids)[i]? = some k→0 ≤ k→z'.kids[i]? = idx z.kids k
theorem St.turn {d d':ax} {id:Int} {z:ah} {P rest:List Int} {c:Int} {pts rts FP FR} {tc t:Tree} {Fc F':List Int} (S:St d id z (P ++ [c]) rest (pts ++ [tc]) rts (FP ++ Fc) FR) (hP:iM d P pts FP) (hc:TA d c tc Fc) (T:Turned d d' c tc t Fc F') :
  St d' id z (P ++ [c]) rest (pts ++ [t]) rts (FP ++ F') FR:=by
 have hC1:∀ c' ∈ [c],c' ∈ (P ++ [c]) ++ rest:=by simp
 have fr:∀ j,j ≠ id→j ∉ Fc→jF d j=true→nd d' j=nd d j:=fun j _ h1 h2=>T.fr j h1 h2
 have hid:id ∉ Fc:=fun h=>(iM.one hc).zy S.wf S.hz S.hl hC1 _ h rfl
 have hnd:=S.nodup
 have h1:=List.nodup_append.1 hnd
 have h2:=List.nodup_append.1 h1.1
 refine ⟨T.wf,by rw [T.fr id hid (by rw [di S.hz]; exact S.hl)]; exact S.hz,S.hl,S.ht,?_,?_⟩
 ·
  exact (S.keep (.one hc) hC1 fr hP (fun c' h=>by simp [h]) (fun c' h hm=>h2.2.2 c' h c' hm rfl)).app (.one T.ta)
 ·
  exact S.keep (.one hc) hC1 fr S.tr (fun c' h=>by simp [h]) (fun c' h hm=>h1.2.2 c' (by simp at hm; simp [hm]) c' h rfl)
end Pr
end Go.Ev

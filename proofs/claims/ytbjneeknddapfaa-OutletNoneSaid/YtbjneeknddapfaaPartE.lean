import Derived.Test.YtbjneeknddapfaaPartD
namespace Go.Ev
namespace Pr
set_option linter.unusedVariables false
set_option linter.unusedSimpArgs false
open Go.Proofs
section
variable {R:bU} (E:Lh R)
include E
set_option maxRecDepth 20000 in
set_option maxHeartbeats 4000000 in
theorem Av (n:Nat) (a1:(List Tree)) (a2:(List Tree)) (r:(List Int)) (h:mQ n a1 a2=some r):fE R cfg.P 44 [(.sl ((a1).map ai) false),(.sl ((a2).map ai) false)] (.d (.sl ((r).map (D.int .i64)) false)):=by
 unfold mQ at h
 refine fE.of_wp (eX E).toObjOk (C:=rM) Try.func44 rfl Nq rfl ?_
 have H0:Has aL aL []:=Has.pure
 refine aD.seq ?_
 refine aD.region (eX E) rfl ?_
 refine aj.val rfl (ak rfl) rfl ?_
 refine aj.nil ?_
 refine aD.seq ?_
 refine aD.region (eX E) rfl ?_
 refine aj.makeMap aQ (D.int .i64) H0 rfl uf rfl (fun b3 S4 H5=>?_)
 have H6:=Has.MS (ek:=aQ) rfl H5
 have H7:Has aL S4 [dQ aQ b3 [] [] true none]:=H6.sl [0] rfl rfl
 refine aj.val rfl (ak rfl) rfl ?_
 refine aj.nil ?_
 refine aD.seq ?_
 refine aD.seq ?_
 refine aD.region (eX E) rfl ?_
 refine aj.val rfl (aa rfl) rfl ?_
 refine aj.val rfl (cz rfl wE) rfl ?_
 refine aj.val rfl (aa rfl) rfl ?_
 refine aj.nil ?_
 refine aD.block ?_
 refine qo.start (B:=aL) (α:=(List (bg × List Int)) × (List AV) × Int) (fun k a=>gB n a1 a2 k a.1 a.2.2=some r) (fun a=>[(1,(.d (.sl ((a2).map ai) false))),(5,(.map b3)),(13,(.d (.sl ((a1).map ai) false))),(14,(.d (.int .i64 ((a1).length:Int)))),(15,(.d (.int .i64 a.2.2)))]) (fun a=>[dQ aQ b3 a.1 a.2.1 true none]) ?_ ?_ n ⟨⟨[],[],0⟩,_,_,S4,.refl _ _,.refl _,(au.r rfl (au.r rfl (au.r rfl (au.r rfl (au.r rfl au.nil))))),H7.sl [0] rfl rfl,h⟩
 ·
  intro a h; simp [gB] at h
 intro k20 a S15 H16 h
 obtain ⟨x17,ws18,x19⟩:=a
 replace h:gB n a1 a2 (k20 + 1) x17 x19=some r:=h
 replace H16:Has aL S15 [dQ aQ b3 x17 ws18 true none]:=H16
 unfold gB at h
 refine aD.seq ?_
 refine aD.region (eX E) rfl ?_
 refine aj.val rfl (aH rfl rfl dR) rfl ?_
 refine aj.nil ?_
 refine aD.seq ?_
 refine aD.cond rfl (fun hb21=>?_) (fun hb21=>?_)
 ·
  replace h:=dH hb21 h
  refine aD.skip ?_
  refine aD.seq ?_
  refine aD.block ?_
  refine aD.seq ?_
  refine aD.region (eX E) rfl ?_
  refine aj.val rfl (aa rfl) rfl ?_
  obtain ⟨z22,hzz22,h⟩:=bind_some h
  refine aj.val rfl (bX rfl rfl (dU (enc:=ai) hzz22 kJ jc ((Tree.len _).trans bE.symm))) rfl ?_
  refine aj.val rfl (bG rfl (Tree.pR dX bE)) rfl ?_
  refine aj.alloc H16 rfl Ho fO rfl rfl (fun b23 S24 H25=>?_)
  refine aj.val rfl (ak rfl) rfl ?_
  refine aj.store H25 (i:=0) rfl rfl rfl rfl (Tree.dx _) rfl bE rfl jc rfl rfl rfl (fun S26 H27=>?_)
  refine aj.nil ?_
  obtain ⟨z28,hzz28,h⟩:=bind_some h
  obtain ⟨z36,hzz36,h⟩:=bind_some h
  refine aD.jf (eX E) lQ Nz [(1,none),(5,none),(13,none),(14,none),(15,none)] (by kernel_rfl) [8,9,10] (by decide) [some (.map b3),some (.d (ai z22)),some (.d (aQ z28)),some (.map b3),some (.d (ai z22)),some (.d (aQ z28)),some (mw x17 ws18 z28),some (.d (.int .i64 x19)),none,none,none] ?_
  refine ⟨[0,1,2,3,4,5,6,7],by kernel_rfl,?_,_,_,rfl,rfl,.step ?_⟩
  ·
   refine .v rfl rfl rfl rfl (aa rfl) ?_
   refine .cons rfl rfl rfl (.step ?_) ?_
   ·
    refine aj.val rfl (aJ H27 (i:=0) rfl rfl (aW dX bE rfl)) rfl ?_
    refine aj.less (Less.agg' (d:=ai z22) (ax.eq rfl (ax.eq rfl (ax.eq rfl (ax.eq rfl (ax.eq rfl .nil))))) ((Tree.eq _).trans rfl)) ?_
    exact aj.nil ⟨_,_,rfl,fun _ ht=>by cases ht; exact ⟨rfl,.refl _⟩⟩
   refine .cons rfl rfl rfl (.step ?_) ?_
   ·
    refine aj.ret rfl (az rfl rfl) (lM E _ _ _ hzz28 _ _ (aN.eq .nil)) rfl ?_
    exact aj.nil ⟨_,_,rfl,fun _ ht=>by cases ht; exact ⟨rfl,.refl _⟩⟩
   refine .v rfl rfl rfl rfl (aa rfl) ?_
   refine .cons rfl rfl rfl (.step ?_) ?_
   ·
    refine aj.val rfl (aJ H27 (i:=0) rfl rfl (aW dX bE rfl)) rfl ?_
    refine aj.less (Less.agg' (d:=ai z22) (ax.eq rfl (ax.eq rfl (ax.eq rfl (ax.eq rfl (ax.eq rfl .nil))))) ((Tree.eq _).trans rfl)) ?_
    exact aj.nil ⟨_,_,rfl,fun _ ht=>by cases ht; exact ⟨rfl,.refl _⟩⟩
   refine .cons rfl rfl rfl (.step ?_) ?_
   ·
    refine aj.ret rfl (az rfl rfl) (lM E _ _ _ hzz28 _ _ (aN.eq .nil)) rfl ?_
    exact aj.nil ⟨_,_,rfl,fun _ ht=>by cases ht; exact ⟨rfl,.refl _⟩⟩
   refine .v rfl rfl rfl rfl (rD H27 (q:=1) rfl rfl rfl uf yY Le) ?_
   refine .v rfl rfl rfl rfl (aa rfl) ?_
   exact .nil
  refine aj.qG (vs:=[(.d (.int .i64 x19))]) (cs:=[[(.d (.int .i64 x19))]]) H27 rfl qm fQ vV wD kV rfl (by decide) (.cons rfl rfl .nil) rfl rfl rfl (fun v47 S48 H49=>?_)
  have H50:Has aL S48 [ic 1 1 v47 [(.d (.int .i64 x19))],.box b23 [(.d (.str z22.Tag)),(.d (.str z22.Key)),(.d (.str z22.Text)),(.d (.sl ((z22.aI).map ay) false)),(.d (.sl ((z22.Kids).map ai) false))],dQ aQ b3 x17 ws18 true none]:=H49.sl [0,1,2] rfl rfl
  refine aj.nil ⟨_,_,_,rfl,(fun _ ht=>by cases ht; rfl),_,(.q (.q (.w v47 (.n (.n .nil))))),(fun _ ht=>by cases ht; exact ⟨_,rfl,.refl _⟩),?_⟩
  refine ⟨[0,1,2,3,4,5,6],by kernel_rfl,?_,_,_,rfl,rfl,.step ?_⟩
  ·
   refine .v rfl rfl rfl rfl (aa rfl) ?_
   refine .cons rfl rfl rfl (.step ?_) ?_
   ·
    refine aj.val rfl (aJ H50 (i:=1) rfl rfl (aW dX bE rfl)) rfl ?_
    refine aj.less (Less.agg' (d:=ai z22) (ax.eq rfl (ax.eq rfl (ax.eq rfl (ax.eq rfl (ax.eq rfl .nil))))) ((Tree.eq _).trans rfl)) ?_
    exact aj.nil ⟨_,_,rfl,fun _ ht=>by cases ht; exact ⟨rfl,.refl _⟩⟩
   refine .cons rfl rfl rfl (.step ?_) ?_
   ·
    refine aj.ret rfl (az rfl rfl) (lM E _ _ _ hzz28 _ _ (aN.eq .nil)) rfl ?_
    exact aj.nil ⟨_,_,rfl,fun _ ht=>by cases ht; exact ⟨rfl,.refl _⟩⟩
   refine .v rfl rfl rfl rfl (aa rfl) ?_
   refine .cons rfl rfl rfl (.step ?_) ?_
   ·
    refine aj.val rfl (aJ H50 (i:=1) rfl rfl (aW dX bE rfl)) rfl ?_
    refine aj.less (Less.agg' (d:=ai z22) (ax.eq rfl (ax.eq rfl (ax.eq rfl (ax.eq rfl (ax.eq rfl .nil))))) ((Tree.eq _).trans rfl)) ?_
    exact aj.nil ⟨_,_,rfl,fun _ ht=>by cases ht; exact ⟨rfl,.refl _⟩⟩
   refine .cons rfl rfl rfl (.step ?_) ?_
   ·
    refine aj.ret rfl (az rfl rfl) (lM E _ _ _ hzz28 _ _ (aN.eq .nil)) rfl ?_
    exact aj.nil ⟨_,_,rfl,fun _ ht=>by cases ht; exact ⟨rfl,.refl _⟩⟩
   refine .v rfl rfl rfl rfl (rD H50 (q:=2) rfl rfl rfl uf yY Le) ?_
   exact .nil
  have H51:Has aL S48 ([dQ aQ b3 x17 ws18 true none] ++ [ic 1 1 v47 [(.d (.int .i64 x19))],.box b23 [(.d (.str z22.Tag)),(.d (.str z22.Key)),(.d (.str z22.Text)),(.d (.sl ((z22.aI).map ay) false)),(.d (.sl ((z22.Kids).map ai) false))]]):=H50.sl [2,0,1] rfl rfl
  replace H51:Has aL S48 [dQ aQ b3 x17 ws18 true none,ic 1 1 v47 [(.d (.int .i64 x19))],.box b23 [(.d (.str z22.Tag)),(.d (.str z22.Key)),(.d (.str z22.Text)),(.d (.sl ((z22.aI).map ay) false)),(.d (.sl ((z22.Kids).map ai) false))]]:=H51
  have H52:=Has.Ml H51 z28
  have H53:Has aL S48 [aG (mw x17 ws18 z28) (jr x17 z28 []),ic 1 1 v47 [(.d (.int .i64 x19))],.box b23 [(.d (.str z22.Tag)),(.d (.str z22.Key)),(.d (.str z22.Text)),(.d (.sl ((z22.aI).map ay) false)),(.d (.sl ((z22.Kids).map ai) false))],dQ aQ b3 x17 ws18 true (yo x17 z28)]:=H52.sl [0,2,3,1] rfl rfl
  have H54:Has aL S48 ([ic 1 1 v47 [(.d (.int .i64 x19))],aG (mw x17 ws18 z28) (jr x17 z28 [])] ++ [.box b23 [(.d (.str z22.Tag)),(.d (.str z22.Key)),(.d (.str z22.Text)),(.d (.sl ((z22.aI).map ay) false)),(.d (.sl ((z22.Kids).map ai) false))],dQ aQ b3 x17 ws18 true (yo x17 z28)]):=H53.sl [1,0,2,3] rfl rfl
  replace H54:Has aL S48 [ic 1 1 v47 [(.d (.int .i64 x19))],aG (mw x17 ws18 z28) (jr x17 z28 []),.box b23 [(.d (.str z22.Tag)),(.d (.str z22.Key)),(.d (.str z22.Text)),(.d (.sl ((z22.aI).map ay) false)),(.d (.sl ((z22.Kids).map ai) false))],dQ aQ b3 x17 ws18 true (yo x17 z28)]:=H54
  refine aj.Bb H54 rfl rfl rfl qm zM fQ kV hzz36 KC rfl DK rfl (fun w55 S56 H57=>?_)
  have H58:Has aL S56 [aG w55 z36,.box b23 [(.d (.str z22.Tag)),(.d (.str z22.Key)),(.d (.str z22.Text)),(.d (.sl ((z22.aI).map ay) false)),(.d (.sl ((z22.Kids).map ai) false))],dQ aQ b3 x17 ws18 true (yo x17 z28)]:=H57.sl [0,1,2] rfl rfl
  refine aj.nil ⟨_,_,_,rfl,(fun _ ht=>by cases ht; rfl),_,(.q (.q (.o (.w w55 (.n .nil))))),(fun _ ht=>by cases ht; exact ⟨_,rfl,.refl _⟩),?_⟩
  refine ⟨[0],by kernel_rfl,?_,_,_,rfl,rfl,.step ?_⟩
  ·
   refine .v rfl rfl rfl rfl (aa rfl) ?_
   exact .nil
  have H62:Has aL S56 ([aG w55 z36,dQ aQ b3 x17 ws18 true (yo x17 z28)] ++ [.box b23 [(.d (.str z22.Tag)),(.d (.str z22.Key)),(.d (.str z22.Text)),(.d (.sl ((z22.aI).map ay) false)),(.d (.sl ((z22.Kids).map ai) false))]]):=H58.sl [0,2,1] rfl rfl
  replace H62:Has aL S56 [aG w55 z36,dQ aQ b3 x17 ws18 true (yo x17 z28),.box b23 [(.d (.str z22.Tag)),(.d (.str z22.Key)),(.d (.str z22.Text)),(.d (.sl ((z22.aI).map ay) false)),(.d (.sl ((z22.Kids).map ai) false))]]:=H62
  refine aj.Kj H62 rfl rfl rfl rfl uf yY (fun ws59 S60 H61=>?_)
  have H63:Has aL S60 [.box b23 [(.d (.str z22.Tag)),(.d (.str z22.Key)),(.d (.str z22.Text)),(.d (.sl ((z22.aI).map ay) false)),(.d (.sl ((z22.Kids).map ai) false))],dQ aQ b3 (kM x17 z28 z36) ws59 true none]:=H61.sl [1,0] rfl rfl
  refine aj.nil ⟨_,.any,_,rfl,(fun _ ht=>by cases ht),_,(.q (.q (.o (.o (.w .any .nil))))),(fun _ ht=>by cases ht),?_⟩
  refine ⟨[],by kernel_rfl,?_,_,rfl,?_⟩
  ·
   exact .nil
  refine aD.region (eX E) rfl ?_
  refine aj.val rfl (aH rfl rfl dF) rfl ?_
  refine aj.val rfl (aa rfl) rfl ?_
  refine aj.nil ?_
  exact ⟨⟨(kM x17 z28 z36),ws59,(IntKind.wrap .i64 (x19 + 1))⟩,_,_,S60,.refl _ _,.refl _,(au.r rfl (au.r rfl (au.r rfl (au.r rfl (au.r rfl au.nil))))),H63.sl [1] rfl rfl,h⟩
 replace h:=dI hb21 h
 refine aD.exit ?_
 refine aD.seq ?_
 refine aD.region (eX E) rfl ?_
 refine aj.val rfl (ak rfl) rfl ?_
 refine aj.nil ?_
 refine aD.seq ?_
 refine aD.seq ?_
 refine aD.region (eX E) rfl ?_
 refine aj.val rfl (aa rfl) rfl ?_
 refine aj.val rfl (cz rfl wE) rfl ?_
 refine aj.val rfl (aa rfl) rfl ?_
 refine aj.nil ?_
 refine aD.block ?_
 have H64:Has aL S15 ([dQ aQ b3 x17 ws18 true none] ++ []):=H16.sl [0] rfl rfl
 replace H64:Has aL S15 [dQ aQ b3 x17 ws18 true none]:=H64
 have H65:=Has.LX H64
 have H66:Has aL S15 [dQ aQ b3 x17 ws18 false none]:=H65.sl [0] rfl rfl
 have H133:=H66.KZ 1
 refine qo.start (B:=aL) (α:=(List (bg × List Int)) × (List AV) × (List Int) × AV × Int) (fun k a=>eH n a2 k a.1 a.2.2.1 a.2.2.2.2=some r) (fun a=>[(5,(.map b3)),(8,a.2.2.2.1),(31,(.d (.sl ((a2).map ai) false))),(32,(.d (.int .i64 ((a2).length:Int)))),(33,(.d (.int .i64 a.2.2.2.2)))]) (fun a=>[dQ aQ b3 a.1 a.2.1 false none,.row 1 a.2.2.2.1 ((a.2.2.1).map (D.int .i64))]) ?_ ?_ n ⟨⟨x17,ws18,[],(.d .aO),0⟩,_,_,S15,.refl _ _,.refl _,(au.r rfl (au.r rfl (au.r rfl (au.r rfl (au.r rfl au.nil))))),H133.sl [1,0] rfl rfl,h⟩
 ·
  intro a h; simp [eH] at h
 intro k83 a S76 H77 h
 obtain ⟨x78,ws79,x80,v81,x82⟩:=a
 replace h:eH n a2 (k83 + 1) x78 x80 x82=some r:=h
 replace H77:Has aL S76 [dQ aQ b3 x78 ws79 false none,.row 1 v81 ((x80).map (D.int .i64))]:=H77
 unfold eH at h
 refine aD.seq ?_
 refine aD.region (eX E) rfl ?_
 refine aj.val rfl (aH rfl rfl dR) rfl ?_
 refine aj.nil ?_
 refine aD.seq ?_
 refine aD.cond rfl (fun hb84=>?_) (fun hb84=>?_)
 ·
  replace h:=dH hb84 h
  refine aD.skip ?_
  refine aD.join (B:=aL) (α:=(List (bg × List Int)) × (List AV) × (List Int) × AV) (fun a=>iY x82 (eH n a2 k83) a.1 a.2.2.1=some r) (fun a=>[(5,(.map b3)),(8,a.2.2.2),(31,(.d (.sl ((a2).map ai) false))),(32,(.d (.int .i64 ((a2).length:Int)))),(33,(.d (.int .i64 x82)))]) (fun a=>[dQ aQ b3 a.1 a.2.1 false none,.row 1 a.2.2.2 ((a.2.2.1).map (D.int .i64))]) ?_ ?_
  ·
   intro a S85 H86 h
   obtain ⟨x87,ws88,x89,v90⟩:=a
   replace h:iY x82 (eH n a2 k83) x87 x89=some r:=h
   replace H86:Has aL S85 [dQ aQ b3 x87 ws88 false none,.row 1 v90 ((x89).map (D.int .i64))]:=H86
   unfold iY at h
   refine aD.region (eX E) rfl ?_
   refine aj.val rfl (aH rfl rfl dF) rfl ?_
   refine aj.val rfl (aa rfl) rfl ?_
   refine aj.nil ?_
   exact ⟨⟨x87,ws88,x89,v90,(IntKind.wrap .i64 (x82 + 1))⟩,_,_,S85,.refl _ _,.refl _,(au.r rfl (au.r rfl (au.r rfl (au.r rfl (au.r rfl au.nil))))),H86.sl [0,1] rfl rfl,h⟩
  refine aD.block ?_
  refine aD.seq ?_
  refine aD.region (eX E) rfl ?_
  obtain ⟨z92,hzz92,h⟩:=bind_some h
  refine aj.val rfl (bX rfl rfl (dU (enc:=ai) hzz92 kJ jc ((Tree.len _).trans bE.symm))) rfl ?_
  refine aj.val rfl (bG rfl (Tree.pR dX bE)) rfl ?_
  refine aj.alloc H77 rfl Ho fO rfl rfl (fun b93 S94 H95=>?_)
  refine aj.store H95 (i:=0) rfl rfl rfl rfl (Tree.dx _) rfl bE rfl jc rfl rfl rfl (fun S96 H97=>?_)
  refine aj.nil ?_
  refine aD.seq ?_
  refine aD.region (eX E) rfl ?_
  refine aj.val rfl (aa rfl) rfl ?_
  refine aj.val rfl (aJ H97 (i:=0) rfl rfl (aW dX bE rfl)) rfl ?_
  refine aj.less (Less.agg' (d:=ai z92) (ax.eq rfl (ax.eq rfl (ax.eq rfl (ax.eq rfl (ax.eq rfl .nil))))) ((Tree.eq _).trans rfl)) ?_
  obtain ⟨z98,hzz98,h⟩:=bind_some h
  refine aj.ret rfl (az rfl rfl) (lM E _ _ _ hzz98 _ _ (aN.eq .nil)) rfl ?_
  refine aj.val rfl (rD H97 (q:=1) rfl rfl rfl uf yY Le) rfl ?_
  refine aj.val rfl (ak rfl) rfl ?_
  refine aj.nil ?_
  refine aD.seq ?_
  refine aD.seq ?_
  refine aD.region (eX E) rfl ?_
  refine aj.val rfl (aa rfl) rfl ?_
  refine aj.val rfl (Ew (zg H97 (q:=1) rfl z98) rfl nZ) rfl ?_
  refine aj.val rfl (aH rfl rfl bD) rfl ?_
  refine aj.nil ?_
  refine aD.cond rfl (fun hb99=>?_) (fun hb99=>?_)
  ·
   replace h:=dH hb99 h
   refine aD.seq ?_
   refine aD.region (eX E) rfl ?_
   refine aj.val rfl (aa rfl) rfl ?_
   refine aj.qG (vs:=[(.d (.int .i64 (-1)))]) (cs:=[[(.d (.int .i64 (-1)))]]) H97 rfl qm fQ vV wD kV rfl (by decide) (.cons rfl rfl .nil) rfl rfl rfl (fun v100 S101 H102=>?_)
   have H103:Has aL S101 [ic 1 1 v100 [(.d (.int .i64 (-1)))],.box b93 [(.d (.str z92.Tag)),(.d (.str z92.Key)),(.d (.str z92.Text)),(.d (.sl ((z92.aI).map ay) false)),(.d (.sl ((z92.Kids).map ai) false))],dQ aQ b3 x78 ws79 false none,.row 1 v81 ((x80).map (D.int .i64))]:=H102.sl [0,1,2,3] rfl rfl
   obtain ⟨z104,hzz104,h⟩:=bind_some h
   have H105:Has aL S101 ([ic 1 1 v100 [(.d (.int .i64 (-1)))],.row 1 v81 ((x80).map (D.int .i64))] ++ [.box b93 [(.d (.str z92.Tag)),(.d (.str z92.Key)),(.d (.str z92.Text)),(.d (.sl ((z92.aI).map ay) false)),(.d (.sl ((z92.Kids).map ai) false))],dQ aQ b3 x78 ws79 false none]):=H103.sl [0,3,1,2] rfl rfl
   replace H105:Has aL S101 [ic 1 1 v100 [(.d (.int .i64 (-1)))],.row 1 v81 ((x80).map (D.int .i64)),.box b93 [(.d (.str z92.Tag)),(.d (.str z92.Key)),(.d (.str z92.Text)),(.d (.sl ((z92.aI).map ay) false)),(.d (.sl ((z92.Kids).map ai) false))],dQ aQ b3 x78 ws79 false none]:=H105
   refine aj.yU (enc:=(D.int .i64)) (z:=(-1)) H105 rfl rfl rfl qm zM fQ kV rfl hzz104 KC rfl DK (.refl _) rfl rfl rfl (fun v106 S107 H108=>?_)
   have H109:Has aL S107 [.row 1 v106 ((z104).map (D.int .i64)),.box b93 [(.d (.str z92.Tag)),(.d (.str z92.Key)),(.d (.str z92.Text)),(.d (.sl ((z92.aI).map ay) false)),(.d (.sl ((z92.Kids).map ai) false))],dQ aQ b3 x78 ws79 false none]:=H108.sl [0,1,2] rfl rfl
   refine aj.val rfl (ak rfl) rfl ?_
   refine aj.nil ?_
   refine aD.exit ?_
   exact ⟨⟨x78,ws79,z104,v106⟩,_,_,S107,.refl _ _,.refl _,(au.r rfl (au.r rfl (au.r rfl (au.r rfl (au.r rfl au.nil))))),H109.sl [2,0] rfl rfl,h⟩
  replace h:=dI hb99 h
  refine aD.skip ?_
  refine aD.seq ?_
  refine aD.region (eX E) rfl ?_
  refine aj.val rfl (aa rfl) rfl ?_
  refine aj.val rfl (aa rfl) rfl ?_
  obtain ⟨z110,hzz110,h⟩:=bind_some h
  refine aj.val rfl (EB (zg H97 (q:=1) rfl z98) hzz110 rfl rfl fQ vV kV) rfl ?_
  refine aj.val rfl (Dy (zg H97 (q:=1) rfl z98) hzz110 rfl nV) rfl ?_
  refine aj.qG (vs:=[(.d (.int .i64 z110))]) (cs:=[[(.d (.int .i64 z110))]]) H97 rfl qm fQ vV wD kV rfl (by decide) (.cons rfl rfl .nil) rfl rfl rfl (fun v111 S112 H113=>?_)
  have H114:Has aL S112 [ic 1 1 v111 [(.d (.int .i64 z110))],.box b93 [(.d (.str z92.Tag)),(.d (.str z92.Key)),(.d (.str z92.Text)),(.d (.sl ((z92.aI).map ay) false)),(.d (.sl ((z92.Kids).map ai) false))],dQ aQ b3 x78 ws79 false none,.row 1 v81 ((x80).map (D.int .i64))]:=H113.sl [0,1,2,3] rfl rfl
  obtain ⟨z115,hzz115,h⟩:=bind_some h
  have H116:Has aL S112 ([ic 1 1 v111 [(.d (.int .i64 z110))],.row 1 v81 ((x80).map (D.int .i64))] ++ [.box b93 [(.d (.str z92.Tag)),(.d (.str z92.Key)),(.d (.str z92.Text)),(.d (.sl ((z92.aI).map ay) false)),(.d (.sl ((z92.Kids).map ai) false))],dQ aQ b3 x78 ws79 false none]):=H114.sl [0,3,1,2] rfl rfl
  replace H116:Has aL S112 [ic 1 1 v111 [(.d (.int .i64 z110))],.row 1 v81 ((x80).map (D.int .i64)),.box b93 [(.d (.str z92.Tag)),(.d (.str z92.Key)),(.d (.str z92.Text)),(.d (.sl ((z92.aI).map ay) false)),(.d (.sl ((z92.Kids).map ai) false))],dQ aQ b3 x78 ws79 false none]:=H116
  refine aj.yU (enc:=(D.int .i64)) (z:=z110) H116 rfl rfl rfl qm zM fQ kV rfl hzz115 KC rfl DK (.refl _) rfl rfl rfl (fun v117 S118 H119=>?_)
  have H120:Has aL S118 [.row 1 v117 ((z115).map (D.int .i64)),.box b93 [(.d (.str z92.Tag)),(.d (.str z92.Key)),(.d (.str z92.Text)),(.d (.sl ((z92.aI).map ay) false)),(.d (.sl ((z92.Kids).map ai) false))],dQ aQ b3 x78 ws79 false none]:=H119.sl [0,1,2] rfl rfl
  refine aj.val rfl (ak rfl) rfl ?_
  refine aj.nil ?_
  obtain ⟨z121,hzz121,h⟩:=bind_some h
  obtain ⟨z122,hzz122,h⟩:=bind_some h
  refine aD.jf (eX E) lQ MH [(5,none),(8,none),(31,none),(32,none),(33,none)] (by kernel_rfl) [5] (by decide) [some (.map b3),some (.d (ai z92)),some (.d (aQ z121)),some (mw x78 ws79 z98),some (rq (mw x78 ws79 z98) (Int.toNat 1)),none] ?_
  refine ⟨[0,1,2,3,4],by kernel_rfl,?_,_,_,rfl,rfl,.step ?_⟩
  ·
   refine .v rfl rfl rfl rfl (aa rfl) ?_
   refine .cons rfl rfl rfl (.step ?_) ?_
   ·
    refine aj.val rfl (aJ H120 (i:=1) rfl rfl (aW dX bE rfl)) rfl ?_
    refine aj.less (Less.agg' (d:=ai z92) (ax.eq rfl (ax.eq rfl (ax.eq rfl (ax.eq rfl (ax.eq rfl .nil))))) ((Tree.eq _).trans rfl)) ?_
    exact aj.nil ⟨_,_,rfl,fun _ ht=>by cases ht; exact ⟨rfl,.refl _⟩⟩
   refine .cons rfl rfl rfl (.step ?_) ?_
   ·
    refine aj.ret rfl (az rfl rfl) (lM E _ _ _ hzz121 _ _ (aN.eq .nil)) rfl ?_
    exact aj.nil ⟨_,_,rfl,fun _ ht=>by cases ht; exact ⟨rfl,.refl _⟩⟩
   refine .v rfl rfl rfl rfl (aa rfl) ?_
   refine .v rfl rfl rfl rfl (Dl (zg H120 (q:=2) rfl z98) hzz122 (FC hzz110) rfl rfl fQ Gc kV) ?_
   exact .nil
  have H131:Has aL S118 ([dQ aQ b3 x78 ws79 false none] ++ [.row 1 v117 ((z115).map (D.int .i64)),.box b93 [(.d (.str z92.Tag)),(.d (.str z92.Key)),(.d (.str z92.Text)),(.d (.sl ((z92.aI).map ay) false)),(.d (.sl ((z92.Kids).map ai) false))]]):=H120.sl [2,0,1] rfl rfl
  replace H131:Has aL S118 [dQ aQ b3 x78 ws79 false none,.row 1 v117 ((z115).map (D.int .i64)),.box b93 [(.d (.str z92.Tag)),(.d (.str z92.Key)),(.d (.str z92.Text)),(.d (.sl ((z92.aI).map ay) false)),(.d (.sl ((z92.Kids).map ai) false))]]:=H131
  refine aj.JQ (j:=1) H131 rfl rfl (show _=some (AV.d (aQ z98)) from congrArg (fun q=>some (AV.d (aQ q))) (Option.some.inj (hzz121.symm.trans hzz98))) hzz122 (FC hzz110) rfl uf yY (fun ws128 S129 H130=>?_)
  have H132:Has aL S129 [.row 1 v117 ((z115).map (D.int .i64)),.box b93 [(.d (.str z92.Tag)),(.d (.str z92.Key)),(.d (.str z92.Text)),(.d (.sl ((z92.aI).map ay) false)),(.d (.sl ((z92.Kids).map ai) false))],dQ aQ b3 (kM x78 z98 z122) ws128 false none]:=H130.sl [1,2,0] rfl rfl
  refine aj.nil ⟨_,.any,_,rfl,(fun _ ht=>by cases ht),_,(.q (.o (.w .any .nil))),(fun _ ht=>by cases ht),?_⟩
  refine ⟨[],by kernel_rfl,?_,_,rfl,?_⟩
  ·
   exact .nil
  exact ⟨⟨(kM x78 z98 z122),ws128,z115,v117⟩,_,_,S129,.refl _ _,.refl _,(au.r rfl (au.r rfl (au.r rfl (au.r rfl (au.r rfl au.nil))))),H132.sl [2,0] rfl rfl,h⟩
 replace h:=dI hb84 h
 refine aD.exit ?_
 refine aD.seq ?_
 refine aD.region (eX E) rfl ?_
 refine aj.val rfl (aa rfl) rfl ?_
 refine aj.val rfl (ak rfl) rfl ?_
 refine aj.nil ?_
 obtain ⟨SF1,HF1,hgF1⟩:=H77.freeze (eX E).toObjOk (i:=1) (l':=[dQ aQ b3 x78 ws79 false none]) rfl (.same .nil)
 refine aD.ghost (hgF1 _ _ [(4,(.d (.sl ((x80).map (D.int .i64)) false))),(5,(.map b3)),(8,(.d (.sl ((x80).map (D.int .i64)) false))),(31,(.d (.sl ((a2).map ai) false))),(32,(.d (.int .i64 ((a2).length:Int)))),(33,(.d (.int .i64 x82))),(34,(.d (.bool (decide (x82 < ((a2).length:Int)))))),(59,(.d (.sl ((x80).map (D.int .i64)) false)))] (.it rfl (.cons rfl (.refl _) (.it rfl (.cons rfl (.refl _) (.cons rfl (.refl _) (.cons rfl (.refl _) (.cons rfl (.refl _) (.it rfl .nil))))))))) ?_
 have hr:=Option.some.inj h
 subst hr
 exact aD.ret ⟨_,rfl,rfl,kR (aN.eq .nil)⟩
set_option maxRecDepth 20000 in
set_option maxHeartbeats 4000000 in
theorem rP:∀ (n:Nat) (a2:aB) (a6:Int) (r:aB),gN n a2 a6=some r→∀ (b1:Nat) (v3:AV) (ws4:List (List AV)) (w5:AV),dz R cfg.P 63 [.ptr b1 0 0,.d (.int .i64 a6)] [.box b1 [v3,w5],aA ae ah.kids 7 5 v3 ws4 a2.l none,aG w5 a2.freed] (fun v l=>v=.tup []∧∃ dws0 dw0,l=[.box b1 [v3,dw0],aA ae ah.kids 7 5 v3 dws0 r.l none,aG dw0 r.freed])
 | 0,a2,a6,r,h,b1,v3,ws4,w5=>by simp [gN] at h
 | n + 1,a2,a6,r,h,b1,v3,ws4,w5=>by
  have ih:=rP n
  unfold gN at h
  refine dz.of_wp (C:=rM) Try.func63 rfl MX rfl (fun B0 S0 H0=>?_)
  replace H0:Has B0 S0 [.box b1 [v3,w5],aA ae ah.kids 7 5 v3 ws4 a2.l none,aG w5 a2.freed]:=H0
  refine aD.seq ?_
  refine aD.region (eX E) rfl ?_
  refine aj.val rfl (aa rfl) rfl ?_
  refine aj.val rfl (bF rfl) rfl ?_
  refine aj.val rfl (aF rfl kU uy rfl) rfl ?_
  refine aj.val rfl (aJ H0 (i:=0) rfl rfl (aS vB rfl)) rfl ?_
  refine aj.val rfl (aa rfl) rfl ?_
  refine aj.val rfl (aH rfl rfl iB) rfl ?_
  obtain ⟨z7,hzz7,h⟩:=bind_some h
  refine aj.val rfl (ig H0 (i:=1) rfl hzz7 rfl rfl xX uU qx) rfl ?_
  refine aj.val rfl (bz H0 (i:=1) rfl hzz7 rfl oU nR rfl) rfl ?_
  have H8:Has B0 S0 ([aA ae ah.kids 7 5 v3 ws4 a2.l none] ++ [.box b1 [v3,w5],aG w5 a2.freed]):=H0.sl [1,0,2] rfl rfl
  replace H8:Has B0 S0 [aA ae ah.kids 7 5 v3 ws4 a2.l none,.box b1 [v3,w5],aG w5 a2.freed]:=H8
  have H9:=Has.take H8 (dN hzz7).2
  have H10:Has B0 S0 [aG (jW 5 ws4 (Int.toNat (IntKind.wrap .i64 (a6 - 1)))) z7.kids,.box b1 [v3,w5],aA ae ah.kids 7 5 v3 ws4 a2.l (some (Int.toNat (IntKind.wrap .i64 (a6 - 1)))),aG w5 a2.freed]:=H9.sl [0,2,1,3] rfl rfl
  refine aj.val rfl (iw H10 (i:=2) rfl hzz7 rfl qg) rfl ?_
  refine aj.val rfl (ak rfl) rfl ?_
  refine aj.nil ?_
  refine aD.seq ?_
  refine aD.region (eX E) rfl ?_
  refine aj.val rfl (aa rfl) rfl ?_
  refine aj.val rfl (bF rfl) rfl ?_
  refine aj.val rfl (aF rfl kU uy rfl) rfl ?_
  refine aj.val rfl (aJ H10 (i:=1) rfl rfl (aS vB rfl)) rfl ?_
  refine aj.val rfl (aa rfl) rfl ?_
  refine aj.val rfl (aH rfl rfl iB) rfl ?_
  refine aj.val rfl (bM (cs:=[(.d (.bool false)),(.d (.str [])),(.d (.str [])),(.d (.str [])),(.d .aO),(.d .aO),(.d (.int .i64 0))]) GQ rfl (wM) rfl) rfl ?_
  refine aj.less (Less.agg' (d:=gG (aK.mk false [] [] [] [] 0)) (ax.eq rfl (ax.eq rfl (ax.eq rfl (ax.eq rfl (ax.dE rfl (.aO false) rfl rfl (ax.eq rfl (ax.eq rfl .nil))))))) ((aK.eq _).trans rfl)) ?_
  refine aj.val rfl (ig H10 (i:=2) rfl hzz7 rfl rfl xX uU qx) rfl ?_
  have H14:Has B0 S0 ([aA ae ah.kids 7 5 v3 ws4 a2.l (some (Int.toNat (IntKind.wrap .i64 (a6 - 1))))] ++ [aG (jW 5 ws4 (Int.toNat (IntKind.wrap .i64 (a6 - 1)))) z7.kids,.box b1 [v3,w5],aG w5 a2.freed]):=H10.sl [2,0,1,3] rfl rfl
  replace H14:Has B0 S0 [aA ae ah.kids 7 5 v3 ws4 a2.l (some (Int.toNat (IntKind.wrap .i64 (a6 - 1)))),aG (jW 5 ws4 (Int.toNat (IntKind.wrap .i64 (a6 - 1)))) z7.kids,.box b1 [v3,w5],aG w5 a2.freed]:=H14
  refine aj.yV (z':=(ah.mk (aK.mk false [] [] [] [] 0).lives (aK.mk false [] [] [] [] 0).tag (aK.mk false [] [] [] [] 0).key (aK.mk false [] [] [] [] 0).text (aK.mk false [] [] [] [] 0).attrs [] (aK.mk false [] [] [] [] 0).parent)) H14 rfl hzz7 (.inr rfl) rfl rfl (aK.dx _) rfl qx uU rfl rfl rfl (.cons (.refl _) (.cons (.refl _) (.cons (.refl _) (.cons (.refl _) (.cons (.refl _) (.cons (Less.any _) (.cons (.refl _) .nil))))))) rfl rfl (fun ws13 S11 H12=>?_)
  have H15:Has B0 S11 [aG (jW 5 ws4 (Int.toNat (IntKind.wrap .i64 (a6 - 1)))) z7.kids,.box b1 [v3,w5],aA ae ah.kids 7 5 v3 ws13 (jl a2.l (IntKind.wrap .i64 (a6 - 1)) (ah.mk (aK.mk false [] [] [] [] 0).lives (aK.mk false [] [] [] [] 0).tag (aK.mk false [] [] [] [] 0).key (aK.mk false [] [] [] [] 0).text (aK.mk false [] [] [] [] 0).attrs [] (aK.mk false [] [] [] [] 0).parent)) none,aG w5 a2.freed]:=H12.sl [1,2,0,3] rfl rfl
  refine aj.nil ?_
  refine aD.seq ?_
  refine aD.region (eX E) rfl ?_
  refine aj.val rfl (aa rfl) rfl ?_
  refine aj.val rfl (aa rfl) rfl ?_
  refine aj.val rfl (bF rfl) rfl ?_
  refine aj.val rfl (aF rfl ve nR rfl) rfl ?_
  refine aj.val rfl (aJ H15 (i:=1) rfl rfl (aS qg rfl)) rfl ?_
  refine aj.val rfl (aa rfl) rfl ?_
  refine aj.qG (vs:=[(.d (.int .i64 a6))]) (cs:=[[(.d (.int .i64 a6))]]) H15 rfl qm fQ vV wD kV rfl (by decide) (.cons rfl rfl .nil) rfl rfl rfl (fun v16 S17 H18=>?_)
  have H19:Has B0 S17 [ic 1 1 v16 [(.d (.int .i64 a6))],aG (jW 5 ws4 (Int.toNat (IntKind.wrap .i64 (a6 - 1)))) z7.kids,.box b1 [v3,w5],aA ae ah.kids 7 5 v3 ws13 (jl a2.l (IntKind.wrap .i64 (a6 - 1)) (ah.mk (aK.mk false [] [] [] [] 0).lives (aK.mk false [] [] [] [] 0).tag (aK.mk false [] [] [] [] 0).key (aK.mk false [] [] [] [] 0).text (aK.mk false [] [] [] [] 0).attrs [] (aK.mk false [] [] [] [] 0).parent)) none,aG w5 a2.freed]:=H18.sl [0,1,2,3,4] rfl rfl
  obtain ⟨z20,hzz20,h⟩:=bind_some h
  have H21:Has B0 S17 ([ic 1 1 v16 [(.d (.int .i64 a6))],aG w5 a2.freed] ++ [aG (jW 5 ws4 (Int.toNat (IntKind.wrap .i64 (a6 - 1)))) z7.kids,.box b1 [v3,w5],aA ae ah.kids 7 5 v3 ws13 (jl a2.l (IntKind.wrap .i64 (a6 - 1)) (ah.mk (aK.mk false [] [] [] [] 0).lives (aK.mk false [] [] [] [] 0).tag (aK.mk false [] [] [] [] 0).key (aK.mk false [] [] [] [] 0).text (aK.mk false [] [] [] [] 0).attrs [] (aK.mk false [] [] [] [] 0).parent)) none]):=H19.sl [0,4,1,2,3] rfl rfl
  replace H21:Has B0 S17 [ic 1 1 v16 [(.d (.int .i64 a6))],aG w5 a2.freed,aG (jW 5 ws4 (Int.toNat (IntKind.wrap .i64 (a6 - 1)))) z7.kids,.box b1 [v3,w5],aA ae ah.kids 7 5 v3 ws13 (jl a2.l (IntKind.wrap .i64 (a6 - 1)) (ah.mk (aK.mk false [] [] [] [] 0).lives (aK.mk false [] [] [] [] 0).tag (aK.mk false [] [] [] [] 0).key (aK.mk false [] [] [] [] 0).text (aK.mk false [] [] [] [] 0).attrs [] (aK.mk false [] [] [] [] 0).parent)) none]:=H21
  refine aj.Bb H21 rfl rfl rfl qm zM fQ kV hzz20 KC rfl DK rfl (fun w22 S23 H24=>?_)
  have H25:Has B0 S23 [aG (jW 5 ws4 (Int.toNat (IntKind.wrap .i64 (a6 - 1)))) z7.kids,.box b1 [v3,w5],aA ae ah.kids 7 5 v3 ws13 (jl a2.l (IntKind.wrap .i64 (a6 - 1)) (ah.mk (aK.mk false [] [] [] [] 0).lives (aK.mk false [] [] [] [] 0).tag (aK.mk false [] [] [] [] 0).key (aK.mk false [] [] [] [] 0).text (aK.mk false [] [] [] [] 0).attrs [] (aK.mk false [] [] [] [] 0).parent)) none,aG w22 z20]:=H24.sl [1,2,3,0] rfl rfl
  refine aj.val rfl (bF rfl) rfl ?_
  refine aj.val rfl (aF rfl ve nR rfl) rfl ?_
  refine aj.store H25 (i:=1) rfl rfl rfl rfl (tQ H25 (i:=3) rfl).2 rfl JA (tQ H25 (i:=3) rfl).1 JR rfl rfl rfl (fun S26 H27=>?_)
  refine aj.nil ?_
  refine aD.seq ?_
  refine aD.region (eX E) rfl ?_
  refine aj.val rfl (aa rfl) rfl ?_
  refine aj.val rfl (kP H27 (i:=0) rfl rfl nZ) rfl ?_
  refine aj.val rfl (aa rfl) rfl ?_
  refine aj.nil ?_
  refine aD.block ?_
  refine qo.start (B:=B0) (α:=aB × (List (List AV)) × AV × Int) (fun k a=>fC (gN n) z7 k a.1 a.2.2.2=some r) (fun a=>[(0,(.ptr b1 0 0)),(34,(jW 5 ws4 (Int.toNat (IntKind.wrap .i64 (a6 - 1))))),(35,(.d (.int .i64 ((z7.kids).length:Int)))),(36,(.d (.int .i64 a.2.2.2)))]) (fun a=>[aG (jW 5 ws4 (Int.toNat (IntKind.wrap .i64 (a6 - 1)))) z7.kids,.box b1 [v3,a.2.2.1],aA ae ah.kids 7 5 v3 a.2.1 a.1.l none,aG a.2.2.1 a.1.freed]) ?_ ?_ n ⟨⟨(aB.mk (jl a2.l (IntKind.wrap .i64 (a6 - 1)) (ah.mk (aK.mk false [] [] [] [] 0).lives (aK.mk false [] [] [] [] 0).tag (aK.mk false [] [] [] [] 0).key (aK.mk false [] [] [] [] 0).text (aK.mk false [] [] [] [] 0).attrs [] (aK.mk false [] [] [] [] 0).parent)) z20),ws13,w22,0⟩,_,_,S26,.refl _ _,.refl _,(au.r rfl (au.r rfl (au.r rfl (au.r rfl au.nil)))),H27.sl [0,1,2,3] rfl rfl,h⟩
  ·
   intro a h; simp [fC] at h
  intro k42 a S36 H37 h
  obtain ⟨x38,ws39,w40,x41⟩:=a
  replace h:fC (gN n) z7 (k42 + 1) x38 x41=some r:=h
  replace H37:Has B0 S36 [aG (jW 5 ws4 (Int.toNat (IntKind.wrap .i64 (a6 - 1)))) z7.kids,.box b1 [v3,w40],aA ae ah.kids 7 5 v3 ws39 x38.l none,aG w40 x38.freed]:=H37
  unfold fC at h
  refine aD.seq ?_
  refine aD.region (eX E) rfl ?_
  refine aj.val rfl (aH rfl rfl dR) rfl ?_
  refine aj.nil ?_
  refine aD.seq ?_
  refine aD.cond rfl (fun hb43=>?_) (fun hb43=>?_)
  ·
   replace h:=dH hb43 h
   refine aD.skip ?_
   refine aD.seq ?_
   refine aD.block ?_
   refine aD.seq ?_
   refine aD.region (eX E) rfl ?_
   obtain ⟨z44,hzz44,h⟩:=bind_some h
   refine aj.val rfl (sD H37 (q:=0) rfl hzz44 rfl rfl fQ vV kV) rfl ?_
   refine aj.val rfl (qM H37 (q:=0) rfl hzz44 rfl nV) rfl ?_
   refine aj.val rfl (ak rfl) rfl ?_
   refine aj.nil ?_
   refine aD.region (eX E) rfl ?_
   refine aj.val rfl (aa rfl) rfl ?_
   refine aj.val rfl (aa rfl) rfl ?_
   obtain ⟨z45,hzz45,h⟩:=bind_some h
   refine aj.bR (ins:=[.box b1 [v3,w40],aA ae ah.kids 7 5 v3 ws39 x38.l none,aG w40 x38.freed]) (more:=[aG (jW 5 ws4 (Int.toNat (IntKind.wrap .i64 (a6 - 1)))) z7.kids]) (H37.sl [1,2,3,0] rfl rfl) rfl (az rfl rfl) (ih _ _ _ hzz45 b1 v3 ws39 w40) (.cons (.refl _) (.cons (.refl _) .nil)) rfl ?_
   rintro _ S48 _ ⟨rfl,ws46,w47,rfl⟩ H49
   have H50:Has B0 S48 [aG (jW 5 ws4 (Int.toNat (IntKind.wrap .i64 (a6 - 1)))) z7.kids,.box b1 [v3,w47],aA ae ah.kids 7 5 v3 ws46 z45.l none,aG w47 z45.freed]:=H49.sl [3,0,1,2] rfl rfl
   refine aj.nil ?_
   refine aD.region (eX E) rfl ?_
   refine aj.val rfl (aH rfl rfl dF) rfl ?_
   refine aj.val rfl (aa rfl) rfl ?_
   refine aj.nil ?_
   exact ⟨⟨z45,ws46,w47,(IntKind.wrap .i64 (x41 + 1))⟩,_,_,S48,.refl _ _,.refl _,(au.r rfl (au.r rfl (au.r rfl (au.r rfl au.nil)))),H50.sl [0,1,2,3] rfl rfl,h⟩
  replace h:=dI hb43 h
  refine aD.exit ?_
  have hr:=Option.some.inj h
  subst hr
  exact ⟨_,rfl,rfl,_,_,_,.refl _,(.refl _),⟨rfl,ws39,w40,rfl⟩,H37.sl [1,2,3] rfl rfl⟩
set_option maxRecDepth 20000 in
set_option maxHeartbeats 4000000 in
theorem xR (n:Nat) (a2:aB) (a6:Int) (r:(Bool × aB)) (h:lV n a2 a6=some r) (b1:Nat) (v3:AV) (ws4:List (List AV)) (w5:AV):dz R cfg.P 16 [.ptr b1 0 0,.d (.int .i64 a6)] [.box b1 [v3,w5],aA ae ah.kids 7 5 v3 ws4 a2.l none,aG w5 a2.freed] (fun v l=>v=.d (.bool r.1)∧∃ dws0 dw0,l=[.box b1 [v3,dw0],aA ae ah.kids 7 5 v3 dws0 r.2.l none,aG dw0 r.2.freed]):=by
 unfold lV at h
 refine dz.of_wp (C:=cfg) Try.func16 rfl NT rfl (fun B0 S0 H0=>?_)
 replace H0:Has B0 S0 [.box b1 [v3,w5],aA ae ah.kids 7 5 v3 ws4 a2.l none,aG w5 a2.freed]:=H0
 refine aD.seq ?_
 refine aD.region E.obj rfl ?_
 refine aj.val rfl (ak rfl) rfl ?_
 refine aj.nil ?_
 refine aD.seq ?_
 refine aD.region E.obj rfl ?_
 refine aj.val rfl (aa rfl) rfl ?_
 refine aj.val rfl (aa rfl) rfl ?_
 obtain ⟨z7,hzz7,h⟩:=bind_some h
 refine aj.bR (ins:=[.box b1 [v3,w5],aA ae ah.kids 7 5 v3 ws4 a2.l none,aG w5 a2.freed]) (more:=[]) (H0.sl [0,1,2] rfl rfl) rfl (az rfl rfl) (gz E n _ _ _ hzz7 b1 v3 ws4 w5) (.cons (.refl _) (.cons (.refl _) .nil)) rfl ?_
 rintro v8 S9 l10 hr11 H12
 rcases z7 with _ | _
 ·
  obtain ⟨rfl,rfl⟩:=hr11
  replace h:=dI rfl h
  replace H12:Has B0 S9 [.box b1 [v3,w5],aA ae ah.kids 7 5 v3 ws4 a2.l none,aG w5 a2.freed]:=H12
  have H13:Has B0 S9 [.box b1 [v3,w5],aA ae ah.kids 7 5 v3 ws4 a2.l none,aG w5 a2.freed]:=H12.sl [0,1,2] rfl rfl
  refine aj.val rfl (ak rfl) rfl ?_
  refine aj.nil ?_
  refine aD.seq ?_
  refine aD.seq ?_
  refine aD.region E.obj rfl ?_
  refine aj.val rfl (aa rfl) rfl ?_
  refine aj.val rfl (aH rfl rfl (lq qB)) rfl ?_
  refine aj.val rfl (aa rfl) rfl ?_
  refine aj.no rfl rfl ?_
  refine aj.no rfl rfl ?_
  refine aj.val rfl (aC (b:=true) rfl rfl) rfl ?_
  refine aj.val rfl (aa rfl) rfl ?_
  refine aj.no rfl rfl ?_
  refine aj.no rfl rfl ?_
  refine aj.no rfl rfl ?_
  refine aj.no rfl rfl ?_
  refine aj.no rfl rfl ?_
  refine aj.val rfl (aC (b:=true) rfl rfl) rfl ?_
  refine aj.nil ?_
  refine aD.cond rfl (fun hb=>?_) (fun hb=>?_)
  ·
   refine aD.seq ?_
   refine aD.region E.obj rfl ?_
   refine aj.val rfl (ak rfl) rfl ?_
   refine aj.nil ?_
   have hr:=Option.some.inj h
   subst hr
   exact aD.ret ⟨_,rfl,rfl,_,_,_,.refl _,(.refl _),⟨rfl,ws4,w5,rfl⟩,H13.sl [0,1,2] rfl rfl⟩
  cases hb
 obtain ⟨rfl,rfl⟩:=hr11
 replace h:=dH rfl h
 have H14:Has B0 S9 [.box b1 [v3,w5],aA ae ah.kids 7 5 v3 ws4 a2.l none,aG w5 a2.freed]:=H12.sl [0,1,2] rfl rfl
 refine aj.val rfl (ak rfl) rfl ?_
 refine aj.nil ?_
 refine aD.seq ?_
 refine aD.seq ?_
 refine aD.region E.obj rfl ?_
 refine aj.val rfl (aa rfl) rfl ?_
 obtain ⟨z15,hzz15,h⟩:=bind_some h
 refine aj.val rfl (kW H14 (q:=1) rfl hzz15 rfl rfl qB) rfl ?_
 refine aj.val rfl (aa rfl) rfl ?_
 refine aj.val rfl (aa rfl) rfl ?_
 refine aj.val rfl (aH rfl rfl bD) rfl ?_
 refine aj.val rfl (aC (b:=false) rfl rfl) rfl ?_
 refine aj.val rfl (aa rfl) rfl ?_
 refine aj.jS 6 21 (.d (.bool ((a6 == 1) || (z15.parent != 0)))) ?_ ?_
 ·
  rcases Bool.eq_false_or_eq_true ((a6 == 1)) with hB16 | hB16
  ·
   refine aj.bool hB16 ?_
   refine aj.no rfl rfl ?_
   refine aj.no rfl rfl ?_
   refine aj.no rfl rfl ?_
   refine aj.no rfl rfl ?_
   refine aj.no rfl rfl ?_
   refine aj.val rfl (aC (b:=true) rfl rfl) rfl ?_
   exact aj.nil ⟨_,rfl,(au.put (au.push rfl (au.push rfl (au.push rfl (au.push rfl (au.push rfl (au.put (.refl _) (Less.eq (by rw [hB16])))))))) (Less.eq (by rw [hB16]; rw [Bool.true_or])))⟩
  refine aj.bool hB16 ?_
  refine aj.val rfl (aa rfl) rfl ?_
  refine aj.val rfl (bL H14 (q:=1) rfl hzz15 rfl) rfl ?_
  refine aj.val rfl (bz H14 (i:=1) rfl hzz15 rfl rC Ko rfl) rfl ?_
  refine aj.ko H14 rfl (q:=1) rfl hzz15 rfl nV rfl rfl rfl ?_
  refine aj.val rfl (aH rfl rfl mZ) rfl ?_
  refine aj.val rfl (aC (b:=false) rfl rfl) rfl ?_
  exact aj.nil ⟨_,rfl,(au.put (au.push rfl (au.push rfl (au.push rfl (au.push rfl (au.push rfl (au.put (.refl _) (Less.eq (by rw [hB16])))))))) (Less.eq (by rw [hB16]; rw [Bool.false_or])))⟩
 refine aj.nil ?_
 refine aD.cond rfl (fun hb17=>?_) (fun hb17=>?_)
 ·
  replace h:=dH hb17 h
  refine aD.seq ?_
  refine aD.region E.obj rfl ?_
  refine aj.val rfl (ak rfl) rfl ?_
  refine aj.nil ?_
  have hr:=Option.some.inj h
  subst hr
  exact aD.ret ⟨_,rfl,rfl,_,_,_,.refl _,(.refl _),⟨rfl,ws4,w5,rfl⟩,H14.sl [0,1,2] rfl rfl⟩
 replace h:=dI hb17 h
 refine aD.skip ?_
 refine aD.seq ?_
 refine aD.region E.obj rfl ?_
 refine aj.val rfl (aa rfl) rfl ?_
 refine aj.val rfl (aa rfl) rfl ?_
 obtain ⟨z18,hzz18,h⟩:=bind_some h
 refine aj.bR (ins:=[.box b1 [v3,w5],aA ae ah.kids 7 5 v3 ws4 a2.l none,aG w5 a2.freed]) (more:=[]) (H14.sl [0,1,2] rfl rfl) rfl (az rfl rfl) (rP E n _ _ _ hzz18 b1 v3 ws4 w5) (.cons (.refl _) (.cons (.refl _) .nil)) rfl ?_
 rintro _ S21 _ ⟨rfl,ws19,w20,rfl⟩ H22
 have H23:Has B0 S21 [.box b1 [v3,w20],aA ae ah.kids 7 5 v3 ws19 z18.l none,aG w20 z18.freed]:=H22.sl [0,1,2] rfl rfl
 refine aj.nil ?_
 refine aD.seq ?_
 refine aD.region E.obj rfl ?_
 refine aj.val rfl (ak rfl) rfl ?_
 refine aj.nil ?_
 have hr:=Option.some.inj h
 subst hr
 exact aD.ret ⟨_,rfl,rfl,_,_,_,.refl _,(.refl _),⟨rfl,ws19,w20,rfl⟩,H23.sl [0,1,2] rfl rfl⟩
set_option maxRecDepth 20000 in
set_option maxHeartbeats 4000000 in
theorem qp (n:Nat) (a2:aB) (r:Int) (h:kg n a2=some r) (b1:Nat) (v3:AV) (ws4:List (List AV)) (w5:AV):dz R cfg.P 22 [.ptr b1 0 0] [.box b1 [v3,w5],aA ae ah.kids 7 5 v3 ws4 a2.l none,aG w5 a2.freed] (fun v l=>v=.d (.int .i64 r)∧l=[.box b1 [v3,w5],aA ae ah.kids 7 5 v3 ws4 a2.l none,aG w5 a2.freed]):=by
 unfold kg at h
 refine dz.of_wp (C:=cfg) Try.func22 rfl NS rfl (fun B0 S0 H0=>?_)
 replace H0:Has B0 S0 [.box b1 [v3,w5],aA ae ah.kids 7 5 v3 ws4 a2.l none,aG w5 a2.freed]:=H0
 refine aD.seq ?_
 refine aD.region E.obj rfl ?_
 refine aj.val rfl (ak rfl) rfl ?_
 refine aj.nil ?_
 refine aD.seq ?_
 refine aD.jf E.obj lQ NN [(2,some 11)] (by kernel_rfl) [] (by decide) [some (.ptr b1 0 0),some (.ptr b1 0 0),some (.ptr b1 0 0),some v3,some (.d (.int .i64 ((a2.l).length:Int))),some (.ptr b1 0 0),some (.ptr b1 0 0),some (.ptr b1 0 1),some w5,some (.d (.int .i64 ((a2.freed).length:Int))),some (.d (.int .i64 (IntKind.wrap .i64 (((a2.l).length:Int) - ((a2.freed).length:Int))))),some (.d (.int .i64 (IntKind.wrap .i64 (((a2.l).length:Int) - ((a2.freed).length:Int)))))] ?_
 refine ⟨[0,1,2,3,4,5,6,7,8,9,10,11],by kernel_rfl,?_,_,rfl,?_⟩
 ·
  refine .v rfl rfl rfl rfl (aa rfl) ?_
  refine .v rfl rfl rfl rfl (bF rfl) ?_
  refine .v rfl rfl rfl rfl (aF rfl kU uy rfl) ?_
  refine .v rfl rfl rfl rfl (aJ H0 (i:=0) rfl rfl (aS vB rfl)) ?_
  refine .v rfl rfl rfl rfl (um H0 (i:=1) rfl rfl Kq) ?_
  refine .v rfl rfl rfl rfl (aa rfl) ?_
  refine .v rfl rfl rfl rfl (bF rfl) ?_
  refine .v rfl rfl rfl rfl (aF rfl ve nR rfl) ?_
  refine .v rfl rfl rfl rfl (aJ H0 (i:=0) rfl rfl (aS qg rfl)) ?_
  refine .v rfl rfl rfl rfl (kP H0 (i:=2) rfl rfl nZ) ?_
  refine .v rfl rfl rfl rfl (aH rfl rfl iB) ?_
  refine .v rfl rfl rfl rfl (ak rfl) ?_
  exact .nil
 have hr:=Option.some.inj h
 subst hr
 exact aD.ret ⟨_,rfl,rfl,_,_,_,.refl _,(.refl _),⟨rfl,rfl⟩,H0.sl [0,1,2] rfl rfl⟩
set_option maxRecDepth 20000 in
set_option maxHeartbeats 4000000 in
theorem Aj (n:Nat) (a2:aB) (a6:Int) (r:(Int × aB)) (h:oN n a2 a6=some r) (b1:Nat) (v3:AV) (ws4:List (List AV)) (w5:AV):dz R cfg.P 46 [.ptr b1 0 0,.d (.int .i64 a6)] [.box b1 [v3,w5],aA ae ah.kids 7 5 v3 ws4 a2.l none,aG w5 a2.freed] (fun v l=>v=.d (.int .i64 r.1)∧∃ dws0 dw0,l=[.box b1 [v3,dw0],aA ae ah.kids 7 5 v3 dws0 r.2.l none,aG dw0 r.2.freed]):=by
 unfold oN at h
 refine dz.of_wp (C:=cfg) Try.func46 rfl Ng rfl (fun B0 S0 H0=>?_)
 replace H0:Has B0 S0 [.box b1 [v3,w5],aA ae ah.kids 7 5 v3 ws4 a2.l none,aG w5 a2.freed]:=H0
 refine aD.seq ?_
 refine aD.region E.obj rfl ?_
 refine aj.val rfl (ak rfl) rfl ?_
 refine aj.nil ?_
 refine aD.seq ?_
 refine aD.seq ?_
 refine aD.region E.obj rfl ?_
 refine aj.val rfl (aa rfl) rfl ?_
 refine aj.val rfl (aa rfl) rfl ?_
 obtain ⟨z7,hzz7,h⟩:=bind_some h
 refine aj.bR (ins:=[.box b1 [v3,w5],aA ae ah.kids 7 5 v3 ws4 a2.l none,aG w5 a2.freed]) (more:=[]) (H0.sl [0,1,2] rfl rfl) rfl (az rfl rfl) (rQ E n _ _ hzz7 b1 v3 ws4 w5) (.cons (.refl _) .nil) rfl ?_
 rintro _ S8 _ ⟨rfl,rfl⟩ H9
 have H10:Has B0 S8 [.box b1 [v3,w5],aA ae ah.kids 7 5 v3 ws4 a2.l none,aG w5 a2.freed]:=H9.sl [0,1,2] rfl rfl
 refine aj.val rfl (aH rfl rfl bD) rfl ?_
 refine aj.nil ?_
 refine aD.cond rfl (fun hb11=>?_) (fun hb11=>?_)
 ·
  replace h:=dH hb11 h
  refine aD.seq ?_
  refine aD.region E.obj rfl ?_
  refine aj.val rfl (ak rfl) rfl ?_
  refine aj.nil ?_
  have hr:=Option.some.inj h
  subst hr
  exact aD.ret ⟨_,rfl,rfl,_,_,_,.refl _,(.refl _),⟨rfl,ws4,w5,rfl⟩,H10.sl [0,1,2] rfl rfl⟩
 replace h:=dI hb11 h
 refine aD.skip ?_
 refine aD.seq ?_
 refine aD.region E.obj rfl ?_
 refine aj.val rfl (aa rfl) rfl ?_
 obtain ⟨z12,hzz12,h⟩:=bind_some h
 refine aj.bR (ins:=[.box b1 [v3,w5],aA ae ah.kids 7 5 v3 ws4 a2.l none,aG w5 a2.freed]) (more:=[]) (H10.sl [0,1,2] rfl rfl) rfl (az rfl rfl) (qp E n _ _ hzz12 b1 v3 ws4 w5) (.cons (.refl _) .nil) rfl ?_
 rintro _ S13 _ ⟨rfl,rfl⟩ H14
 have H15:Has B0 S13 [.box b1 [v3,w5],aA ae ah.kids 7 5 v3 ws4 a2.l none,aG w5 a2.freed]:=H14.sl [0,1,2] rfl rfl
 refine aj.val rfl (ak rfl) rfl ?_
 refine aj.nil ?_
 refine aD.seq ?_
 refine aD.region E.obj rfl ?_
 refine aj.val rfl (aa rfl) rfl ?_
 refine aj.val rfl (aa rfl) rfl ?_
 obtain ⟨z16,hzz16,h⟩:=bind_some h
 refine aj.bR (ins:=[.box b1 [v3,w5],aA ae ah.kids 7 5 v3 ws4 a2.l none,aG w5 a2.freed]) (more:=[]) (H15.sl [0,1,2] rfl rfl) rfl (az rfl rfl) (qc E n _ _ _ hzz16 b1 v3 ws4 w5) (.cons (.refl _) (.cons (.refl _) .nil)) rfl ?_
 rintro _ S19 _ ⟨rfl,ws17,w18,rfl⟩ H20
 have H21:Has B0 S19 [.box b1 [v3,w18],aA ae ah.kids 7 5 v3 ws17 z16.2.l none,aG w18 z16.2.freed]:=H20.sl [0,1,2] rfl rfl
 refine aj.nil ?_
 refine aD.seq ?_
 refine aD.region E.obj rfl ?_
 refine aj.val rfl (aa rfl) rfl ?_
 refine aj.val rfl (aa rfl) rfl ?_
 obtain ⟨z22,hzz22,h⟩:=bind_some h
 refine aj.bR (ins:=[.box b1 [v3,w18],aA ae ah.kids 7 5 v3 ws17 z16.2.l none,aG w18 z16.2.freed]) (more:=[]) (H21.sl [0,1,2] rfl rfl) rfl (az rfl rfl) (xR E n _ _ _ hzz22 b1 v3 ws17 w18) (.cons (.refl _) (.cons (.refl _) .nil)) rfl ?_
 rintro _ S25 _ ⟨rfl,ws23,w24,rfl⟩ H26
 have H27:Has B0 S25 [.box b1 [v3,w24],aA ae ah.kids 7 5 v3 ws23 z22.2.l none,aG w24 z22.2.freed]:=H26.sl [0,1,2] rfl rfl
 refine aj.nil ?_
 refine aD.seq ?_
 refine aD.region E.obj rfl ?_
 refine aj.val rfl (aa rfl) rfl ?_
 refine aj.val rfl (aa rfl) rfl ?_
 obtain ⟨z28,hzz28,h⟩:=bind_some h
 refine aj.bR (ins:=[.box b1 [v3,w24],aA ae ah.kids 7 5 v3 ws23 z22.2.l none,aG w24 z22.2.freed]) (more:=[]) (H27.sl [0,1,2] rfl rfl) rfl (az rfl rfl) (qp E n _ _ hzz28 b1 v3 ws23 w24) (.cons (.refl _) .nil) rfl ?_
 rintro _ S29 _ ⟨rfl,rfl⟩ H30
 have H31:Has B0 S29 [.box b1 [v3,w24],aA ae ah.kids 7 5 v3 ws23 z22.2.l none,aG w24 z22.2.freed]:=H30.sl [0,1,2] rfl rfl
 refine aj.val rfl (aH rfl rfl iB) rfl ?_
 refine aj.val rfl (ak rfl) rfl ?_
 refine aj.nil ?_
 have hr:=Option.some.inj h
 subst hr
 exact aD.ret ⟨_,rfl,rfl,_,_,_,.refl _,(.refl _),⟨rfl,ws23,w24,rfl⟩,H31.sl [0,1,2] rfl rfl⟩
set_option maxRecDepth 20000 in
set_option maxHeartbeats 4000000 in
theorem Au (n:Nat) (a2:aB) (a6:(List Int)) (r:(List Tree)) (h:oG n a2 a6=some r) (b1:Nat) (v3:AV) (ws4:List (List AV)) (w5:AV):dz R cfg.P 73 [.ptr b1 0 0,.d (.sl ((a6).map (D.int .i64)) false)] [.box b1 [v3,w5],aA ae ah.kids 7 5 v3 ws4 a2.l none,aG w5 a2.freed] (fun v l=>v=.d (.sl ((r).map ai) false)∧l=[.box b1 [v3,w5],aA ae ah.kids 7 5 v3 ws4 a2.l none,aG w5 a2.freed]):=by
 unfold oG at h
 refine dz.of_wp (C:=cfg) Try.func73 rfl Nf rfl (fun B0 S0 H0=>?_)
 replace H0:Has B0 S0 [.box b1 [v3,w5],aA ae ah.kids 7 5 v3 ws4 a2.l none,aG w5 a2.freed]:=H0
 refine aD.seq ?_
 refine aD.region E.obj rfl ?_
 refine aj.val rfl (ak rfl) rfl ?_
 refine aj.nil ?_
 refine aD.seq ?_
 refine aD.region E.obj rfl ?_
 refine aj.val rfl (ak rfl) rfl ?_
 refine aj.nil ?_
 refine aD.seq ?_
 refine aD.seq ?_
 refine aD.region E.obj rfl ?_
 refine aj.val rfl (aa rfl) rfl ?_
 refine aj.val rfl (cz rfl nZ) rfl ?_
 refine aj.val rfl (aa rfl) rfl ?_
 refine aj.nil ?_
 refine aD.block ?_
 have H35:=H0.Jc
 refine qo.start (B:=B0) (α:=(List Tree) × AV × Int) (fun k a=>gJ n a2 a6 k a.1 a.2.2=some r) (fun a=>[(0,(.ptr b1 0 0)),(5,a.2.1),(10,(.d (.sl ((a6).map (D.int .i64)) false))),(11,(.d (.int .i64 ((a6).length:Int)))),(12,(.d (.int .i64 a.2.2)))]) (fun a=>[.grow a.2.1 ((a.1).map ai),.box b1 [v3,w5],aA ae ah.kids 7 5 v3 ws4 a2.l none,aG w5 a2.freed]) ?_ ?_ n ⟨⟨[],(.d .aO),0⟩,_,_,S0,.refl _ _,.refl _,(au.r rfl (au.r rfl (au.r rfl (au.r rfl (au.r rfl au.nil))))),H35.sl [0,1,2,3] rfl rfl,h⟩
 ·
  intro a h; simp [gJ] at h
 intro k19 a S14 H15 h
 obtain ⟨x16,v17,x18⟩:=a
 replace h:gJ n a2 a6 (k19 + 1) x16 x18=some r:=h
 replace H15:Has B0 S14 [.grow v17 ((x16).map ai),.box b1 [v3,w5],aA ae ah.kids 7 5 v3 ws4 a2.l none,aG w5 a2.freed]:=H15
 unfold gJ at h
 refine aD.seq ?_
 refine aD.region E.obj rfl ?_
 refine aj.val rfl (aH rfl rfl dR) rfl ?_
 refine aj.nil ?_
 refine aD.seq ?_
 refine aD.cond rfl (fun hb20=>?_) (fun hb20=>?_)
 ·
  replace h:=dH hb20 h
  refine aD.skip ?_
  refine aD.seq ?_
  refine aD.block ?_
  refine aD.seq ?_
  refine aD.region E.obj rfl ?_
  obtain ⟨z21,hzz21,h⟩:=bind_some h
  refine aj.val rfl (bX rfl rfl (dU (enc:=(D.int .i64)) hzz21 fQ vV (((fun _=>rfl) _).trans kV.symm))) rfl ?_
  refine aj.val rfl (bG rfl (dY nV rfl)) rfl ?_
  refine aj.val rfl (ak rfl) rfl ?_
  refine aj.nil ?_
  refine aD.seq ?_
  refine aD.region E.obj rfl ?_
  refine aj.val rfl (aa rfl) rfl ?_
  refine aj.val rfl (aa rfl) rfl ?_
  obtain ⟨z22,hzz22,h⟩:=bind_some h
  refine aj.bR (ins:=[.box b1 [v3,w5],aA ae ah.kids 7 5 v3 ws4 a2.l none,aG w5 a2.freed]) (more:=[.grow v17 ((x16).map ai)]) (H15.sl [1,2,3,0] rfl rfl) rfl (az rfl rfl) (jY E n _ _ _ hzz22 b1 v3 ws4 w5) (.cons (.refl _) (.cons (.refl _) .nil)) rfl ?_
  rintro _ S23 _ ⟨rfl,rfl⟩ H24
  have H25:Has B0 S23 [.grow v17 ((x16).map ai),.box b1 [v3,w5],aA ae ah.kids 7 5 v3 ws4 a2.l none,aG w5 a2.freed]:=H24.sl [3,0,1,2] rfl rfl
  refine aj.val rfl (aa rfl) rfl ?_
  refine aj.val rfl (eu rfl rfl) rfl ?_
  refine aj.val rfl (eu rfl rfl) rfl ?_
  refine aj.alloc H25 rfl rV fO rfl rfl (fun b26 S27 H28=>?_)
  refine aj.store H28 (i:=0) rfl rfl rfl rfl (Tree.dx _) rfl bE rfl jc rfl rfl rfl (fun S29 H30=>?_)
  refine aj.val rfl (ak rfl) rfl ?_
  refine aj.nil ?_
  refine aD.region E.obj rfl ?_
  refine aj.val rfl (aa rfl) rfl ?_
  refine aj.val rfl (aJ H30 (i:=0) rfl rfl (aW dX bE rfl)) rfl ?_
  refine aj.less (Less.agg' (d:=ai z22.1) (ax.eq rfl (ax.eq rfl (ax.eq rfl (ax.eq rfl (ax.eq rfl .nil))))) ((Tree.eq _).trans rfl)) ?_
  refine aj.val rfl (aR (vs:=[(.d (ai z22.1))]) (ds:=[(ai z22.1)]) tu kJ dX fO bE rfl (by decide) (.cons rfl (Tree.len _) .nil) rfl (by intro d hd; simp only [List.mem_cons,List.not_mem_nil,or_false] at hd; rcases hd with rfl <;> exact Tree.agg _) rfl) rfl ?_
  obtain ⟨z31,hzz31,h⟩:=bind_some h
  refine aj.append (xs:=(x16).map ai) (ys:=([z22.1]).map ai) (zs:=(z31).map ai) H30 rfl rfl rfl (i:=1) rfl rfl tu JO kJ (kK hzz31) II rfl (fJ (enc:=ai) (fun z=>(Tree.len z).trans bE.symm) _) (fJ (enc:=ai) (fun z=>(Tree.len z).trans bE.symm) _) JM rfl (qZ hzz31) (fun v32 S33 H34=>?_)
  refine aj.val rfl (ak rfl) rfl ?_
  refine aj.nil ?_
  refine aD.region E.obj rfl ?_
  refine aj.val rfl (aH rfl rfl dF) rfl ?_
  refine aj.val rfl (aa rfl) rfl ?_
  refine aj.nil ?_
  exact ⟨⟨z31,v32,(IntKind.wrap .i64 (x18 + 1))⟩,_,_,S33,.refl _ _,.refl _,(au.r rfl (au.r rfl (au.r rfl (au.r rfl (au.r rfl au.nil))))),H34.sl [1,2,3,4] rfl rfl,h⟩
 replace h:=dI hb20 h
 refine aD.exit ?_
 refine aD.seq ?_
 refine aD.region E.obj rfl ?_
 refine aj.val rfl (aa rfl) rfl ?_
 refine aj.val rfl (ak rfl) rfl ?_
 refine aj.nil ?_
 have hr:=Option.some.inj h
 subst hr
 exact aD.ret ⟨_,rfl,rfl,_,_,_,.refl _,(Ku H15 (i:=0) rfl),⟨rfl,rfl⟩,H15.sl [1,2,3] rfl rfl⟩
set_option maxRecDepth 20000 in
set_option maxHeartbeats 4000000 in
theorem Aq (n:Nat) (a1:Int) (a2:(List Int)) (r:(List Int)) (h:o9 n a1 a2=some r):fE R cfg.P 74 [(.int .i64 a1),(.sl ((a2).map (D.int .i64)) false)] (.d (.sl ((r).map (D.int .i64)) false)):=by
 unfold o9 at h
 refine fE.of_wp E.obj.toObjOk (C:=cfg) Try.func74 rfl NR rfl ?_
 have H0:Has aL aL []:=Has.pure
 refine aD.seq ?_
 refine aD.region E.obj rfl ?_
 refine aj.val rfl (ak rfl) rfl ?_
 refine aj.nil ?_
 refine aD.seq ?_
 refine aD.region E.obj rfl ?_
 refine aj.makeMap (D.int .i64) (D.int .i64) H0 rfl JJ rfl (fun b3 S4 H5=>?_)
 refine aj.val rfl (ak rfl) rfl ?_
 refine aj.nil ?_
 refine aD.seq ?_
 refine aD.seq ?_
 refine aD.region E.obj rfl ?_
 refine aj.val rfl (aa rfl) rfl ?_
 refine aj.val rfl (cz rfl nZ) rfl ?_
 refine aj.val rfl (aa rfl) rfl ?_
 refine aj.nil ?_
 refine aD.block ?_
 refine qo.start (B:=aL) (α:=(List (Int × Int)) × Int) (fun k a=>gM n a1 a2 k a.1 a.2=some r) (fun a=>[(0,(.d (.int .i64 a1))),(5,(.map b3)),(11,(.d (.sl ((a2).map (D.int .i64)) false))),(12,(.d (.int .i64 ((a2).length:Int)))),(13,(.d (.int .i64 a.2)))]) (fun a=>[.map b3 (mD (D.int .i64) (D.int .i64) a.1)]) ?_ ?_ n ⟨⟨[],0⟩,_,_,S4,.refl _ _,.refl _,(au.r rfl (au.r rfl (au.r rfl (au.r rfl (au.r rfl au.nil))))),H5.sl [0] rfl rfl,h⟩
 ·
  intro a h; simp [gM] at h
 intro k16 a S12 H13 h
 obtain ⟨x14,x15⟩:=a
 replace h:gM n a1 a2 (k16 + 1) x14 x15=some r:=h
 replace H13:Has aL S12 [.map b3 (mD (D.int .i64) (D.int .i64) x14)]:=H13
 unfold gM at h
 refine aD.seq ?_
 refine aD.region E.obj rfl ?_
 refine aj.val rfl (aH rfl rfl dR) rfl ?_
 refine aj.nil ?_
 refine aD.seq ?_
 refine aD.cond rfl (fun hb17=>?_) (fun hb17=>?_)
 ·
  replace h:=dH hb17 h
  refine aD.skip ?_
  refine aD.seq ?_
  refine aD.block ?_
  refine aD.seq ?_
  refine aD.region E.obj rfl ?_
  obtain ⟨z18,hzz18,h⟩:=bind_some h
  refine aj.val rfl (bX rfl rfl (dU (enc:=(D.int .i64)) hzz18 fQ vV (((fun _=>rfl) _).trans kV.symm))) rfl ?_
  refine aj.val rfl (bG rfl (dY nV rfl)) rfl ?_
  refine aj.val rfl (ak rfl) rfl ?_
  refine aj.nil ?_
  refine aD.region E.obj rfl ?_
  refine aj.val rfl (aa rfl) rfl ?_
  refine aj.val rfl (aa rfl) rfl ?_
  refine aj.val rfl (vR (ek:=(D.int .i64)) (ev:=(D.int .i64)) (k:=z18) (z:=0) H13 (i:=0) rfl rfl rfl JJ (Ei Ns) wD) rfl ?_
  refine aj.val rfl (aH rfl rfl dF) rfl ?_
  refine aj.mapUpdate (ek:=(D.int .i64)) (ev:=(D.int .i64)) (k:=z18) (v:=(IntKind.wrap .i64 ((jr x14 z18 0) + 1))) H13 rfl (i:=0) rfl rfl rfl rfl JJ (Ei Ns) (fun S19 H20=>?_)
  refine aj.nil ?_
  refine aD.region E.obj rfl ?_
  refine aj.val rfl (aH rfl rfl dF) rfl ?_
  refine aj.val rfl (aa rfl) rfl ?_
  refine aj.nil ?_
  exact ⟨⟨(kM x14 z18 (IntKind.wrap .i64 ((jr x14 z18 0) + 1))),(IntKind.wrap .i64 (x15 + 1))⟩,_,_,S19,.refl _ _,.refl _,(au.r rfl (au.r rfl (au.r rfl (au.r rfl (au.r rfl au.nil))))),H20.sl [0] rfl rfl,h⟩
 replace h:=dI hb17 h
 refine aD.exit ?_
 refine aD.seq ?_
 refine aD.region E.obj rfl ?_
 refine aj.val rfl (ak rfl) rfl ?_
 refine aj.nil ?_
 refine aD.seq ?_
 refine aD.seq ?_
 refine aD.region E.obj rfl ?_
 refine aj.val rfl (aa rfl) rfl ?_
 refine aj.val rfl (yS rfl rfl) rfl ?_
 refine aj.val rfl (aa rfl) rfl ?_
 refine aj.nil ?_
 refine aD.block ?_
 have H45:=H13.Jc
 refine qo.start (B:=aL) (α:=(List Int) × AV × Int) (fun k a=>eG a1 x14 k a.1 a.2.2=some r) (fun a=>[(5,(.map b3)),(8,a.2.1),(23,(.d (.int .i64 (zJ a1 0)))),(24,(.d (.int .i64 a.2.2)))]) (fun a=>[.map b3 (mD (D.int .i64) (D.int .i64) x14),.grow a.2.1 ((a.1).map (D.int .i64))]) ?_ ?_ n ⟨⟨[],(.d .aO),0⟩,_,_,S12,.refl _ _,.refl _,(au.r rfl (au.r rfl (au.r rfl (au.r rfl au.nil)))),H45.sl [1,0] rfl rfl,h⟩
 ·
  intro a h; simp [eG] at h
 intro k33 a S28 H29 h
 obtain ⟨x30,v31,x32⟩:=a
 replace h:eG a1 x14 (k33 + 1) x30 x32=some r:=h
 replace H29:Has aL S28 [.map b3 (mD (D.int .i64) (D.int .i64) x14),.grow v31 ((x30).map (D.int .i64))]:=H29
 unfold eG at h
 refine aD.seq ?_
 refine aD.region E.obj rfl ?_
 refine aj.val rfl (aH rfl rfl dR) rfl ?_
 refine aj.nil ?_
 refine aD.seq ?_
 refine aD.cond rfl (fun hb34=>?_) (fun hb34=>?_)
 ·
  replace h:=dH hb34 h
  refine aD.skip ?_
  refine aD.join (B:=aL) (α:=(List Int) × AV) (fun a=>iZ x32 (eG a1 x14 k33) a.1=some r) (fun a=>[(5,(.map b3)),(8,a.2),(23,(.d (.int .i64 (zJ a1 0)))),(24,(.d (.int .i64 x32)))]) (fun a=>[.map b3 (mD (D.int .i64) (D.int .i64) x14),.grow a.2 ((a.1).map (D.int .i64))]) ?_ ?_
  ·
   intro a S35 H36 h
   obtain ⟨x37,v38⟩:=a
   replace h:iZ x32 (eG a1 x14 k33) x37=some r:=h
   replace H36:Has aL S35 [.map b3 (mD (D.int .i64) (D.int .i64) x14),.grow v38 ((x37).map (D.int .i64))]:=H36
   unfold iZ at h
   refine aD.region E.obj rfl ?_
   refine aj.val rfl (aH rfl rfl dF) rfl ?_
   refine aj.val rfl (aa rfl) rfl ?_
   refine aj.nil ?_
   exact ⟨⟨x37,v38,(IntKind.wrap .i64 (x32 + 1))⟩,_,_,S35,.refl _ _,.refl _,(au.r rfl (au.r rfl (au.r rfl (au.r rfl au.nil)))),H36.sl [0,1] rfl rfl,h⟩
  refine aD.block ?_
  refine aD.seq ?_
  refine aD.region E.obj rfl ?_
  refine aj.val rfl (aa rfl) rfl ?_
  refine aj.val rfl (ak rfl) rfl ?_
  refine aj.nil ?_
  refine aD.seq ?_
  refine aD.region E.obj rfl ?_
  refine aj.val rfl (aa rfl) rfl ?_
  refine aj.val rfl (aa rfl) rfl ?_
  refine aj.val rfl (vR (ek:=(D.int .i64)) (ev:=(D.int .i64)) (k:=x32) (z:=0) H29 (i:=0) rfl rfl rfl JJ (Ei Ns) wD) rfl ?_
  refine aj.val rfl (aH rfl rfl bD) rfl ?_
  refine aj.nil ?_
  refine aD.cond rfl (fun hb40=>?_) (fun hb40=>?_)
  ·
   replace h:=dH hb40 h
   refine aD.region E.obj rfl ?_
   refine aj.val rfl (aa rfl) rfl ?_
   refine aj.val rfl (aa rfl) rfl ?_
   refine aj.val rfl (aR (vs:=[(.d (.int .i64 x32))]) (ds:=[(.int .i64 x32)]) o7 fQ nV wD kV rfl (by decide) (.cons rfl rfl .nil) rfl (by intro d hd; simp only [List.mem_cons,List.not_mem_nil,or_false] at hd; rcases hd with rfl <;> rfl) rfl) rfl ?_
   obtain ⟨z41,hzz41,h⟩:=bind_some h
   refine aj.append (xs:=(x30).map (D.int .i64)) (ys:=([x32]).map (D.int .i64)) (zs:=(z41).map (D.int .i64)) H29 rfl rfl rfl (i:=1) rfl rfl o7 J2 fQ (kK hzz41) KC rfl (fJ (enc:=(D.int .i64)) (fun _=>kV.symm) _) (fJ (enc:=(D.int .i64)) (fun _=>kV.symm) _) Nb rfl (qZ hzz41) (fun v42 S43 H44=>?_)
   refine aj.val rfl (ak rfl) rfl ?_
   refine aj.nil ?_
   exact ⟨⟨z41,v42⟩,_,_,S43,.refl _ _,.refl _,(au.r rfl (au.r rfl (au.r rfl (au.r rfl au.nil)))),H44.sl [0,1] rfl rfl,h⟩
  replace h:=dI hb40 h
  refine aD.skip ?_
  exact ⟨⟨x30,v31⟩,_,_,S28,.refl _ _,.refl _,(au.r rfl (au.r rfl (au.r rfl (au.r rfl au.nil)))),H29.sl [0,1] rfl rfl,h⟩
 replace h:=dI hb34 h
 refine aD.exit ?_
 refine aD.seq ?_
 refine aD.region E.obj rfl ?_
 refine aj.val rfl (aa rfl) rfl ?_
 refine aj.val rfl (ak rfl) rfl ?_
 refine aj.nil ?_
 have hr:=Option.some.inj h
 subst hr
 exact aD.ret ⟨_,rfl,rfl,kR (aN.grow H29 (i:=1) rfl .nil)⟩
set_option maxRecDepth 20000 in
set_option maxHeartbeats 4000000 in
theorem uD:∀ (n:Nat) (a2:aB) (a6:Int) (a7:Tree) (r:(Bool × aB)),eZ n a2 a6 a7=some r→∀ (b1:Nat) (v3:AV) (ws4:List (List AV)) (w5:AV),dz R cfg.P 40 [.ptr b1 0 0,.d (.int .i64 a6),.d (ai a7)] [.box b1 [v3,w5],aA ae ah.kids 7 5 v3 ws4 a2.l none,aG w5 a2.freed] (fun v l=>v=.d (.bool r.1)∧∃ dv0 dws0 dw0,l=[.box b1 [dv0,dw0],aA ae ah.kids 7 5 dv0 dws0 r.2.l none,aG dw0 r.2.freed])
 | 0,a2,a6,a7,r,h,b1,v3,ws4,w5=>by simp [eZ] at h
 | n + 1,a2,a6,a7,r,h,b1,v3,ws4,w5=>by
  have ih:=uD n
  unfold eZ at h
  refine dz.of_wp (C:=cfg) Try.func40 rfl Nv rfl (fun B0 S0 H0=>?_)
  replace H0:Has B0 S0 [.box b1 [v3,w5],aA ae ah.kids 7 5 v3 ws4 a2.l none,aG w5 a2.freed]:=H0
  refine aD.seq ?_
  refine aD.region E.obj rfl ?_
  refine aj.box H0 rfl rfl rfl (Tree.dx _) rfl (fun b8 S9 H10=>?_)
  refine aj.val rfl (ak rfl) rfl ?_
  refine aj.nil ?_
  refine aD.seq ?_
  refine aD.region E.obj rfl ?_
  refine aj.val rfl (aa rfl) rfl ?_
  refine aj.val rfl (aa rfl) rfl ?_
  obtain ⟨z11,hzz11,h⟩:=bind_some h
  refine aj.bR (ins:=[.box b1 [v3,w5],aA ae ah.kids 7 5 v3 ws4 a2.l none,aG w5 a2.freed]) (more:=[.box b8 [(.d (.str a7.Tag)),(.d (.str a7.Key)),(.d (.str a7.Text)),(.d (.sl ((a7.aI).map ay) false)),(.d (.sl ((a7.Kids).map ai) false))]]) (H10.sl [1,2,3,0] rfl rfl) rfl (az rfl rfl) (jY E n _ _ _ hzz11 b1 v3 ws4 w5) (.cons (.refl _) (.cons (.refl _) .nil)) rfl ?_
  rintro _ S12 _ ⟨rfl,rfl⟩ H13
  have H14:Has B0 S12 [.box b8 [(.d (.str a7.Tag)),(.d (.str a7.Key)),(.d (.str a7.Text)),(.d (.sl ((a7.aI).map ay) false)),(.d (.sl ((a7.Kids).map ai) false))],.box b1 [v3,w5],aA ae ah.kids 7 5 v3 ws4 a2.l none,aG w5 a2.freed]:=H13.sl [3,0,1,2] rfl rfl
  refine aj.val rfl (aa rfl) rfl ?_
  refine aj.val rfl (eu rfl rfl) rfl ?_
  refine aj.val rfl (eu rfl rfl) rfl ?_
  refine aj.alloc H14 rfl rV fO rfl rfl (fun b15 S16 H17=>?_)
  refine aj.store H17 (i:=0) rfl rfl rfl rfl (Tree.dx _) rfl bE rfl jc rfl rfl rfl (fun S18 H19=>?_)
  refine aj.val rfl (ak rfl) rfl ?_
  refine aj.nil ?_
  refine aD.seq ?_
  refine aD.seq ?_
  refine aD.region E.obj rfl ?_
  refine aj.val rfl (aa rfl) rfl ?_
  refine aj.val rfl (gW rfl) rfl ?_
  refine aj.val rfl (aa rfl) rfl ?_
  refine aj.jS 6 29 (.d (.bool ((!z11.2) || (!(z11.1.Tag == a7.Tag))))) ?_ ?_
  ·
   rcases Bool.eq_false_or_eq_true ((!z11.2)) with hB20 | hB20
   ·
    refine aj.bool hB20 ?_
    refine aj.no rfl rfl ?_
    refine aj.no rfl rfl ?_
    refine aj.no rfl rfl ?_
    refine aj.no rfl rfl ?_
    refine aj.no rfl rfl ?_
    refine aj.val rfl (aC (b:=true) rfl rfl) rfl ?_
    exact aj.nil ⟨_,rfl,(au.put (au.push rfl (au.push rfl (au.push rfl (au.push rfl (au.push rfl (au.put (.refl _) (Less.eq (by rw [hB20])))))))) (Less.eq (by rw [hB20]; rw [Bool.true_or])))⟩
   refine aj.bool hB20 ?_
   refine aj.val rfl (aF rfl oQ uK rfl) rfl ?_
   refine aj.val rfl (aJ H19 (i:=0) rfl rfl (aS sW rfl)) rfl ?_
   refine aj.val rfl (aF rfl oQ uK rfl) rfl ?_
   refine aj.val rfl (aJ H19 (i:=1) rfl rfl (aS sW rfl)) rfl ?_
   refine aj.val rfl (aH rfl rfl ou) rfl ?_
   refine aj.val rfl (aC (b:=false) rfl rfl) rfl ?_
   exact aj.nil ⟨_,rfl,(au.put (au.push rfl (au.push rfl (au.push rfl (au.push rfl (au.push rfl (au.put (.refl _) (Less.eq (by rw [hB20])))))))) (Less.eq (by rw [hB20]; rw [Bool.false_or])))⟩
  refine aj.val rfl (aa rfl) rfl ?_
  refine aj.jS 6 36 (.d (.bool (((!z11.2) || (!(z11.1.Tag == a7.Tag))) || (!(z11.1.Key == a7.Key))))) ?_ ?_
  ·
   rcases Bool.eq_false_or_eq_true (((!z11.2) || (!(z11.1.Tag == a7.Tag)))) with hB21 | hB21
   ·
    refine aj.bool hB21 ?_
    refine aj.no rfl rfl ?_
    refine aj.no rfl rfl ?_
    refine aj.no rfl rfl ?_
    refine aj.no rfl rfl ?_
    refine aj.no rfl rfl ?_
    refine aj.val rfl (aC (b:=true) rfl rfl) rfl ?_
    exact aj.nil ⟨_,rfl,(au.put (au.push rfl (au.push rfl (au.push rfl (au.push rfl (au.push rfl (au.put (.refl _) (Less.eq (by rw [hB21])))))))) (Less.eq (by rw [hB21]; rw [Bool.true_or])))⟩
   refine aj.bool hB21 ?_
   refine aj.val rfl (aF rfl uZ uK rfl) rfl ?_
   refine aj.val rfl (aJ H19 (i:=0) rfl rfl (aS sW rfl)) rfl ?_
   refine aj.val rfl (aF rfl uZ uK rfl) rfl ?_
   refine aj.val rfl (aJ H19 (i:=1) rfl rfl (aS sW rfl)) rfl ?_
   refine aj.val rfl (aH rfl rfl ou) rfl ?_
   refine aj.val rfl (aC (b:=false) rfl rfl) rfl ?_
   exact aj.nil ⟨_,rfl,(au.put (au.push rfl (au.push rfl (au.push rfl (au.push rfl (au.push rfl (au.put (.refl _) (Less.eq (by rw [hB21])))))))) (Less.eq (by rw [hB21]; rw [Bool.false_or])))⟩
  refine aj.nil ?_
  refine aD.cond rfl (fun hb22=>?_) (fun hb22=>?_)
  ·
   replace h:=dH hb22 h
   refine aD.seq ?_
   refine aD.region E.obj rfl ?_
   refine aj.val rfl (ak rfl) rfl ?_
   refine aj.nil ?_
   have hr:=Option.some.inj h
   subst hr
   exact aD.ret ⟨_,rfl,rfl,_,_,_,.refl _,(.refl _),⟨rfl,v3,ws4,w5,rfl⟩,H19.sl [2,3,4] rfl rfl⟩
  replace h:=dI hb22 h
  refine aD.skip ?_
  refine aD.seq ?_
  refine aD.seq ?_
  refine aD.region E.obj rfl ?_
  refine aj.val rfl (aF rfl oQ uK rfl) rfl ?_
  refine aj.val rfl (aJ H19 (i:=1) rfl rfl (aS sW rfl)) rfl ?_
  refine aj.val rfl (aH rfl rfl lL) rfl ?_
  refine aj.nil ?_
  refine aD.cond rfl (fun hb23=>?_) (fun hb23=>?_)
  ·
   replace h:=dH hb23 h
   refine aD.seq ?_
   refine aD.region E.obj rfl ?_
   refine aj.val rfl (aa rfl) rfl ?_
   refine aj.val rfl (aa rfl) rfl ?_
   refine aj.val rfl (aF rfl BP uK rfl) rfl ?_
   refine aj.val rfl (aJ H19 (i:=1) rfl rfl (aS sW rfl)) rfl ?_
   obtain ⟨z24,hzz24,h⟩:=bind_some h
   refine aj.bR (ins:=[.box b1 [v3,w5],aA ae ah.kids 7 5 v3 ws4 a2.l none,aG w5 a2.freed]) (more:=[.box b15 [(.d (.str z11.1.Tag)),(.d (.str z11.1.Key)),(.d (.str z11.1.Text)),(.d (.sl ((z11.1.aI).map ay) false)),(.d (.sl ((z11.1.Kids).map ai) false))],.box b8 [(.d (.str a7.Tag)),(.d (.str a7.Key)),(.d (.str a7.Text)),(.d (.sl ((a7.aI).map ay) false)),(.d (.sl ((a7.Kids).map ai) false))]]) (H19.sl [2,3,4,0,1] rfl rfl) rfl (az rfl rfl) (zt E n _ _ _ _ hzz24 b1 v3 ws4 w5) (.cons (.refl _) (.cons (.refl _) (.cons (.refl _) .nil))) rfl ?_
   rintro _ S27 _ ⟨rfl,ws25,w26,rfl⟩ H28
   have H29:Has B0 S27 [.box b15 [(.d (.str z11.1.Tag)),(.d (.str z11.1.Key)),(.d (.str z11.1.Text)),(.d (.sl ((z11.1.aI).map ay) false)),(.d (.sl ((z11.1.Kids).map ai) false))],.box b8 [(.d (.str a7.Tag)),(.d (.str a7.Key)),(.d (.str a7.Text)),(.d (.sl ((a7.aI).map ay) false)),(.d (.sl ((a7.Kids).map ai) false))],.box b1 [v3,w26],aA ae ah.kids 7 5 v3 ws25 z24.2.l none,aG w26 z24.2.freed]:=H28.sl [3,4,0,1,2] rfl rfl
   refine aj.val rfl (ak rfl) rfl ?_
   refine aj.nil ?_
   have hr:=Option.some.inj h
   subst hr
   exact aD.ret ⟨_,rfl,rfl,_,_,_,.refl _,(.refl _),⟨rfl,v3,ws25,w26,rfl⟩,H29.sl [2,3,4] rfl rfl⟩
  replace h:=dI hb23 h
  refine aD.skip ?_
  refine aD.seq ?_
  refine aD.region E.obj rfl ?_
  refine aj.val rfl (aa rfl) rfl ?_
  refine aj.val rfl (aa rfl) rfl ?_
  refine aj.val rfl (aF rfl vk Ab rfl) rfl ?_
  refine aj.val rfl (aJ H19 (i:=1) rfl rfl (aS ER rfl)) rfl ?_
  obtain ⟨z30,hzz30,h⟩:=bind_some h
  refine aj.bR (ins:=[.box b1 [v3,w5],aA ae ah.kids 7 5 v3 ws4 a2.l none,aG w5 a2.freed]) (more:=[.box b15 [(.d (.str z11.1.Tag)),(.d (.str z11.1.Key)),(.d (.str z11.1.Text)),(.d (.sl ((z11.1.aI).map ay) false)),(.d (.sl ((z11.1.Kids).map ai) false))],.box b8 [(.d (.str a7.Tag)),(.d (.str a7.Key)),(.d (.str a7.Text)),(.d (.sl ((a7.aI).map ay) false)),(.d (.sl ((a7.Kids).map ai) false))]]) (H19.sl [2,3,4,0,1] rfl rfl) rfl (az rfl rfl) (qJ E n _ _ _ _ hzz30 b1 v3 ws4 w5) (.cons (.refl _) (.cons (.refl _) (.cons (.refl _) .nil))) rfl ?_
  rintro _ S33 _ ⟨rfl,ws31,w32,rfl⟩ H34
  have H35:Has B0 S33 [.box b15 [(.d (.str z11.1.Tag)),(.d (.str z11.1.Key)),(.d (.str z11.1.Text)),(.d (.sl ((z11.1.aI).map ay) false)),(.d (.sl ((z11.1.Kids).map ai) false))],.box b8 [(.d (.str a7.Tag)),(.d (.str a7.Key)),(.d (.str a7.Text)),(.d (.sl ((a7.aI).map ay) false)),(.d (.sl ((a7.Kids).map ai) false))],.box b1 [v3,w32],aA ae ah.kids 7 5 v3 ws31 z30.2.l none,aG w32 z30.2.freed]:=H34.sl [3,4,0,1,2] rfl rfl
  refine aj.nil ?_
  refine aD.seq ?_
  refine aD.region E.obj rfl ?_
  refine aj.val rfl (aa rfl) rfl ?_
  refine aj.val rfl (aa rfl) rfl ?_
  obtain ⟨z36,hzz36,h⟩:=bind_some h
  refine aj.bR (ins:=[.box b1 [v3,w32],aA ae ah.kids 7 5 v3 ws31 z30.2.l none,aG w32 z30.2.freed]) (more:=[.box b15 [(.d (.str z11.1.Tag)),(.d (.str z11.1.Key)),(.d (.str z11.1.Text)),(.d (.sl ((z11.1.aI).map ay) false)),(.d (.sl ((z11.1.Kids).map ai) false))],.box b8 [(.d (.str a7.Tag)),(.d (.str a7.Key)),(.d (.str a7.Text)),(.d (.sl ((a7.aI).map ay) false)),(.d (.sl ((a7.Kids).map ai) false))]]) (H35.sl [2,3,4,0,1] rfl rfl) rfl (az rfl rfl) (kZ E n _ _ _ hzz36 b1 v3 ws31 w32) (.cons (.refl _) (.cons (.refl _) .nil)) rfl ?_
  rintro _ S37 _ ⟨rfl,rfl⟩ H38
  have H39:Has B0 S37 [.box b15 [(.d (.str z11.1.Tag)),(.d (.str z11.1.Key)),(.d (.str z11.1.Text)),(.d (.sl ((z11.1.aI).map ay) false)),(.d (.sl ((z11.1.Kids).map ai) false))],.box b8 [(.d (.str a7.Tag)),(.d (.str a7.Key)),(.d (.str a7.Text)),(.d (.sl ((a7.aI).map ay) false)),(.d (.sl ((a7.Kids).map ai) false))],.box b1 [v3,w32],aA ae ah.kids 7 5 v3 ws31 z30.2.l none,aG w32 z30.2.freed]:=H38.sl [3,4,0,1,2] rfl rfl
  refine aj.val rfl (ak rfl) rfl ?_
  refine aj.nil ?_
  refine aD.seq ?_
  obtain ⟨z40,hzz40,h⟩:=bind_some h
  obtain ⟨z44,hzz44,h⟩:=bind_some h
  refine aD.jf E.obj lQ Nh [(0,none),(1,none),(5,none),(9,none),(10,some 6)] (by kernel_rfl) [2] (by decide) [some (.ptr b1 0 0),some (.d (.sl ((z36).map (D.int .i64)) false)),none,some (.ptr b8 0 4),some (.d (.sl ((a7.Kids).map ai) false)),none,none] ?_
  refine ⟨[0,1,3,4],by kernel_rfl,?_,_,_,rfl,rfl,.step ?_⟩
  ·
   refine .v rfl rfl rfl rfl (aa rfl) ?_
   refine .v rfl rfl rfl rfl (aa rfl) ?_
   refine .v rfl rfl rfl rfl (aF rfl ja oL rfl) ?_
   refine .v rfl rfl rfl rfl (aJ H39 (i:=1) rfl rfl (aS rU rfl)) ?_
   exact .nil
  refine aj.bR (ins:=[.box b1 [v3,w32],aA ae ah.kids 7 5 v3 ws31 z30.2.l none,aG w32 z30.2.freed]) (more:=[.box b15 [(.d (.str z11.1.Tag)),(.d (.str z11.1.Key)),(.d (.str z11.1.Text)),(.d (.sl ((z11.1.aI).map ay) false)),(.d (.sl ((z11.1.Kids).map ai) false))],.box b8 [(.d (.str a7.Tag)),(.d (.str a7.Key)),(.d (.str a7.Text)),(.d (.sl ((a7.aI).map ay) false)),(.d (.sl ((a7.Kids).map ai) false))]]) (H39.sl [2,3,4,0,1] rfl rfl) rfl (az rfl rfl) (Au E n _ _ _ hzz40 b1 v3 ws31 w32) (.cons (.refl _) (.cons (.refl _) .nil)) rfl ?_
  rintro _ S45 _ ⟨rfl,rfl⟩ H46
  have H47:Has B0 S45 [.box b15 [(.d (.str z11.1.Tag)),(.d (.str z11.1.Key)),(.d (.str z11.1.Text)),(.d (.sl ((z11.1.aI).map ay) false)),(.d (.sl ((z11.1.Kids).map ai) false))],.box b8 [(.d (.str a7.Tag)),(.d (.str a7.Key)),(.d (.str a7.Text)),(.d (.sl ((a7.aI).map ay) false)),(.d (.sl ((a7.Kids).map ai) false))],.box b1 [v3,w32],aA ae ah.kids 7 5 v3 ws31 z30.2.l none,aG w32 z30.2.freed]:=H46.sl [3,4,0,1,2] rfl rfl
  refine aj.nil ⟨_,_,_,rfl,(fun _ ht=>by cases ht; rfl),_,(.o (.o (.w (.d (.sl ((z40).map ai) false)) (.o (.o (.w (.d (.sl ((z44).map (D.int .i64)) false)) (.w (.d (.sl ((z44).map (D.int .i64)) false)) .nil))))))),(fun _ ht=>by cases ht; exact ⟨_,rfl,.refl _⟩),?_⟩
  refine ⟨[3,4,5,6],by kernel_rfl,?_,_,rfl,?_⟩
  ·
   refine .v rfl rfl rfl rfl (aF rfl ja oL rfl) ?_
   refine .v rfl rfl rfl rfl (aJ H47 (i:=1) rfl rfl (aS rU rfl)) ?_
   refine .cons rfl rfl rfl (.step ?_) ?_
   ·
    refine aj.ret rfl (az rfl rfl) (Av E _ _ _ _ hzz44 _ _ (aN.eq (aN.eq .nil))) rfl ?_
    exact aj.nil ⟨_,_,rfl,fun _ ht=>by cases ht; exact ⟨rfl,.refl _⟩⟩
   refine .v rfl rfl rfl rfl (ak rfl) ?_
   exact .nil
  refine aD.seq ?_
  refine aD.seq ?_
  refine aD.region E.obj rfl ?_
  refine aj.val rfl (aa rfl) rfl ?_
  refine aj.val rfl (cz rfl nZ) rfl ?_
  refine aj.val rfl (aa rfl) rfl ?_
  obtain ⟨z48,hzz48,h⟩:=bind_some h
  refine aj.ret rfl (az rfl rfl) (Aq E _ _ _ _ hzz48 _ _ (aN.eq (aN.eq .nil))) rfl ?_
  refine aj.val rfl (cz rfl nZ) rfl ?_
  refine aj.val rfl (aa rfl) rfl ?_
  refine aj.nil ?_
  refine aD.block ?_
  refine qo.start (B:=B0) (α:=aB × (List (List AV)) × AV × Int) (fun k a=>iq n (eZ n) a6 a7 z36 z44 z48 k a.1 a.2.2.2=some r) (fun a=>[(0,(.ptr b1 0 0)),(1,(.d (.int .i64 a6))),(5,(.ptr b8 0 0)),(9,(.d (.sl ((z36).map (D.int .i64)) false))),(10,(.d (.sl ((z44).map (D.int .i64)) false))),(62,(.d (.sl ((z48).map (D.int .i64)) false))),(63,(.d (.int .i64 ((z48).length:Int)))),(64,(.d (.int .i64 a.2.2.2)))]) (fun a=>[.box b8 [(.d (.str a7.Tag)),(.d (.str a7.Key)),(.d (.str a7.Text)),(.d (.sl ((a7.aI).map ay) false)),(.d (.sl ((a7.Kids).map ai) false))],.box b1 [v3,a.2.2.1],aA ae ah.kids 7 5 v3 a.2.1 a.1.l none,aG a.2.2.1 a.1.freed]) ?_ ?_ n ⟨⟨z30.2,ws31,w32,0⟩,_,_,S45,.refl _ _,.refl _,(au.r rfl (au.r rfl (au.r rfl (au.r rfl (au.r rfl (au.r rfl (au.r rfl (au.r rfl au.nil)))))))),H47.sl [1,2,3,4] rfl rfl,h⟩
  ·
   intro a h; simp [iq] at h
  intro k63 a S57 H58 h
  obtain ⟨x59,ws60,w61,x62⟩:=a
  replace h:iq n (eZ n) a6 a7 z36 z44 z48 (k63 + 1) x59 x62=some r:=h
  replace H58:Has B0 S57 [.box b8 [(.d (.str a7.Tag)),(.d (.str a7.Key)),(.d (.str a7.Text)),(.d (.sl ((a7.aI).map ay) false)),(.d (.sl ((a7.Kids).map ai) false))],.box b1 [v3,w61],aA ae ah.kids 7 5 v3 ws60 x59.l none,aG w61 x59.freed]:=H58
  unfold iq at h
  refine aD.seq ?_
  refine aD.region E.obj rfl ?_
  refine aj.val rfl (aH rfl rfl dR) rfl ?_
  refine aj.nil ?_
  refine aD.seq ?_
  refine aD.cond rfl (fun hb64=>?_) (fun hb64=>?_)
  ·
   replace h:=dH hb64 h
   refine aD.skip ?_
   refine aD.seq ?_
   refine aD.block ?_
   refine aD.seq ?_
   refine aD.region E.obj rfl ?_
   obtain ⟨z65,hzz65,h⟩:=bind_some h
   refine aj.val rfl (bX rfl rfl (dU (enc:=(D.int .i64)) hzz65 fQ vV (((fun _=>rfl) _).trans kV.symm))) rfl ?_
   refine aj.val rfl (bG rfl (dY nV rfl)) rfl ?_
   refine aj.val rfl (ak rfl) rfl ?_
   refine aj.nil ?_
   refine aD.region E.obj rfl ?_
   refine aj.val rfl (aa rfl) rfl ?_
   refine aj.val rfl (aa rfl) rfl ?_
   refine aj.val rfl (aa rfl) rfl ?_
   obtain ⟨z66,hzz66,h⟩:=bind_some h
   refine aj.val rfl (bX rfl rfl (dU (enc:=(D.int .i64)) hzz66 fQ vV (((fun _=>rfl) _).trans kV.symm))) rfl ?_
   refine aj.val rfl (bG rfl (dY nV rfl)) rfl ?_
   obtain ⟨z67,hzz67,h⟩:=bind_some h
   refine aj.bR (ins:=[.box b1 [v3,w61],aA ae ah.kids 7 5 v3 ws60 x59.l none,aG w61 x59.freed]) (more:=[.box b8 [(.d (.str a7.Tag)),(.d (.str a7.Key)),(.d (.str a7.Text)),(.d (.sl ((a7.aI).map ay) false)),(.d (.sl ((a7.Kids).map ai) false))]]) (H58.sl [1,2,3,0] rfl rfl) rfl (az rfl rfl) (Aj E n _ _ _ hzz67 b1 v3 ws60 w61) (.cons (.refl _) (.cons (.refl _) .nil)) rfl ?_
   rintro _ S70 _ ⟨rfl,ws68,w69,rfl⟩ H71
   have H72:Has B0 S70 [.box b8 [(.d (.str a7.Tag)),(.d (.str a7.Key)),(.d (.str a7.Text)),(.d (.sl ((a7.aI).map ay) false)),(.d (.sl ((a7.Kids).map ai) false))],.box b1 [v3,w69],aA ae ah.kids 7 5 v3 ws68 z67.2.l none,aG w69 z67.2.freed]:=H71.sl [3,0,1,2] rfl rfl
   refine aj.nil ?_
   refine aD.region E.obj rfl ?_
   refine aj.val rfl (aH rfl rfl dF) rfl ?_
   refine aj.val rfl (aa rfl) rfl ?_
   refine aj.nil ?_
   exact ⟨⟨z67.2,ws68,w69,(IntKind.wrap .i64 (x62 + 1))⟩,_,_,S70,.refl _ _,.refl _,(au.r rfl (au.r rfl (au.r rfl (au.r rfl (au.r rfl (au.r rfl (au.r rfl (au.r rfl au.nil)))))))),H72.sl [0,1,2,3] rfl rfl,h⟩
  replace h:=dI hb64 h
  refine aD.exit ?_
  refine aD.seq ?_
  refine aD.seq ?_
  refine aD.region E.obj rfl ?_
  refine aj.val rfl (aF rfl ja oL rfl) rfl ?_
  refine aj.val rfl (aJ H58 (i:=0) rfl rfl (aS rU rfl)) rfl ?_
  refine aj.val rfl (cz rfl wE) rfl ?_
  refine aj.val rfl (aa rfl) rfl ?_
  refine aj.nil ?_
  refine aD.block ?_
  refine qo.start (B:=B0) (α:=aB × AV × (List (List AV)) × AV × Int) (fun k a=>fM n (eZ n) a6 a7 z36 z44 k a.1 a.2.2.2.2=some r) (fun a=>[(0,(.ptr b1 0 0)),(1,(.d (.int .i64 a6))),(9,(.d (.sl ((z36).map (D.int .i64)) false))),(10,(.d (.sl ((z44).map (D.int .i64)) false))),(76,(.d (.sl ((a7.Kids).map ai) false))),(77,(.d (.int .i64 ((a7.Kids).length:Int)))),(78,(.d (.int .i64 a.2.2.2.2)))]) (fun a=>[.box b1 [a.2.1,a.2.2.2.1],aA ae ah.kids 7 5 a.2.1 a.2.2.1 a.1.l none,aG a.2.2.2.1 a.1.freed]) ?_ ?_ n ⟨⟨x59,v3,ws60,w61,0⟩,_,_,S57,.refl _ _,.refl _,(au.r rfl (au.r rfl (au.r rfl (au.r rfl (au.r rfl (au.r rfl (au.r rfl au.nil))))))),H58.sl [1,2,3] rfl rfl,h⟩
  ·
   intro a h; simp [fM] at h
  intro k89 a S82 H83 h
  obtain ⟨x84,v87,ws85,w86,x88⟩:=a
  replace h:fM n (eZ n) a6 a7 z36 z44 (k89 + 1) x84 x88=some r:=h
  replace H83:Has B0 S82 [.box b1 [v87,w86],aA ae ah.kids 7 5 v87 ws85 x84.l none,aG w86 x84.freed]:=H83
  unfold fM at h
  refine aD.seq ?_
  refine aD.region E.obj rfl ?_
  refine aj.val rfl (aH rfl rfl dR) rfl ?_
  refine aj.nil ?_
  refine aD.seq ?_
  refine aD.cond rfl (fun hb90=>?_) (fun hb90=>?_)
  ·
   replace h:=dH hb90 h
   refine aD.skip ?_
   refine aD.join (B:=B0) (α:=aB × AV × (List (List AV)) × AV) (fun a=>kz x88 (fM n (eZ n) a6 a7 z36 z44 k89) a.1=some r) (fun a=>[(0,(.ptr b1 0 0)),(1,(.d (.int .i64 a6))),(9,(.d (.sl ((z36).map (D.int .i64)) false))),(10,(.d (.sl ((z44).map (D.int .i64)) false))),(76,(.d (.sl ((a7.Kids).map ai) false))),(77,(.d (.int .i64 ((a7.Kids).length:Int)))),(78,(.d (.int .i64 x88)))]) (fun a=>[.box b1 [a.2.1,a.2.2.2],aA ae ah.kids 7 5 a.2.1 a.2.2.1 a.1.l none,aG a.2.2.2 a.1.freed]) ?_ ?_
   ·
    intro a S91 H92 h
    obtain ⟨x93,v96,ws94,w95⟩:=a
    replace h:kz x88 (fM n (eZ n) a6 a7 z36 z44 k89) x93=some r:=h
    replace H92:Has B0 S91 [.box b1 [v96,w95],aA ae ah.kids 7 5 v96 ws94 x93.l none,aG w95 x93.freed]:=H92
    unfold kz at h
    refine aD.region E.obj rfl ?_
    refine aj.val rfl (aH rfl rfl dF) rfl ?_
    refine aj.val rfl (aa rfl) rfl ?_
    refine aj.nil ?_
    exact ⟨⟨x93,v96,ws94,w95,(IntKind.wrap .i64 (x88 + 1))⟩,_,_,S91,.refl _ _,.refl _,(au.r rfl (au.r rfl (au.r rfl (au.r rfl (au.r rfl (au.r rfl (au.r rfl au.nil))))))),H92.sl [0,1,2] rfl rfl,h⟩
   refine aD.block ?_
   refine aD.seq ?_
   refine aD.region E.obj rfl ?_
   refine aj.val rfl (aa rfl) rfl ?_
   obtain ⟨z98,hzz98,h⟩:=bind_some h
   refine aj.val rfl (bX rfl rfl (dU (enc:=ai) hzz98 kJ jc ((Tree.len _).trans bE.symm))) rfl ?_
   refine aj.val rfl (bG rfl (Tree.pR dX bE)) rfl ?_
   refine aj.alloc H83 rfl rV fO rfl rfl (fun b99 S100 H101=>?_)
   refine aj.val rfl (ak rfl) rfl ?_
   refine aj.store H101 (i:=0) rfl rfl rfl rfl (Tree.dx _) rfl bE rfl jc rfl rfl rfl (fun S102 H103=>?_)
   refine aj.nil ?_
   refine aD.seq ?_
   refine aD.seq ?_
   refine aD.region E.obj rfl ?_
   refine aj.val rfl (aa rfl) rfl ?_
   refine aj.val rfl (aa rfl) rfl ?_
   obtain ⟨z104,hzz104,h⟩:=bind_some h
   refine aj.val rfl (bX rfl rfl (dU (enc:=(D.int .i64)) hzz104 fQ vV (((fun _=>rfl) _).trans kV.symm))) rfl ?_
   refine aj.val rfl (bG rfl (dY nV rfl)) rfl ?_
   refine aj.val rfl (aH rfl rfl dR) rfl ?_
   refine aj.nil ?_
   refine aD.cond rfl (fun hb105=>?_) (fun hb105=>?_)
   ·
    replace h:=dH hb105 h
    refine aD.seq ?_
    refine aD.region E.obj rfl ?_
    refine aj.val rfl (aa rfl) rfl ?_
    refine aj.val rfl (aa rfl) rfl ?_
    refine aj.val rfl (aa rfl) rfl ?_
    refine aj.val rfl (aJ H103 (i:=0) rfl rfl (aW dX bE rfl)) rfl ?_
    refine aj.less (Less.agg' (d:=ai z98) (ax.eq rfl (ax.eq rfl (ax.eq rfl (ax.eq rfl (ax.eq rfl .nil))))) ((Tree.eq _).trans rfl)) ?_
    obtain ⟨z106,hzz106,h⟩:=bind_some h
    refine aj.bR (ins:=[.box b1 [v87,w86],aA ae ah.kids 7 5 v87 ws85 x84.l none,aG w86 x84.freed]) (more:=[.box b99 [(.d (.str z98.Tag)),(.d (.str z98.Key)),(.d (.str z98.Text)),(.d (.sl ((z98.aI).map ay) false)),(.d (.sl ((z98.Kids).map ai) false))]]) (H103.sl [1,2,3,0] rfl rfl) rfl (az rfl rfl) (jU E n _ _ _ hzz106 b1 v87 ws85 w86) (.cons (.refl _) (.cons (.refl _) .nil)) rfl ?_
    rintro _ S110 _ ⟨rfl,v107,ws108,w109,rfl⟩ H111
    have H112:Has B0 S110 [.box b99 [(.d (.str z98.Tag)),(.d (.str z98.Key)),(.d (.str z98.Text)),(.d (.sl ((z98.aI).map ay) false)),(.d (.sl ((z98.Kids).map ai) false))],.box b1 [v107,w109],aA ae ah.kids 7 5 v107 ws108 z106.2.l none,aG w109 z106.2.freed]:=H111.sl [3,0,1,2] rfl rfl
    refine aj.val rfl (aa rfl) rfl ?_
    obtain ⟨z113,hzz113,h⟩:=bind_some h
    refine aj.bR (ins:=[.box b1 [v107,w109],aA ae ah.kids 7 5 v107 ws108 z106.2.l none,aG w109 z106.2.freed]) (more:=[.box b99 [(.d (.str z98.Tag)),(.d (.str z98.Key)),(.d (.str z98.Text)),(.d (.sl ((z98.aI).map ay) false)),(.d (.sl ((z98.Kids).map ai) false))]]) (H112.sl [1,2,3,0] rfl rfl) rfl (az rfl rfl) (jq E n _ _ _ _ _ hzz113 b1 v107 ws108 w109) (.cons (.refl _) (.cons (.refl _) (.cons (.refl _) (.cons (.refl _) .nil)))) rfl ?_
    rintro _ S116 _ ⟨rfl,ws114,w115,rfl⟩ H117
    have H118:Has B0 S116 [.box b99 [(.d (.str z98.Tag)),(.d (.str z98.Key)),(.d (.str z98.Text)),(.d (.sl ((z98.aI).map ay) false)),(.d (.sl ((z98.Kids).map ai) false))],.box b1 [v107,w115],aA ae ah.kids 7 5 v107 ws114 z113.2.l none,aG w115 z113.2.freed]:=H117.sl [3,0,1,2] rfl rfl
    refine aj.nil ?_
    refine aD.exit ?_
    exact ⟨⟨z113.2,v107,ws114,w115⟩,_,_,S116,.refl _ _,.refl _,(au.r rfl (au.r rfl (au.r rfl (au.r rfl (au.r rfl (au.r rfl (au.r rfl au.nil))))))),H118.sl [1,2,3] rfl rfl,h⟩
   replace h:=dI hb105 h
   refine aD.skip ?_
   refine aD.seq ?_
   refine aD.region E.obj rfl ?_
   refine aj.val rfl (aa rfl) rfl ?_
   refine aj.val rfl (aa rfl) rfl ?_
   refine aj.val rfl (aa rfl) rfl ?_
   refine aj.val rfl (aa rfl) rfl ?_
   refine aj.val rfl (aa rfl) rfl ?_
   obtain ⟨z119,hzz119,h⟩:=bind_some h
   refine aj.val rfl (bX rfl rfl (dU (enc:=(D.int .i64)) hzz119 fQ vV (((fun _=>rfl) _).trans kV.symm))) rfl ?_
   refine aj.val rfl (bG rfl (dY nV rfl)) rfl ?_
   obtain ⟨z120,hzz120,h⟩:=bind_some h
   refine aj.val rfl (bX rfl rfl (dU (enc:=(D.int .i64)) hzz120 fQ vV (((fun _=>rfl) _).trans kV.symm))) rfl ?_
   refine aj.val rfl (bG rfl (dY nV rfl)) rfl ?_
   refine aj.val rfl (aa rfl) rfl ?_
   obtain ⟨z121,hzz121,h⟩:=bind_some h
   refine aj.bR (ins:=[.box b1 [v87,w86],aA ae ah.kids 7 5 v87 ws85 x84.l none,aG w86 x84.freed]) (more:=[.box b99 [(.d (.str z98.Tag)),(.d (.str z98.Key)),(.d (.str z98.Text)),(.d (.sl ((z98.aI).map ay) false)),(.d (.sl ((z98.Kids).map ai) false))]]) (H103.sl [1,2,3,0] rfl rfl) rfl (az rfl rfl) (jq E n _ _ _ _ _ hzz121 b1 v87 ws85 w86) (.cons (.refl _) (.cons (.refl _) (.cons (.refl _) (.cons (.refl _) .nil)))) rfl ?_
   rintro _ S124 _ ⟨rfl,ws122,w123,rfl⟩ H125
   have H126:Has B0 S124 [.box b99 [(.d (.str z98.Tag)),(.d (.str z98.Key)),(.d (.str z98.Text)),(.d (.sl ((z98.aI).map ay) false)),(.d (.sl ((z98.Kids).map ai) false))],.box b1 [v87,w123],aA ae ah.kids 7 5 v87 ws122 z121.2.l none,aG w123 z121.2.freed]:=H125.sl [3,0,1,2] rfl rfl
   refine aj.nil ?_
   obtain ⟨z127,hzz127,h⟩:=bind_some h
   obtain ⟨z128,hzz128,h⟩:=bind_some h
   obtain ⟨z129,hzz129,h⟩:=bind_some h
   refine aD.jf E.obj lQ ML [(0,none),(1,none),(9,none),(10,none),(76,none),(77,none),(78,none)] (by kernel_rfl) [9] (by decide) [some (.ptr b1 0 0),some (.d (.sl ((z36).map (D.int .i64)) false)),some (.d (.sl ((z44).map (D.int .i64)) false)),some (.d (.int .i64 x88)),some (.eptr (.int .i64 z127) 0),some (.d (.int .i64 z127)),some (.eptr (.int .i64 z128) 0),some (.d (.int .i64 z128)),some (.d (ai z98)),none] ?_
   refine ⟨[0,1,2,3,4,5,6,7,8],by kernel_rfl,?_,_,_,rfl,rfl,.step ?_⟩
   ·
    refine .v rfl rfl rfl rfl (aa rfl) ?_
    refine .v rfl rfl rfl rfl (aa rfl) ?_
    refine .v rfl rfl rfl rfl (aa rfl) ?_
    refine .v rfl rfl rfl rfl (aa rfl) ?_
    refine .v rfl rfl rfl rfl (bX rfl rfl (dU (enc:=(D.int .i64)) hzz127 fQ vV (((fun _=>rfl) _).trans kV.symm))) ?_
    refine .v rfl rfl rfl rfl (bG rfl (dY nV rfl)) ?_
    refine .v rfl rfl rfl rfl (bX rfl rfl (dU (enc:=(D.int .i64)) hzz128 fQ vV (((fun _=>rfl) _).trans kV.symm))) ?_
    refine .v rfl rfl rfl rfl (bG rfl (dY nV rfl)) ?_
    refine .cons rfl rfl rfl (.step ?_) ?_
    ·
     refine aj.val rfl (aJ H126 (i:=0) rfl rfl (aW dX bE rfl)) rfl ?_
     refine aj.less (Less.agg' (d:=ai z98) (ax.eq rfl (ax.eq rfl (ax.eq rfl (ax.eq rfl (ax.eq rfl .nil))))) ((Tree.eq _).trans rfl)) ?_
     exact aj.nil ⟨_,_,rfl,fun _ ht=>by cases ht; exact ⟨rfl,.refl _⟩⟩
    exact .nil
   refine aj.bR (ins:=[.box b1 [v87,w123],aA ae ah.kids 7 5 v87 ws122 z121.2.l none,aG w123 z121.2.freed]) (more:=[.box b99 [(.d (.str z98.Tag)),(.d (.str z98.Key)),(.d (.str z98.Text)),(.d (.sl ((z98.aI).map ay) false)),(.d (.sl ((z98.Kids).map ai) false))]]) (H126.sl [1,2,3,0] rfl rfl) rfl (az rfl rfl) (ih _ _ _ _ hzz129 b1 v87 ws122 w123) (.cons (.refl _) (.cons (.refl _) (.cons (.refl _) .nil))) rfl ?_
   rintro _ S139 _ ⟨rfl,v136,ws137,w138,rfl⟩ H140
   have H141:Has B0 S139 [.box b99 [(.d (.str z98.Tag)),(.d (.str z98.Key)),(.d (.str z98.Text)),(.d (.sl ((z98.aI).map ay) false)),(.d (.sl ((z98.Kids).map ai) false))],.box b1 [v136,w138],aA ae ah.kids 7 5 v136 ws137 z129.2.l none,aG w138 z129.2.freed]:=H140.sl [3,0,1,2] rfl rfl
   refine aj.nil ⟨_,_,_,rfl,(fun _ ht=>by cases ht; rfl),_,(.q (.q (.o (.w (.d (.bool z129.1)) .nil)))),(fun _ ht=>by cases ht; exact ⟨_,rfl,.refl _⟩),?_⟩
   refine ⟨[],by kernel_rfl,?_,_,rfl,?_⟩
   ·
    exact .nil
   exact ⟨⟨z129.2,v136,ws137,w138⟩,_,_,S139,.refl _ _,.refl _,(au.r rfl (au.r rfl (au.r rfl (au.r rfl (au.r rfl (au.r rfl (au.r rfl au.nil))))))),H141.sl [1,2,3] rfl rfl,h⟩
  replace h:=dI hb90 h
  refine aD.exit ?_
  refine aD.seq ?_
  refine aD.region E.obj rfl ?_
  refine aj.val rfl (ak rfl) rfl ?_
  refine aj.nil ?_
  have hr:=Option.some.inj h
  subst hr
  exact aD.ret ⟨_,rfl,rfl,_,_,_,.refl _,(.refl _),⟨rfl,v87,ws85,w86,rfl⟩,H83.sl [0,1,2] rfl rfl⟩
set_option maxRecDepth 20000 in
set_option maxHeartbeats 4000000 in
theorem jH (n:Nat) (a2:aB) (a6:Int) (a7:Tree) (r:(Bool × aB)) (h:il n a2 a6 a7=some r) (b1:Nat) (v3:AV) (ws4:List (List AV)) (w5:AV):dz R cfg.P 56 [.ptr b1 0 0,.d (.int .i64 a6),.d (ai a7)] [.box b1 [v3,w5],aA ae ah.kids 7 5 v3 ws4 a2.l none,aG w5 a2.freed] (fun v l=>v=.d (.bool r.1)∧∃ dv0 dws0 dw0,l=[.box b1 [dv0,dw0],aA ae ah.kids 7 5 dv0 dws0 r.2.l none,aG dw0 r.2.freed]):=by
 unfold il at h
 refine dz.of_wp (C:=cfg) Try.func56 rfl M3 rfl (fun B0 S0 H0=>?_)
 replace H0:Has B0 S0 [.box b1 [v3,w5],aA ae ah.kids 7 5 v3 ws4 a2.l none,aG w5 a2.freed]:=H0
 refine aD.seq ?_
 refine aD.region E.obj rfl ?_
 refine aj.box H0 rfl rfl rfl (Tree.dx _) rfl (fun b8 S9 H10=>?_)
 refine aj.val rfl (ak rfl) rfl ?_
 refine aj.nil ?_
 refine aD.seq ?_
 refine aD.region E.obj rfl ?_
 refine aj.val rfl (aa rfl) rfl ?_
 refine aj.val rfl (aa rfl) rfl ?_
 obtain ⟨z11,hzz11,h⟩:=bind_some h
 refine aj.bR (ins:=[.box b1 [v3,w5],aA ae ah.kids 7 5 v3 ws4 a2.l none,aG w5 a2.freed]) (more:=[.box b8 [(.d (.str a7.Tag)),(.d (.str a7.Key)),(.d (.str a7.Text)),(.d (.sl ((a7.aI).map ay) false)),(.d (.sl ((a7.Kids).map ai) false))]]) (H10.sl [1,2,3,0] rfl rfl) rfl (az rfl rfl) (cK E n _ _ _ hzz11 b1 v3 ws4 w5) (.cons (.refl _) (.cons (.refl _) .nil)) rfl ?_
 rintro _ S12 _ ⟨rfl,rfl⟩ H13
 have H14:Has B0 S12 [.box b8 [(.d (.str a7.Tag)),(.d (.str a7.Key)),(.d (.str a7.Text)),(.d (.sl ((a7.aI).map ay) false)),(.d (.sl ((a7.Kids).map ai) false))],.box b1 [v3,w5],aA ae ah.kids 7 5 v3 ws4 a2.l none,aG w5 a2.freed]:=H13.sl [3,0,1,2] rfl rfl
 refine aj.val rfl (aa rfl) rfl ?_
 refine aj.val rfl (aa rfl) rfl ?_
 obtain ⟨z15,hzz15,h⟩:=bind_some h
 refine aj.bR (ins:=[.box b1 [v3,w5],aA ae ah.kids 7 5 v3 ws4 a2.l none,aG w5 a2.freed]) (more:=[.box b8 [(.d (.str a7.Tag)),(.d (.str a7.Key)),(.d (.str a7.Text)),(.d (.sl ((a7.aI).map ay) false)),(.d (.sl ((a7.Kids).map ai) false))]]) (H14.sl [1,2,3,0] rfl rfl) rfl (az rfl rfl) (jF E n _ _ _ hzz15 b1 v3 ws4 w5) (.cons (.refl _) (.cons (.refl _) .nil)) rfl ?_
 rintro _ S16 _ ⟨rfl,rfl⟩ H17
 have H18:Has B0 S16 [.box b8 [(.d (.str a7.Tag)),(.d (.str a7.Key)),(.d (.str a7.Text)),(.d (.sl ((a7.aI).map ay) false)),(.d (.sl ((a7.Kids).map ai) false))],.box b1 [v3,w5],aA ae ah.kids 7 5 v3 ws4 a2.l none,aG w5 a2.freed]:=H17.sl [3,0,1,2] rfl rfl
 refine aj.val rfl (ak rfl) rfl ?_
 refine aj.val rfl (ak rfl) rfl ?_
 refine aj.nil ?_
 refine aD.seq ?_
 refine aD.region E.obj rfl ?_
 refine aj.val rfl (aa rfl) rfl ?_
 refine aj.val rfl (aa rfl) rfl ?_
 obtain ⟨z19,hzz19,h⟩:=bind_some h
 refine aj.bR (ins:=[.box b1 [v3,w5],aA ae ah.kids 7 5 v3 ws4 a2.l none,aG w5 a2.freed]) (more:=[.box b8 [(.d (.str a7.Tag)),(.d (.str a7.Key)),(.d (.str a7.Text)),(.d (.sl ((a7.aI).map ay) false)),(.d (.sl ((a7.Kids).map ai) false))]]) (H18.sl [1,2,3,0] rfl rfl) rfl (az rfl rfl) (qc E n _ _ _ hzz19 b1 v3 ws4 w5) (.cons (.refl _) (.cons (.refl _) .nil)) rfl ?_
 rintro _ S22 _ ⟨rfl,ws20,w21,rfl⟩ H23
 have H24:Has B0 S22 [.box b8 [(.d (.str a7.Tag)),(.d (.str a7.Key)),(.d (.str a7.Text)),(.d (.sl ((a7.aI).map ay) false)),(.d (.sl ((a7.Kids).map ai) false))],.box b1 [v3,w21],aA ae ah.kids 7 5 v3 ws20 z19.2.l none,aG w21 z19.2.freed]:=H23.sl [3,0,1,2] rfl rfl
 refine aj.nil ?_
 refine aD.seq ?_
 refine aD.seq ?_
 refine aD.region E.obj rfl ?_
 refine aj.val rfl (aa rfl) rfl ?_
 refine aj.val rfl (aa rfl) rfl ?_
 refine aj.val rfl (aJ H24 (i:=0) rfl rfl (aW dX bE rfl)) rfl ?_
 refine aj.less (Less.agg' (d:=ai a7) (ax.eq rfl (ax.eq rfl (ax.eq rfl (ax.eq rfl (ax.eq rfl .nil))))) ((Tree.eq _).trans rfl)) ?_
 obtain ⟨z25,hzz25,h⟩:=bind_some h
 refine aj.bR (ins:=[.box b1 [v3,w21],aA ae ah.kids 7 5 v3 ws20 z19.2.l none,aG w21 z19.2.freed]) (more:=[.box b8 [(.d (.str a7.Tag)),(.d (.str a7.Key)),(.d (.str a7.Text)),(.d (.sl ((a7.aI).map ay) false)),(.d (.sl ((a7.Kids).map ai) false))]]) (H24.sl [1,2,3,0] rfl rfl) rfl (az rfl rfl) (uD E n _ _ _ _ hzz25 b1 v3 ws20 w21) (.cons (.refl _) (.cons (.refl _) (.cons (.refl _) .nil))) rfl ?_
 rintro _ S29 _ ⟨rfl,v26,ws27,w28,rfl⟩ H30
 have H31:Has B0 S29 [.box b8 [(.d (.str a7.Tag)),(.d (.str a7.Key)),(.d (.str a7.Text)),(.d (.sl ((a7.aI).map ay) false)),(.d (.sl ((a7.Kids).map ai) false))],.box b1 [v26,w28],aA ae ah.kids 7 5 v26 ws27 z25.2.l none,aG w28 z25.2.freed]:=H30.sl [3,0,1,2] rfl rfl
 refine aj.val rfl (gW rfl) rfl ?_
 refine aj.nil ?_
 refine aD.cond rfl (fun hb32=>?_) (fun hb32=>?_)
 ·
  replace h:=dH hb32 h
  refine aD.seq ?_
  refine aD.region E.obj rfl ?_
  refine aj.val rfl (aa rfl) rfl ?_
  refine aj.val rfl (aa rfl) rfl ?_
  refine aj.val rfl (aa rfl) rfl ?_
  obtain ⟨z33,hzz33,h⟩:=bind_some h
  refine aj.bR (ins:=[.box b1 [v26,w28],aA ae ah.kids 7 5 v26 ws27 z25.2.l none,aG w28 z25.2.freed]) (more:=[.box b8 [(.d (.str a7.Tag)),(.d (.str a7.Key)),(.d (.str a7.Text)),(.d (.sl ((a7.aI).map ay) false)),(.d (.sl ((a7.Kids).map ai) false))]]) (H31.sl [1,2,3,0] rfl rfl) rfl (az rfl rfl) (jq E n _ _ _ _ _ hzz33 b1 v26 ws27 w28) (.cons (.refl _) (.cons (.refl _) (.cons (.refl _) (.cons (.refl _) .nil)))) rfl ?_
  rintro _ S36 _ ⟨rfl,ws34,w35,rfl⟩ H37
  have H38:Has B0 S36 [.box b8 [(.d (.str a7.Tag)),(.d (.str a7.Key)),(.d (.str a7.Text)),(.d (.sl ((a7.aI).map ay) false)),(.d (.sl ((a7.Kids).map ai) false))],.box b1 [v26,w35],aA ae ah.kids 7 5 v26 ws34 z33.2.l none,aG w35 z33.2.freed]:=H37.sl [3,0,1,2] rfl rfl
  refine aj.nil ?_
  refine aD.seq ?_
  refine aD.region E.obj rfl ?_
  refine aj.val rfl (ak rfl) rfl ?_
  refine aj.nil ?_
  have hr:=Option.some.inj h
  subst hr
  exact aD.ret ⟨_,rfl,rfl,_,_,_,.refl _,(.refl _),⟨rfl,v26,ws34,w35,rfl⟩,H38.sl [1,2,3] rfl rfl⟩
 replace h:=dI hb32 h
 refine aD.skip ?_
 refine aD.seq ?_
 refine aD.region E.obj rfl ?_
 refine aj.val rfl (aa rfl) rfl ?_
 refine aj.val rfl (aa rfl) rfl ?_
 refine aj.val rfl (aa rfl) rfl ?_
 obtain ⟨z39,hzz39,h⟩:=bind_some h
 refine aj.bR (ins:=[.box b1 [v26,w28],aA ae ah.kids 7 5 v26 ws27 z25.2.l none,aG w28 z25.2.freed]) (more:=[.box b8 [(.d (.str a7.Tag)),(.d (.str a7.Key)),(.d (.str a7.Text)),(.d (.sl ((a7.aI).map ay) false)),(.d (.sl ((a7.Kids).map ai) false))]]) (H31.sl [1,2,3,0] rfl rfl) rfl (az rfl rfl) (gT E n _ _ _ _ hzz39 b1 v26 ws27 w28) (.cons (.refl _) (.cons (.refl _) (.cons (.refl _) .nil))) rfl ?_
 rintro _ S42 _ ⟨rfl,ws40,w41,rfl⟩ H43
 have H44:Has B0 S42 [.box b8 [(.d (.str a7.Tag)),(.d (.str a7.Key)),(.d (.str a7.Text)),(.d (.sl ((a7.aI).map ay) false)),(.d (.sl ((a7.Kids).map ai) false))],.box b1 [v26,w41],aA ae ah.kids 7 5 v26 ws40 z39.2.l none,aG w41 z39.2.freed]:=H43.sl [3,0,1,2] rfl rfl
 refine aj.nil ?_
 refine aD.seq ?_
 refine aD.region E.obj rfl ?_
 refine aj.val rfl (ak rfl) rfl ?_
 refine aj.nil ?_
 have hr:=Option.some.inj h
 subst hr
 exact aD.ret ⟨_,rfl,rfl,_,_,_,.refl _,(.refl _),⟨rfl,v26,ws40,w41,rfl⟩,H44.sl [1,2,3] rfl rfl⟩
theorem iJ (n:Nat) (a1:(List Tree)) (r:(List Tree)) (h:eQ n a1=some r):Dw R cfg.P 88 [(.sl ((a1).map ai) false)] (fun v l=>l=[.row 5 v ((r).map ai)]):=by
 unfold eQ at h
 refine Dw.of_wp (C:=wz) Try.func88 rfl NA rfl (fun S0 wf0=>?_)
 have H0:Has S0 S0 []:=Has.start wf0
 refine aD.seq ?_
 refine aD.region (iR E) rfl ?_
 refine aj.val rfl (ak rfl) rfl ?_
 refine aj.nil ?_
 refine aD.seq ?_
 refine aD.seq ?_
 refine aD.region (iR E) rfl ?_
 refine aj.val rfl (aa rfl) rfl ?_
 refine aj.Kt rfl rfl rfl LU rfl (fun bb hbb=>?_)
 refine aj.nil ?_
 refine aD.cond rfl (fun hb=>?_) (fun hb=>?_)
 ·
  have e:=map_nil (hbb hb)
  subst e
  have hr:=(mq h).2
  subst hr
  refine aD.seq ?_
  refine aD.region (iR E) rfl ?_
  refine aj.val rfl (ak rfl) rfl ?_
  refine aj.nil ?_
  exact aD.ret ⟨_,rfl,rfl,_,_,.refl _,rfl,H0.KZ 5⟩
 ·
  refine aD.skip ?_
  refine aD.seq ?_
  refine aD.region (iR E) rfl ?_
  refine aj.val rfl (qa J8 kJ dX) rfl ?_
  refine aj.val rfl (aa rfl) rfl ?_
  have H1:=H0.Iu 5
  refine aj.G6 (xs:=([]:(List Tree)).map ai) (ys:=(a1).map ai) (zs:=(r).map ai) H1 rfl rfl rfl (i:=0) rfl bE rfl IP KR kJ (kK (enc:=ai) h) II rfl (fJ (enc:=ai) (fun z=>(Tree.len z).trans bE.symm) _) (Hd (fun x=>Tree.flat x) _) rfl K3 rfl (qZ h) (fun v2 S2 H2=>?_)
  refine aj.val rfl (ak rfl) rfl ?_
  refine aj.nil ?_
  exact aD.ret ⟨_,rfl,rfl,_,_,.refl _,rfl,H2⟩
set_option maxRecDepth 20000 in
set_option maxHeartbeats 4000000 in
theorem uG:∀ (n:Nat) (a1:Tree) (r:Tree),lF n a1=some r→fE R cfg.P 82 [(ai a1)] (.d (ai r))
 | 0,a1,r,h=>by simp [lF] at h
 | n + 1,a1,r,h=>by
  have ih:=uG n
  unfold lF at h
  refine fE.of_wp (iR E).toObjOk (C:=wz) Try.func82 rfl NW rfl ?_
  have H0:Has aL aL []:=Has.pure
  refine aD.seq ?_
  refine aD.region (iR E) rfl ?_
  refine aj.box H0 rfl rfl rfl (Tree.dx _) rfl (fun b2 S3 H4=>?_)
  refine aj.alloc H4 rfl zK fO rfl rfl (fun b5 S6 H7=>?_)
  refine aj.nil ?_
  refine aD.seq ?_
  refine aD.region (iR E) rfl ?_
  refine aj.val rfl (aF rfl vk Ab rfl) rfl ?_
  refine aj.val rfl (aJ H7 (i:=1) rfl rfl (aS ER rfl)) rfl ?_
  obtain ⟨z8,hzz8,h⟩:=bind_some h
  refine aj.ret rfl (az rfl rfl) (dV E _ _ _ hzz8 _ _ (aN.eq .nil)) rfl ?_
  refine aj.val rfl (aF rfl vk Ab rfl) rfl ?_
  refine aj.store H7 (i:=1) rfl rfl rfl rfl rfl rfl Lf rfl LG rfl rfl rfl (fun S9 H10=>?_)
  refine aj.nil ?_
  refine aD.seq ?_
  refine aD.region (iR E) rfl ?_
  refine aj.val rfl (aF rfl ja oL rfl) rfl ?_
  refine aj.val rfl (aJ H10 (i:=1) rfl rfl (aS rU rfl)) rfl ?_
  obtain ⟨z11,hzz11,h⟩:=bind_some h
  refine aj.L6 H10 rfl (az rfl rfl) (iJ E n _ _ hzz11) (aN.eq .nil) rfl ?_
  rintro v12 S13 _ rfl H14
  refine aj.val rfl (aF rfl ja oL rfl) rfl ?_
  refine aj.store H14 (i:=2) rfl rfl rfl rfl (om (H14.at (i:=0) rfl)).2 rfl IV (om (H14.at (i:=0) rfl)).1 Jk rfl rfl rfl (fun S17 H18=>?_)
  refine aj.nil ?_
  refine aD.seq ?_
  refine aD.seq ?_
  refine aD.region (iR E) rfl ?_
  refine aj.val rfl (aF rfl ja oL rfl) rfl ?_
  refine aj.val rfl (aJ H18 (i:=2) rfl rfl (aS rU rfl)) rfl ?_
  refine aj.val rfl (GR H18 (i:=0) rfl rfl wE) rfl ?_
  refine aj.val rfl (aa rfl) rfl ?_
  refine aj.nil ?_
  refine aD.block ?_
  refine qo.start (B:=aL) (α:=(List Tree) × Int) (fun k a=>jK (lF n) a1 z8 z11 k a.1 a.2=some r) (fun a=>[(1,(.ptr b2 0 0)),(2,(.ptr b5 0 0)),(14,v12),(15,(.d (.int .i64 ((z11).length:Int)))),(16,(.d (.int .i64 a.2)))]) (fun a=>[.row 5 v12 ((a.1).map ai),.box b5 [(.d (.str [])),(.d (.str [])),(.d (.str [])),(.d .aO),(.d .aO)],.box b2 [(.d (.str a1.Tag)),(.d (.str a1.Key)),(.d (.str a1.Text)),(.d (.sl ((z8).map ay) false)),v12]]) ?_ ?_ n ⟨⟨z11,0⟩,_,_,S17,.refl _ _,.refl _,(au.r rfl (au.r rfl (au.r rfl (au.r rfl (au.r rfl au.nil))))),H18.sl [0,1,2] rfl rfl,h⟩
  ·
   intro a h; simp [jK] at h
  intro k29 a S25 H26 h
  obtain ⟨x27,x28⟩:=a
  replace h:jK (lF n) a1 z8 z11 (k29 + 1) x27 x28=some r:=h
  replace H26:Has aL S25 [.row 5 v12 ((x27).map ai),.box b5 [(.d (.str [])),(.d (.str [])),(.d (.str [])),(.d .aO),(.d .aO)],.box b2 [(.d (.str a1.Tag)),(.d (.str a1.Key)),(.d (.str a1.Text)),(.d (.sl ((z8).map ay) false)),v12]]:=H26
  unfold jK at h
  refine aD.seq ?_
  refine aD.region (iR E) rfl ?_
  refine aj.val rfl (aH rfl rfl dR) rfl ?_
  refine aj.nil ?_
  refine aD.seq ?_
  refine aD.cond rfl (fun hb30=>?_) (fun hb30=>?_)
  ·
   replace h:=dH hb30 h
   refine aD.skip ?_
   refine aD.seq ?_
   refine aD.block ?_
   refine aD.seq ?_
   refine aD.region (iR E) rfl ?_
   refine aj.val rfl (aa rfl) rfl ?_
   obtain ⟨z31,hzz31,h⟩:=bind_some h
   refine aj.Cv (enc:=ai) H26 rfl (i:=0) rfl rfl rfl hzz31 kJ jc ((Tree.len _).trans bE.symm) rfl ?_
   refine aj.Jh H26 rfl (i:=0) rfl hzz31 rfl (Tree.pR dX bE) rfl ?_
   refine aj.alloc H26 rfl zK fO rfl rfl (fun b32 S33 H34=>?_)
   refine aj.val rfl (ak rfl) rfl ?_
   refine aj.store H34 (i:=0) rfl rfl rfl rfl (Tree.dx _) rfl bE rfl jc rfl rfl rfl (fun S35 H36=>?_)
   refine aj.nil ?_
   obtain ⟨z37,hzz37,h⟩:=bind_some h
   obtain ⟨z38,hzz38,h⟩:=bind_some h
   refine aD.jf (iR E) lQ NU [(1,none),(2,none),(14,none),(15,none),(16,none)] (by kernel_rfl) [6] (by decide) [some (.ptr b2 0 4),some v12,some (.d (.int .i64 x28)),some (.d (ai z31)),some (.d (ai z37)),some (dh v12 (Int.toNat x28) 0),none] ?_
   refine ⟨[0,1,2,3,4,5],by kernel_rfl,?_,_,_,rfl,rfl,.step ?_⟩
   ·
    refine .v rfl rfl rfl rfl (aF rfl ja oL rfl) ?_
    refine .v rfl rfl rfl rfl (aJ H36 (i:=3) rfl rfl (aS rU rfl)) ?_
    refine .v rfl rfl rfl rfl (aa rfl) ?_
    refine .cons rfl rfl rfl (.step ?_) ?_
    ·
     refine aj.val rfl (aJ H36 (i:=0) rfl rfl (aW dX bE rfl)) rfl ?_
     refine aj.less (Less.agg' (d:=ai z31) (ax.eq rfl (ax.eq rfl (ax.eq rfl (ax.eq rfl (ax.eq rfl .nil))))) ((Tree.eq _).trans rfl)) ?_
     exact aj.nil ⟨_,_,rfl,fun _ ht=>by cases ht; exact ⟨rfl,.refl _⟩⟩
    refine .cons rfl rfl rfl (.step ?_) ?_
    ·
     refine aj.ret rfl (az rfl rfl) (ih _ _ hzz37 _ _ (aN.eq .nil)) rfl ?_
     exact aj.nil ⟨_,_,rfl,fun _ ht=>by cases ht; exact ⟨rfl,.refl _⟩⟩
    refine .cons rfl rfl rfl (.step ?_) ?_
    ·
     refine aj.Cv (enc:=ai) H36 rfl (i:=1) rfl rfl rfl hzz38 kJ jc ((Tree.len _).trans bE.symm) rfl ?_
     exact aj.nil ⟨_,_,rfl,fun _ ht=>by cases ht; exact ⟨rfl,.refl _⟩⟩
    exact .nil
   refine aj.AR (enc:=ai) (z':=z37) (cv:=[(.str z37.Tag),(.str z37.Key),(.str z37.Text),(.sl ((z37.aI).map ay) false),(.sl ((z37.Kids).map ai) false)]) H36 rfl (i:=1) rfl hzz38 rfl rfl (Tree.dx _) (.refl _) bE rfl jc (by rw [Tree.len]; rfl) (by rw [Tree.cells,Tree.cells]; rfl) (Tree.flat _) (fun S41 H42=>?_)
   refine aj.nil ⟨_,.any,_,rfl,(fun _ ht=>by cases ht),_,(.q (.o (.o (.w .any .nil)))),(fun _ ht=>by cases ht),?_⟩
   refine ⟨[],by kernel_rfl,?_,_,rfl,?_⟩
   ·
    exact .nil
   refine aD.region (iR E) rfl ?_
   refine aj.val rfl (aH rfl rfl dF) rfl ?_
   refine aj.val rfl (aa rfl) rfl ?_
   refine aj.nil ?_
   exact ⟨⟨(jl x27 x28 z37),(IntKind.wrap .i64 (x28 + 1))⟩,_,_,S41,.refl _ _,.refl _,(au.r rfl (au.r rfl (au.r rfl (au.r rfl (au.r rfl au.nil))))),H42.sl [1,2,3] rfl rfl,h⟩
  replace h:=dI hb30 h
  refine aD.exit ?_
  refine aD.seq ?_
  refine aD.region (iR E) rfl ?_
  refine aj.val rfl (aJ H26 (i:=2) rfl rfl (aW dX bE rfl)) rfl ?_
  refine aj.store H26 (i:=1) rfl rfl rfl rfl (nM _) rfl bE (nA _) jc rfl rfl rfl (fun S43 H44=>?_)
  refine aj.nil ?_
  obtain ⟨SF1,HF1,hgF1⟩:=H44.freeze (iR E).toObjOk (i:=0) (l':=[.box b5 [(.d (.str a1.Tag)),(.d (.str a1.Key)),(.d (.str a1.Text)),(.d (.sl ((z8).map ay) false)),(.d (.sl ((x27).map ai) false))],.box b2 [(.d (.str a1.Tag)),(.d (.str a1.Key)),(.d (.str a1.Text)),(.d (.sl ((z8).map ay) false)),(.d (.sl ((x27).map ai) false))]]) rfl (.box (.cons (.same _) (.cons (.same _) (.cons (.same _) (.cons (.same _) (.cons .it .nil))))) (.box (.cons (.same _) (.cons (.same _) (.cons (.same _) (.cons (.same _) (.cons .it .nil))))) .nil))
  refine aD.ghost (hgF1 _ _ [(1,(.ptr b2 0 0)),(2,(.ptr b5 0 0)),(14,(.d (.sl ((x27).map ai) false))),(15,(.d (.int .i64 ((z11).length:Int)))),(16,(.d (.int .i64 x28))),(17,(.d (.bool (decide (x28 < ((z11).length:Int))))))] (.cons rfl (.refl _) (.cons rfl (.refl _) (.it rfl (.cons rfl (.refl _) (.cons rfl (.refl _) (.cons rfl (.refl _) .nil))))))) ?_
  have hr:=Option.some.inj h
  subst hr
  exact aD.ret ⟨_,jw HF1 (i:=0) rfl rfl rfl (aW dX bE rfl),rfl,kR (aN.lZ (d:=ai (Tree.mk a1.Tag a1.Key a1.Text z8 x27)) (ax.eq rfl (ax.eq rfl (ax.eq rfl (ax.eq rfl (ax.eq rfl .nil))))) ((Tree.eq _).trans rfl))⟩
set_option maxRecDepth 20000 in
set_option maxHeartbeats 4000000 in
theorem tJ:∀ (n:Nat) (a1:Tree) (a2:Tree) (r:(Tree × Bool)),kF n a1 a2=some r→fE R cfg.P 83 [(ai a1),(ai a2)] (.tup [.d (ai r.1),.d (.bool r.2)])
 | 0,a1,a2,r,h=>by simp [kF] at h
 | n + 1,a1,a2,r,h=>by
  have ih:=tJ n
  unfold kF at h
  refine fE.of_wp (iR E).toObjOk (C:=wz) Try.func83 rfl MI rfl ?_
  have H0:Has aL aL []:=Has.pure
  refine aD.seq ?_
  refine aD.region (iR E) rfl ?_
  refine aj.box H0 rfl rfl rfl (Tree.dx _) rfl (fun b3 S4 H5=>?_)
  refine aj.box H5 rfl rfl rfl (Tree.dx _) rfl (fun b6 S7 H8=>?_)
  refine aj.alloc H8 rfl zK fO rfl rfl (fun b9 S10 H11=>?_)
  refine aj.val rfl (ak rfl) rfl ?_
  refine aj.nil ?_
  refine aD.seq ?_
  refine aD.seq ?_
  refine aD.region (iR E) rfl ?_
  refine aj.val rfl (aF rfl oQ uK rfl) rfl ?_
  refine aj.val rfl (aJ H11 (i:=2) rfl rfl (aS sW rfl)) rfl ?_
  refine aj.val rfl (aH rfl rfl lL) rfl ?_
  refine aj.nil ?_
  refine aD.cond rfl (fun hb12=>?_) (fun hb12=>?_)
  ·
   replace h:=dH hb12 h
   refine aD.seq ?_
   refine aD.region (iR E) rfl ?_
   refine aj.val rfl (aJ H11 (i:=1) rfl rfl (aW dX bE rfl)) rfl ?_
   refine aj.less (Less.agg' (d:=ai a2) (ax.eq rfl (ax.eq rfl (ax.eq rfl (ax.eq rfl (ax.eq rfl .nil))))) ((Tree.eq _).trans rfl)) ?_
   refine aj.I9 (enc:=ai) (xs:=[a2]) (vs:=[(.d (ai a2))]) (cs:=[[(.d (.str a2.Tag)),(.d (.str a2.Key)),(.d (.str a2.Text)),(.d (.sl ((a2.aI).map ay) false)),(.d (.sl ((a2.Kids).map ai) false))]]) H11 rfl IP kJ jc fO bE rfl (by decide) (.cons (Ed (Tree.dx _)) rfl .nil) rfl (.cons (by rw [Tree.cells]; exact .refl _) .nil) (fun z=>Tree.len z) (fun x=>Tree.flat x) rfl rfl (fun v13 S14 H15=>?_)
   refine aj.val rfl (aF rfl ja oL rfl) rfl ?_
   refine aj.store H15 (i:=3) rfl rfl rfl rfl (om (H15.at (i:=0) rfl)).2 rfl IV (om (H15.at (i:=0) rfl)).1 Jk rfl rfl rfl (fun S16 H17=>?_)
   refine aj.nil ?_
   refine aD.seq ?_
   refine aD.region (iR E) rfl ?_
   refine aj.val rfl (aJ H17 (i:=3) rfl rfl (aW dX bE rfl)) rfl ?_
   refine aj.store H17 (i:=1) rfl rfl rfl rfl (nM _) rfl bE (nA _) jc rfl rfl rfl (fun S18 H19=>?_)
   refine aj.val rfl (ak rfl) rfl ?_
   refine aj.nil ?_
   obtain ⟨SF1,HF1,hgF1⟩:=H19.freeze (iR E).toObjOk (i:=0) (l':=[.box b9 [(.d (.str a1.Tag)),(.d (.str a1.Key)),(.d (.str a1.Text)),(.d (.sl ((a1.aI).map ay) false)),(.d (.sl (([a2]).map ai) false))],.box b6 [(.d (.str a2.Tag)),(.d (.str a2.Key)),(.d (.str a2.Text)),(.d (.sl ((a2.aI).map ay) false)),(.d (.sl ((a2.Kids).map ai) false))],.box b3 [(.d (.str a1.Tag)),(.d (.str a1.Key)),(.d (.str a1.Text)),(.d (.sl ((a1.aI).map ay) false)),(.d (.sl (([a2]).map ai) false))]]) rfl (.box (.cons (.same _) (.cons (.same _) (.cons (.same _) (.cons (.same _) (.cons .it .nil))))) (.same (.box (.cons (.same _) (.cons (.same _) (.cons (.same _) (.cons (.same _) (.cons .it .nil))))) .nil)))
   refine aD.ghost (hgF1 _ _ [(0,(.d (ai a1))),(1,(.d (ai a2))),(2,(.ptr b3 0 0)),(3,(.ptr b6 0 0)),(4,(.ptr b9 0 0)),(5,(.d (.bool true))),(10,(.ptr b3 0 0)),(11,(.d (.str a1.Tag))),(12,(.d (.bool (a1.Tag == [111,117,116,108,101,116])))),(13,(.d (ai a2))),(14,(.d (.sl (([a2]).map ai) false))),(15,(.ptr b3 0 4))] (.cons rfl (.refl _) (.cons rfl (.refl _) (.cons rfl (.refl _) (.cons rfl (.refl _) (.cons rfl (.refl _) (.cons rfl (.refl _) (.cons rfl (.refl _) (.cons rfl (.refl _) (.cons rfl (.refl _) (.cons rfl (.refl _) (.it rfl (.cons rfl (.refl _) .nil))))))))))))) ?_
   have hr:=Option.some.inj h
   subst hr
   exact aD.ret ⟨_,nk HF1 (i:=0) rfl rfl rfl (aW dX bE rfl) rfl,rfl,Lg (aN.seq (aN.lZ (d:=ai (Tree.mk a1.Tag a1.Key a1.Text a1.aI [a2])) (ax.eq rfl (ax.eq rfl (ax.eq rfl (ax.eq rfl (ax.eq rfl .nil))))) ((Tree.eq _).trans rfl)) (aN.eq .nil))⟩
  replace h:=dI hb12 h
  refine aD.skip ?_
  refine aD.seq ?_
  refine aD.seq ?_
  refine aD.region (iR E) rfl ?_
  refine aj.val rfl (aF rfl ja oL rfl) rfl ?_
  refine aj.val rfl (aJ H11 (i:=2) rfl rfl (aS rU rfl)) rfl ?_
  refine aj.val rfl (cz rfl wE) rfl ?_
  refine aj.val rfl (aa rfl) rfl ?_
  refine aj.nil ?_
  refine aD.block ?_
  refine qo.start (B:=aL) (α:=Int) (fun k a=>jh n (kF n) a1 a2 k a=some r) (fun a=>[(2,(.ptr b3 0 0)),(3,(.ptr b6 0 0)),(4,(.ptr b9 0 0)),(18,(.d (.sl ((a1.Kids).map ai) false))),(19,(.d (.int .i64 ((a1.Kids).length:Int)))),(20,(.d (.int .i64 a)))]) (fun a=>[.box b9 [(.d (.str [])),(.d (.str [])),(.d (.str [])),(.d .aO),(.d .aO)],.box b6 [(.d (.str a2.Tag)),(.d (.str a2.Key)),(.d (.str a2.Text)),(.d (.sl ((a2.aI).map ay) false)),(.d (.sl ((a2.Kids).map ai) false))],.box b3 [(.d (.str a1.Tag)),(.d (.str a1.Key)),(.d (.str a1.Text)),(.d (.sl ((a1.aI).map ay) false)),(.d (.sl ((a1.Kids).map ai) false))]]) ?_ ?_ n ⟨0,_,_,S10,.refl _ _,.refl _,(au.r rfl (au.r rfl (au.r rfl (au.r rfl (au.r rfl (au.r rfl au.nil)))))),H11.sl [0,1,2] rfl rfl,h⟩
  ·
   intro a h; simp [jh] at h
  intro k28 x27 S25 H26 h
  replace h:jh n (kF n) a1 a2 (k28 + 1) x27=some r:=h
  replace H26:Has aL S25 [.box b9 [(.d (.str [])),(.d (.str [])),(.d (.str [])),(.d .aO),(.d .aO)],.box b6 [(.d (.str a2.Tag)),(.d (.str a2.Key)),(.d (.str a2.Text)),(.d (.sl ((a2.aI).map ay) false)),(.d (.sl ((a2.Kids).map ai) false))],.box b3 [(.d (.str a1.Tag)),(.d (.str a1.Key)),(.d (.str a1.Text)),(.d (.sl ((a1.aI).map ay) false)),(.d (.sl ((a1.Kids).map ai) false))]]:=H26
  unfold jh at h
  refine aD.seq ?_
  refine aD.region (iR E) rfl ?_
  refine aj.val rfl (aH rfl rfl dR) rfl ?_
  refine aj.nil ?_
  refine aD.seq ?_
  refine aD.cond rfl (fun hb29=>?_) (fun hb29=>?_)
  ·
   replace h:=dH hb29 h
   refine aD.skip ?_
   refine aD.seq ?_
   refine aD.block ?_
   refine aD.seq ?_
   refine aD.region (iR E) rfl ?_
   refine aj.val rfl (aa rfl) rfl ?_
   obtain ⟨z30,hzz30,h⟩:=bind_some h
   refine aj.val rfl (bX rfl rfl (dU (enc:=ai) hzz30 kJ jc ((Tree.len _).trans bE.symm))) rfl ?_
   refine aj.val rfl (bG rfl (Tree.pR dX bE)) rfl ?_
   refine aj.alloc H26 rfl zK fO rfl rfl (fun b31 S32 H33=>?_)
   refine aj.val rfl (ak rfl) rfl ?_
   refine aj.store H33 (i:=0) rfl rfl rfl rfl (Tree.dx _) rfl bE rfl jc rfl rfl rfl (fun S34 H35=>?_)
   refine aj.nil ?_
   refine aD.seq ?_
   refine aD.region (iR E) rfl ?_
   refine aj.val rfl (aJ H35 (i:=0) rfl rfl (aW dX bE rfl)) rfl ?_
   refine aj.less (Less.agg' (d:=ai z30) (ax.eq rfl (ax.eq rfl (ax.eq rfl (ax.eq rfl (ax.eq rfl .nil))))) ((Tree.eq _).trans rfl)) ?_
   refine aj.val rfl (aJ H35 (i:=2) rfl rfl (aW dX bE rfl)) rfl ?_
   refine aj.less (Less.agg' (d:=ai a2) (ax.eq rfl (ax.eq rfl (ax.eq rfl (ax.eq rfl (ax.eq rfl .nil))))) ((Tree.eq _).trans rfl)) ?_
   obtain ⟨z36,hzz36,h⟩:=bind_some h
   refine aj.ret rfl (az rfl rfl) (ih _ _ _ hzz36 _ _ (aN.eq (aN.eq .nil))) rfl ?_
   refine aj.val rfl (aa rfl) rfl ?_
   refine aj.val rfl (eu rfl rfl) rfl ?_
   refine aj.val rfl (eu rfl rfl) rfl ?_
   refine aj.alloc H35 rfl zK fO rfl rfl (fun b37 S38 H39=>?_)
   refine aj.store H39 (i:=0) rfl rfl rfl rfl (Tree.dx _) rfl bE rfl jc rfl rfl rfl (fun S40 H41=>?_)
   refine aj.val rfl (ak rfl) rfl ?_
   refine aj.nil ?_
   refine aD.seq ?_
   refine aD.region (iR E) rfl ?_
   refine aj.val rfl (aa rfl) rfl ?_
   refine aj.nil ?_
   refine aD.cond rfl (fun hb42=>?_) (fun hb42=>?_)
   ·
    replace h:=dH hb42 h
    refine aD.seq ?_
    refine aD.region (iR E) rfl ?_
    refine aj.val rfl (aF rfl ja oL rfl) rfl ?_
    refine aj.val rfl (aJ H41 (i:=4) rfl rfl (aS rU rfl)) rfl ?_
    obtain ⟨z43,hzz43,h⟩:=bind_some h
    refine aj.L6 H41 rfl (az rfl rfl) (iJ E n _ _ hzz43) (aN.eq .nil) rfl ?_
    rintro v44 S45 _ rfl H46
    refine aj.val rfl (aF rfl ja oL rfl) rfl ?_
    refine aj.store H46 (i:=5) rfl rfl rfl rfl (om (H46.at (i:=0) rfl)).2 rfl IV (om (H46.at (i:=0) rfl)).1 Jk rfl rfl rfl (fun S49 H50=>?_)
    refine aj.nil ?_
    refine aD.seq ?_
    refine aD.region (iR E) rfl ?_
    refine aj.val rfl (aF rfl ja oL rfl) rfl ?_
    refine aj.val rfl (aJ H50 (i:=5) rfl rfl (aS rU rfl)) rfl ?_
    refine aj.val rfl (aa rfl) rfl ?_
    refine aj.val rfl (aJ H50 (i:=1) rfl rfl (aW dX bE rfl)) rfl ?_
    refine aj.less (Less.agg' (d:=ai z36.1) (ax.eq rfl (ax.eq rfl (ax.eq rfl (ax.eq rfl (ax.eq rfl .nil))))) ((Tree.eq _).trans rfl)) ?_
    obtain ⟨z51,hzz51,h⟩:=bind_some h
    refine aj.Cv (enc:=ai) H50 rfl (i:=0) rfl rfl rfl hzz51 kJ jc ((Tree.len _).trans bE.symm) rfl ?_
    refine aj.AR (enc:=ai) (z':=z36.1) (cv:=[(.str z36.1.Tag),(.str z36.1.Key),(.str z36.1.Text),(.sl ((z36.1.aI).map ay) false),(.sl ((z36.1.Kids).map ai) false)]) H50 rfl (i:=0) rfl hzz51 rfl rfl (Tree.dx _) (.refl _) bE rfl jc (by rw [Tree.len]; rfl) (by rw [Tree.cells,Tree.cells]; rfl) (Tree.flat _) (fun S52 H53=>?_)
    refine aj.nil ?_
    refine aD.seq ?_
    refine aD.region (iR E) rfl ?_
    refine aj.val rfl (aJ H53 (i:=5) rfl rfl (aW dX bE rfl)) rfl ?_
    refine aj.store H53 (i:=3) rfl rfl rfl rfl (nM _) rfl bE (nA _) jc rfl rfl rfl (fun S54 H55=>?_)
    refine aj.val rfl (ak rfl) rfl ?_
    refine aj.nil ?_
    obtain ⟨SF2,HF2,hgF2⟩:=H55.freeze (iR E).toObjOk (i:=0) (l':=[.box b37 [(.d (.str z36.1.Tag)),(.d (.str z36.1.Key)),(.d (.str z36.1.Text)),(.d (.sl ((z36.1.aI).map ay) false)),(.d (.sl ((z36.1.Kids).map ai) false))],.box b31 [(.d (.str z30.Tag)),(.d (.str z30.Key)),(.d (.str z30.Text)),(.d (.sl ((z30.aI).map ay) false)),(.d (.sl ((z30.Kids).map ai) false))],.box b9 [(.d (.str a1.Tag)),(.d (.str a1.Key)),(.d (.str a1.Text)),(.d (.sl ((a1.aI).map ay) false)),(.d (.sl (((jl z43 x27 z36.1)).map ai) false))],.box b6 [(.d (.str a2.Tag)),(.d (.str a2.Key)),(.d (.str a2.Text)),(.d (.sl ((a2.aI).map ay) false)),(.d (.sl ((a2.Kids).map ai) false))],.box b3 [(.d (.str a1.Tag)),(.d (.str a1.Key)),(.d (.str a1.Text)),(.d (.sl ((a1.aI).map ay) false)),(.d (.sl (((jl z43 x27 z36.1)).map ai) false))]]) rfl (.same (.same (.box (.cons (.same _) (.cons (.same _) (.cons (.same _) (.cons (.same _) (.cons .it .nil))))) (.same (.box (.cons (.same _) (.cons (.same _) (.cons (.same _) (.cons (.same _) (.cons .it .nil))))) .nil)))))
    refine aD.ghost (hgF2 _ _ [(2,(.ptr b3 0 0)),(3,(.ptr b6 0 0)),(4,(.ptr b9 0 0)),(5,(.d (.bool true))),(6,(.d (.int .i64 x27))),(7,(.ptr b31 0 0)),(8,(.ptr b37 0 0)),(9,(.d (.bool z36.2))),(18,(.d (.sl ((a1.Kids).map ai) false))),(19,(.d (.int .i64 ((a1.Kids).length:Int)))),(20,(.d (.int .i64 x27))),(21,(.d (.bool (decide (x27 < ((a1.Kids).length:Int)))))),(22,(.d (.int .i64 x27))),(23,(.eptr (ai z30) 0)),(24,(.d (ai z30))),(25,(.tup [(.d (ai z36.1)),(.d (.bool z36.2))])),(26,(.d (ai z30))),(27,(.d (ai a2))),(28,(.tup [(.d (ai z36.1)),(.d (.bool z36.2))])),(29,(.d (ai z36.1))),(30,(.d (.bool z36.2))),(31,(.d (.bool z36.2))),(32,(.ptr b3 0 4)),(33,(.d (.sl ((a1.Kids).map ai) false))),(34,(.d (.sl (((jl z43 x27 z36.1)).map ai) false))),(35,(.ptr b3 0 4)),(36,(.ptr b3 0 4)),(37,(.d (.sl (((jl z43 x27 z36.1)).map ai) false))),(38,(.d (.int .i64 x27))),(39,(.d (ai z36.1)))] (.cons rfl (.refl _) (.cons rfl (.refl _) (.cons rfl (.refl _) (.cons rfl (.refl _) (.cons rfl (.refl _) (.cons rfl (.refl _) (.cons rfl (.refl _) (.cons rfl (.refl _) (.cons rfl (.refl _) (.cons rfl (.refl _) (.cons rfl (.refl _) (.cons rfl (.refl _) (.cons rfl (.refl _) (.cons rfl (.refl _) (.cons rfl (.refl _) (.cons rfl (.refl _) (.cons rfl (.refl _) (.cons rfl (.refl _) (.cons rfl (.refl _) (.cons rfl (.refl _) (.cons rfl (.refl _) (.cons rfl (.refl _) (.cons rfl (.refl _) (.cons rfl (.refl _) (.it rfl (.cons rfl (.refl _) (.cons rfl (.refl _) (.it rfl (.cons rfl (.refl _) (.cons rfl (.refl _) .nil))))))))))))))))))))))))))))))) ?_
    have hr:=Option.some.inj h
    subst hr
    exact aD.ret ⟨_,nk HF2 (i:=2) rfl rfl rfl (aW dX bE rfl) rfl,rfl,Lg (aN.seq (aN.lZ (d:=ai (Tree.mk a1.Tag a1.Key a1.Text a1.aI (jl z43 x27 z36.1))) (ax.eq rfl (ax.eq rfl (ax.eq rfl (ax.eq rfl (ax.eq rfl .nil))))) ((Tree.eq _).trans rfl)) (aN.eq .nil))⟩
   replace h:=dI hb42 h
   refine aD.skip ?_
   refine aD.region (iR E) rfl ?_
   refine aj.val rfl (aH rfl rfl dF) rfl ?_
   refine aj.val rfl (aa rfl) rfl ?_
   refine aj.nil ?_
   exact ⟨(IntKind.wrap .i64 (x27 + 1)),_,_,S40,.refl _ _,.refl _,(au.r rfl (au.r rfl (au.r rfl (au.r rfl (au.r rfl (au.r rfl au.nil)))))),H41.sl [2,3,4] rfl rfl,h⟩
  replace h:=dI hb29 h
  refine aD.exit ?_
  refine aD.seq ?_
  refine aD.region (iR E) rfl ?_
  refine aj.val rfl (aJ H26 (i:=2) rfl rfl (aW dX bE rfl)) rfl ?_
  refine aj.less (Less.agg' (d:=ai a1) (ax.eq rfl (ax.eq rfl (ax.eq rfl (ax.eq rfl (ax.eq rfl .nil))))) ((Tree.eq _).trans rfl)) ?_
  refine aj.store H26 (i:=0) rfl rfl rfl rfl (Tree.dx _) rfl bE rfl jc rfl rfl rfl (fun S56 H57=>?_)
  refine aj.val rfl (ak rfl) rfl ?_
  refine aj.nil ?_
  have hr:=Option.some.inj h
  subst hr
  exact aD.ret ⟨_,nk H57 (i:=0) rfl rfl rfl (aW dX bE rfl) rfl,rfl,Lg (aN.seq (aN.lZ (d:=ai a1) (ax.eq rfl (ax.eq rfl (ax.eq rfl (ax.eq rfl (ax.eq rfl .nil))))) ((Tree.eq _).trans rfl)) (aN.eq .nil))⟩
set_option maxRecDepth 20000 in
set_option maxHeartbeats 4000000 in
theorem lU:∀ (n:Nat) (a1:(List Tree)) (r:Tree),jC n a1=some r→fE R cfg.P 57 [(.sl ((a1).map ai) false)] (.d (ai r))
 | 0,a1,r,h=>by simp [jC] at h
 | n + 1,a1,r,h=>by
  have ih:=lU n
  unfold jC at h
  refine fE.of_wp E.obj.toObjOk (C:=cfg) Try.func57 rfl N8 rfl ?_
  have H0:Has aL aL []:=Has.pure
  refine aD.seq ?_
  refine aD.region E.obj rfl ?_
  refine aj.alloc H0 rfl rV fO rfl rfl (fun b2 S3 H4=>?_)
  refine aj.nil ?_
  refine aD.seq ?_
  refine aD.seq ?_
  refine aD.region E.obj rfl ?_
  refine aj.val rfl (aa rfl) rfl ?_
  refine aj.val rfl (cz rfl wE) rfl ?_
  refine aj.val rfl (aH rfl rfl bD) rfl ?_
  refine aj.nil ?_
  refine aD.cond rfl (fun hb5=>?_) (fun hb5=>?_)
  ·
   replace h:=dH hb5 h
   refine aD.seq ?_
   refine aD.region E.obj rfl ?_
   refine aj.val rfl (bM (cs:=[(.d (.str [])),(.d (.str [])),(.d (.str [])),(.d .aO),(.d .aO)]) fO rfl (bq) rfl) rfl ?_
   refine aj.less (Less.agg' (d:=ai (Tree.mk [] [] [] [] [])) (ax.eq rfl (ax.eq rfl (ax.eq rfl (ax.dE rfl (.aO false) rfl rfl (ax.dE rfl (.aO false) rfl rfl .nil))))) ((Tree.eq _).trans rfl)) ?_
   refine aj.store H4 (i:=0) rfl rfl rfl rfl (Tree.dx _) rfl bE rfl jc rfl rfl rfl (fun S6 H7=>?_)
   refine aj.nil ?_
   have hr:=Option.some.inj h
   subst hr
   exact aD.ret ⟨_,jw H7 (i:=0) rfl rfl rfl (aW dX bE rfl),rfl,kR (aN.lZ (d:=ai (Tree.mk [] [] [] [] [])) (ax.eq rfl (ax.eq rfl (ax.eq rfl (ax.eq rfl (ax.eq rfl .nil))))) ((Tree.eq _).trans rfl))⟩
  replace h:=dI hb5 h
  refine aD.skip ?_
  refine aD.seq ?_
  refine aD.region E.obj rfl ?_
  refine aj.val rfl (aa rfl) rfl ?_
  obtain ⟨z8,hzz8,h⟩:=bind_some h
  refine aj.val rfl (bX rfl rfl (dU (enc:=ai) hzz8 kJ jc ((Tree.len _).trans bE.symm))) rfl ?_
  refine aj.val rfl (bG rfl (Tree.pR dX bE)) rfl ?_
  obtain ⟨z9,hzz9,h⟩:=bind_some h
  refine aj.ret rfl (az rfl rfl) (uG E _ _ _ hzz9 _ _ (aN.eq .nil)) rfl ?_
  refine aj.alloc H4 rfl rV fO rfl rfl (fun b10 S11 H12=>?_)
  refine aj.store H12 (i:=0) rfl rfl rfl rfl (Tree.dx _) rfl bE rfl jc rfl rfl rfl (fun S13 H14=>?_)
  refine aj.nil ?_
  refine aD.join (B:=aL) (α:=Str × Str × Str × (List Attr) × (List Tree)) (fun a=>iU a.1 a.2.1 a.2.2.1 a.2.2.2.1 a.2.2.2.2=some r) (fun a=>[(2,(.ptr b2 0 0)),(3,(.ptr b10 0 0))]) (fun a=>[.box b10 [(.d (.str a.1)),(.d (.str a.2.1)),(.d (.str a.2.2.1)),(.d (.sl ((a.2.2.2.1).map ay) false)),(.d (.sl ((a.2.2.2.2).map ai) false))],.box b2 [(.d (.str [])),(.d (.str [])),(.d (.str [])),(.d .aO),(.d .aO)]]) ?_ ?_
  ·
   intro a S15 H16 h
   obtain ⟨x17,x18,x19,x20,x21⟩:=a
   replace h:iU x17 x18 x19 x20 x21=some r:=h
   replace H16:Has aL S15 [.box b10 [(.d (.str x17)),(.d (.str x18)),(.d (.str x19)),(.d (.sl ((x20).map ay) false)),(.d (.sl ((x21).map ai) false))],.box b2 [(.d (.str [])),(.d (.str [])),(.d (.str [])),(.d .aO),(.d .aO)]]:=H16
   unfold iU at h
   refine aD.seq ?_
   refine aD.region E.obj rfl ?_
   refine aj.val rfl (aJ H16 (i:=0) rfl rfl (aW dX bE rfl)) rfl ?_
   refine aj.less (Less.agg' (d:=ai (Tree.mk x17 x18 x19 x20 x21)) (ax.eq rfl (ax.eq rfl (ax.eq rfl (ax.eq rfl (ax.eq rfl .nil))))) ((Tree.eq _).trans rfl)) ?_
   refine aj.store H16 (i:=1) rfl rfl rfl rfl (Tree.dx _) rfl bE rfl jc rfl rfl rfl (fun S23 H24=>?_)
   refine aj.nil ?_
   have hr:=Option.some.inj h
   subst hr
   exact aD.ret ⟨_,jw H24 (i:=1) rfl rfl rfl (aW dX bE rfl),rfl,kR (aN.lZ (d:=ai (Tree.mk x17 x18 x19 x20 x21)) (ax.eq rfl (ax.eq rfl (ax.eq rfl (ax.eq rfl (ax.eq rfl .nil))))) ((Tree.eq _).trans rfl))⟩
  refine aD.seq ?_
  refine aD.region E.obj rfl ?_
  refine aj.val rfl (aa rfl) rfl ?_
  refine aj.val rfl (cz rfl wE) rfl ?_
  refine aj.val rfl (aH rfl rfl sP) rfl ?_
  refine aj.nil ?_
  refine aD.cond rfl (fun hb25=>?_) (fun hb25=>?_)
  ·
   replace h:=dH hb25 h
   obtain ⟨z26,hzz26,h⟩:=bind_some h
   obtain ⟨z27,hzz27,h⟩:=bind_some h
   obtain ⟨z28,hzz28,h⟩:=bind_some h
   refine aD.jf E.obj lQ M4 [(2,none),(3,none)] (by kernel_rfl) [8] (by decide) [some (.d (ai z9)),some (.d (.sl ((a1).map ai) false)),some (.d (.sl ((z26).map ai) false)),some (.d (ai z27)),some (.tup [(.d (ai z28.1)),(.d (.bool z28.2))]),some (.tup [(.d (ai z28.1)),(.d (.bool z28.2))]),some (.d (ai z28.1)),some (.d (.bool z28.2)),none] ?_
   refine ⟨[0,1,2,3,4,5,6,7],by kernel_rfl,?_,_,_,rfl,rfl,.step ?_⟩
   ·
    refine .cons rfl rfl rfl (.step ?_) ?_
    ·
     refine aj.val rfl (aJ H14 (i:=0) rfl rfl (aW dX bE rfl)) rfl ?_
     refine aj.less (Less.agg' (d:=ai z9) (ax.eq rfl (ax.eq rfl (ax.eq rfl (ax.eq rfl (ax.eq rfl .nil))))) ((Tree.eq _).trans rfl)) ?_
     exact aj.nil ⟨_,_,rfl,fun _ ht=>by cases ht; exact ⟨rfl,.refl _⟩⟩
    refine .v rfl rfl rfl rfl (aa rfl) ?_
    refine .v rfl rfl rfl rfl (E8 rfl rfl kJ NC (fun z=>(Tree.len z).trans bE.symm) hzz26) ?_
    refine .cons rfl rfl rfl (.step ?_) ?_
    ·
     refine aj.ret rfl (az rfl rfl) (ih _ _ hzz27 _ _ (aN.eq .nil)) rfl ?_
     exact aj.nil ⟨_,_,rfl,fun _ ht=>by cases ht; exact ⟨rfl,.refl _⟩⟩
    refine .cons rfl rfl rfl (.step ?_) ?_
    ·
     refine aj.ret rfl (az rfl rfl) (tJ E _ _ _ _ hzz28 _ _ (aN.eq (aN.eq .nil))) rfl ?_
     exact aj.nil ⟨_,_,rfl,fun _ ht=>by cases ht; exact ⟨rfl,.refl _⟩⟩
    refine .v rfl rfl rfl rfl (aa rfl) ?_
    refine .v rfl rfl rfl rfl (eu rfl rfl) ?_
    refine .v rfl rfl rfl rfl (eu rfl rfl) ?_
    exact .nil
   refine aj.store H14 (i:=0) rfl rfl rfl rfl (Tree.dx _) rfl bE rfl jc rfl rfl rfl (fun S31 H32=>?_)
   refine aj.nil ⟨_,.any,_,rfl,(fun _ ht=>by cases ht),_,(.q (.q (.w .any .nil))),(fun _ ht=>by cases ht),?_⟩
   refine ⟨[7],by kernel_rfl,?_,_,rfl,?_⟩
   ·
    refine .v rfl rfl rfl rfl (eu rfl rfl) ?_
    exact .nil
   exact ⟨⟨z28.1.Tag,z28.1.Key,z28.1.Text,z28.1.aI,z28.1.Kids⟩,_,_,S31,.refl _ _,.refl _,(au.r rfl (au.r rfl au.nil)),H32.sl [0,1] rfl rfl,h⟩
  replace h:=dI hb25 h
  refine aD.skip ?_
  exact ⟨⟨z9.Tag,z9.Key,z9.Text,z9.aI,z9.Kids⟩,_,_,S13,.refl _ _,.refl _,(au.r rfl (au.r rfl au.nil)),H14.sl [0,1] rfl rfl,h⟩
set_option maxRecDepth 20000 in
set_option maxHeartbeats 4000000 in
theorem oI (n:Nat)  (r:Bool) (h:iE n  = some r):fE R cfg.P 55 [] (.d (.bool r)):=by
 unfold iE at h
 refine fE.of_wp E.obj.toObjOk (C:=cfg) Try.func55 rfl Ny rfl ?_
 have H0:Has aL aL []:=Has.pure
 refine aD.seq ?_
 refine aD.region E.obj rfl ?_
 refine aj.val rfl (ak rfl) rfl ?_
 refine aj.nil ?_
 refine aD.seq ?_
 refine aD.region E.obj rfl ?_
 obtain ⟨z1,hzz1,h⟩:=bind_some h
 refine aj.bR (ins:=[]) (more:=[]) (H0.sl [] rfl rfl) rfl (az rfl rfl) (zG E n  _ hzz1 ) .nil rfl ?_
 rintro v2 S3 l4 hr5 H6
 rcases z1 with _ | x7
 ·
  obtain ⟨rfl,rfl⟩:=hr5
  replace h:=LV h
  replace H6:Has aL S3 []:=H6
  refine aj.val rfl (ak rfl) rfl ?_
  refine aj.nil ?_
  refine aD.seq ?_
  refine aD.seq ?_
  refine aD.region E.obj rfl ?_
  refine aj.val rfl (aa rfl) rfl ?_
  refine aj.val rfl (aH rfl rfl (lq JH)) rfl ?_
  refine aj.nil ?_
  refine aD.cond rfl (fun hb=>?_) (fun hb=>?_)
  ·
   refine aD.seq ?_
   refine aD.region E.obj rfl ?_
   refine aj.val rfl (ak rfl) rfl ?_
   refine aj.nil ?_
   have hr:=Option.some.inj h
   subst hr
   exact aD.ret ⟨_,rfl,rfl,kR (aN.eq .nil)⟩
  cases hb
 obtain ⟨b8,v9,ws10,w11,rfl,rfl⟩:=hr5
 replace h:=Mm h
 have H12:Has aL S3 [.box b8 [v9,w11],aA ae ah.kids 7 5 v9 ws10 x7.l none,aG w11 x7.freed]:=H6.sl [0,1,2] rfl rfl
 refine aj.val rfl (ak rfl) rfl ?_
 refine aj.nil ?_
 refine aD.seq ?_
 refine aD.seq ?_
 refine aD.region E.obj rfl ?_
 refine aj.val rfl (aa rfl) rfl ?_
 refine aj.val rfl (aH rfl rfl (Cr JH)) rfl ?_
 refine aj.nil ?_
 refine aD.cond rfl (fun hb=>?_) (fun hb=>?_)
 ·
  cases hb
 refine aD.skip ?_
 refine aD.seq ?_
 refine aD.region E.obj rfl ?_
 refine aj.val rfl (bM (cs:=[(.d (.str [111,117,116,108,101,116])),(.d (.str [])),(.d (.str [])),(.d .aO),(.d .aO)]) fO rfl (bq) (fV rfl rfl rfl rfl rfl)) rfl ?_
 refine aj.less (Less.agg' (d:=ai (Tree.mk [111,117,116,108,101,116] [] [] [] [])) (ax.eq rfl (ax.eq rfl (ax.eq rfl (ax.dE rfl (.aO false) rfl rfl (ax.dE rfl (.aO false) rfl rfl .nil))))) ((Tree.eq _).trans rfl)) ?_
 refine aj.alloc H12 rfl rV fO rfl rfl (fun b13 S14 H15=>?_)
 refine aj.store H15 (i:=0) rfl rfl rfl rfl (Tree.dx _) rfl bE rfl jc rfl rfl rfl (fun S16 H17=>?_)
 refine aj.nil ?_
 refine aD.seq ?_
 refine aD.region E.obj rfl ?_
 refine aj.val rfl (aa rfl) rfl ?_
 refine aj.val rfl (aJ H17 (i:=0) rfl rfl (aW dX bE rfl)) rfl ?_
 refine aj.less (Less.agg' (d:=ai (Tree.mk [111,117,116,108,101,116] [] [] [] [])) (ax.eq rfl (ax.eq rfl (ax.eq rfl (ax.eq rfl (ax.eq rfl .nil))))) ((Tree.eq _).trans rfl)) ?_
 refine aj.val rfl (aR (vs:=[(.d (ai (Tree.mk [111,117,116,108,101,116] [] [] [] [])))]) (ds:=[(ai (Tree.mk [111,117,116,108,101,116] [] [] [] []))]) tu kJ dX fO bE rfl (by decide) (.cons rfl (Tree.len _) .nil) rfl (by intro d hd; simp only [List.mem_cons,List.not_mem_nil,or_false] at hd; rcases hd with rfl <;> exact Tree.agg _) rfl) rfl ?_
 refine aj.val rfl (bM (cs:=[(.d (.str [109,97,105,110])),(.d (.str [])),(.d (.str [])),(.d .aO),(.d (.sl (([(Tree.mk [111,117,116,108,101,116] [] [] [] [])]).map ai) true))]) fO rfl (bq) (fV rfl rfl rfl rfl (fV rfl rfl rfl rfl rfl))) rfl ?_
 refine aj.less (Less.agg' (d:=ai (Tree.mk [109,97,105,110] [] [] [] [(Tree.mk [111,117,116,108,101,116] [] [] [] [])])) (ax.eq rfl (ax.eq rfl (ax.eq rfl (ax.dE rfl (.aO false) rfl rfl (ax.dE rfl (.iL _ _) rfl rfl .nil))))) ((Tree.eq _).trans rfl)) ?_
 obtain ⟨z18,hzz18,h⟩:=bind_some h
 refine aj.bR (ins:=[.box b8 [v9,w11],aA ae ah.kids 7 5 v9 ws10 x7.l none,aG w11 x7.freed]) (more:=[.box b13 [(.d (.str (Tree.mk [111,117,116,108,101,116] [] [] [] []).Tag)),(.d (.str (Tree.mk [111,117,116,108,101,116] [] [] [] []).Key)),(.d (.str (Tree.mk [111,117,116,108,101,116] [] [] [] []).Text)),(.d (.sl (((Tree.mk [111,117,116,108,101,116] [] [] [] []).aI).map ay) false)),(.d (.sl (((Tree.mk [111,117,116,108,101,116] [] [] [] []).Kids).map ai) false))]]) (H17.sl [1,2,3,0] rfl rfl) rfl (az rfl rfl) (jU E n _ _ _ hzz18 b8 v9 ws10 w11) (.cons (.refl _) (.cons (.refl _) .nil)) rfl ?_
 rintro _ S22 _ ⟨rfl,v19,ws20,w21,rfl⟩ H23
 have H24:Has aL S22 [.box b13 [(.d (.str (Tree.mk [111,117,116,108,101,116] [] [] [] []).Tag)),(.d (.str (Tree.mk [111,117,116,108,101,116] [] [] [] []).Key)),(.d (.str (Tree.mk [111,117,116,108,101,116] [] [] [] []).Text)),(.d (.sl (((Tree.mk [111,117,116,108,101,116] [] [] [] []).aI).map ay) false)),(.d (.sl (((Tree.mk [111,117,116,108,101,116] [] [] [] []).Kids).map ai) false))],.box b8 [v19,w21],aA ae ah.kids 7 5 v19 ws20 z18.2.l none,aG w21 z18.2.freed]:=H23.sl [3,0,1,2] rfl rfl
 refine aj.val rfl (ak rfl) rfl ?_
 refine aj.nil ?_
 refine aD.seq ?_
 refine aD.region E.obj rfl ?_
 refine aj.val rfl (aa rfl) rfl ?_
 refine aj.val rfl (bM (cs:=[(.d (.str [112])),(.d (.str [])),(.d (.str [])),(.d .aO),(.d .aO)]) fO rfl (bq) (fV rfl rfl rfl rfl rfl)) rfl ?_
 refine aj.less (Less.agg' (d:=ai (Tree.mk [112] [] [] [] [])) (ax.eq rfl (ax.eq rfl (ax.eq rfl (ax.dE rfl (.aO false) rfl rfl (ax.dE rfl (.aO false) rfl rfl .nil))))) ((Tree.eq _).trans rfl)) ?_
 obtain ⟨z25,hzz25,h⟩:=bind_some h
 refine aj.bR (ins:=[.box b8 [v19,w21],aA ae ah.kids 7 5 v19 ws20 z18.2.l none,aG w21 z18.2.freed]) (more:=[.box b13 [(.d (.str (Tree.mk [111,117,116,108,101,116] [] [] [] []).Tag)),(.d (.str (Tree.mk [111,117,116,108,101,116] [] [] [] []).Key)),(.d (.str (Tree.mk [111,117,116,108,101,116] [] [] [] []).Text)),(.d (.sl (((Tree.mk [111,117,116,108,101,116] [] [] [] []).aI).map ay) false)),(.d (.sl (((Tree.mk [111,117,116,108,101,116] [] [] [] []).Kids).map ai) false))]]) (H24.sl [1,2,3,0] rfl rfl) rfl (az rfl rfl) (jU E n _ _ _ hzz25 b8 v19 ws20 w21) (.cons (.refl _) (.cons (.refl _) .nil)) rfl ?_
 rintro _ S29 _ ⟨rfl,v26,ws27,w28,rfl⟩ H30
 have H31:Has aL S29 [.box b13 [(.d (.str (Tree.mk [111,117,116,108,101,116] [] [] [] []).Tag)),(.d (.str (Tree.mk [111,117,116,108,101,116] [] [] [] []).Key)),(.d (.str (Tree.mk [111,117,116,108,101,116] [] [] [] []).Text)),(.d (.sl (((Tree.mk [111,117,116,108,101,116] [] [] [] []).aI).map ay) false)),(.d (.sl (((Tree.mk [111,117,116,108,101,116] [] [] [] []).Kids).map ai) false))],.box b8 [v26,w28],aA ae ah.kids 7 5 v26 ws27 z25.2.l none,aG w28 z25.2.freed]:=H30.sl [3,0,1,2] rfl rfl
 refine aj.val rfl (ak rfl) rfl ?_
 refine aj.nil ?_
 refine aD.seq ?_
 refine aD.region E.obj rfl ?_
 refine aj.val rfl (aa rfl) rfl ?_
 refine aj.val rfl (aa rfl) rfl ?_
 refine aj.val rfl (aa rfl) rfl ?_
 obtain ⟨z32,hzz32,h⟩:=bind_some h
 refine aj.bR (ins:=[.box b8 [v26,w28],aA ae ah.kids 7 5 v26 ws27 z25.2.l none,aG w28 z25.2.freed]) (more:=[.box b13 [(.d (.str (Tree.mk [111,117,116,108,101,116] [] [] [] []).Tag)),(.d (.str (Tree.mk [111,117,116,108,101,116] [] [] [] []).Key)),(.d (.str (Tree.mk [111,117,116,108,101,116] [] [] [] []).Text)),(.d (.sl (((Tree.mk [111,117,116,108,101,116] [] [] [] []).aI).map ay) false)),(.d (.sl (((Tree.mk [111,117,116,108,101,116] [] [] [] []).Kids).map ai) false))]]) (H31.sl [1,2,3,0] rfl rfl) rfl (az rfl rfl) (gT E n _ _ _ _ hzz32 b8 v26 ws27 w28) (.cons (.refl _) (.cons (.refl _) (.cons (.refl _) .nil))) rfl ?_
 rintro _ S35 _ ⟨rfl,ws33,w34,rfl⟩ H36
 have H37:Has aL S35 [.box b13 [(.d (.str (Tree.mk [111,117,116,108,101,116] [] [] [] []).Tag)),(.d (.str (Tree.mk [111,117,116,108,101,116] [] [] [] []).Key)),(.d (.str (Tree.mk [111,117,116,108,101,116] [] [] [] []).Text)),(.d (.sl (((Tree.mk [111,117,116,108,101,116] [] [] [] []).aI).map ay) false)),(.d (.sl (((Tree.mk [111,117,116,108,101,116] [] [] [] []).Kids).map ai) false))],.box b8 [v26,w34],aA ae ah.kids 7 5 v26 ws33 z32.2.l none,aG w34 z32.2.freed]:=H36.sl [3,0,1,2] rfl rfl
 refine aj.val rfl (aa rfl) rfl ?_
 refine aj.val rfl (aa rfl) rfl ?_
 refine aj.val rfl (bM (cs:=[(.d (.str [98])),(.d (.str [])),(.d (.str [])),(.d .aO),(.d .aO)]) fO rfl (bq) (fV rfl rfl rfl rfl rfl)) rfl ?_
 refine aj.less (Less.agg' (d:=ai (Tree.mk [98] [] [] [] [])) (ax.eq rfl (ax.eq rfl (ax.eq rfl (ax.dE rfl (.aO false) rfl rfl (ax.dE rfl (.aO false) rfl rfl .nil))))) ((Tree.eq _).trans rfl)) ?_
 obtain ⟨z38,hzz38,h⟩:=bind_some h
 refine aj.bR (ins:=[.box b8 [v26,w34],aA ae ah.kids 7 5 v26 ws33 z32.2.l none,aG w34 z32.2.freed]) (more:=[.box b13 [(.d (.str (Tree.mk [111,117,116,108,101,116] [] [] [] []).Tag)),(.d (.str (Tree.mk [111,117,116,108,101,116] [] [] [] []).Key)),(.d (.str (Tree.mk [111,117,116,108,101,116] [] [] [] []).Text)),(.d (.sl (((Tree.mk [111,117,116,108,101,116] [] [] [] []).aI).map ay) false)),(.d (.sl (((Tree.mk [111,117,116,108,101,116] [] [] [] []).Kids).map ai) false))]]) (H37.sl [1,2,3,0] rfl rfl) rfl (az rfl rfl) (jH E n _ _ _ _ hzz38 b8 v26 ws33 w34) (.cons (.refl _) (.cons (.refl _) (.cons (.refl _) .nil))) rfl ?_
 rintro _ S42 _ ⟨rfl,v39,ws40,w41,rfl⟩ H43
 have H44:Has aL S42 [.box b13 [(.d (.str (Tree.mk [111,117,116,108,101,116] [] [] [] []).Tag)),(.d (.str (Tree.mk [111,117,116,108,101,116] [] [] [] []).Key)),(.d (.str (Tree.mk [111,117,116,108,101,116] [] [] [] []).Text)),(.d (.sl (((Tree.mk [111,117,116,108,101,116] [] [] [] []).aI).map ay) false)),(.d (.sl (((Tree.mk [111,117,116,108,101,116] [] [] [] []).Kids).map ai) false))],.box b8 [v39,w41],aA ae ah.kids 7 5 v39 ws40 z38.2.l none,aG w41 z38.2.freed]:=H43.sl [3,0,1,2] rfl rfl
 refine aj.val rfl (ak rfl) rfl ?_
 refine aj.val rfl (ak rfl) rfl ?_
 refine aj.nil ?_
 refine aD.seq ?_
 refine aD.region E.obj rfl ?_
 refine aj.val rfl (aa rfl) rfl ?_
 refine aj.val rfl (aa rfl) rfl ?_
 refine aj.val rfl (bM (cs:=[(.d (.str [108,105])),(.d (.str [])),(.d (.str [])),(.d .aO),(.d .aO)]) fO rfl (bq) (fV rfl rfl rfl rfl rfl)) rfl ?_
 refine aj.less (Less.agg' (d:=ai (Tree.mk [108,105] [] [] [] [])) (ax.eq rfl (ax.eq rfl (ax.eq rfl (ax.dE rfl (.aO false) rfl rfl (ax.dE rfl (.aO false) rfl rfl .nil))))) ((Tree.eq _).trans rfl)) ?_
 refine aj.val rfl (aJ H44 (i:=0) rfl rfl (aW dX bE rfl)) rfl ?_
 refine aj.less (Less.agg' (d:=ai (Tree.mk [111,117,116,108,101,116] [] [] [] [])) (ax.eq rfl (ax.eq rfl (ax.eq rfl (ax.eq rfl (ax.eq rfl .nil))))) ((Tree.eq _).trans rfl)) ?_
 refine aj.val rfl (aR (vs:=[(.d (ai (Tree.mk [108,105] [] [] [] []))),(.d (ai (Tree.mk [111,117,116,108,101,116] [] [] [] [])))]) (ds:=[(ai (Tree.mk [108,105] [] [] [] [])),(ai (Tree.mk [111,117,116,108,101,116] [] [] [] []))]) tu kJ dX fO bE rfl (by decide) (.cons rfl (Tree.len _) (.cons rfl (Tree.len _) .nil)) rfl (by intro d hd; simp only [List.mem_cons,List.not_mem_nil,or_false] at hd; rcases hd with rfl | rfl <;> exact Tree.agg _) rfl) rfl ?_
 refine aj.val rfl (bM (cs:=[(.d (.str [109,97,105,110])),(.d (.str [])),(.d (.str [])),(.d .aO),(.d (.sl (([(Tree.mk [108,105] [] [] [] []),(Tree.mk [111,117,116,108,101,116] [] [] [] [])]).map ai) true))]) fO rfl (bq) (fV rfl rfl rfl rfl (fV rfl rfl rfl rfl rfl))) rfl ?_
 refine aj.less (Less.agg' (d:=ai (Tree.mk [109,97,105,110] [] [] [] [(Tree.mk [108,105] [] [] [] []),(Tree.mk [111,117,116,108,101,116] [] [] [] [])])) (ax.eq rfl (ax.eq rfl (ax.eq rfl (ax.dE rfl (.aO false) rfl rfl (ax.dE rfl (.iL _ _) rfl rfl .nil))))) ((Tree.eq _).trans rfl)) ?_
 obtain ⟨z45,hzz45,h⟩:=bind_some h
 refine aj.bR (ins:=[.box b8 [v39,w41],aA ae ah.kids 7 5 v39 ws40 z38.2.l none,aG w41 z38.2.freed]) (more:=[.box b13 [(.d (.str (Tree.mk [111,117,116,108,101,116] [] [] [] []).Tag)),(.d (.str (Tree.mk [111,117,116,108,101,116] [] [] [] []).Key)),(.d (.str (Tree.mk [111,117,116,108,101,116] [] [] [] []).Text)),(.d (.sl (((Tree.mk [111,117,116,108,101,116] [] [] [] []).aI).map ay) false)),(.d (.sl (((Tree.mk [111,117,116,108,101,116] [] [] [] []).Kids).map ai) false))]]) (H44.sl [1,2,3,0] rfl rfl) rfl (az rfl rfl) (jH E n _ _ _ _ hzz45 b8 v39 ws40 w41) (.cons (.refl _) (.cons (.refl _) (.cons (.refl _) .nil))) rfl ?_
 rintro _ S49 _ ⟨rfl,v46,ws47,w48,rfl⟩ H50
 have H51:Has aL S49 [.box b13 [(.d (.str (Tree.mk [111,117,116,108,101,116] [] [] [] []).Tag)),(.d (.str (Tree.mk [111,117,116,108,101,116] [] [] [] []).Key)),(.d (.str (Tree.mk [111,117,116,108,101,116] [] [] [] []).Text)),(.d (.sl (((Tree.mk [111,117,116,108,101,116] [] [] [] []).aI).map ay) false)),(.d (.sl (((Tree.mk [111,117,116,108,101,116] [] [] [] []).Kids).map ai) false))],.box b8 [v46,w48],aA ae ah.kids 7 5 v46 ws47 z45.2.l none,aG w48 z45.2.freed]:=H50.sl [3,0,1,2] rfl rfl
 refine aj.val rfl (ak rfl) rfl ?_
 refine aj.nil ?_
 refine aD.seq ?_
 refine aD.region E.obj rfl ?_
 refine aj.val rfl (aa rfl) rfl ?_
 refine aj.val rfl (aa rfl) rfl ?_
 obtain ⟨z52,hzz52,h⟩:=bind_some h
 refine aj.bR (ins:=[.box b8 [v46,w48],aA ae ah.kids 7 5 v46 ws47 z45.2.l none,aG w48 z45.2.freed]) (more:=[.box b13 [(.d (.str (Tree.mk [111,117,116,108,101,116] [] [] [] []).Tag)),(.d (.str (Tree.mk [111,117,116,108,101,116] [] [] [] []).Key)),(.d (.str (Tree.mk [111,117,116,108,101,116] [] [] [] []).Text)),(.d (.sl (((Tree.mk [111,117,116,108,101,116] [] [] [] []).aI).map ay) false)),(.d (.sl (((Tree.mk [111,117,116,108,101,116] [] [] [] []).Kids).map ai) false))]]) (H51.sl [1,2,3,0] rfl rfl) rfl (az rfl rfl) (jY E n _ _ _ hzz52 b8 v46 ws47 w48) (.cons (.refl _) (.cons (.refl _) .nil)) rfl ?_
 rintro _ S53 _ ⟨rfl,rfl⟩ H54
 have H55:Has aL S53 [.box b13 [(.d (.str (Tree.mk [111,117,116,108,101,116] [] [] [] []).Tag)),(.d (.str (Tree.mk [111,117,116,108,101,116] [] [] [] []).Key)),(.d (.str (Tree.mk [111,117,116,108,101,116] [] [] [] []).Text)),(.d (.sl (((Tree.mk [111,117,116,108,101,116] [] [] [] []).aI).map ay) false)),(.d (.sl (((Tree.mk [111,117,116,108,101,116] [] [] [] []).Kids).map ai) false))],.box b8 [v46,w48],aA ae ah.kids 7 5 v46 ws47 z45.2.l none,aG w48 z45.2.freed]:=H54.sl [3,0,1,2] rfl rfl
 refine aj.val rfl (aa rfl) rfl ?_
 refine aj.val rfl (eu rfl rfl) rfl ?_
 refine aj.val rfl (eu rfl rfl) rfl ?_
 refine aj.alloc H55 rfl rV fO rfl rfl (fun b56 S57 H58=>?_)
 refine aj.store H58 (i:=0) rfl rfl rfl rfl (Tree.dx _) rfl bE rfl jc rfl rfl rfl (fun S59 H60=>?_)
 refine aj.val rfl (ak rfl) rfl ?_
 refine aj.nil ?_
 refine aD.seq ?_
 refine aD.region E.obj rfl ?_
 refine aj.val rfl (aa rfl) rfl ?_
 refine aj.val rfl (aa rfl) rfl ?_
 refine aj.jS 3 47 (.d (.bool (z32.1 && (!z38.1)))) ?_ ?_
 ·
  rcases Bool.eq_false_or_eq_true (z32.1) with hB61 | hB61
  ·
   refine aj.bool hB61 ?_
   refine aj.val rfl (aa rfl) rfl ?_
   refine aj.val rfl (gW rfl) rfl ?_
   refine aj.val rfl (aC (b:=true) rfl rfl) rfl ?_
   exact aj.nil ⟨_,rfl,(au.put (au.push rfl (au.push rfl (au.put (.refl _) (Less.eq (by rw [hB61]))))) (Less.eq (by rw [hB61]; rw [Bool.true_and])))⟩
  refine aj.bool hB61 ?_
  refine aj.no rfl rfl ?_
  refine aj.no rfl rfl ?_
  refine aj.val rfl (aC (b:=false) rfl rfl) rfl ?_
  exact aj.nil ⟨_,rfl,(au.put (au.push rfl (au.push rfl (au.put (.refl _) (Less.eq (by rw [hB61]))))) (Less.eq (by rw [hB61]; rw [Bool.false_and])))⟩
 refine aj.val rfl (aa rfl) rfl ?_
 refine aj.jS 2 50 (.d (.bool ((z32.1 && (!z38.1)) && z45.1))) ?_ ?_
 ·
  rcases Bool.eq_false_or_eq_true ((z32.1 && (!z38.1))) with hB62 | hB62
  ·
   refine aj.bool hB62 ?_
   refine aj.val rfl (aa rfl) rfl ?_
   refine aj.val rfl (aC (b:=true) rfl rfl) rfl ?_
   exact aj.nil ⟨_,rfl,(au.put (au.push rfl (au.put (.refl _) (Less.eq (by rw [hB62])))) (Less.eq (by rw [hB62]; rw [Bool.true_and])))⟩
  refine aj.bool hB62 ?_
  refine aj.no rfl rfl ?_
  refine aj.val rfl (aC (b:=false) rfl rfl) rfl ?_
  exact aj.nil ⟨_,rfl,(au.put (au.push rfl (au.put (.refl _) (Less.eq (by rw [hB62])))) (Less.eq (by rw [hB62]; rw [Bool.false_and])))⟩
 refine aj.val rfl (aa rfl) rfl ?_
 rcases Bool.eq_false_or_eq_true (((z32.1 && (!z38.1)) && z45.1)) with hB63 | hB63
 ·
  replace h:=dH hB63 h
  refine aj.bool hB63 ?_
  refine aj.val rfl (aa rfl) rfl ?_
  refine aj.val rfl (aa rfl) rfl ?_
  obtain ⟨z64,hzz64,h⟩:=bind_some h
  refine aj.bR (ins:=[.box b8 [v46,w48],aA ae ah.kids 7 5 v46 ws47 z45.2.l none,aG w48 z45.2.freed]) (more:=[.box b56 [(.d (.str z52.1.Tag)),(.d (.str z52.1.Key)),(.d (.str z52.1.Text)),(.d (.sl ((z52.1.aI).map ay) false)),(.d (.sl ((z52.1.Kids).map ai) false))],.box b13 [(.d (.str (Tree.mk [111,117,116,108,101,116] [] [] [] []).Tag)),(.d (.str (Tree.mk [111,117,116,108,101,116] [] [] [] []).Key)),(.d (.str (Tree.mk [111,117,116,108,101,116] [] [] [] []).Text)),(.d (.sl (((Tree.mk [111,117,116,108,101,116] [] [] [] []).aI).map ay) false)),(.d (.sl (((Tree.mk [111,117,116,108,101,116] [] [] [] []).Kids).map ai) false))]]) (H60.sl [2,3,4,0,1] rfl rfl) rfl (az rfl rfl) (jF E n _ _ _ hzz64 b8 v46 ws47 w48) (.cons (.refl _) (.cons (.refl _) .nil)) rfl ?_
  rintro _ S65 _ ⟨rfl,rfl⟩ H66
  have H67:Has aL S65 [.box b56 [(.d (.str z52.1.Tag)),(.d (.str z52.1.Key)),(.d (.str z52.1.Text)),(.d (.sl ((z52.1.aI).map ay) false)),(.d (.sl ((z52.1.Kids).map ai) false))],.box b13 [(.d (.str (Tree.mk [111,117,116,108,101,116] [] [] [] []).Tag)),(.d (.str (Tree.mk [111,117,116,108,101,116] [] [] [] []).Key)),(.d (.str (Tree.mk [111,117,116,108,101,116] [] [] [] []).Text)),(.d (.sl (((Tree.mk [111,117,116,108,101,116] [] [] [] []).aI).map ay) false)),(.d (.sl (((Tree.mk [111,117,116,108,101,116] [] [] [] []).Kids).map ai) false))],.box b8 [v46,w48],aA ae ah.kids 7 5 v46 ws47 z45.2.l none,aG w48 z45.2.freed]:=H66.sl [3,4,0,1,2] rfl rfl
  refine aj.val rfl (aa rfl) rfl ?_
  refine aj.val rfl (aH rfl rfl bD) rfl ?_
  refine aj.val rfl (aC (b:=true) rfl rfl) rfl ?_
  refine aj.val rfl (aa rfl) rfl ?_
  obtain ⟨z69,hzz69,h⟩:=bind_some h
  refine aj.jS 9 67 (.d (.bool z69)) ?_ ?_
  ·
   rcases Bool.eq_false_or_eq_true ((z64 == z25.1)) with hB68 | hB68
   ·
    refine aj.bool hB68 ?_
    replace hzz69:=dH hB68 hzz69
    refine aj.val rfl (aJ H67 (i:=0) rfl rfl (aW dX bE rfl)) rfl ?_
    refine aj.less (Less.agg' (d:=ai z52.1) (ax.eq rfl (ax.eq rfl (ax.eq rfl (ax.eq rfl (ax.eq rfl .nil))))) ((Tree.eq _).trans rfl)) ?_
    refine aj.val rfl (bM (cs:=[(.d (.str [108,105])),(.d (.str [])),(.d (.str [])),(.d .aO),(.d .aO)]) fO rfl (bq) (fV rfl rfl rfl rfl rfl)) rfl ?_
    refine aj.less (Less.agg' (d:=ai (Tree.mk [108,105] [] [] [] [])) (ax.eq rfl (ax.eq rfl (ax.eq rfl (ax.dE rfl (.aO false) rfl rfl (ax.dE rfl (.aO false) rfl rfl .nil))))) ((Tree.eq _).trans rfl)) ?_
    refine aj.val rfl (bM (cs:=[(.d (.str [112])),(.d (.str [])),(.d (.str [])),(.d .aO),(.d .aO)]) fO rfl (bq) (fV rfl rfl rfl rfl rfl)) rfl ?_
    refine aj.less (Less.agg' (d:=ai (Tree.mk [112] [] [] [] [])) (ax.eq rfl (ax.eq rfl (ax.eq rfl (ax.dE rfl (.aO false) rfl rfl (ax.dE rfl (.aO false) rfl rfl .nil))))) ((Tree.eq _).trans rfl)) ?_
    refine aj.val rfl (aR (vs:=[(.d (ai (Tree.mk [112] [] [] [] [])))]) (ds:=[(ai (Tree.mk [112] [] [] [] []))]) tu kJ dX fO bE rfl (by decide) (.cons rfl (Tree.len _) .nil) rfl (by intro d hd; simp only [List.mem_cons,List.not_mem_nil,or_false] at hd; rcases hd with rfl <;> exact Tree.agg _) rfl) rfl ?_
    refine aj.val rfl (bM (cs:=[(.d (.str [111,117,116,108,101,116])),(.d (.str [])),(.d (.str [])),(.d .aO),(.d (.sl (([(Tree.mk [112] [] [] [] [])]).map ai) true))]) fO rfl (bq) (fV rfl rfl rfl rfl (fV rfl rfl rfl rfl rfl))) rfl ?_
    refine aj.less (Less.agg' (d:=ai (Tree.mk [111,117,116,108,101,116] [] [] [] [(Tree.mk [112] [] [] [] [])])) (ax.eq rfl (ax.eq rfl (ax.eq rfl (ax.dE rfl (.aO false) rfl rfl (ax.dE rfl (.iL _ _) rfl rfl .nil))))) ((Tree.eq _).trans rfl)) ?_
    refine aj.val rfl (aR (vs:=[(.d (ai (Tree.mk [108,105] [] [] [] []))),(.d (ai (Tree.mk [111,117,116,108,101,116] [] [] [] [(Tree.mk [112] [] [] [] [])])))]) (ds:=[(ai (Tree.mk [108,105] [] [] [] [])),(ai (Tree.mk [111,117,116,108,101,116] [] [] [] [(Tree.mk [112] [] [] [] [])]))]) tu kJ dX fO bE rfl (by decide) (.cons rfl (Tree.len _) (.cons rfl (Tree.len _) .nil)) rfl (by intro d hd; simp only [List.mem_cons,List.not_mem_nil,or_false] at hd; rcases hd with rfl | rfl <;> exact Tree.agg _) rfl) rfl ?_
    refine aj.val rfl (bM (cs:=[(.d (.str [109,97,105,110])),(.d (.str [])),(.d (.str [])),(.d .aO),(.d (.sl (([(Tree.mk [108,105] [] [] [] []),(Tree.mk [111,117,116,108,101,116] [] [] [] [(Tree.mk [112] [] [] [] [])])]).map ai) true))]) fO rfl (bq) (fV rfl rfl rfl rfl (fV rfl rfl rfl rfl rfl))) rfl ?_
    refine aj.less (Less.agg' (d:=ai (Tree.mk [109,97,105,110] [] [] [] [(Tree.mk [108,105] [] [] [] []),(Tree.mk [111,117,116,108,101,116] [] [] [] [(Tree.mk [112] [] [] [] [])])])) (ax.eq rfl (ax.eq rfl (ax.eq rfl (ax.dE rfl (.aO false) rfl rfl (ax.dE rfl (.iL _ _) rfl rfl .nil))))) ((Tree.eq _).trans rfl)) ?_
    obtain ⟨z70,hzz70,hzz69⟩:=bind_some hzz69
    refine aj.ret rfl (az rfl rfl) (bH E _ _ _ _ hzz70 _ _ (aN.eq (aN.eq .nil))) rfl ?_
    refine aj.val rfl (aC (b:=true) rfl rfl) rfl ?_
    cases hzz69
    exact aj.nil ⟨_,rfl,(au.put (au.push rfl (au.push rfl (au.push rfl (au.push rfl (au.push rfl (au.push rfl (au.push rfl (au.push rfl (au.put (.refl _) (Less.eq (by rw [hB68]))))))))))) (.refl _))⟩
   refine aj.bool hB68 ?_
   refine aj.no rfl rfl ?_
   refine aj.no rfl rfl ?_
   refine aj.no rfl rfl ?_
   refine aj.no rfl rfl ?_
   refine aj.no rfl rfl ?_
   refine aj.no rfl rfl ?_
   refine aj.no rfl rfl ?_
   refine aj.no rfl rfl ?_
   refine aj.val rfl (aC (b:=false) rfl rfl) rfl ?_
   replace hzz69:=dI hB68 hzz69
   cases hzz69
   exact aj.nil ⟨_,rfl,(au.put (au.push rfl (au.push rfl (au.push rfl (au.push rfl (au.push rfl (au.push rfl (au.push rfl (au.push rfl (au.put (.refl _) (Less.eq (by rw [hB68]))))))))))) (.refl _))⟩
  refine aj.val rfl (aa rfl) rfl ?_
  rcases Bool.eq_false_or_eq_true (z69) with hB71 | hB71
  ·
   replace h:=dH hB71 h
   refine aj.bool hB71 ?_
   refine aj.val rfl (aa rfl) rfl ?_
   obtain ⟨z72,hzz72,h⟩:=bind_some h
   refine aj.bR (ins:=[.box b8 [v46,w48],aA ae ah.kids 7 5 v46 ws47 z45.2.l none,aG w48 z45.2.freed]) (more:=[.box b56 [(.d (.str z52.1.Tag)),(.d (.str z52.1.Key)),(.d (.str z52.1.Text)),(.d (.sl ((z52.1.aI).map ay) false)),(.d (.sl ((z52.1.Kids).map ai) false))],.box b13 [(.d (.str (Tree.mk [111,117,116,108,101,116] [] [] [] []).Tag)),(.d (.str (Tree.mk [111,117,116,108,101,116] [] [] [] []).Key)),(.d (.str (Tree.mk [111,117,116,108,101,116] [] [] [] []).Text)),(.d (.sl (((Tree.mk [111,117,116,108,101,116] [] [] [] []).aI).map ay) false)),(.d (.sl (((Tree.mk [111,117,116,108,101,116] [] [] [] []).Kids).map ai) false))]]) (H67.sl [2,3,4,0,1] rfl rfl) rfl (az rfl rfl) (cK E n _ _ _ hzz72 b8 v46 ws47 w48) (.cons (.refl _) (.cons (.refl _) .nil)) rfl ?_
   rintro _ S73 _ ⟨rfl,rfl⟩ H74
   have H75:Has aL S73 [.box b56 [(.d (.str z52.1.Tag)),(.d (.str z52.1.Key)),(.d (.str z52.1.Text)),(.d (.sl ((z52.1.aI).map ay) false)),(.d (.sl ((z52.1.Kids).map ai) false))],.box b13 [(.d (.str (Tree.mk [111,117,116,108,101,116] [] [] [] []).Tag)),(.d (.str (Tree.mk [111,117,116,108,101,116] [] [] [] []).Key)),(.d (.str (Tree.mk [111,117,116,108,101,116] [] [] [] []).Text)),(.d (.sl (((Tree.mk [111,117,116,108,101,116] [] [] [] []).aI).map ay) false)),(.d (.sl (((Tree.mk [111,117,116,108,101,116] [] [] [] []).Kids).map ai) false))],.box b8 [v46,w48],aA ae ah.kids 7 5 v46 ws47 z45.2.l none,aG w48 z45.2.freed]:=H74.sl [3,4,0,1,2] rfl rfl
   refine aj.val rfl (aH rfl rfl bD) rfl ?_
   refine aj.val rfl (aC (b:=true) rfl rfl) rfl ?_
   refine aj.val rfl (ak rfl) rfl ?_
   refine aj.nil ?_
   have hr:=Option.some.inj h
   subst hr
   exact aD.ret ⟨_,rfl,rfl,kR (aN.eq .nil)⟩
  replace h:=dI hB71 h
  refine aj.bool hB71 ?_
  refine aj.no rfl rfl ?_
  refine aj.no rfl rfl ?_
  refine aj.no rfl rfl ?_
  refine aj.val rfl (aC (b:=false) rfl rfl) rfl ?_
  refine aj.val rfl (ak rfl) rfl ?_
  refine aj.nil ?_
  have hr:=Option.some.inj h
  subst hr
  exact aD.ret ⟨_,rfl,rfl,kR (aN.eq .nil)⟩
 replace h:=dI hB63 h
 refine aj.bool hB63 ?_
 refine aj.no rfl rfl ?_
 refine aj.no rfl rfl ?_
 refine aj.no rfl rfl ?_
 refine aj.no rfl rfl ?_
 refine aj.no rfl rfl ?_
 refine aj.val rfl (aC (b:=false) rfl rfl) rfl ?_
 refine aj.val rfl (aa rfl) rfl ?_
 refine aj.no rfl rfl ?_
 refine aj.no rfl rfl ?_
 refine aj.no rfl rfl ?_
 refine aj.no rfl rfl ?_
 refine aj.no rfl rfl ?_
 refine aj.no rfl rfl ?_
 refine aj.no rfl rfl ?_
 refine aj.no rfl rfl ?_
 refine aj.val rfl (aC (b:=false) rfl rfl) rfl ?_
 refine aj.val rfl (aa rfl) rfl ?_
 refine aj.no rfl rfl ?_
 refine aj.no rfl rfl ?_
 refine aj.no rfl rfl ?_
 refine aj.val rfl (aC (b:=false) rfl rfl) rfl ?_
 refine aj.val rfl (ak rfl) rfl ?_
 refine aj.nil ?_
 have hr:=Option.some.inj h
 subst hr
 exact aD.ret ⟨_,rfl,rfl,kR (aN.eq .nil)⟩
end
end Pr
end Go.Ev

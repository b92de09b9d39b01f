import Derived.Test.YtdcagjnahedliaaDoorPartD
namespace Go.Ev
namespace Pr
set_option linter.unusedVariables false
set_option linter.unusedSimpArgs false
open Go.Proofs
section
variable {R:dm} (E:LY R)
include E
set_option maxRecDepth 20000 in
set_option maxHeartbeats 4000000 in
theorem mM (n:Nat) (a1:jB) (r:dK) (h:fM n a1=some r):bN R cfg.P 5 [(oC a1)] (.d (iW r)):=by
 unfold fM at h
 refine bN.of_wp (dZ E).toObjOk (C:=jI) Tryd.func5 rfl Qk rfl ?_
 have H0:Has aF aF []:=Has.pure
 refine ax.seq ?_
 refine ax.region (dZ E) rfl ?_
 refine ae.box H0 rfl rfl rfl (jB.bf _) rfl (fun b2 S3 H4=>?_)
 refine ae.alloc H4 rfl Fw wC rfl rfl (fun b5 S6 H7=>?_)
 refine ae.nil ?_
 refine ax.join (B:=aF) (α:=Nat × (List ak) × AV × Int) (fun a=>gU n a1 a.2.1 a.2.2.2=some r) (fun a=>[(1,(.ptr b2 0 0)),(2,(.ptr b5 0 0)),(3,(.ptr a.1 0 0))]) (fun a=>[.box b5 [(.d .aO),(.d .aO),(.d (.int .i64 0))],.box b2 [(.d (.sl ((a1.Table.Parents).map (D.int .i64)) false)),(.d (.sl ((a1.Table.Kinds).map (D.int .i64)) false)),(.d (.sl ((a1.Table.Texts).map (D.int .i64)) false)),(.d (.sl ((a1.Table.Rules).map (D.int .i64)) false)),(.d (.sl ((a1.Table.Flags).map (D.int .i64)) false)),(.d (.sl ((a1.Table.fq).map (D.int .i64)) false)),(.d (.sl ((a1.Table.Comps).map (D.int .i64)) false)),(.d (.sl ((a1.Parts).map dH) false)),(.d (.int .i64 a1.Cache))],.row 8 a.2.2.1 ((a.2.1).map aB),.box a.1 [a.2.2.1,(.d .aO),(.d (.int .i64 a.2.2.2))]]) ?_ ?_
 ·
  intro a S8 H9 h
  obtain ⟨b10,x11,v12,x13⟩:=a
  replace h:gU n a1 x11 x13=some r:=h
  replace H9:Has aF S8 [.box b5 [(.d .aO),(.d .aO),(.d (.int .i64 0))],.box b2 [(.d (.sl ((a1.Table.Parents).map (D.int .i64)) false)),(.d (.sl ((a1.Table.Kinds).map (D.int .i64)) false)),(.d (.sl ((a1.Table.Texts).map (D.int .i64)) false)),(.d (.sl ((a1.Table.Rules).map (D.int .i64)) false)),(.d (.sl ((a1.Table.Flags).map (D.int .i64)) false)),(.d (.sl ((a1.Table.fq).map (D.int .i64)) false)),(.d (.sl ((a1.Table.Comps).map (D.int .i64)) false)),(.d (.sl ((a1.Parts).map dH) false)),(.d (.int .i64 a1.Cache))],.row 8 v12 ((x11).map aB),.box b10 [v12,(.d .aO),(.d (.int .i64 x13))]]:=H9
  unfold gU at h
  refine ax.seq ?_
  refine ax.seq ?_
  refine ax.region (dZ E) rfl ?_
  refine ae.val rfl (ah rfl) rfl ?_
  refine ae.nil ?_
  refine ax.block ?_
  have H121:=H9.Gh
  refine nz.start (B:=aF) (α:=(List aJ) × AV × Int) (fun k a=>bJ n a1 x11 x13 k a.1 a.2.2=some r) (fun a=>[(1,(.ptr b2 0 0)),(2,(.ptr b5 0 0)),(3,(.ptr b10 0 0)),(17,(.d (.int .i64 a.2.2)))]) (fun a=>[.box b5 [(.d .aO),(.d .aO),(.d (.int .i64 0))],.box b2 [(.d (.sl ((a1.Table.Parents).map (D.int .i64)) false)),(.d (.sl ((a1.Table.Kinds).map (D.int .i64)) false)),(.d (.sl ((a1.Table.Texts).map (D.int .i64)) false)),(.d (.sl ((a1.Table.Rules).map (D.int .i64)) false)),(.d (.sl ((a1.Table.Flags).map (D.int .i64)) false)),(.d (.sl ((a1.Table.fq).map (D.int .i64)) false)),(.d (.sl ((a1.Table.Comps).map (D.int .i64)) false)),(.d (.sl ((a1.Parts).map dH) false)),(.d (.int .i64 a1.Cache))],.row 8 v12 ((x11).map aB),.box b10 [v12,a.2.1,(.d (.int .i64 x13))],.grow a.2.1 ((a.1).map aI)]) ?_ ?_ n ⟨⟨[],(.d .aO),0⟩,_,_,S8,.refl _ _,.refl _,(aa.r rfl (aa.r rfl (aa.r rfl (aa.r rfl aa.nil)))),H121.sl [1,2,3,4,0] rfl rfl,h⟩
  ·
   intro a h; simp [bJ] at h
  intro k27 a S22 H23 h
  obtain ⟨x24,v25,x26⟩:=a
  replace h:bJ n a1 x11 x13 (k27 + 1) x24 x26=some r:=h
  replace H23:Has aF S22 [.box b5 [(.d .aO),(.d .aO),(.d (.int .i64 0))],.box b2 [(.d (.sl ((a1.Table.Parents).map (D.int .i64)) false)),(.d (.sl ((a1.Table.Kinds).map (D.int .i64)) false)),(.d (.sl ((a1.Table.Texts).map (D.int .i64)) false)),(.d (.sl ((a1.Table.Rules).map (D.int .i64)) false)),(.d (.sl ((a1.Table.Flags).map (D.int .i64)) false)),(.d (.sl ((a1.Table.fq).map (D.int .i64)) false)),(.d (.sl ((a1.Table.Comps).map (D.int .i64)) false)),(.d (.sl ((a1.Parts).map dH) false)),(.d (.int .i64 a1.Cache))],.row 8 v12 ((x11).map aB),.box b10 [v12,v25,(.d (.int .i64 x13))],.grow v25 ((x24).map aI)]:=H23
  unfold bJ at h
  refine ax.seq ?_
  refine ax.region (dZ E) rfl ?_
  refine ae.val rfl (ay rfl rfl bG) rfl ?_
  refine ae.nil ?_
  refine ax.seq ?_
  refine ax.cond rfl (fun hb28=>?_) (fun hb28=>?_)
  ·
   replace h:=cB hb28 h
   refine ax.skip ?_
   refine ax.seq ?_
   refine ax.block ?_
   refine ax.seq ?_
   refine ax.region (dZ E) rfl ?_
   refine ae.val rfl (ah rfl) rfl ?_
   refine ae.val rfl (aj rfl) rfl ?_
   refine ae.nil ?_
   refine ax.seq ?_
   refine ax.region (dZ E) rfl ?_
   refine ae.val rfl (aP (vs:=[(.d (.int .i64 1)),(.d (.int .i64 0)),(.d (.int .i64 2))]) (ds:=[(.int .i64 1),(.int .i64 0),(.int .i64 2)]) sF kV jl Gs pI rfl (by decide) (.cons rfl rfl (.cons rfl rfl (.cons rfl rfl .nil))) rfl (by intro d hd; simp only [List.mem_cons,List.not_mem_nil,or_false] at hd; rcases hd with rfl | rfl | rfl <;> rfl) rfl) rfl ?_
   refine ae.val rfl (aP (vs:=[(.d (.int .i64 5)),(.d (.int .i64 11)),(.d (.int .i64 2))]) (ds:=[(.int .i64 5),(.int .i64 11),(.int .i64 2)]) sF kV jl Gs pI rfl (by decide) (.cons rfl rfl (.cons rfl rfl (.cons rfl rfl .nil))) rfl (by intro d hd; simp only [List.mem_cons,List.not_mem_nil,or_false] at hd; rcases hd with rfl | rfl | rfl <;> rfl) rfl) rfl ?_
   refine ae.val rfl (aP (vs:=[(.d (.int .i64 0)),(.d (.int .i64 0)),(.d (.int .i64 1))]) (ds:=[(.int .i64 0),(.int .i64 0),(.int .i64 1)]) sF kV jl Gs pI rfl (by decide) (.cons rfl rfl (.cons rfl rfl (.cons rfl rfl .nil))) rfl (by intro d hd; simp only [List.mem_cons,List.not_mem_nil,or_false] at hd; rcases hd with rfl | rfl | rfl <;> rfl) rfl) rfl ?_
   refine ae.val rfl (aP (vs:=[(.d (.int .i64 3)),(.d (.int .i64 1)),(.d (.int .i64 3))]) (ds:=[(.int .i64 3),(.int .i64 1),(.int .i64 3)]) sF kV jl Gs pI rfl (by decide) (.cons rfl rfl (.cons rfl rfl (.cons rfl rfl .nil))) rfl (by intro d hd; simp only [List.mem_cons,List.not_mem_nil,or_false] at hd; rcases hd with rfl | rfl | rfl <;> rfl) rfl) rfl ?_
   refine ae.val rfl (aP (vs:=[(.d (.int .i64 0)),(.d (.int .i64 1)),(.d (.int .i64 2))]) (ds:=[(.int .i64 0),(.int .i64 1),(.int .i64 2)]) sF kV jl Gs pI rfl (by decide) (.cons rfl rfl (.cons rfl rfl (.cons rfl rfl .nil))) rfl (by intro d hd; simp only [List.mem_cons,List.not_mem_nil,or_false] at hd; rcases hd with rfl | rfl | rfl <;> rfl) rfl) rfl ?_
   refine ae.val rfl (ah rfl) rfl ?_
   refine ae.val rfl (aP (vs:=[(.d (.int .i64 x26))]) (ds:=[(.int .i64 x26)]) sF kV jl Gs pI rfl (by decide) (.cons rfl rfl .nil) rfl (by intro d hd; simp only [List.mem_cons,List.not_mem_nil,or_false] at hd; rcases hd with rfl <;> rfl) rfl) rfl ?_
   refine ae.val rfl (bH (cs:=[(.d (.sl (([0,0,1]).map (D.int .i64)) true)),(.d (.sl (([3,1,3]).map (D.int .i64)) true)),(.d (.sl (([0,1,2]).map (D.int .i64)) true)),(.d (.sl (([x26]).map (D.int .i64)) true))]) Po rfl (xI) (cO rfl rfl rfl rfl (cO rfl rfl rfl rfl (cO rfl rfl rfl rfl (cO rfl rfl rfl rfl rfl))))) rfl ?_
   refine ae.less (Less.agg' (d:=ko (cZ.mk [0,0,1] [3,1,3] [0,1,2] [x26])) (au.gJ rfl (.jH _ _) rfl rfl (au.gJ rfl (.jH _ _) rfl rfl (au.gJ rfl (.jH _ _) rfl rfl (au.gJ rfl (.jH _ _) rfl rfl .nil)))) ((cZ.eq _).trans rfl)) ?_
   refine ae.val rfl (bH (cs:=[(.d (.sl (((cZ.mk [0,0,1] [3,1,3] [0,1,2] [x26]).Under).map (D.int .i64)) false)),(.d (.sl (((cZ.mk [0,0,1] [3,1,3] [0,1,2] [x26]).Kinds).map (D.int .i64)) false)),(.d (.sl (((cZ.mk [0,0,1] [3,1,3] [0,1,2] [x26]).Ns).map (D.int .i64)) false)),(.d (.sl (((cZ.mk [0,0,1] [3,1,3] [0,1,2] [x26]).Texts).map (D.int .i64)) false)),(.d (.sl (([1,0,2]).map (D.int .i64)) true)),(.d (.sl (([5,11,2]).map (D.int .i64)) true)),(.d (.bool false))]) NW rfl (xR) (cO rfl rfl rfl rfl (cO rfl rfl rfl rfl (cO rfl (kF (cZ.bf _)) rfl rfl rfl)))) rfl ?_
   refine ae.alloc H23 rfl LJ NW rfl rfl (fun b29 S30 H31=>?_)
   refine ae.store H31 (i:=0) rfl rfl rfl rfl rfl rfl IL rfl Mk rfl rfl rfl (fun S32 H33=>?_)
   refine ae.nil ?_
   refine ax.join (B:=aF) (α:=(List Int) × (List Int) × (List Int) × (List Int) × (List Int) × (List Int) × Bool) (fun a=>fe n x24 x26 (bJ n a1 x11 x13 k27) a.1 a.2.1 a.2.2.1 a.2.2.2.1 a.2.2.2.2.1 a.2.2.2.2.2.1 a.2.2.2.2.2.2=some r) (fun a=>[(1,(.ptr b2 0 0)),(2,(.ptr b5 0 0)),(3,(.ptr b10 0 0)),(5,(.ptr b29 0 0)),(17,(.d (.int .i64 x26)))]) (fun a=>[.box b29 [(.d (.sl ((a.1).map (D.int .i64)) false)),(.d (.sl ((a.2.1).map (D.int .i64)) false)),(.d (.sl ((a.2.2.1).map (D.int .i64)) false)),(.d (.sl ((a.2.2.2.1).map (D.int .i64)) false)),(.d (.sl ((a.2.2.2.2.1).map (D.int .i64)) false)),(.d (.sl ((a.2.2.2.2.2.1).map (D.int .i64)) false)),(.d (.bool a.2.2.2.2.2.2))],.box b5 [(.d .aO),(.d .aO),(.d (.int .i64 0))],.box b2 [(.d (.sl ((a1.Table.Parents).map (D.int .i64)) false)),(.d (.sl ((a1.Table.Kinds).map (D.int .i64)) false)),(.d (.sl ((a1.Table.Texts).map (D.int .i64)) false)),(.d (.sl ((a1.Table.Rules).map (D.int .i64)) false)),(.d (.sl ((a1.Table.Flags).map (D.int .i64)) false)),(.d (.sl ((a1.Table.fq).map (D.int .i64)) false)),(.d (.sl ((a1.Table.Comps).map (D.int .i64)) false)),(.d (.sl ((a1.Parts).map dH) false)),(.d (.int .i64 a1.Cache))],.row 8 v12 ((x11).map aB),.box b10 [v12,v25,(.d (.int .i64 x13))],.grow v25 ((x24).map aI)]) ?_ ?_
   ·
    intro a S34 H35 h
    obtain ⟨x36,x37,x38,x39,x40,x41,x42⟩:=a
    replace h:fe n x24 x26 (bJ n a1 x11 x13 k27) x36 x37 x38 x39 x40 x41 x42=some r:=h
    replace H35:Has aF S34 [.box b29 [(.d (.sl ((x36).map (D.int .i64)) false)),(.d (.sl ((x37).map (D.int .i64)) false)),(.d (.sl ((x38).map (D.int .i64)) false)),(.d (.sl ((x39).map (D.int .i64)) false)),(.d (.sl ((x40).map (D.int .i64)) false)),(.d (.sl ((x41).map (D.int .i64)) false)),(.d (.bool x42))],.box b5 [(.d .aO),(.d .aO),(.d (.int .i64 0))],.box b2 [(.d (.sl ((a1.Table.Parents).map (D.int .i64)) false)),(.d (.sl ((a1.Table.Kinds).map (D.int .i64)) false)),(.d (.sl ((a1.Table.Texts).map (D.int .i64)) false)),(.d (.sl ((a1.Table.Rules).map (D.int .i64)) false)),(.d (.sl ((a1.Table.Flags).map (D.int .i64)) false)),(.d (.sl ((a1.Table.fq).map (D.int .i64)) false)),(.d (.sl ((a1.Table.Comps).map (D.int .i64)) false)),(.d (.sl ((a1.Parts).map dH) false)),(.d (.int .i64 a1.Cache))],.row 8 v12 ((x11).map aB),.box b10 [v12,v25,(.d (.int .i64 x13))],.grow v25 ((x24).map aI)]:=H35
    unfold fe at h
    refine ax.seq ?_
    refine ax.region (dZ E) rfl ?_
    refine ae.val rfl (ai rfl Dm LV rfl) rfl ?_
    refine ae.store H35 (i:=0) rfl rfl rfl rfl rfl rfl O6 rfl OT rfl rfl rfl (fun S44 H45=>?_)
    refine ae.nil ?_
    refine ax.seq ?_
    obtain ⟨z46,hzz46,h⟩:=bind_some h
    obtain ⟨z47,hzz47,h⟩:=bind_some h
    refine ax.qi (dZ E) pM Qr [(1,none),(2,none),(3,none),(5,none),(17,none)] (by kernel_rfl) [5,7] (by decide) [some (.ptr b10 0 1),some v25,some (.d (dH (eX.mk (cZ.mk x36 x37 x38 x39) x40 x41 false))),some (.d (aI z46)),some (.d (.sl (([z46]).map aI) true)),none,none,none] ?_
    refine ⟨[0,1,2,3,4],by kernel_rfl,?_,_,_,rfl,rfl,.step ?_⟩
    ·
     refine .v rfl rfl rfl rfl (ai rfl iG nD rfl) ?_
     refine .v rfl rfl rfl rfl (av H45 (i:=4) rfl rfl (aA pF rfl)) ?_
     refine .cons rfl rfl rfl (.step ?_) ?_
     ·
      refine ae.val rfl (av H45 (i:=0) rfl rfl (aZ Mr IL rfl)) rfl ?_
      refine ae.less (Less.agg' (d:=dH (eX.mk (cZ.mk x36 x37 x38 x39) x40 x41 false)) (au.eq rfl (au.eq rfl (au.eq rfl (au.eq rfl (au.eq rfl (au.eq rfl (au.eq rfl .nil))))))) ((eX.eq _).trans rfl)) ?_
      exact ae.nil ⟨_,_,rfl,fun _ ht=>by cases ht; exact ⟨rfl,.refl _⟩⟩
     refine .cons rfl rfl rfl (.step ?_) ?_
     ·
      refine ae.ret rfl (aC rfl rfl) (l6 E _ _ _ hzz46 _ _ (aD.eq .nil)) rfl ?_
      exact ae.nil ⟨_,_,rfl,fun _ ht=>by cases ht; exact ⟨rfl,.refl _⟩⟩
     refine .v rfl rfl rfl rfl (aP (vs:=[(.d (aI z46))]) (ds:=[(aI z46)]) Dx tJ wI tH jS rfl (by decide) (.cons rfl (aJ.len _) .nil) rfl (by intro d hd; simp only [List.mem_cons,List.not_mem_nil,or_false] at hd; rcases hd with rfl <;> exact aJ.agg _) rfl) ?_
     exact .nil
    refine ae.append (xs:=(x24).map aI) (ys:=([z46]).map aI) (zs:=(z47).map aI) H45 rfl rfl rfl (i:=5) rfl rfl Dx JL tJ (fI hzz47) Mw rfl (bS (enc:=aI) (fun z=>(aJ.len z).trans jS.symm) _) (bS (enc:=aI) (fun z=>(aJ.len z).trans jS.symm) _) KC rfl (jK hzz47) (fun v53 S54 H55=>?_)
    refine ae.nil ⟨_,_,_,rfl,(fun _ ht=>by cases ht; rfl),_,(.q (.o (.w v53 (.w (.ptr b10 0 1) (.n .nil))))),(fun _ ht=>by cases ht; exact ⟨_,rfl,.refl _⟩),?_⟩
    refine ⟨[6],by kernel_rfl,?_,_,_,rfl,rfl,.step ?_⟩
    ·
     refine .v rfl rfl rfl rfl (ai rfl iG nD rfl) ?_
     exact .nil
    refine ae.store H55 (i:=4) rfl rfl rfl rfl (jb (H55.at (i:=5) rfl)).2.2.2.2 rfl K5 (jb (H55.at (i:=5) rfl)).2.2.2.1 K9 rfl rfl rfl (fun S56 H57=>?_)
    refine ae.nil ⟨_,.any,_,rfl,(fun _ ht=>by cases ht),_,(.q (.o (.o (.o (.w .any .nil))))),(fun _ ht=>by cases ht),?_⟩
    refine ⟨[],by kernel_rfl,?_,_,rfl,?_⟩
    ·
     exact .nil
    refine ax.seq ?_
    refine ax.region (dZ E) rfl ?_
    refine ae.val rfl (ai rfl Dm LV rfl) rfl ?_
    refine ae.store H57 (i:=0) rfl rfl rfl rfl rfl rfl O6 rfl OT rfl rfl rfl (fun S58 H59=>?_)
    refine ae.nil ?_
    obtain ⟨z60,hzz60,h⟩:=bind_some h
    obtain ⟨z61,hzz61,h⟩:=bind_some h
    refine ax.qi (dZ E) pM O3 [(1,none),(2,none),(3,none),(17,none)] (by kernel_rfl) [5,7] (by decide) [some (.ptr b10 0 1),some v53,some (.d (dH (eX.mk (cZ.mk x36 x37 x38 x39) x40 x41 true))),some (.d (aI z60)),some (.d (.sl (([z60]).map aI) true)),none,none,none] ?_
    refine ⟨[0,1,2,3,4],by kernel_rfl,?_,_,_,rfl,rfl,.step ?_⟩
    ·
     refine .v rfl rfl rfl rfl (ai rfl iG nD rfl) ?_
     refine .v rfl rfl rfl rfl (av H59 (i:=4) rfl rfl (aA pF rfl)) ?_
     refine .cons rfl rfl rfl (.step ?_) ?_
     ·
      refine ae.val rfl (av H59 (i:=0) rfl rfl (aZ Mr IL rfl)) rfl ?_
      refine ae.less (Less.agg' (d:=dH (eX.mk (cZ.mk x36 x37 x38 x39) x40 x41 true)) (au.eq rfl (au.eq rfl (au.eq rfl (au.eq rfl (au.eq rfl (au.eq rfl (au.eq rfl .nil))))))) ((eX.eq _).trans rfl)) ?_
      exact ae.nil ⟨_,_,rfl,fun _ ht=>by cases ht; exact ⟨rfl,.refl _⟩⟩
     refine .cons rfl rfl rfl (.step ?_) ?_
     ·
      refine ae.ret rfl (aC rfl rfl) (l6 E _ _ _ hzz60 _ _ (aD.eq .nil)) rfl ?_
      exact ae.nil ⟨_,_,rfl,fun _ ht=>by cases ht; exact ⟨rfl,.refl _⟩⟩
     refine .v rfl rfl rfl rfl (aP (vs:=[(.d (aI z60))]) (ds:=[(aI z60)]) Dx tJ wI tH jS rfl (by decide) (.cons rfl (aJ.len _) .nil) rfl (by intro d hd; simp only [List.mem_cons,List.not_mem_nil,or_false] at hd; rcases hd with rfl <;> exact aJ.agg _) rfl) ?_
     exact .nil
    refine ae.append (xs:=(z47).map aI) (ys:=([z60]).map aI) (zs:=(z61).map aI) H59 rfl rfl rfl (i:=5) rfl rfl Dx JL tJ (fI hzz61) Mw rfl (bS (enc:=aI) (fun z=>(aJ.len z).trans jS.symm) _) (bS (enc:=aI) (fun z=>(aJ.len z).trans jS.symm) _) KC rfl (jK hzz61) (fun v67 S68 H69=>?_)
    refine ae.nil ⟨_,_,_,rfl,(fun _ ht=>by cases ht; rfl),_,(.q (.o (.w v67 (.w (.ptr b10 0 1) (.n .nil))))),(fun _ ht=>by cases ht; exact ⟨_,rfl,.refl _⟩),?_⟩
    refine ⟨[6],by kernel_rfl,?_,_,_,rfl,rfl,.step ?_⟩
    ·
     refine .v rfl rfl rfl rfl (ai rfl iG nD rfl) ?_
     exact .nil
    refine ae.store H69 (i:=4) rfl rfl rfl rfl (jb (H69.at (i:=5) rfl)).2.2.2.2 rfl K5 (jb (H69.at (i:=5) rfl)).2.2.2.1 K9 rfl rfl rfl (fun S70 H71=>?_)
    refine ae.nil ⟨_,.any,_,rfl,(fun _ ht=>by cases ht),_,(.q (.o (.o (.o (.w .any .nil))))),(fun _ ht=>by cases ht),?_⟩
    refine ⟨[],by kernel_rfl,?_,_,rfl,?_⟩
    ·
     exact .nil
    refine ax.region (dZ E) rfl ?_
    refine ae.val rfl (ay rfl rfl bI) rfl ?_
    refine ae.val rfl (ah rfl) rfl ?_
    refine ae.nil ?_
    exact ⟨⟨z61,v67,(IntKind.wrap .i64 (x26 + 1))⟩,_,_,S70,.refl _ _,.refl _,(aa.r rfl (aa.r rfl (aa.r rfl (aa.r rfl aa.nil)))),H71.sl [1,2,3,4,5] rfl rfl,h⟩
   refine ax.seq ?_
   refine ax.region (dZ E) rfl ?_
   refine ae.val rfl (ah rfl) rfl ?_
   refine ae.val rfl (ai rfl JG M8 rfl) rfl ?_
   refine ae.val rfl (av H33 (i:=2) rfl rfl (aA NA rfl)) rfl ?_
   refine ae.val rfl (aS rfl O4) rfl ?_
   refine ae.val rfl (ay rfl rfl bG) rfl ?_
   refine ae.nil ?_
   refine ax.cond rfl (fun hb72=>?_) (fun hb72=>?_)
   ·
    replace h:=cB hb72 h
    refine ax.region (dZ E) rfl ?_
    refine ae.val rfl (ai rfl JG M8 rfl) rfl ?_
    refine ae.val rfl (av H33 (i:=2) rfl rfl (aA NA rfl)) rfl ?_
    refine ae.val rfl (ah rfl) rfl ?_
    obtain ⟨z73,hzz73,h⟩:=bind_some h
    refine ae.val rfl (bE rfl rfl (bY (enc:=dH) hzz73 OZ Mk ((eX.len _).trans IL.symm))) rfl ?_
    refine ae.val rfl (aU rfl (eX.gT Mr IL)) rfl ?_
    refine ae.store H33 (i:=0) rfl rfl rfl rfl (eX.bf _) rfl IL rfl Mk rfl rfl rfl (fun S74 H75=>?_)
    refine ae.nil ?_
    exact ⟨⟨z73.Page.Under,z73.Page.Kinds,z73.Page.Ns,z73.Page.Texts,z73.Init,z73.Adds,z73.Outlet⟩,_,_,S74,.refl _ _,.refl _,(aa.r rfl (aa.r rfl (aa.r rfl (aa.r rfl (aa.r rfl aa.nil))))),H75.sl [0,1,2,3,4,5] rfl rfl,h⟩
   replace h:=cK hb72 h
   refine ax.skip ?_
   obtain ⟨S76,hw77,H78⟩:=H33.Hf (i:=0) (cs':=[(.d (.sl (((cZ.mk [0,0,1] [3,1,3] [0,1,2] [x26]).Under).map (D.int .i64)) false)),(.d (.sl (((cZ.mk [0,0,1] [3,1,3] [0,1,2] [x26]).Kinds).map (D.int .i64)) false)),(.d (.sl (((cZ.mk [0,0,1] [3,1,3] [0,1,2] [x26]).Ns).map (D.int .i64)) false)),(.d (.sl (((cZ.mk [0,0,1] [3,1,3] [0,1,2] [x26]).Texts).map (D.int .i64)) false)),(.d (.sl (([1,0,2]).map (D.int .i64)) false)),(.d (.sl (([5,11,2]).map (D.int .i64)) false)),(.d (.bool false))]) rfl (.cons (.refl _) (.cons (.refl _) (.cons (.refl _) (.cons (.refl _) (.cons JI (.cons JI (.cons (.refl _) .nil)))))))
   exact ⟨⟨(cZ.mk [0,0,1] [3,1,3] [0,1,2] [x26]).Under,(cZ.mk [0,0,1] [3,1,3] [0,1,2] [x26]).Kinds,(cZ.mk [0,0,1] [3,1,3] [0,1,2] [x26]).Ns,(cZ.mk [0,0,1] [3,1,3] [0,1,2] [x26]).Texts,[1,0,2],[5,11,2],false⟩,_,_,S76,.refl _ _,hw77,(aa.r rfl (aa.r rfl (aa.r rfl (aa.r rfl (aa.r rfl aa.nil))))),H78.sl [0,1,2,3,4,5] rfl rfl,h⟩
  replace h:=cK hb28 h
  refine ax.exit ?_
  refine ax.seq ?_
  refine ax.seq ?_
  refine ax.region (dZ E) rfl ?_
  refine ae.val rfl (ai rfl iZ oO rfl) rfl ?_
  refine ae.val rfl (av H23 (i:=3) rfl rfl (aA pK rfl)) rfl ?_
  refine ae.val rfl (jv H23 (i:=2) rfl rfl sD) rfl ?_
  refine ae.val rfl (ah rfl) rfl ?_
  refine ae.nil ?_
  refine ax.block ?_
  refine nz.start (B:=aF) (α:=(List ak) × Int) (fun k a=>bA n x11 x13 x24 k a.1 a.2=some r) (fun a=>[(2,(.ptr b5 0 0)),(3,(.ptr b10 0 0)),(58,(.d (.int .i64 ((x11).length:Int)))),(59,(.d (.int .i64 a.2)))]) (fun a=>[.box b5 [(.d .aO),(.d .aO),(.d (.int .i64 0))],.row 8 v12 ((a.1).map aB),.box b10 [v12,v25,(.d (.int .i64 x13))],.grow v25 ((x24).map aI)]) ?_ ?_ n ⟨⟨x11,0⟩,_,_,S22,.refl _ _,.refl _,(aa.r rfl (aa.r rfl (aa.r rfl (aa.r rfl aa.nil)))),H23.sl [0,2,3,4] rfl rfl,h⟩
  ·
   intro a h; simp [bA] at h
  intro k89 a S85 H86 h
  obtain ⟨x87,x88⟩:=a
  replace h:bA n x11 x13 x24 (k89 + 1) x87 x88=some r:=h
  replace H86:Has aF S85 [.box b5 [(.d .aO),(.d .aO),(.d (.int .i64 0))],.row 8 v12 ((x87).map aB),.box b10 [v12,v25,(.d (.int .i64 x13))],.grow v25 ((x24).map aI)]:=H86
  unfold bA at h
  refine ax.seq ?_
  refine ax.region (dZ E) rfl ?_
  refine ae.val rfl (ay rfl rfl bG) rfl ?_
  refine ae.nil ?_
  refine ax.seq ?_
  refine ax.cond rfl (fun hb90=>?_) (fun hb90=>?_)
  ·
   replace h:=cB hb90 h
   refine ax.skip ?_
   refine ax.seq ?_
   refine ax.block ?_
   refine ax.seq ?_
   refine ax.region (dZ E) rfl ?_
   refine ae.val rfl (ah rfl) rfl ?_
   refine ae.val rfl (aj rfl) rfl ?_
   refine ae.nil ?_
   refine ax.seq ?_
   refine ax.region (dZ E) rfl ?_
   refine ae.val rfl (ai rfl iZ oO rfl) rfl ?_
   refine ae.val rfl (av H86 (i:=2) rfl rfl (aA pK rfl)) rfl ?_
   refine ae.val rfl (ah rfl) rfl ?_
   obtain ⟨z91,hzz91,h⟩:=bind_some h
   refine ae.iM (enc:=aB) H86 rfl (i:=1) rfl rfl rfl hzz91 oK lY ((ak.len _).trans jm.symm) rfl ?_
   refine ae.gu H86 (i:=1) rfl hzz91 rfl rfl oN kL rfl rfl ?_
   refine ae.lC H86 rfl (i:=1) rfl hzz91 rfl (by rw [ak.cells]; exact dL jl rfl) rfl ?_
   obtain ⟨z92,hzz92,h⟩:=bind_some h
   refine ae.ret rfl (aC rfl rfl) (aN E _ _ _ _ _ hzz92 _ _ (aD.eq (aD.eq (aD.eq .nil)))) rfl ?_
   refine ae.val rfl (ay rfl rfl J3) rfl ?_
   refine ae.val rfl (aj rfl) rfl ?_
   refine ae.nil ?_
   refine ax.seq ?_
   refine ax.seq ?_
   refine ax.region (dZ E) rfl ?_
   refine ae.val rfl (ai rfl iZ oO rfl) rfl ?_
   refine ae.val rfl (av H86 (i:=2) rfl rfl (aA pK rfl)) rfl ?_
   refine ae.val rfl (jv H86 (i:=1) rfl rfl sD) rfl ?_
   refine ae.val rfl (ah rfl) rfl ?_
   refine ae.nil ?_
   refine ax.block ?_
   refine nz.start (B:=aF) (α:=Int × Int) (fun k a=>bM x87 x88 (bA n x11 x13 x24 k89) k a.1 a.2=some r) (fun a=>[(2,(.ptr b5 0 0)),(3,(.ptr b10 0 0)),(6,(.d (.int .i64 x88))),(7,(.d (.int .i64 a.1))),(58,(.d (.int .i64 ((x11).length:Int)))),(59,(.d (.int .i64 x88))),(71,v12),(72,(.d (.int .i64 ((x87).length:Int)))),(73,(.d (.int .i64 a.2)))]) (fun a=>[.box b5 [(.d .aO),(.d .aO),(.d (.int .i64 0))],.row 8 v12 ((x87).map aB),.box b10 [v12,v25,(.d (.int .i64 x13))],.grow v25 ((x24).map aI)]) ?_ ?_ n ⟨⟨(IntKind.wrap .i64 (2 * z92)),0⟩,_,_,S85,.refl _ _,.refl _,(aa.r rfl (aa.r rfl (aa.r rfl (aa.r rfl (aa.r rfl (aa.r rfl (aa.r rfl (aa.r rfl (aa.r rfl aa.nil))))))))),H86.sl [0,1,2,3] rfl rfl,h⟩
   ·
    intro a h; simp [bM] at h
   intro k103 a S99 H100 h
   obtain ⟨x101,x102⟩:=a
   replace h:bM x87 x88 (bA n x11 x13 x24 k89) (k103 + 1) x101 x102=some r:=h
   replace H100:Has aF S99 [.box b5 [(.d .aO),(.d .aO),(.d (.int .i64 0))],.row 8 v12 ((x87).map aB),.box b10 [v12,v25,(.d (.int .i64 x13))],.grow v25 ((x24).map aI)]:=H100
   unfold bM at h
   refine ax.seq ?_
   refine ax.region (dZ E) rfl ?_
   refine ae.val rfl (ay rfl rfl bG) rfl ?_
   refine ae.nil ?_
   refine ax.seq ?_
   refine ax.cond rfl (fun hb104=>?_) (fun hb104=>?_)
   ·
    replace h:=cB hb104 h
    refine ax.skip ?_
    refine ax.join (B:=aF) (α:=Int) (fun a=>fK x102 (bM x87 x88 (bA n x11 x13 x24 k89) k103) a=some r) (fun a=>[(2,(.ptr b5 0 0)),(3,(.ptr b10 0 0)),(6,(.d (.int .i64 x88))),(7,(.d (.int .i64 a))),(58,(.d (.int .i64 ((x11).length:Int)))),(59,(.d (.int .i64 x88))),(71,v12),(72,(.d (.int .i64 ((x87).length:Int)))),(73,(.d (.int .i64 x102)))]) (fun a=>[.box b5 [(.d .aO),(.d .aO),(.d (.int .i64 0))],.row 8 v12 ((x87).map aB),.box b10 [v12,v25,(.d (.int .i64 x13))],.grow v25 ((x24).map aI)]) ?_ ?_
    ·
     intro x107 S105 H106 h
     replace h:fK x102 (bM x87 x88 (bA n x11 x13 x24 k89) k103) x107=some r:=h
     replace H106:Has aF S105 [.box b5 [(.d .aO),(.d .aO),(.d (.int .i64 0))],.row 8 v12 ((x87).map aB),.box b10 [v12,v25,(.d (.int .i64 x13))],.grow v25 ((x24).map aI)]:=H106
     unfold fK at h
     refine ax.region (dZ E) rfl ?_
     refine ae.val rfl (ay rfl rfl bI) rfl ?_
     refine ae.val rfl (ah rfl) rfl ?_
     refine ae.nil ?_
     exact ⟨⟨x107,(IntKind.wrap .i64 (x102 + 1))⟩,_,_,S105,.refl _ _,.refl _,(aa.r rfl (aa.r rfl (aa.r rfl (aa.r rfl (aa.r rfl (aa.r rfl (aa.r rfl (aa.r rfl (aa.r rfl aa.nil))))))))),H106.sl [0,1,2,3] rfl rfl,h⟩
    refine ax.block ?_
    refine ax.seq ?_
    refine ax.region (dZ E) rfl ?_
    obtain ⟨z109,hzz109,h⟩:=bind_some h
    refine ae.iM (enc:=aB) H100 rfl (i:=1) rfl rfl rfl hzz109 oK lY ((ak.len _).trans jm.symm) rfl ?_
    refine ae.lC H100 rfl (i:=1) rfl hzz109 rfl (ak.gT yQ jm) rfl ?_
    refine ae.alloc H100 rfl Kn tu rfl rfl (fun b110 S111 H112=>?_)
    refine ae.store H112 (i:=0) rfl rfl rfl rfl (ak.bf _) rfl jm rfl lY rfl rfl rfl (fun S113 H114=>?_)
    refine ae.nil ?_
    refine ax.seq ?_
    refine ax.region (dZ E) rfl ?_
    refine ae.val rfl (ai rfl sQ kL rfl) rfl ?_
    refine ae.val rfl (av H114 (i:=0) rfl rfl (aA jl rfl)) rfl ?_
    refine ae.val rfl (ah rfl) rfl ?_
    refine ae.val rfl (ay rfl rfl dD) rfl ?_
    refine ae.nil ?_
    refine ax.cond rfl (fun hb115=>?_) (fun hb115=>?_)
    ·
     replace h:=cB hb115 h
     refine ax.region (dZ E) rfl ?_
     refine ae.val rfl (ah rfl) rfl ?_
     refine ae.val rfl (ay rfl rfl Lu) rfl ?_
     refine ae.val rfl (aj rfl) rfl ?_
     refine ae.nil ?_
     exact ⟨(Nt .i64 x101 1),_,_,S113,.refl _ _,.refl _,(aa.r rfl (aa.r rfl (aa.r rfl (aa.r rfl (aa.r rfl (aa.r rfl (aa.r rfl (aa.r rfl (aa.r rfl aa.nil))))))))),H114.sl [1,2,3,4] rfl rfl,h⟩
    replace h:=cK hb115 h
    refine ax.skip ?_
    exact ⟨x101,_,_,S113,.refl _ _,.refl _,(aa.r rfl (aa.r rfl (aa.r rfl (aa.r rfl (aa.r rfl (aa.r rfl (aa.r rfl (aa.r rfl (aa.r rfl aa.nil))))))))),H114.sl [1,2,3,4] rfl rfl,h⟩
   replace h:=cK hb104 h
   refine ax.exit ?_
   refine ax.region (dZ E) rfl ?_
   refine ae.val rfl (ai rfl iZ oO rfl) rfl ?_
   refine ae.val rfl (av H100 (i:=2) rfl rfl (aA pK rfl)) rfl ?_
   refine ae.val rfl (ah rfl) rfl ?_
   refine ae.val rfl (ah rfl) rfl ?_
   obtain ⟨z116,hzz116,h⟩:=bind_some h
   refine ae.iM (enc:=aB) H100 rfl (i:=1) rfl rfl rfl hzz116 oK lY ((ak.len _).trans jm.symm) rfl ?_
   refine ae.gu H100 (i:=1) rfl hzz116 rfl rfl oN kL rfl rfl ?_
   refine ae.gV (enc:=aB) (z':=(ak.mk z116.Name z116.Parent z116.dX x101 z116.fT z116.aH)) (cv:=[(.int .i64 x101)]) H100 rfl (i:=1) rfl hzz116 rfl rfl rfl (.cons (.refl _) .nil) pI rfl xC (by rw [ak.len]; rfl) (by rw [ak.cells,ak.cells]; rfl) (ak.flat _) (fun S117 H118=>?_)
   refine ae.nil ?_
   refine ax.region (dZ E) rfl ?_
   refine ae.val rfl (ay rfl rfl bI) rfl ?_
   refine ae.val rfl (ah rfl) rfl ?_
   refine ae.nil ?_
   exact ⟨⟨(je x87 x88 (ak.mk z116.Name z116.Parent z116.dX x101 z116.fT z116.aH)),(IntKind.wrap .i64 (x88 + 1))⟩,_,_,S117,.refl _ _,.refl _,(aa.r rfl (aa.r rfl (aa.r rfl (aa.r rfl aa.nil)))),H118.sl [0,1,2,3] rfl rfl,h⟩
  replace h:=cK hb90 h
  refine ax.exit ?_
  refine ax.seq ?_
  refine ax.region (dZ E) rfl ?_
  refine ae.val rfl (av H86 (i:=2) rfl rfl (aZ tF nG rfl)) rfl ?_
  refine ae.store H86 (i:=0) rfl rfl rfl rfl (iT _) rfl nG (iP _) Bj rfl rfl rfl (fun S119 H120=>?_)
  refine ae.nil ?_
  obtain ⟨SF1,HF1,hgF1⟩:=H120.freeze (dZ E).toObjOk (i:=1) (l':=[.box b5 [(.d (.sl ((x87).map aB) false)),v25,(.d (.int .i64 x13))],.box b10 [(.d (.sl ((x87).map aB) false)),v25,(.d (.int .i64 x13))],.grow v25 ((x24).map aI)]) rfl (.box (.cons .it (.cons (.same _) (.cons (.same _) .nil))) (.box (.cons .it (.cons (.same _) (.cons (.same _) .nil))) (.same .nil)))
  refine ax.ghost (hgF1 _ _ [(2,(.ptr b5 0 0)),(3,(.ptr b10 0 0)),(58,(.d (.int .i64 ((x11).length:Int)))),(59,(.d (.int .i64 x88))),(60,(.d (.bool (decide (x88 < ((x11).length:Int))))))] (.cons rfl (.refl _) (.cons rfl (.refl _) (.cons rfl (.refl _) (.cons rfl (.refl _) (.cons rfl (.refl _) .nil)))))) ?_
  have hr:=Option.some.inj h
  subst hr
  exact ax.ret ⟨_,gZ HF1 (i:=0) rfl rfl rfl (aZ tF nG rfl),rfl,dY (aD.qd (d:=iW (dK.mk x87 x24 x13)) (au.eq rfl (au.grow HF1 (i:=2) rfl (au.eq rfl .nil))) ((dK.eq _).trans rfl))⟩
 obtain ⟨z122,hzz122,h⟩:=bind_some h
 obtain ⟨z128,hzz128,h⟩:=bind_some h
 refine ax.AP (dZ E) pM Qz [(1,none),(2,none),(3,some 7)] (by kernel_rfl) 3 [2,7,8] (by decide) [some (.ptr b2 0 0),some (.d (lg a1.Table)),none,some (.ptr b2 0 8),some (.d (.int .i64 a1.Cache)),none,none,none,none] ?_
 refine ⟨[2,7],[0,1,3,4],⟨by decide,by decide⟩,by kernel_rfl,?_,?_⟩
 ·
  refine .v rfl rfl rfl rfl (ai rfl JB Ny rfl) ?_
  refine .cons rfl rfl rfl (.step ?_) ?_
  ·
   refine ae.val rfl (av H7 (i:=1) rfl rfl (aZ Nr NB rfl)) rfl ?_
   refine ae.less (Less.agg' (d:=lg a1.Table) (au.eq rfl (au.eq rfl (au.eq rfl (au.eq rfl (au.eq rfl (au.eq rfl (au.eq rfl .nil))))))) ((gQ.eq _).trans rfl)) ?_
   exact ae.nil ⟨_,_,rfl,fun _ ht=>by cases ht; exact ⟨rfl,.refl _⟩⟩
  refine .v rfl rfl rfl rfl (ai rfl Ay kL rfl) ?_
  refine .v rfl rfl rfl rfl (av H7 (i:=1) rfl rfl (aA jl rfl)) ?_
  exact .nil
 intro i hw134
 simp only [List.mem_cons,List.not_mem_nil,or_false] at hw134
 rcases hw134 with rfl | rfl
 ·
  refine ⟨_,_,rfl,rfl,.step ?_⟩
  refine ae.Bg H7 rfl (aC rfl rfl) (j4 E n _ _ hzz122) (aD.eq .nil) rfl ?_
  rintro v135 S136 _ rfl H137
  refine ae.nil ⟨_,_,_,rfl,(fun _ ht=>by cases ht; rfl),_,(.o (.o (.w v135 (.o (.o (.w (.d (.int .i64 z128)) (.w (Ev.iY [v135,(.d .aO),(.d (.int .i64 z128))]) (.n (.n .nil))))))))),(fun _ ht=>by cases ht; exact ⟨_,rfl,.refl _⟩),?_⟩
  refine ⟨[7],[3,4,5,6],⟨by decide,by decide⟩,by kernel_rfl,?_,?_⟩
  ·
   refine .v rfl rfl rfl rfl (ai rfl Ay kL rfl) ?_
   refine .v rfl rfl rfl rfl (av H137 (i:=2) rfl rfl (aA jl rfl)) ?_
   refine .cons rfl rfl rfl (.step ?_) ?_
   ·
    refine ae.ret rfl (aC rfl rfl) (aN E _ _ _ _ _ hzz128 _ _ (aD.eq (aD.eq (aD.eq .nil)))) rfl ?_
    exact ae.nil ⟨_,_,rfl,fun _ ht=>by cases ht; exact ⟨rfl,.refl _⟩⟩
   refine .v rfl rfl rfl rfl (bH (cs:=[v135,(.d .aO),(.d (.int .i64 z128))]) wC rfl (nQ) (cO rfl (rX H137 (i:=0) rfl) rfl rfl (cO rfl rfl rfl rfl rfl))) ?_
   exact .nil
  intro i hw140
  simp only [List.mem_cons,List.not_mem_nil,or_false] at hw140
  rcases hw140 with rfl
  refine ⟨_,_,rfl,rfl,.step ?_⟩
  refine ae.alloc H137 rfl Fw wC rfl rfl (fun b141 S142 H143=>?_)
  refine ae.nil ⟨_,_,_,rfl,(fun _ ht=>by cases ht; rfl),_,(.q (.o (.o (.o (.w (.ptr b141 0 0) (.n .nil)))))),(fun _ ht=>by cases ht; exact ⟨_,rfl,.refl _⟩),?_⟩
  refine ⟨[8],[3,4,5,6],⟨by decide,by decide⟩,by kernel_rfl,?_,?_⟩
  ·
   refine .v rfl rfl rfl rfl (ai rfl Ay kL rfl) ?_
   refine .v rfl rfl rfl rfl (av H143 (i:=3) rfl rfl (aA jl rfl)) ?_
   refine .cons rfl rfl rfl (.step ?_) ?_
   ·
    refine ae.ret rfl (aC rfl rfl) (aN E _ _ _ _ _ hzz128 _ _ (aD.eq (aD.eq (aD.eq .nil)))) rfl ?_
    exact ae.nil ⟨_,_,rfl,fun _ ht=>by cases ht; exact ⟨rfl,.refl _⟩⟩
   refine .v rfl rfl rfl rfl (bH (cs:=[v135,(.d .aO),(.d (.int .i64 z128))]) wC rfl (nQ) (cO rfl (rX H143 (i:=1) rfl) rfl rfl (cO rfl rfl rfl rfl rfl))) ?_
   exact .nil
  intro i hw144
  simp only [List.mem_cons,List.not_mem_nil,or_false] at hw144
  rcases hw144 with rfl
  refine ⟨_,_,rfl,rfl,.step ?_⟩
  refine ae.store H143 (i:=0) rfl rfl rfl rfl (iT _) rfl nG (iP _) Bj rfl rfl rfl (fun S145 H146=>?_)
  refine ae.nil ⟨_,.any,_,rfl,(fun _ ht=>by cases ht),_,(.q (.q (.w .any .nil))),(fun _ ht=>by cases ht),?_⟩
  refine ⟨rfl,[],by kernel_rfl,?_,_,rfl,?_⟩
  ·
   exact .nil
  exact ⟨⟨b141,z122,v135,z128⟩,_,_,S145,.refl _ _,.refl _,(aa.r rfl (aa.r rfl (aa.r rfl aa.nil))),H146.sl [2,3,1,0] rfl rfl,h⟩
 refine ⟨_,_,rfl,rfl,.step ?_⟩
 refine ae.alloc H7 rfl Fw wC rfl rfl (fun b147 S148 H149=>?_)
 refine ae.nil ⟨_,_,_,rfl,(fun _ ht=>by cases ht; rfl),_,(.o (.o (.n (.o (.o (.n (.n (.w (.ptr b147 0 0) (.n .nil))))))))),(fun _ ht=>by cases ht; exact ⟨_,rfl,.refl _⟩),?_⟩
 refine ⟨[2],[0,1,3,4],⟨by decide,by decide⟩,by kernel_rfl,?_,?_⟩
 ·
  refine .v rfl rfl rfl rfl (ai rfl JB Ny rfl) ?_
  refine .cons rfl rfl rfl (.step ?_) ?_
  ·
   refine ae.val rfl (av H149 (i:=2) rfl rfl (aZ Nr NB rfl)) rfl ?_
   refine ae.less (Less.agg' (d:=lg a1.Table) (au.eq rfl (au.eq rfl (au.eq rfl (au.eq rfl (au.eq rfl (au.eq rfl (au.eq rfl .nil))))))) ((gQ.eq _).trans rfl)) ?_
   exact ae.nil ⟨_,_,rfl,fun _ ht=>by cases ht; exact ⟨rfl,.refl _⟩⟩
  refine .v rfl rfl rfl rfl (ai rfl Ay kL rfl) ?_
  refine .v rfl rfl rfl rfl (av H149 (i:=2) rfl rfl (aA jl rfl)) ?_
  exact .nil
 intro i hw150
 simp only [List.mem_cons,List.not_mem_nil,or_false] at hw150
 rcases hw150 with rfl
 refine ⟨_,_,rfl,rfl,.step ?_⟩
 refine ae.Bg H149 rfl (aC rfl rfl) (j4 E n _ _ hzz122) (aD.eq .nil) rfl ?_
 rintro v151 S152 _ rfl H153
 refine ae.nil ⟨_,_,_,rfl,(fun _ ht=>by cases ht; rfl),_,(.o (.o (.w v151 (.o (.o (.w (.d (.int .i64 z128)) (.w (Ev.iY [v151,(.d .aO),(.d (.int .i64 z128))]) (.o (.n .nil))))))))),(fun _ ht=>by cases ht; exact ⟨_,rfl,.refl _⟩),?_⟩
 refine ⟨[8],[3,4,5,6],⟨by decide,by decide⟩,by kernel_rfl,?_,?_⟩
 ·
  refine .v rfl rfl rfl rfl (ai rfl Ay kL rfl) ?_
  refine .v rfl rfl rfl rfl (av H153 (i:=3) rfl rfl (aA jl rfl)) ?_
  refine .cons rfl rfl rfl (.step ?_) ?_
  ·
   refine ae.ret rfl (aC rfl rfl) (aN E _ _ _ _ _ hzz128 _ _ (aD.eq (aD.eq (aD.eq .nil)))) rfl ?_
   exact ae.nil ⟨_,_,rfl,fun _ ht=>by cases ht; exact ⟨rfl,.refl _⟩⟩
  refine .v rfl rfl rfl rfl (bH (cs:=[v151,(.d .aO),(.d (.int .i64 z128))]) wC rfl (nQ) (cO rfl (rX H153 (i:=0) rfl) rfl rfl (cO rfl rfl rfl rfl rfl))) ?_
  exact .nil
 intro i hw156
 simp only [List.mem_cons,List.not_mem_nil,or_false] at hw156
 rcases hw156 with rfl
 refine ⟨_,_,rfl,rfl,.step ?_⟩
 refine ae.store H153 (i:=1) rfl rfl rfl rfl (iT _) rfl nG (iP _) Bj rfl rfl rfl (fun S157 H158=>?_)
 refine ae.nil ⟨_,.any,_,rfl,(fun _ ht=>by cases ht),_,(.q (.q (.w .any .nil))),(fun _ ht=>by cases ht),?_⟩
 refine ⟨rfl,[],by kernel_rfl,?_,_,rfl,?_⟩
 ·
  exact .nil
 exact ⟨⟨b147,z122,v151,z128⟩,_,_,S157,.refl _ _,.refl _,(aa.r rfl (aa.r rfl (aa.r rfl aa.nil))),H158.sl [2,3,0,1] rfl rfl,h⟩
set_option maxRecDepth 20000 in
set_option maxHeartbeats 4000000 in
theorem gY (n:Nat) (S0:St) (a1:(List ak)) (fg3:Nat) (fc4:List AV) (p2:ak→Option Bool) (hpp2:∀ S',fq S0 S'→S'.Wf→∀ (y0:ak) (r:Bool),p2 y0=some r→eQ R cfg.P fg3 ([.d (aB y0)] ++ fc4) S' (fun o=>o=(none,.d (.bool r),S'))) (r:Int) (h:bW n a1 p2=some r):eQ R cfg.P 43 [.d (.sl ((a1).map aB) false),.fn fg3 fc4] S0 (fun o=>o=(none,.d (.int .i64 r),S0)):=by
 unfold bW at h
 refine SpecS.of_wp (C:=cfg) Tryd.func43 rfl OO rfl (fun wf0=>?_)
 have H0:Has S0 S0 []:=Has.start wf0
 refine ax.seq ?_
 refine ax.region E.obj rfl ?_
 refine ae.val rfl (aj rfl) rfl ?_
 refine ae.nil ?_
 refine ax.seq ?_
 refine ax.seq ?_
 refine ax.region E.obj rfl ?_
 refine ae.val rfl (ah rfl) rfl ?_
 refine ae.val rfl (aS rfl sD) rfl ?_
 refine ae.val rfl (ah rfl) rfl ?_
 refine ae.nil ?_
 refine ax.block ?_
 refine nz.start (B:=S0) (α:=Int) (fun k a=>aV a1 p2 k a=some r) (fun a=>[(0,(.d (.sl ((a1).map aB) false))),(1,(.fn fg3 fc4)),(7,(.d (.int .i64 ((a1).length:Int)))),(8,(.d (.int .i64 a)))]) (fun a=>[]) ?_ ?_ n ⟨0,_,_,S0,.refl _ _,.refl _,(aa.r rfl (aa.r rfl (aa.r rfl (aa.r rfl aa.nil)))),H0.sl [] rfl rfl,h⟩
 ·
  intro a h; simp [aV] at h
 intro k13 x12 S10 H11 h
 replace h:aV a1 p2 (k13 + 1) x12=some r:=h
 replace H11:Has S0 S10 []:=H11
 unfold aV at h
 refine ax.seq ?_
 refine ax.region E.obj rfl ?_
 refine ae.val rfl (ay rfl rfl bG) rfl ?_
 refine ae.nil ?_
 refine ax.seq ?_
 refine ax.cond rfl (fun hb14=>?_) (fun hb14=>?_)
 ·
  replace h:=cB hb14 h
  refine ax.skip ?_
  refine ax.seq ?_
  refine ax.block ?_
  refine ax.seq ?_
  refine ax.region E.obj rfl ?_
  refine ae.val rfl (ah rfl) rfl ?_
  refine ae.val rfl (aj rfl) rfl ?_
  refine ae.nil ?_
  refine ax.seq ?_
  refine ax.region E.obj rfl ?_
  refine ae.val rfl (ah rfl) rfl ?_
  refine ae.val rfl (ah rfl) rfl ?_
  refine ae.val rfl (ah rfl) rfl ?_
  obtain ⟨z15,hzz15,h⟩:=bind_some h
  refine ae.val rfl (bE rfl rfl (bY (enc:=aB) hzz15 oK lY ((ak.len _).trans jm.symm))) rfl ?_
  refine ae.val rfl (aU rfl (ak.gT yQ jm)) rfl ?_
  obtain ⟨z16,hzz16,h⟩:=bind_some h
  refine ae.ret rfl (vX rfl rfl) (hpp2 _ H11.keeps H11.wf _ _ hzz16) rfl ?_
  refine ae.nil ?_
  refine ax.cond rfl (fun hb17=>?_) (fun hb17=>?_)
  ·
   replace h:=cB hb17 h
   refine ax.seq ?_
   refine ax.region E.obj rfl ?_
   refine ae.val rfl (ah rfl) rfl ?_
   refine ae.val rfl (aj rfl) rfl ?_
   refine ae.nil ?_
   have hr:=Option.some.inj h
   subst hr
   exact ax.ret ⟨_,rfl,rfl,H11.keeps,dY (aD.eq .nil)⟩
  replace h:=cK hb17 h
  refine ax.skip ?_
  refine ax.region E.obj rfl ?_
  refine ae.val rfl (ay rfl rfl bI) rfl ?_
  refine ae.val rfl (ah rfl) rfl ?_
  refine ae.nil ?_
  exact ⟨(IntKind.wrap .i64 (x12 + 1)),_,_,S10,.refl _ _,.refl _,(aa.r rfl (aa.r rfl (aa.r rfl (aa.r rfl aa.nil)))),H11.sl [] rfl rfl,h⟩
 replace h:=cK hb14 h
 refine ax.exit ?_
 refine ax.seq ?_
 refine ax.region E.obj rfl ?_
 refine ae.val rfl (aj rfl) rfl ?_
 refine ae.nil ?_
 have hr:=Option.some.inj h
 subst hr
 exact ax.ret ⟨_,rfl,rfl,H11.keeps,dY (aD.eq .nil)⟩
set_option maxRecDepth 20000 in
set_option maxHeartbeats 4000000 in
theorem jO (n:Nat) (S0:St) (a1:(List ak)) (fg3:Nat) (fc4:List AV) (p2:ak→Option Bool) (hpp2:∀ S',fq S0 S'→S'.Wf→∀ (y0:ak) (r:Bool),p2 y0=some r→eQ R cfg.P fg3 ([.d (aB y0)] ++ fc4) S' (fun o=>o=(none,.d (.bool r),S'))) (r:Bool) (h:dS n a1 p2=some r):eQ R cfg.P 19 [.d (.sl ((a1).map aB) false),.fn fg3 fc4] S0 (fun o=>o=(none,.d (.bool r),S0)):=by
 unfold dS at h
 refine SpecS.of_wp (C:=cfg) Tryd.func19 rfl Pq rfl (fun wf0=>?_)
 have H0:Has S0 S0 []:=Has.start wf0
 refine ax.seq ?_
 refine ax.region E.obj rfl ?_
 refine ae.val rfl (aj rfl) rfl ?_
 refine ae.nil ?_
 refine ax.seq ?_
 refine ax.region E.obj rfl ?_
 refine ae.val rfl (ah rfl) rfl ?_
 refine ae.val rfl (ah rfl) rfl ?_
 obtain ⟨z6,hzz6,h⟩:=bind_some h
 refine ae.ret rfl (aC rfl rfl) (eQ.uY (gY E n S0 _ _ _ p2 (fun S' hk hw y5 r hr=>hpp2 S' (H0.keeps.trans hk) hw y5 r hr) _ hzz6) (.cons (.refl _) (.cons (.refl _) .nil))) rfl ?_
 refine ae.val rfl (ay rfl rfl iJ) rfl ?_
 refine ae.val rfl (aj rfl) rfl ?_
 refine ae.nil ?_
 have hr:=Option.some.inj h
 subst hr
 exact ax.ret ⟨_,rfl,rfl,H0.keeps,dY (aD.eq .nil)⟩
set_option maxRecDepth 20000 in
set_option maxHeartbeats 4000000 in
theorem xy (n:Nat) (a1:ak) (a2:Int) (S0:St) (b3:Nat) (hb4:S0.H.get b3=some (.cells 0 [(.d (.int .i64 a2))])) (r:Bool) (h:mh n a1 a2=some r):eQ R cfg.P 20 [.d (aB a1),.ptr b3 0 0] S0 (fun o=>o=(none,.d (.bool r),S0)):=by
 unfold mh at h
 refine SpecS.of_wp (C:=cfg) Tryd.func20 rfl nm20 rfl (fun wf0=>?_)
 have H0:Has S0 S0 []:=Has.start wf0
 refine ax.seq ?_
 refine ax.region E.obj rfl ?_
 refine ae.box H0 rfl rfl rfl (ak.bf _) rfl (fun b5 S6 H7=>?_)
 refine ae.val rfl (aj rfl) rfl ?_
 refine ae.nil ?_
 refine ax.seq ?_
 refine ax.region E.obj rfl ?_
 refine ae.val rfl (ai rfl sQ kL rfl) rfl ?_
 refine ae.val rfl (av H7 (i:=0) rfl rfl (aA jl rfl)) rfl ?_
 refine ae.val rfl (vT H7 hb4 rfl (aA jl rfl)) rfl ?_
 refine ae.val rfl (ay rfl rfl dD) rfl ?_
 refine ae.val rfl (aj rfl) rfl ?_
 refine ae.nil ?_
 have hr:=Option.some.inj h
 subst hr
 exact ax.ret ⟨_,rfl,rfl,H7.keeps,dY (aD.eq .nil)⟩
set_option maxRecDepth 20000 in
set_option maxHeartbeats 4000000 in
theorem nk (n:Nat) (a1:dK) (a2:Int) (r:Bool) (h:j5 n a1 a2=some r):bN R cfg.P 7 [(iW a1),(.int .i64 a2)] (.d (.bool r)):=by
 unfold j5 at h
 refine bN.of_wp E.obj.toObjOk (C:=cfg) Tryd.func7 rfl Qj rfl ?_
 have H0:Has aF aF []:=Has.pure
 refine ax.seq ?_
 refine ax.region E.obj rfl ?_
 refine ae.box H0 rfl rfl rfl (dK.bf _) rfl (fun b3 S4 H5=>?_)
 refine ae.box H5 rfl rfl rfl rfl rfl (fun b6 S7 H8=>?_)
 refine ae.val rfl (aj rfl) rfl ?_
 refine ae.nil ?_
 refine ax.seq ?_
 refine ax.region E.obj rfl ?_
 refine ae.val rfl (ai rfl iZ oO rfl) rfl ?_
 refine ae.val rfl (av H8 (i:=1) rfl rfl (aA pK rfl)) rfl ?_
 refine ae.val rfl (rC rfl) rfl ?_
 obtain ⟨z10,hzz10,h⟩:=bind_some h
 refine ae.ret rfl (aC rfl rfl) (eQ.uY (jO E n S7 _ _ _ (fun y9=>mh n y9 a2) (fun S' hk hw y9 r hr=>xy E n y9 a2 S' _ (hk.H _ _ (H8.at (i:=0) rfl)) r hr) _ hzz10) (.cons (.refl _) (.cons (.refl _) .nil))) rfl ?_
 refine ae.val rfl (aj rfl) rfl ?_
 refine ae.nil ?_
 have hr:=Option.some.inj h
 subst hr
 exact ax.ret ⟨_,rfl,rfl,dY (aD.eq .nil)⟩
set_option maxRecDepth 20000 in
set_option maxHeartbeats 4000000 in
theorem xD (n:Nat) (a1:Str) (r:Bool) (h:gK n a1=some r):bN R cfg.P 52 [(.str a1)] (.d (.bool r)):=by
 unfold gK at h
 refine bN.of_wp E.obj.toObjOk (C:=cfg) Tryd.func52 rfl Pf rfl ?_
 have H0:Has aF aF []:=Has.pure
 refine ax.seq ?_
 refine ax.region E.obj rfl ?_
 refine ae.val rfl (aj rfl) rfl ?_
 refine ae.nil ?_
 refine ax.seq ?_
 refine ax.region E.obj rfl ?_
 refine ae.val rfl (ah rfl) rfl ?_
 refine ae.val rfl (ay rfl rfl rU) rfl ?_
 refine ae.val rfl (ah rfl) rfl ?_
 refine ae.bC 4 9 (.d (.bool ((!(a1 == [])) && (decide (((a1).length:Int) ≤ 16))))) ?_ ?_
 ·
  rcases Bool.eq_false_or_eq_true ((!(a1 == []))) with hB2 | hB2
  ·
   refine ae.bool hB2 ?_
   refine ae.val rfl (ah rfl) rfl ?_
   refine ae.val rfl (uh rfl (BU OG) rfl) rfl ?_
   refine ae.val rfl (ay rfl rfl qj) rfl ?_
   refine ae.val rfl (az (b:=true) rfl rfl) rfl ?_
   exact ae.nil ⟨_,rfl,(aa.put (aa.push rfl (aa.push rfl (aa.push rfl (aa.put (.refl _) (Less.eq (by rw [hB2])))))) (Less.eq (by rw [hB2]; rw [Bool.true_and])))⟩
  refine ae.bool hB2 ?_
  refine ae.no rfl rfl ?_
  refine ae.no rfl rfl ?_
  refine ae.no rfl rfl ?_
  refine ae.val rfl (az (b:=false) rfl rfl) rfl ?_
  exact ae.nil ⟨_,rfl,(aa.put (aa.push rfl (aa.push rfl (aa.push rfl (aa.put (.refl _) (Less.eq (by rw [hB2])))))) (Less.eq (by rw [hB2]; rw [Bool.false_and])))⟩
 refine ae.val rfl (ah rfl) rfl ?_
 obtain ⟨z4,hzz4,h⟩:=bind_some h
 refine ae.bC 4 14 (.d (.bool z4)) ?_ ?_
 ·
  rcases Bool.eq_false_or_eq_true (((!(a1 == [])) && (decide (((a1).length:Int) ≤ 16)))) with hB3 | hB3
  ·
   refine ae.bool hB3 ?_
   replace hzz4:=cB hB3 hzz4
   refine ae.val rfl (ah rfl) rfl ?_
   obtain ⟨z5,hzz5,hzz4⟩:=bind_some hzz4
   refine ae.ret rfl (aC rfl rfl) (E.strings_Trim_ok _ _ _ _ hzz5 _ _ (aD.eq (aD.eq .nil))) rfl ?_
   refine ae.val rfl (ay rfl rfl pX) rfl ?_
   refine ae.val rfl (az (b:=true) rfl rfl) rfl ?_
   cases hzz4
   exact ae.nil ⟨_,rfl,(aa.put (aa.push rfl (aa.push rfl (aa.push rfl (aa.put (.refl _) (Less.eq (by rw [hB3])))))) (.refl _))⟩
  refine ae.bool hB3 ?_
  refine ae.no rfl rfl ?_
  refine ae.no rfl rfl ?_
  refine ae.no rfl rfl ?_
  refine ae.val rfl (az (b:=false) rfl rfl) rfl ?_
  replace hzz4:=cK hB3 hzz4
  cases hzz4
  exact ae.nil ⟨_,rfl,(aa.put (aa.push rfl (aa.push rfl (aa.push rfl (aa.put (.refl _) (Less.eq (by rw [hB3])))))) (.refl _))⟩
 refine ae.val rfl (aj rfl) rfl ?_
 refine ae.nil ?_
 have hr:=Option.some.inj h
 subst hr
 exact ax.ret ⟨_,rfl,rfl,dY (aD.eq .nil)⟩
set_option maxRecDepth 20000 in
set_option maxHeartbeats 4000000 in
theorem vI (n:Nat) (a1:Seg) (a2:Seg) (S0:St) (b3:Nat) (hb4:S0.H.get b3=some (.cells 0 [(.d (.int .i64 a2.Kind)),(.d (.str a2.Text))])) (r:Bool) (h:jF n a1 a2=some r):eQ R cfg.P 53 [.d (bB a1),.ptr b3 0 0] S0 (fun o=>o=(none,.d (.bool r),S0)):=by
 unfold jF at h
 refine SpecS.of_wp (C:=cfg) Tryd.func53 rfl PZ rfl (fun wf0=>?_)
 have H0:Has S0 S0 []:=Has.start wf0
 refine ax.seq ?_
 refine ax.region E.obj rfl ?_
 refine ae.box H0 rfl rfl rfl (Seg.bf _) rfl (fun b5 S6 H7=>?_)
 refine ae.val rfl (aj rfl) rfl ?_
 refine ae.nil ?_
 refine ax.seq ?_
 refine ax.region E.obj rfl ?_
 refine ae.val rfl (ai rfl vw kL rfl) rfl ?_
 refine ae.val rfl (av H7 (i:=0) rfl rfl (aA jl rfl)) rfl ?_
 refine ae.val rfl (ay rfl rfl fH) rfl ?_
 refine ae.val rfl (ah rfl) rfl ?_
 refine ae.bC 6 13 (.d (.bool ((a1.Kind != 0) && (a1.Text == a2.Text)))) ?_ ?_
 ·
  rcases Bool.eq_false_or_eq_true ((a1.Kind != 0)) with hB8 | hB8
  ·
   refine ae.bool hB8 ?_
   refine ae.val rfl (ai rfl FZ yO rfl) rfl ?_
   refine ae.val rfl (av H7 (i:=0) rfl rfl (aA u6 rfl)) rfl ?_
   refine ae.val rfl (ai rfl FZ yO rfl) rfl ?_
   refine ae.val rfl (vT H7 hb4 rfl (aA u6 rfl)) rfl ?_
   refine ae.val rfl (ay rfl rfl pX) rfl ?_
   refine ae.val rfl (az (b:=true) rfl rfl) rfl ?_
   exact ae.nil ⟨_,rfl,(aa.put (aa.push rfl (aa.push rfl (aa.push rfl (aa.push rfl (aa.push rfl (aa.put (.refl _) (Less.eq (by rw [hB8])))))))) (Less.eq (by rw [hB8]; rw [Bool.true_and])))⟩
  refine ae.bool hB8 ?_
  refine ae.no rfl rfl ?_
  refine ae.no rfl rfl ?_
  refine ae.no rfl rfl ?_
  refine ae.no rfl rfl ?_
  refine ae.no rfl rfl ?_
  refine ae.val rfl (az (b:=false) rfl rfl) rfl ?_
  exact ae.nil ⟨_,rfl,(aa.put (aa.push rfl (aa.push rfl (aa.push rfl (aa.push rfl (aa.push rfl (aa.put (.refl _) (Less.eq (by rw [hB8])))))))) (Less.eq (by rw [hB8]; rw [Bool.false_and])))⟩
 refine ae.val rfl (aj rfl) rfl ?_
 refine ae.nil ?_
 have hr:=Option.some.inj h
 subst hr
 exact ax.ret ⟨_,rfl,rfl,H7.keeps,dY (aD.eq .nil)⟩
set_option maxRecDepth 20000 in
set_option maxHeartbeats 4000000 in
theorem lH (n:Nat) (S0:St) (a1:(List Seg)) (fg3:Nat) (fc4:List AV) (p2:Seg→Option Bool) (hpp2:∀ S',fq S0 S'→S'.Wf→∀ (y0:Seg) (r:Bool),p2 y0=some r→eQ R cfg.P fg3 ([.d (bB y0)] ++ fc4) S' (fun o=>o=(none,.d (.bool r),S'))) (r:Int) (h:fE n a1 p2=some r):eQ R cfg.P 68 [.d (.sl ((a1).map bB) false),.fn fg3 fc4] S0 (fun o=>o=(none,.d (.int .i64 r),S0)):=by
 unfold fE at h
 refine SpecS.of_wp (C:=cfg) Tryd.func68 rfl P5 rfl (fun wf0=>?_)
 have H0:Has S0 S0 []:=Has.start wf0
 refine ax.seq ?_
 refine ax.region E.obj rfl ?_
 refine ae.val rfl (aj rfl) rfl ?_
 refine ae.nil ?_
 refine ax.seq ?_
 refine ax.seq ?_
 refine ax.region E.obj rfl ?_
 refine ae.val rfl (ah rfl) rfl ?_
 refine ae.val rfl (aS rfl Dv) rfl ?_
 refine ae.val rfl (ah rfl) rfl ?_
 refine ae.nil ?_
 refine ax.block ?_
 refine nz.start (B:=S0) (α:=Int) (fun k a=>bz a1 p2 k a=some r) (fun a=>[(0,(.d (.sl ((a1).map bB) false))),(1,(.fn fg3 fc4)),(7,(.d (.int .i64 ((a1).length:Int)))),(8,(.d (.int .i64 a)))]) (fun a=>[]) ?_ ?_ n ⟨0,_,_,S0,.refl _ _,.refl _,(aa.r rfl (aa.r rfl (aa.r rfl (aa.r rfl aa.nil)))),H0.sl [] rfl rfl,h⟩
 ·
  intro a h; simp [bz] at h
 intro k13 x12 S10 H11 h
 replace h:bz a1 p2 (k13 + 1) x12=some r:=h
 replace H11:Has S0 S10 []:=H11
 unfold bz at h
 refine ax.seq ?_
 refine ax.region E.obj rfl ?_
 refine ae.val rfl (ay rfl rfl bG) rfl ?_
 refine ae.nil ?_
 refine ax.seq ?_
 refine ax.cond rfl (fun hb14=>?_) (fun hb14=>?_)
 ·
  replace h:=cB hb14 h
  refine ax.skip ?_
  refine ax.seq ?_
  refine ax.block ?_
  refine ax.seq ?_
  refine ax.region E.obj rfl ?_
  refine ae.val rfl (ah rfl) rfl ?_
  refine ae.val rfl (aj rfl) rfl ?_
  refine ae.nil ?_
  refine ax.seq ?_
  refine ax.region E.obj rfl ?_
  refine ae.val rfl (ah rfl) rfl ?_
  refine ae.val rfl (ah rfl) rfl ?_
  refine ae.val rfl (ah rfl) rfl ?_
  obtain ⟨z15,hzz15,h⟩:=bind_some h
  refine ae.val rfl (bE rfl rfl (bY (enc:=bB) hzz15 wV EZ ((Seg.len _).trans pO.symm))) rfl ?_
  refine ae.val rfl (aU rfl (Seg.gT yK pO)) rfl ?_
  obtain ⟨z16,hzz16,h⟩:=bind_some h
  refine ae.ret rfl (vX rfl rfl) (hpp2 _ H11.keeps H11.wf _ _ hzz16) rfl ?_
  refine ae.nil ?_
  refine ax.cond rfl (fun hb17=>?_) (fun hb17=>?_)
  ·
   replace h:=cB hb17 h
   refine ax.seq ?_
   refine ax.region E.obj rfl ?_
   refine ae.val rfl (ah rfl) rfl ?_
   refine ae.val rfl (aj rfl) rfl ?_
   refine ae.nil ?_
   have hr:=Option.some.inj h
   subst hr
   exact ax.ret ⟨_,rfl,rfl,H11.keeps,dY (aD.eq .nil)⟩
  replace h:=cK hb17 h
  refine ax.skip ?_
  refine ax.region E.obj rfl ?_
  refine ae.val rfl (ay rfl rfl bI) rfl ?_
  refine ae.val rfl (ah rfl) rfl ?_
  refine ae.nil ?_
  exact ⟨(IntKind.wrap .i64 (x12 + 1)),_,_,S10,.refl _ _,.refl _,(aa.r rfl (aa.r rfl (aa.r rfl (aa.r rfl aa.nil)))),H11.sl [] rfl rfl,h⟩
 replace h:=cK hb14 h
 refine ax.exit ?_
 refine ax.seq ?_
 refine ax.region E.obj rfl ?_
 refine ae.val rfl (aj rfl) rfl ?_
 refine ae.nil ?_
 have hr:=Option.some.inj h
 subst hr
 exact ax.ret ⟨_,rfl,rfl,H11.keeps,dY (aD.eq .nil)⟩
set_option maxRecDepth 20000 in
set_option maxHeartbeats 4000000 in
theorem kM (n:Nat) (S0:St) (a1:(List Seg)) (fg3:Nat) (fc4:List AV) (p2:Seg→Option Bool) (hpp2:∀ S',fq S0 S'→S'.Wf→∀ (y0:Seg) (r:Bool),p2 y0=some r→eQ R cfg.P fg3 ([.d (bB y0)] ++ fc4) S' (fun o=>o=(none,.d (.bool r),S'))) (r:Bool) (h:di n a1 p2=some r):eQ R cfg.P 54 [.d (.sl ((a1).map bB) false),.fn fg3 fc4] S0 (fun o=>o=(none,.d (.bool r),S0)):=by
 unfold di at h
 refine SpecS.of_wp (C:=cfg) Tryd.func54 rfl OD rfl (fun wf0=>?_)
 have H0:Has S0 S0 []:=Has.start wf0
 refine ax.seq ?_
 refine ax.region E.obj rfl ?_
 refine ae.val rfl (aj rfl) rfl ?_
 refine ae.nil ?_
 refine ax.seq ?_
 refine ax.region E.obj rfl ?_
 refine ae.val rfl (ah rfl) rfl ?_
 refine ae.val rfl (ah rfl) rfl ?_
 obtain ⟨z6,hzz6,h⟩:=bind_some h
 refine ae.ret rfl (aC rfl rfl) (eQ.uY (lH E n S0 _ _ _ p2 (fun S' hk hw y5 r hr=>hpp2 S' (H0.keeps.trans hk) hw y5 r hr) _ hzz6) (.cons (.refl _) (.cons (.refl _) .nil))) rfl ?_
 refine ae.val rfl (ay rfl rfl iJ) rfl ?_
 refine ae.val rfl (aj rfl) rfl ?_
 refine ae.nil ?_
 have hr:=Option.some.inj h
 subst hr
 exact ax.ret ⟨_,rfl,rfl,H0.keeps,dY (aD.eq .nil)⟩
set_option maxRecDepth 20000 in
set_option maxHeartbeats 4000000 in
theorem rY (n:Nat) (a1:(List Seg)) (r:Bool) (h:gN n a1=some r):bN R cfg.P 36 [(.sl ((a1).map bB) false)] (.d (.bool r)):=by
 unfold gN at h
 refine bN.of_wp E.obj.toObjOk (C:=cfg) Tryd.func36 rfl PH rfl ?_
 have H0:Has aF aF []:=Has.pure
 refine ax.seq ?_
 refine ax.region E.obj rfl ?_
 refine ae.val rfl (aj rfl) rfl ?_
 refine ae.nil ?_
 refine ax.seq ?_
 refine ax.seq ?_
 refine ax.region E.obj rfl ?_
 refine ae.val rfl (ah rfl) rfl ?_
 refine ae.val rfl (aS rfl Dv) rfl ?_
 refine ae.val rfl (ay rfl rfl jT) rfl ?_
 refine ae.nil ?_
 refine ax.cond rfl (fun hb2=>?_) (fun hb2=>?_)
 ·
  replace h:=cB hb2 h
  refine ax.seq ?_
  refine ax.region E.obj rfl ?_
  refine ae.val rfl (aj rfl) rfl ?_
  refine ae.nil ?_
  have hr:=Option.some.inj h
  subst hr
  exact ax.ret ⟨_,rfl,rfl,dY (aD.eq .nil)⟩
 replace h:=cK hb2 h
 refine ax.skip ?_
 refine ax.seq ?_
 refine ax.seq ?_
 refine ax.region E.obj rfl ?_
 refine ae.val rfl (ah rfl) rfl ?_
 refine ae.val rfl (aS rfl Dv) rfl ?_
 refine ae.val rfl (ah rfl) rfl ?_
 refine ae.nil ?_
 refine ax.block ?_
 refine nz.start (B:=aF) (α:=Int) (fun k a=>eD n a1 k a=some r) (fun a=>[(0,(.d (.sl ((a1).map bB) false))),(10,(.d (.sl ((a1).map bB) false))),(11,(.d (.int .i64 ((a1).length:Int)))),(12,(.d (.int .i64 a)))]) (fun a=>[]) ?_ ?_ n ⟨0,_,_,aF,.refl _ _,.refl _,(aa.r rfl (aa.r rfl (aa.r rfl (aa.r rfl aa.nil)))),H0.sl [] rfl rfl,h⟩
 ·
  intro a h; simp [eD] at h
 intro k11 x10 S8 H9 h
 replace h:eD n a1 (k11 + 1) x10=some r:=h
 replace H9:Has aF S8 []:=H9
 unfold eD at h
 refine ax.seq ?_
 refine ax.region E.obj rfl ?_
 refine ae.val rfl (ay rfl rfl bG) rfl ?_
 refine ae.nil ?_
 refine ax.seq ?_
 refine ax.cond rfl (fun hb12=>?_) (fun hb12=>?_)
 ·
  replace h:=cB hb12 h
  refine ax.skip ?_
  refine ax.seq ?_
  refine ax.block ?_
  refine ax.seq ?_
  refine ax.region E.obj rfl ?_
  refine ae.val rfl (ah rfl) rfl ?_
  obtain ⟨z13,hzz13,h⟩:=bind_some h
  refine ae.val rfl (bE rfl rfl (bY (enc:=bB) hzz13 wV EZ ((Seg.len _).trans pO.symm))) rfl ?_
  refine ae.val rfl (aU rfl (Seg.gT yK pO)) rfl ?_
  refine ae.alloc H9 rfl Pb yM rfl rfl (fun b14 S15 H16=>?_)
  refine ae.val rfl (aj rfl) rfl ?_
  refine ae.store H16 (i:=0) rfl rfl rfl rfl (Seg.bf _) rfl pO rfl EZ rfl rfl rfl (fun S17 H18=>?_)
  refine ae.nil ?_
  refine ax.seq ?_
  refine ax.region E.obj rfl ?_
  refine ae.val rfl (ah rfl) rfl ?_
  refine ae.val rfl (ah rfl) rfl ?_
  refine ae.val rfl (aS rfl Dv) rfl ?_
  refine ae.val rfl (ay rfl rfl iV) rfl ?_
  refine ae.val rfl (ay rfl rfl dD) rfl ?_
  refine ae.val rfl (aj rfl) rfl ?_
  refine ae.nil ?_
  refine ax.seq ?_
  refine ax.block ?_
  refine ax.seq ?_
  refine ax.region E.obj rfl ?_
  refine ae.val rfl (ai rfl FZ yO rfl) rfl ?_
  refine ae.val rfl (av H18 (i:=0) rfl rfl (aA u6 rfl)) rfl ?_
  obtain ⟨z19,hzz19,h⟩:=bind_some h
  refine ae.ret rfl (aC rfl rfl) (xD E _ _ _ hzz19 _ _ (aD.eq .nil)) rfl ?_
  refine ae.val rfl (eZ rfl) rfl ?_
  refine ae.val rfl (ah rfl) rfl ?_
  refine ae.bC 4 31 (.d (.bool ((!z19) || (decide (z13.Kind < 0))))) ?_ ?_
  ·
   rcases Bool.eq_false_or_eq_true ((!z19)) with hB20 | hB20
   ·
    refine ae.bool hB20 ?_
    refine ae.no rfl rfl ?_
    refine ae.no rfl rfl ?_
    refine ae.no rfl rfl ?_
    refine ae.val rfl (az (b:=true) rfl rfl) rfl ?_
    exact ae.nil ⟨_,rfl,(aa.put (aa.push rfl (aa.push rfl (aa.push rfl (aa.put (.refl _) (Less.eq (by rw [hB20])))))) (Less.eq (by rw [hB20]; rw [Bool.true_or])))⟩
   refine ae.bool hB20 ?_
   refine ae.val rfl (ai rfl vw kL rfl) rfl ?_
   refine ae.val rfl (av H18 (i:=0) rfl rfl (aA jl rfl)) rfl ?_
   refine ae.val rfl (ay rfl rfl bG) rfl ?_
   refine ae.val rfl (az (b:=false) rfl rfl) rfl ?_
   exact ae.nil ⟨_,rfl,(aa.put (aa.push rfl (aa.push rfl (aa.push rfl (aa.put (.refl _) (Less.eq (by rw [hB20])))))) (Less.eq (by rw [hB20]; rw [Bool.false_or])))⟩
  refine ae.val rfl (ah rfl) rfl ?_
  refine ae.bC 4 36 (.d (.bool (((!z19) || (decide (z13.Kind < 0))) || (decide (3 < z13.Kind))))) ?_ ?_
  ·
   rcases Bool.eq_false_or_eq_true (((!z19) || (decide (z13.Kind < 0)))) with hB21 | hB21
   ·
    refine ae.bool hB21 ?_
    refine ae.no rfl rfl ?_
    refine ae.no rfl rfl ?_
    refine ae.no rfl rfl ?_
    refine ae.val rfl (az (b:=true) rfl rfl) rfl ?_
    exact ae.nil ⟨_,rfl,(aa.put (aa.push rfl (aa.push rfl (aa.push rfl (aa.put (.refl _) (Less.eq (by rw [hB21])))))) (Less.eq (by rw [hB21]; rw [Bool.true_or])))⟩
   refine ae.bool hB21 ?_
   refine ae.val rfl (ai rfl vw kL rfl) rfl ?_
   refine ae.val rfl (av H18 (i:=0) rfl rfl (aA jl rfl)) rfl ?_
   refine ae.val rfl (ay rfl rfl jT) rfl ?_
   refine ae.val rfl (az (b:=false) rfl rfl) rfl ?_
   exact ae.nil ⟨_,rfl,(aa.put (aa.push rfl (aa.push rfl (aa.push rfl (aa.put (.refl _) (Less.eq (by rw [hB21])))))) (Less.eq (by rw [hB21]; rw [Bool.false_or])))⟩
  refine ae.val rfl (aj rfl) rfl ?_
  refine ae.nil ?_
  refine ax.cond rfl (fun hb22=>?_) (fun hb22=>?_)
  ·
   replace h:=cB hb22 h
   refine ax.seq ?_
   refine ax.region E.obj rfl ?_
   refine ae.val rfl (aj rfl) rfl ?_
   refine ae.nil ?_
   have hr:=Option.some.inj h
   subst hr
   exact ax.ret ⟨_,rfl,rfl,dY (aD.eq .nil)⟩
  replace h:=cK hb22 h
  refine ax.seq ?_
  refine ax.region E.obj rfl ?_
  refine ae.val rfl (ai rfl vw kL rfl) rfl ?_
  refine ae.val rfl (av H18 (i:=0) rfl rfl (aA jl rfl)) rfl ?_
  refine ae.val rfl (ay rfl rfl iJ) rfl ?_
  refine ae.val rfl (ah rfl) rfl ?_
  refine ae.bC 3 44 (.d (.bool ((decide (2 ≤ z13.Kind)) && (!(x10 == (IntKind.wrap .i64 (((a1).length:Int) - 1))))))) ?_ ?_
  ·
   rcases Bool.eq_false_or_eq_true ((decide (2 ≤ z13.Kind))) with hB23 | hB23
   ·
    refine ae.bool hB23 ?_
    refine ae.val rfl (ah rfl) rfl ?_
    refine ae.val rfl (eZ rfl) rfl ?_
    refine ae.val rfl (az (b:=true) rfl rfl) rfl ?_
    exact ae.nil ⟨_,rfl,(aa.put (aa.push rfl (aa.push rfl (aa.put (.refl _) (Less.eq (by rw [hB23]))))) (Less.eq (by rw [hB23]; rw [Bool.true_and])))⟩
   refine ae.bool hB23 ?_
   refine ae.no rfl rfl ?_
   refine ae.no rfl rfl ?_
   refine ae.val rfl (az (b:=false) rfl rfl) rfl ?_
   exact ae.nil ⟨_,rfl,(aa.put (aa.push rfl (aa.push rfl (aa.put (.refl _) (Less.eq (by rw [hB23]))))) (Less.eq (by rw [hB23]; rw [Bool.false_and])))⟩
  refine ae.val rfl (aj rfl) rfl ?_
  refine ae.nil ?_
  refine ax.cond rfl (fun hb24=>?_) (fun hb24=>?_)
  ·
   replace h:=cB hb24 h
   refine ax.seq ?_
   refine ax.region E.obj rfl ?_
   refine ae.val rfl (aj rfl) rfl ?_
   refine ae.nil ?_
   have hr:=Option.some.inj h
   subst hr
   exact ax.ret ⟨_,rfl,rfl,dY (aD.eq .nil)⟩
  replace h:=cK hb24 h
  refine ax.skip ?_
  refine ax.seq ?_
  refine ax.region E.obj rfl ?_
  refine ae.val rfl (rC rfl) rfl ?_
  refine ae.val rfl (aj rfl) rfl ?_
  refine ae.nil ?_
  refine ax.seq ?_
  refine ax.region E.obj rfl ?_
  refine ae.val rfl (ai rfl vw kL rfl) rfl ?_
  refine ae.val rfl (av H18 (i:=0) rfl rfl (aA jl rfl)) rfl ?_
  refine ae.val rfl (ay rfl rfl fH) rfl ?_
  refine ae.val rfl (ah rfl) rfl ?_
  obtain ⟨z26,hzz26,h⟩:=bind_some h
  refine ae.bC 6 55 (.d (.bool z26)) ?_ ?_
  ·
   rcases Bool.eq_false_or_eq_true ((z13.Kind != 0)) with hB25 | hB25
   ·
    refine ae.bool hB25 ?_
    replace hzz26:=cB hB25 hzz26
    refine ae.val rfl (ah rfl) rfl ?_
    refine ae.val rfl (ah rfl) rfl ?_
    obtain ⟨z27,hzz27,hzz26⟩:=bind_some hzz26
    refine ae.val rfl (Gt rfl rfl wV Pz (fun z=>(Seg.len z).trans pO.symm) hzz27) rfl ?_
    refine ae.val rfl (ah rfl) rfl ?_
    obtain ⟨z29,hzz29,hzz26⟩:=bind_some hzz26
    refine ae.ret rfl (aC rfl rfl) (eQ.uY (kM E n S17 _ _ _ (fun y28=>jF n y28 z13) (fun S' hk hw y28 r hr=>vI E n y28 z13 S' _ (hk.H _ _ (H18.at (i:=0) rfl)) r hr) _ hzz29) (.cons (.refl _) (.cons (.refl _) .nil))) rfl ?_
    refine ae.val rfl (az (b:=true) rfl rfl) rfl ?_
    cases hzz26
    exact ae.nil ⟨_,rfl,(aa.put (aa.push rfl (aa.push rfl (aa.push rfl (aa.push rfl (aa.push rfl (aa.put (.refl _) (Less.eq (by rw [hB25])))))))) (.refl _))⟩
   refine ae.bool hB25 ?_
   refine ae.no rfl rfl ?_
   refine ae.no rfl rfl ?_
   refine ae.no rfl rfl ?_
   refine ae.no rfl rfl ?_
   refine ae.no rfl rfl ?_
   refine ae.val rfl (az (b:=false) rfl rfl) rfl ?_
   replace hzz26:=cK hB25 hzz26
   cases hzz26
   exact ae.nil ⟨_,rfl,(aa.put (aa.push rfl (aa.push rfl (aa.push rfl (aa.push rfl (aa.push rfl (aa.put (.refl _) (Less.eq (by rw [hB25])))))))) (.refl _))⟩
  refine ae.nil ?_
  refine ax.cond rfl (fun hb30=>?_) (fun hb30=>?_)
  ·
   replace h:=cB hb30 h
   refine ax.seq ?_
   refine ax.region E.obj rfl ?_
   refine ae.val rfl (aj rfl) rfl ?_
   refine ae.nil ?_
   have hr:=Option.some.inj h
   subst hr
   exact ax.ret ⟨_,rfl,rfl,dY (aD.eq .nil)⟩
  replace h:=cK hb30 h
  refine ax.skip ?_
  refine ax.region E.obj rfl ?_
  refine ae.val rfl (ay rfl rfl bI) rfl ?_
  refine ae.val rfl (ah rfl) rfl ?_
  refine ae.nil ?_
  exact ⟨(IntKind.wrap .i64 (x10 + 1)),_,_,S17,.refl _ _,.refl _,(aa.r rfl (aa.r rfl (aa.r rfl (aa.r rfl aa.nil)))),H18.sl [] rfl rfl,h⟩
 replace h:=cK hb12 h
 refine ax.exit ?_
 refine ax.seq ?_
 refine ax.region E.obj rfl ?_
 refine ae.val rfl (aj rfl) rfl ?_
 refine ae.nil ?_
 have hr:=Option.some.inj h
 subst hr
 exact ax.ret ⟨_,rfl,rfl,dY (aD.eq .nil)⟩
set_option maxRecDepth 20000 in
set_option maxHeartbeats 4000000 in
theorem pJ (n:Nat) (a1:(List Int)) (r:(List Int)) (h:gM n a1=some r) (w2:AV):Ef R cfg.P 69 [w2] [.row 1 w2 ((a1).map (D.int .i64))] (fun v l=>l=[.row 1 w2 ((r).map (D.int .i64))]):=by
 unfold gM at h
 refine Ef.of_wp (C:=Cu) Tryd.func69 rfl PN rfl (fun B0 S0 H0=>?_)
 replace H0:Has B0 S0 [.row 1 w2 ((a1).map (D.int .i64))]:=H0
 refine ax.seq ?_
 refine ax.region (oV E) rfl ?_
 refine ae.val rfl (ah rfl) rfl ?_
 refine ae.val rfl (jv H0 (i:=0) rfl rfl wX) rfl ?_
 refine ae.val rfl (ay rfl rfl iV) rfl ?_
 refine ae.val rfl (aj rfl) rfl ?_
 refine ae.val rfl (aj rfl) rfl ?_
 refine ae.nil ?_
 refine ax.block ?_
 refine nz.start (B:=B0) (α:=(List Int) × Int × Int) (fun k a=>bL  k a.1 a.2.1 a.2.2=some r) (fun a=>[(0,w2),(2,(.d (.int .i64 a.2.1))),(3,(.d (.int .i64 a.2.2)))]) (fun a=>[.row 1 w2 ((a.1).map (D.int .i64))]) ?_ ?_ n ⟨⟨a1,0,(IntKind.wrap .i64 (((a1).length:Int) - 1))⟩,_,_,S0,.refl _ _,.refl _,(aa.r rfl (aa.r rfl (aa.r rfl aa.nil))),H0.sl [0] rfl rfl,h⟩
 ·
  intro a h; simp [bL] at h
 intro k15 a S10 H11 h
 obtain ⟨x12,x13,x14⟩:=a
 replace h:bL  (k15 + 1) x12 x13 x14=some r:=h
 replace H11:Has B0 S10 [.row 1 w2 ((x12).map (D.int .i64))]:=H11
 unfold bL at h
 refine ax.seq ?_
 refine ax.seq ?_
 refine ax.region (oV E) rfl ?_
 refine ae.val rfl (ah rfl) rfl ?_
 refine ae.val rfl (ah rfl) rfl ?_
 refine ae.val rfl (ay rfl rfl bG) rfl ?_
 refine ae.nil ?_
 refine ax.cond rfl (fun hb16=>?_) (fun hb16=>?_)
 ·
  replace h:=cB hb16 h
  refine ax.skip ?_
  refine ax.seq ?_
  refine ax.block ?_
  obtain ⟨z17,hzz17,h⟩:=bind_some h
  obtain ⟨z18,hzz18,h⟩:=bind_some h
  obtain ⟨z21,hzz21,h⟩:=bind_some h
  refine ax.AP (oV E) pM PK [(0,none),(2,none),(3,none)] (by kernel_rfl) 2 [13,15] (by decide) [some w2,some (.d (.int .i64 x13)),some w2,some (.d (.int .i64 x14)),some w2,some (.d (.int .i64 x14)),some (iF w2 (Int.toNat x14) 0),some (.d (.int .i64 z17)),some w2,some (.d (.int .i64 x13)),some (iF w2 (Int.toNat x13) 0),some (.d (.int .i64 z18)),some (iF w2 (Int.toNat x13) 0),none,none,none] ?_
  refine ⟨[13],[0,1,2,3,4,5,6,7,8,9,10,11,12],⟨by decide,by decide⟩,by kernel_rfl,?_,?_⟩
  ·
   refine .v rfl rfl rfl rfl (ah rfl) ?_
   refine .v rfl rfl rfl rfl (ah rfl) ?_
   refine .v rfl rfl rfl rfl (ah rfl) ?_
   refine .v rfl rfl rfl rfl (ah rfl) ?_
   refine .v rfl rfl rfl rfl (ah rfl) ?_
   refine .v rfl rfl rfl rfl (ah rfl) ?_
   refine .cons rfl rfl rfl (.step ?_) ?_
   ·
    refine ae.iM (enc:=(D.int .i64)) H11 rfl (i:=0) rfl rfl rfl hzz17 kV xC (((fun _=>rfl) _).trans pI.symm) rfl ?_
    exact ae.nil ⟨_,_,rfl,fun _ ht=>by cases ht; exact ⟨rfl,.refl _⟩⟩
   refine .cons rfl rfl rfl (.step ?_) ?_
   ·
    refine ae.lC H11 rfl (i:=0) rfl hzz17 rfl (dL jl rfl) rfl ?_
    exact ae.nil ⟨_,_,rfl,fun _ ht=>by cases ht; exact ⟨rfl,.refl _⟩⟩
   refine .v rfl rfl rfl rfl (ah rfl) ?_
   refine .v rfl rfl rfl rfl (ah rfl) ?_
   refine .cons rfl rfl rfl (.step ?_) ?_
   ·
    refine ae.iM (enc:=(D.int .i64)) H11 rfl (i:=0) rfl rfl rfl hzz18 kV xC (((fun _=>rfl) _).trans pI.symm) rfl ?_
    exact ae.nil ⟨_,_,rfl,fun _ ht=>by cases ht; exact ⟨rfl,.refl _⟩⟩
   refine .cons rfl rfl rfl (.step ?_) ?_
   ·
    refine ae.lC H11 rfl (i:=0) rfl hzz18 rfl (dL jl rfl) rfl ?_
    exact ae.nil ⟨_,_,rfl,fun _ ht=>by cases ht; exact ⟨rfl,.refl _⟩⟩
   refine .cons rfl rfl rfl (.step ?_) ?_
   ·
    refine ae.iM (enc:=(D.int .i64)) H11 rfl (i:=0) rfl rfl rfl hzz18 kV xC (((fun _=>rfl) _).trans pI.symm) rfl ?_
    exact ae.nil ⟨_,_,rfl,fun _ ht=>by cases ht; exact ⟨rfl,.refl _⟩⟩
   exact .nil
  intro i hw24
  simp only [List.mem_cons,List.not_mem_nil,or_false] at hw24
  rcases hw24 with rfl
  refine ⟨_,_,rfl,rfl,.step ?_⟩
  refine ae.gV (enc:=(D.int .i64)) (z':=z17) (cv:=[(.int .i64 z17)]) H11 rfl (i:=0) rfl hzz18 rfl rfl rfl (.cons (.refl _) .nil) pI rfl xC rfl rfl rfl (fun S25 H26=>?_)
  refine ae.nil ⟨_,.any,_,rfl,(fun _ ht=>by cases ht),_,(.q (.q (.q (.o (.w .any (.w (iF w2 (Int.toNat x14) 0) (.n .nil))))))),(fun _ ht=>by cases ht),?_⟩
  refine ⟨[15],[2,3,14],⟨by decide,by decide⟩,by kernel_rfl,?_,?_⟩
  ·
   refine .v rfl rfl rfl rfl (ah rfl) ?_
   refine .v rfl rfl rfl rfl (ah rfl) ?_
   refine .cons rfl rfl rfl (.step ?_) ?_
   ·
    refine ae.iM (enc:=(D.int .i64)) H26 rfl (i:=0) rfl rfl rfl hzz21 kV xC (((fun _=>rfl) _).trans pI.symm) rfl ?_
    exact ae.nil ⟨_,_,rfl,fun _ ht=>by cases ht; exact ⟨rfl,.refl _⟩⟩
   exact .nil
  intro i hw27
  simp only [List.mem_cons,List.not_mem_nil,or_false] at hw27
  rcases hw27 with rfl
  refine ⟨_,_,rfl,rfl,.step ?_⟩
  refine ae.gV (enc:=(D.int .i64)) (z':=z18) (cv:=[(.int .i64 z18)]) H26 rfl (i:=0) rfl hzz21 rfl rfl rfl (.cons (.refl _) .nil) pI rfl xC rfl rfl rfl (fun S28 H29=>?_)
  refine ae.nil ⟨_,.any,_,rfl,(fun _ ht=>by cases ht),_,(.q (.q (.q (.o (.o (.o (.w .any .nil))))))),(fun _ ht=>by cases ht),?_⟩
  refine ⟨rfl,[],by kernel_rfl,?_,_,rfl,?_⟩
  ·
   exact .nil
  refine ax.region (oV E) rfl ?_
  refine ae.val rfl (ah rfl) rfl ?_
  refine ae.val rfl (ay rfl rfl bI) rfl ?_
  refine ae.val rfl (ah rfl) rfl ?_
  refine ae.val rfl (ay rfl rfl iV) rfl ?_
  refine ae.val rfl (aj rfl) rfl ?_
  refine ae.val rfl (aj rfl) rfl ?_
  refine ae.nil ?_
  exact ⟨⟨(je (je x12 x13 z17) x14 z18),(IntKind.wrap .i64 (x13 + 1)),(IntKind.wrap .i64 (x14 - 1))⟩,_,_,S28,.refl _ _,.refl _,(aa.r rfl (aa.r rfl (aa.r rfl aa.nil))),H29.sl [0] rfl rfl,h⟩
 replace h:=cK hb16 h
 refine ax.exit ?_
 have hr:=Option.some.inj h
 subst hr
 exact ⟨_,rfl,rfl,_,_,_,.refl _,(.refl _),rfl,H11.sl [0] rfl rfl⟩
set_option maxRecDepth 20000 in
set_option maxHeartbeats 4000000 in
theorem zh (n:Nat) (a1:(List ak)) (a2:Int) (r:(List Int)) (h:oz n a1 a2=some r):bN R cfg.P 55 [(.sl ((a1).map aB) false),(.int .i64 a2)] (.d (.sl ((r).map (D.int .i64)) false)):=by
 unfold oz at h
 refine bN.of_wp (oV E).toObjOk (C:=Cu) Tryd.func55 rfl O9 rfl ?_
 have H0:Has aF aF []:=Has.pure
 refine ax.seq ?_
 refine ax.region (oV E) rfl ?_
 refine ae.val rfl (aj rfl) rfl ?_
 refine ae.nil ?_
 refine ax.seq ?_
 refine ax.region (oV E) rfl ?_
 refine ae.val rfl (aj rfl) rfl ?_
 refine ae.nil ?_
 refine ax.join (B:=aF) (α:=(List Int) × AV) (fun a=>jy n a.1=some r) (fun a=>[(5,a.2)]) (fun a=>[.row 1 a.2 ((a.1).map (D.int .i64))]) ?_ ?_
 ·
  intro a S3 H4 h
  obtain ⟨x5,v6⟩:=a
  replace h:jy n x5=some r:=h
  replace H4:Has aF S3 [.row 1 v6 ((x5).map (D.int .i64))]:=H4
  unfold jy at h
  refine ax.seq ?_
  refine ax.region (oV E) rfl ?_
  refine ae.val rfl (ah rfl) rfl ?_
  obtain ⟨z8,hzz8,h⟩:=bind_some h
  refine ae.OW (ins:=[.row 1 v6 ((x5).map (D.int .i64))]) (more:=[]) (H4.sl [0] rfl rfl) rfl (aC rfl rfl) (pJ E n _ _ hzz8 _) (.cons (.refl _) .nil) rfl ?_
  rintro _ S9 _ rfl H10
  replace H10:Has aF S9 [.row 1 v6 ((z8).map (D.int .i64))]:=H10
  refine ae.nil ?_
  refine ax.seq ?_
  refine ax.region (oV E) rfl ?_
  refine ae.val rfl (ah rfl) rfl ?_
  refine ae.val rfl (aj rfl) rfl ?_
  refine ae.nil ?_
  obtain ⟨SF4,HF4,hgF4⟩:=H10.freeze (oV E).toObjOk (i:=0) (l':=[]) rfl .nil
  refine ax.ghost (hgF4 _ _ [(4,(.d (.sl ((z8).map (D.int .i64)) false))),(5,(.d (.sl ((z8).map (D.int .i64)) false))),(28,(.d (.sl ((z8).map (D.int .i64)) false))),(30,(.d (.sl ((z8).map (D.int .i64)) false)))] (.it rfl (.it rfl (.it rfl (.it rfl .nil))))) ?_
  have hr:=Option.some.inj h
  subst hr
  exact ax.ret ⟨_,rfl,rfl,dY (aD.eq .nil)⟩
 refine ax.block ?_
 have H35:=H0.JN 1
 refine nz.start (B:=aF) (α:=Int × (List Int) × AV) (fun k a=>gq n a1 k a.1 a.2.1=some r) (fun a=>[(0,(.d (.sl ((a1).map aB) false))),(1,(.d (.int .i64 a.1))),(5,a.2.2)]) (fun a=>[.row 1 a.2.2 ((a.2.1).map (D.int .i64))]) ?_ ?_ n ⟨⟨a2,[],(.d .aO)⟩,_,_,aF,.refl _ _,.refl _,(aa.r rfl (aa.r rfl (aa.r rfl aa.nil))),H35.sl [0] rfl rfl,h⟩
 ·
  intro a h; simp [gq] at h
 intro k23 a S18 H19 h
 obtain ⟨x20,x21,v22⟩:=a
 replace h:gq n a1 (k23 + 1) x20 x21=some r:=h
 replace H19:Has aF S18 [.row 1 v22 ((x21).map (D.int .i64))]:=H19
 unfold gq at h
 refine ax.seq ?_
 refine ax.seq ?_
 refine ax.region (oV E) rfl ?_
 refine ae.val rfl (ah rfl) rfl ?_
 refine ae.val rfl (ay rfl rfl iJ) rfl ?_
 refine ae.val rfl (ah rfl) rfl ?_
 refine ae.bC 5 14 (.d (.bool ((decide (0 ≤ x20)) && (decide (x20 < ((a1).length:Int)))))) ?_ ?_
 ·
  rcases Bool.eq_false_or_eq_true ((decide (0 ≤ x20))) with hB24 | hB24
  ·
   refine ae.bool hB24 ?_
   refine ae.val rfl (ah rfl) rfl ?_
   refine ae.val rfl (ah rfl) rfl ?_
   refine ae.val rfl (aS rfl sD) rfl ?_
   refine ae.val rfl (ay rfl rfl bG) rfl ?_
   refine ae.val rfl (az (b:=true) rfl rfl) rfl ?_
   exact ae.nil ⟨_,rfl,(aa.put (aa.push rfl (aa.push rfl (aa.push rfl (aa.push rfl (aa.put (.refl _) (Less.eq (by rw [hB24]))))))) (Less.eq (by rw [hB24]; rw [Bool.true_and])))⟩
  refine ae.bool hB24 ?_
  refine ae.no rfl rfl ?_
  refine ae.no rfl rfl ?_
  refine ae.no rfl rfl ?_
  refine ae.no rfl rfl ?_
  refine ae.val rfl (az (b:=false) rfl rfl) rfl ?_
  exact ae.nil ⟨_,rfl,(aa.put (aa.push rfl (aa.push rfl (aa.push rfl (aa.push rfl (aa.put (.refl _) (Less.eq (by rw [hB24]))))))) (Less.eq (by rw [hB24]; rw [Bool.false_and])))⟩
 refine ae.nil ?_
 refine ax.cond rfl (fun hb25=>?_) (fun hb25=>?_)
 ·
  replace h:=cB hb25 h
  refine ax.skip ?_
  refine ax.block ?_
  refine ax.seq ?_
  refine ax.region (oV E) rfl ?_
  refine ae.val rfl (ah rfl) rfl ?_
  refine ae.val rfl (ah rfl) rfl ?_
  refine ae.ui (enc:=(D.int .i64)) (xs:=[x20]) (vs:=[(.d (.int .i64 x20))]) (cs:=[[(.d (.int .i64 x20))]]) H19 rfl Ko kV xC Gs pI rfl (by decide) (.cons rfl rfl .nil) rfl (.cons (.refl _) .nil) (fun _=>rfl) (fun _=>rfl) rfl rfl (fun v26 S27 H28=>?_)
  obtain ⟨SF7,HF7,hgF7⟩:=H28.freeze (oV E).toObjOk (i:=0) (l':=[.row 1 v22 ((x21).map (D.int .i64))]) rfl (.same .nil)
  refine ae.ghost (hgF7 _ _ [(0,(.d (.sl ((a1).map aB) false))),(1,(.d (.int .i64 x20))),(5,v22),(7,(.d (.int .i64 x20))),(8,(.d (.bool (decide (0 ≤ x20))))),(9,(.d (.bool (decide (0 ≤ x20))))),(14,(.d (.bool ((decide (0 ≤ x20)) && (decide (x20 < ((a1).length:Int))))))),(15,v22),(16,(.d (.int .i64 x20))),(17,(.d (.sl (([x20]).map (D.int .i64)) false)))] (.cons rfl (.refl _) (.cons rfl (.refl _) (.cons rfl (.refl _) (.cons rfl (.refl _) (.cons rfl (.refl _) (.cons rfl (.refl _) (.cons rfl (.refl _) (.cons rfl (.refl _) (.cons rfl (.refl _) (.it rfl .nil))))))))))) ?_
  obtain ⟨z29,hzz29,h⟩:=bind_some h
  refine ae.rH (xs:=(x21).map (D.int .i64)) (ys:=([x20]).map (D.int .i64)) (zs:=(z29).map (D.int .i64)) HF7 rfl rfl rfl (i:=0) rfl pI rfl Ko Mi kV (fI hzz29) Nw rfl (bS (enc:=(D.int .i64)) (fun _=>pI.symm) _) (tQ (fun _=>rfl) _) rfl NN rfl (jK hzz29) (fun v30 S31 H32=>?_)
  refine ae.val rfl (aj rfl) rfl ?_
  refine ae.nil ?_
  refine ax.seq ?_
  refine ax.region (oV E) rfl ?_
  refine ae.val rfl (ah rfl) rfl ?_
  refine ae.val rfl (ah rfl) rfl ?_
  obtain ⟨z33,hzz33,h⟩:=bind_some h
  refine ae.val rfl (bE rfl rfl (bY (enc:=aB) hzz33 oK lY ((ak.len _).trans jm.symm))) rfl ?_
  refine ae.val rfl (kD rfl sQ kL rfl) rfl ?_
  refine ae.val rfl (aU rfl (by rw [ak.cells]; exact dL jl rfl)) rfl ?_
  refine ae.val rfl (aj rfl) rfl ?_
  refine ae.nil ?_
  refine ax.seq ?_
  refine ax.seq ?_
  refine ax.region (oV E) rfl ?_
  refine ae.val rfl (ah rfl) rfl ?_
  refine ae.val rfl (ah rfl) rfl ?_
  refine ae.val rfl (ay rfl rfl iJ) rfl ?_
  refine ae.nil ?_
  refine ax.cond rfl (fun hb34=>?_) (fun hb34=>?_)
  ·
   replace h:=cB hb34 h
   refine ax.exit ?_
   exact ⟨⟨z29,v30⟩,_,_,S31,.refl _ _,.refl _,(aa.r rfl aa.nil),H32.sl [0] rfl rfl,h⟩
  replace h:=cK hb34 h
  refine ax.skip ?_
  refine ax.region (oV E) rfl ?_
  refine ae.val rfl (ah rfl) rfl ?_
  refine ae.val rfl (aj rfl) rfl ?_
  refine ae.nil ?_
  exact ⟨⟨z33.Parent,z29,v30⟩,_,_,S31,.refl _ _,.refl _,(aa.r rfl (aa.r rfl (aa.r rfl aa.nil))),H32.sl [0] rfl rfl,h⟩
 replace h:=cK hb25 h
 refine ax.exit ?_
 exact ⟨⟨x21,v22⟩,_,_,S18,.refl _ _,.refl _,(aa.r rfl aa.nil),H19.sl [0] rfl rfl,h⟩
set_option maxRecDepth 20000 in
set_option maxHeartbeats 4000000 in
theorem Be (n:Nat) (a1:(List ak)) (a2:Int) (r:(List Seg)) (h:mq n a1 a2=some r):bN R cfg.P 37 [(.sl ((a1).map aB) false),(.int .i64 a2)] (.d (.sl ((r).map bB) false)):=by
 unfold mq at h
 refine bN.of_wp E.obj.toObjOk (C:=cfg) Tryd.func37 rfl Ov rfl ?_
 have H0:Has aF aF []:=Has.pure
 refine ax.seq ?_
 refine ax.region E.obj rfl ?_
 refine ae.val rfl (aj rfl) rfl ?_
 refine ae.nil ?_
 refine ax.seq ?_
 refine ax.region E.obj rfl ?_
 refine ae.val rfl (aj rfl) rfl ?_
 refine ae.nil ?_
 refine ax.seq ?_
 refine ax.seq ?_
 refine ax.region E.obj rfl ?_
 refine ae.val rfl (ah rfl) rfl ?_
 refine ae.val rfl (ah rfl) rfl ?_
 obtain ⟨z3,hzz3,h⟩:=bind_some h
 refine ae.ret rfl (aC rfl rfl) (zh E _ _ _ _ hzz3 _ _ (aD.eq (aD.eq .nil))) rfl ?_
 refine ae.val rfl (aS rfl wX) rfl ?_
 refine ae.val rfl (ah rfl) rfl ?_
 refine ae.nil ?_
 refine ax.block ?_
 have H24:=H0.Gh
 refine nz.start (B:=aF) (α:=(List Seg) × AV × Int) (fun k a=>iw a1 z3 k a.1 a.2.2=some r) (fun a=>[(0,(.d (.sl ((a1).map aB) false))),(5,a.2.1),(10,(.d (.sl ((z3).map (D.int .i64)) false))),(11,(.d (.int .i64 ((z3).length:Int)))),(12,(.d (.int .i64 a.2.2)))]) (fun a=>[.grow a.2.1 ((a.1).map bB)]) ?_ ?_ n ⟨⟨[],(.d .aO),0⟩,_,_,aF,.refl _ _,.refl _,(aa.r rfl (aa.r rfl (aa.r rfl (aa.r rfl (aa.r rfl aa.nil))))),H24.sl [0] rfl rfl,h⟩
 ·
  intro a h; simp [iw] at h
 intro k16 a S11 H12 h
 obtain ⟨x13,v14,x15⟩:=a
 replace h:iw a1 z3 (k16 + 1) x13 x15=some r:=h
 replace H12:Has aF S11 [.grow v14 ((x13).map bB)]:=H12
 unfold iw at h
 refine ax.seq ?_
 refine ax.region E.obj rfl ?_
 refine ae.val rfl (ay rfl rfl bG) rfl ?_
 refine ae.nil ?_
 refine ax.seq ?_
 refine ax.cond rfl (fun hb17=>?_) (fun hb17=>?_)
 ·
  replace h:=cB hb17 h
  refine ax.skip ?_
  refine ax.seq ?_
  refine ax.block ?_
  refine ax.seq ?_
  refine ax.region E.obj rfl ?_
  obtain ⟨z18,hzz18,h⟩:=bind_some h
  refine ae.val rfl (bE rfl rfl (bY (enc:=(D.int .i64)) hzz18 kV xC (((fun _=>rfl) _).trans pI.symm))) rfl ?_
  refine ae.val rfl (aU rfl (dL jl rfl)) rfl ?_
  refine ae.val rfl (aj rfl) rfl ?_
  refine ae.nil ?_
  refine ax.region E.obj rfl ?_
  refine ae.val rfl (ah rfl) rfl ?_
  refine ae.val rfl (ah rfl) rfl ?_
  refine ae.val rfl (ah rfl) rfl ?_
  obtain ⟨z19,hzz19,h⟩:=bind_some h
  refine ae.val rfl (bE rfl rfl (bY (enc:=aB) hzz19 oK lY ((ak.len _).trans jm.symm))) rfl ?_
  refine ae.val rfl (kD rfl xk Ia rfl) rfl ?_
  refine ae.val rfl (aU rfl (by rw [ak.cells]; exact dL Jt rfl)) rfl ?_
  obtain ⟨z20,hzz20,h⟩:=bind_some h
  refine ae.append (xs:=(x13).map bB) (ys:=(z19.dX).map bB) (zs:=(z20).map bB) H12 rfl rfl rfl (i:=0) rfl rfl KZ NY wV (fI hzz20) NS rfl (bS (enc:=bB) (fun z=>(Seg.len z).trans pO.symm) _) (bS (enc:=bB) (fun z=>(Seg.len z).trans pO.symm) _) Nq rfl (jK hzz20) (fun v21 S22 H23=>?_)
  refine ae.val rfl (aj rfl) rfl ?_
  refine ae.nil ?_
  refine ax.region E.obj rfl ?_
  refine ae.val rfl (ay rfl rfl bI) rfl ?_
  refine ae.val rfl (ah rfl) rfl ?_
  refine ae.nil ?_
  exact ⟨⟨z20,v21,(IntKind.wrap .i64 (x15 + 1))⟩,_,_,S22,.refl _ _,.refl _,(aa.r rfl (aa.r rfl (aa.r rfl (aa.r rfl (aa.r rfl aa.nil))))),H23.sl [0] rfl rfl,h⟩
 replace h:=cK hb17 h
 refine ax.exit ?_
 refine ax.seq ?_
 refine ax.region E.obj rfl ?_
 refine ae.val rfl (ah rfl) rfl ?_
 refine ae.val rfl (aj rfl) rfl ?_
 refine ae.nil ?_
 have hr:=Option.some.inj h
 subst hr
 exact ax.ret ⟨_,rfl,rfl,dY (aD.grow H12 (i:=0) rfl .nil)⟩
set_option maxRecDepth 20000 in
set_option maxHeartbeats 4000000 in
theorem zw (n:Nat) (a1:(List ak)) (r:Bool) (h:fU n a1=some r):bN R cfg.P 14 [(.sl ((a1).map aB) false)] (.d (.bool r)):=by
 unfold fU at h
 refine bN.of_wp E.obj.toObjOk (C:=cfg) Tryd.func14 rfl OV rfl ?_
 have H0:Has aF aF []:=Has.pure
 refine ax.seq ?_
 refine ax.region E.obj rfl ?_
 refine ae.val rfl (aj rfl) rfl ?_
 refine ae.nil ?_
 refine ax.seq ?_
 refine ax.seq ?_
 refine ax.region E.obj rfl ?_
 refine ae.val rfl (ah rfl) rfl ?_
 refine ae.val rfl (aS rfl sD) rfl ?_
 refine ae.val rfl (ay rfl rfl bG) rfl ?_
 refine ae.val rfl (ah rfl) rfl ?_
 refine ae.bC 4 14 (.d (.bool ((decide (((a1).length:Int) < 1)) || (decide (16 < ((a1).length:Int)))))) ?_ ?_
 ·
  rcases Bool.eq_false_or_eq_true ((decide (((a1).length:Int) < 1))) with hB2 | hB2
  ·
   refine ae.bool hB2 ?_
   refine ae.no rfl rfl ?_
   refine ae.no rfl rfl ?_
   refine ae.no rfl rfl ?_
   refine ae.val rfl (az (b:=true) rfl rfl) rfl ?_
   exact ae.nil ⟨_,rfl,(aa.put (aa.push rfl (aa.push rfl (aa.push rfl (aa.put (.refl _) (Less.eq (by rw [hB2])))))) (Less.eq (by rw [hB2]; rw [Bool.true_or])))⟩
  refine ae.bool hB2 ?_
  refine ae.val rfl (ah rfl) rfl ?_
  refine ae.val rfl (aS rfl sD) rfl ?_
  refine ae.val rfl (ay rfl rfl jT) rfl ?_
  refine ae.val rfl (az (b:=false) rfl rfl) rfl ?_
  exact ae.nil ⟨_,rfl,(aa.put (aa.push rfl (aa.push rfl (aa.push rfl (aa.put (.refl _) (Less.eq (by rw [hB2])))))) (Less.eq (by rw [hB2]; rw [Bool.false_or])))⟩
 refine ae.nil ?_
 refine ax.cond rfl (fun hb3=>?_) (fun hb3=>?_)
 ·
  replace h:=cB hb3 h
  refine ax.seq ?_
  refine ax.region E.obj rfl ?_
  refine ae.val rfl (aj rfl) rfl ?_
  refine ae.nil ?_
  have hr:=Option.some.inj h
  subst hr
  exact ax.ret ⟨_,rfl,rfl,dY (aD.eq .nil)⟩
 replace h:=cK hb3 h
 refine ax.skip ?_
 refine ax.seq ?_
 refine ax.region E.obj rfl ?_
 refine ae.makeMap D.str (D.int .i64) H0 rfl Lr rfl (fun b4 S5 H6=>?_)
 refine ae.val rfl (aj rfl) rfl ?_
 refine ae.nil ?_
 refine ax.seq ?_
 refine ax.seq ?_
 refine ax.region E.obj rfl ?_
 refine ae.val rfl (ah rfl) rfl ?_
 refine ae.val rfl (aS rfl sD) rfl ?_
 refine ae.val rfl (ah rfl) rfl ?_
 refine ae.nil ?_
 refine ax.block ?_
 refine nz.start (B:=aF) (α:=(List (Str × Int)) × Int) (fun k a=>fF n a1 k a.1 a.2=some r) (fun a=>[(0,(.d (.sl ((a1).map aB) false))),(3,(.map b4)),(16,(.d (.sl ((a1).map aB) false))),(17,(.d (.int .i64 ((a1).length:Int)))),(18,(.d (.int .i64 a.2)))]) (fun a=>[.map b4 (mD D.str (D.int .i64) a.1)]) ?_ ?_ n ⟨⟨[],0⟩,_,_,S5,.refl _ _,.refl _,(aa.r rfl (aa.r rfl (aa.r rfl (aa.r rfl (aa.r rfl aa.nil))))),H6.sl [0] rfl rfl,h⟩
 ·
  intro a h; simp [fF] at h
 intro k17 a S13 H14 h
 obtain ⟨x15,x16⟩:=a
 replace h:fF n a1 (k17 + 1) x15 x16=some r:=h
 replace H14:Has aF S13 [.map b4 (mD D.str (D.int .i64) x15)]:=H14
 unfold fF at h
 refine ax.seq ?_
 refine ax.region E.obj rfl ?_
 refine ae.val rfl (ay rfl rfl bG) rfl ?_
 refine ae.nil ?_
 refine ax.seq ?_
 refine ax.cond rfl (fun hb18=>?_) (fun hb18=>?_)
 ·
  replace h:=cB hb18 h
  refine ax.skip ?_
  refine ax.seq ?_
  refine ax.block ?_
  refine ax.seq ?_
  refine ax.region E.obj rfl ?_
  refine ae.val rfl (ah rfl) rfl ?_
  obtain ⟨z19,hzz19,h⟩:=bind_some h
  refine ae.val rfl (bE rfl rfl (bY (enc:=aB) hzz19 oK lY ((ak.len _).trans jm.symm))) rfl ?_
  refine ae.val rfl (aU rfl (ak.gT yQ jm)) rfl ?_
  refine ae.alloc H14 rfl HZ tu rfl rfl (fun b20 S21 H22=>?_)
  refine ae.val rfl (aj rfl) rfl ?_
  refine ae.store H22 (i:=0) rfl rfl rfl rfl (ak.bf _) rfl jm rfl lY rfl rfl rfl (fun S23 H24=>?_)
  refine ae.nil ?_
  refine ax.seq ?_
  refine ax.region E.obj rfl ?_
  refine ae.val rfl (ai rfl uf yO rfl) rfl ?_
  refine ae.val rfl (av H24 (i:=0) rfl rfl (aA u6 rfl)) rfl ?_
  refine ae.val rfl (bH (cs:=[(.d (.int .i64 0)),(.d (.str z19.Name))]) yM rfl (zi) (cO rfl rfl rfl rfl rfl)) rfl ?_
  refine ae.less (Less.agg' (d:=bB (Seg.mk 0 z19.Name)) (au.eq rfl (au.eq rfl .nil)) ((Seg.eq _).trans rfl)) ?_
  refine ae.val rfl (aP (vs:=[(.d (bB (Seg.mk 0 z19.Name)))]) (ds:=[(bB (Seg.mk 0 z19.Name))]) KZ wV yK yM pO rfl (by decide) (.cons rfl (Seg.len _) .nil) rfl (by intro d hd; simp only [List.mem_cons,List.not_mem_nil,or_false] at hd; rcases hd with rfl <;> exact Seg.agg _) rfl) rfl ?_
  obtain ⟨z25,hzz25,h⟩:=bind_some h
  refine ae.ret rfl (aC rfl rfl) (rY E _ _ _ hzz25 _ _ (aD.gJ rfl (.jH _ _) .nil)) rfl ?_
  refine ae.val rfl (aj rfl) rfl ?_
  refine ae.nil ?_
  refine ax.seq ?_
  refine ax.seq ?_
  refine ax.region E.obj rfl ?_
  refine ae.val rfl (ah rfl) rfl ?_
  refine ae.val rfl (eZ rfl) rfl ?_
  refine ae.val rfl (ah rfl) rfl ?_
  refine ae.bC 6 36 (.d (.bool ((!z25) || (decide (0 < (mg x15 z19.Name 0)))))) ?_ ?_
  ·
   rcases Bool.eq_false_or_eq_true ((!z25)) with hB26 | hB26
   ·
    refine ae.bool hB26 ?_
    refine ae.no rfl rfl ?_
    refine ae.no rfl rfl ?_
    refine ae.no rfl rfl ?_
    refine ae.no rfl rfl ?_
    refine ae.no rfl rfl ?_
    refine ae.val rfl (az (b:=true) rfl rfl) rfl ?_
    exact ae.nil ⟨_,rfl,(aa.put (aa.push rfl (aa.push rfl (aa.push rfl (aa.push rfl (aa.push rfl (aa.put (.refl _) (Less.eq (by rw [hB26])))))))) (Less.eq (by rw [hB26]; rw [Bool.true_or])))⟩
   refine ae.bool hB26 ?_
   refine ae.val rfl (ah rfl) rfl ?_
   refine ae.val rfl (ai rfl uf yO rfl) rfl ?_
   refine ae.val rfl (av H24 (i:=0) rfl rfl (aA u6 rfl)) rfl ?_
   refine ae.val rfl (w9 (ek:=D.str) (ev:=(D.int .i64)) (k:=z19.Name) (z:=0) H24 (i:=1) rfl rfl rfl Lr (FE P9) Gs) rfl ?_
   refine ae.val rfl (ay rfl rfl jT) rfl ?_
   refine ae.val rfl (az (b:=false) rfl rfl) rfl ?_
   exact ae.nil ⟨_,rfl,(aa.put (aa.push rfl (aa.push rfl (aa.push rfl (aa.push rfl (aa.push rfl (aa.put (.refl _) (Less.eq (by rw [hB26])))))))) (Less.eq (by rw [hB26]; rw [Bool.false_or])))⟩
  refine ae.val rfl (ah rfl) rfl ?_
  refine ae.bC 4 41 (.d (.bool (((!z25) || (decide (0 < (mg x15 z19.Name 0)))) || (decide (z19.Parent < (-1)))))) ?_ ?_
  ·
   rcases Bool.eq_false_or_eq_true (((!z25) || (decide (0 < (mg x15 z19.Name 0))))) with hB27 | hB27
   ·
    refine ae.bool hB27 ?_
    refine ae.no rfl rfl ?_
    refine ae.no rfl rfl ?_
    refine ae.no rfl rfl ?_
    refine ae.val rfl (az (b:=true) rfl rfl) rfl ?_
    exact ae.nil ⟨_,rfl,(aa.put (aa.push rfl (aa.push rfl (aa.push rfl (aa.put (.refl _) (Less.eq (by rw [hB27])))))) (Less.eq (by rw [hB27]; rw [Bool.true_or])))⟩
   refine ae.bool hB27 ?_
   refine ae.val rfl (ai rfl sQ kL rfl) rfl ?_
   refine ae.val rfl (av H24 (i:=0) rfl rfl (aA jl rfl)) rfl ?_
   refine ae.val rfl (ay rfl rfl bG) rfl ?_
   refine ae.val rfl (az (b:=false) rfl rfl) rfl ?_
   exact ae.nil ⟨_,rfl,(aa.put (aa.push rfl (aa.push rfl (aa.push rfl (aa.put (.refl _) (Less.eq (by rw [hB27])))))) (Less.eq (by rw [hB27]; rw [Bool.false_or])))⟩
  refine ae.val rfl (ah rfl) rfl ?_
  refine ae.bC 5 47 (.d (.bool ((((!z25) || (decide (0 < (mg x15 z19.Name 0)))) || (decide (z19.Parent < (-1)))) || (decide (x16 ≤ z19.Parent))))) ?_ ?_
  ·
   rcases Bool.eq_false_or_eq_true ((((!z25) || (decide (0 < (mg x15 z19.Name 0)))) || (decide (z19.Parent < (-1))))) with hB28 | hB28
   ·
    refine ae.bool hB28 ?_
    refine ae.no rfl rfl ?_
    refine ae.no rfl rfl ?_
    refine ae.no rfl rfl ?_
    refine ae.no rfl rfl ?_
    refine ae.val rfl (az (b:=true) rfl rfl) rfl ?_
    exact ae.nil ⟨_,rfl,(aa.put (aa.push rfl (aa.push rfl (aa.push rfl (aa.push rfl (aa.put (.refl _) (Less.eq (by rw [hB28]))))))) (Less.eq (by rw [hB28]; rw [Bool.true_or])))⟩
   refine ae.bool hB28 ?_
   refine ae.val rfl (ai rfl sQ kL rfl) rfl ?_
   refine ae.val rfl (av H24 (i:=0) rfl rfl (aA jl rfl)) rfl ?_
   refine ae.val rfl (ah rfl) rfl ?_
   refine ae.val rfl (ay rfl rfl iJ) rfl ?_
   refine ae.val rfl (az (b:=false) rfl rfl) rfl ?_
   exact ae.nil ⟨_,rfl,(aa.put (aa.push rfl (aa.push rfl (aa.push rfl (aa.push rfl (aa.put (.refl _) (Less.eq (by rw [hB28]))))))) (Less.eq (by rw [hB28]; rw [Bool.false_or])))⟩
  refine ae.val rfl (ah rfl) rfl ?_
  obtain ⟨z30,hzz30,h⟩:=bind_some h
  refine ae.bC 6 54 (.d (.bool z30)) ?_ ?_
  ·
   rcases Bool.eq_false_or_eq_true (((((!z25) || (decide (0 < (mg x15 z19.Name 0)))) || (decide (z19.Parent < (-1)))) || (decide (x16 ≤ z19.Parent)))) with hB29 | hB29
   ·
    refine ae.bool hB29 ?_
    refine ae.no rfl rfl ?_
    refine ae.no rfl rfl ?_
    refine ae.no rfl rfl ?_
    refine ae.no rfl rfl ?_
    refine ae.no rfl rfl ?_
    refine ae.val rfl (az (b:=true) rfl rfl) rfl ?_
    replace hzz30:=cB hB29 hzz30
    cases hzz30
    exact ae.nil ⟨_,rfl,(aa.put (aa.push rfl (aa.push rfl (aa.push rfl (aa.push rfl (aa.push rfl (aa.put (.refl _) (Less.eq (by rw [hB29])))))))) (.refl _))⟩
   refine ae.bool hB29 ?_
   replace hzz30:=cK hB29 hzz30
   refine ae.val rfl (ah rfl) rfl ?_
   refine ae.val rfl (ah rfl) rfl ?_
   obtain ⟨z31,hzz31,hzz30⟩:=bind_some hzz30
   refine ae.ret rfl (aC rfl rfl) (Be E _ _ _ _ hzz31 _ _ (aD.eq (aD.eq .nil))) rfl ?_
   obtain ⟨z32,hzz32,hzz30⟩:=bind_some hzz30
   refine ae.ret rfl (aC rfl rfl) (rY E _ _ _ hzz32 _ _ (aD.eq .nil)) rfl ?_
   refine ae.val rfl (eZ rfl) rfl ?_
   refine ae.val rfl (az (b:=false) rfl rfl) rfl ?_
   cases hzz30
   exact ae.nil ⟨_,rfl,(aa.put (aa.push rfl (aa.push rfl (aa.push rfl (aa.push rfl (aa.push rfl (aa.put (.refl _) (Less.eq (by rw [hB29])))))))) (.refl _))⟩
  refine ae.nil ?_
  refine ax.cond rfl (fun hb33=>?_) (fun hb33=>?_)
  ·
   replace h:=cB hb33 h
   refine ax.seq ?_
   refine ax.region E.obj rfl ?_
   refine ae.val rfl (aj rfl) rfl ?_
   refine ae.nil ?_
   have hr:=Option.some.inj h
   subst hr
   exact ax.ret ⟨_,rfl,rfl,dY (aD.eq .nil)⟩
  replace h:=cK hb33 h
  refine ax.skip ?_
  refine ax.region E.obj rfl ?_
  refine ae.val rfl (ah rfl) rfl ?_
  refine ae.val rfl (ai rfl uf yO rfl) rfl ?_
  refine ae.val rfl (av H24 (i:=0) rfl rfl (aA u6 rfl)) rfl ?_
  refine ae.val rfl (w9 (ek:=D.str) (ev:=(D.int .i64)) (k:=z19.Name) (z:=0) H24 (i:=1) rfl rfl rfl Lr (FE P9) Gs) rfl ?_
  refine ae.val rfl (ay rfl rfl bI) rfl ?_
  refine ae.mapUpdate (ek:=D.str) (ev:=(D.int .i64)) (k:=z19.Name) (v:=(IntKind.wrap .i64 ((mg x15 z19.Name 0) + 1))) H24 rfl (i:=1) rfl rfl rfl rfl Lr (FE P9) (fun S34 H35=>?_)
  refine ae.nil ?_
  refine ax.region E.obj rfl ?_
  refine ae.val rfl (ay rfl rfl bI) rfl ?_
  refine ae.val rfl (ah rfl) rfl ?_
  refine ae.nil ?_
  exact ⟨⟨(xw x15 z19.Name (IntKind.wrap .i64 ((mg x15 z19.Name 0) + 1))),(IntKind.wrap .i64 (x16 + 1))⟩,_,_,S34,.refl _ _,.refl _,(aa.r rfl (aa.r rfl (aa.r rfl (aa.r rfl (aa.r rfl aa.nil))))),H35.sl [1] rfl rfl,h⟩
 replace h:=cK hb18 h
 refine ax.exit ?_
 refine ax.seq ?_
 refine ax.region E.obj rfl ?_
 refine ae.val rfl (aj rfl) rfl ?_
 refine ae.nil ?_
 have hr:=Option.some.inj h
 subst hr
 exact ax.ret ⟨_,rfl,rfl,dY (aD.eq .nil)⟩
set_option maxRecDepth 20000 in
set_option maxHeartbeats 4000000 in
theorem oD (n:Nat) (S0:St) (a1:(List Int)) (fg3:Nat) (fc4:List AV) (p2:Int→Option Bool) (hpp2:∀ S',fq S0 S'→S'.Wf→∀ (y0:Int) (r:Bool),p2 y0=some r→eQ R cfg.P fg3 ([.d (.int .i64 y0)] ++ fc4) S' (fun o=>o=(none,.d (.bool r),S'))) (r:Int) (h:iq n a1 p2=some r):eQ R cfg.P 70 [.d (.sl ((a1).map (D.int .i64)) false),.fn fg3 fc4] S0 (fun o=>o=(none,.d (.int .i64 r),S0)):=by
 unfold iq at h
 refine SpecS.of_wp (C:=cfg) Tryd.func70 rfl Ph rfl (fun wf0=>?_)
 have H0:Has S0 S0 []:=Has.start wf0
 refine ax.seq ?_
 refine ax.region E.obj rfl ?_
 refine ae.val rfl (aj rfl) rfl ?_
 refine ae.nil ?_
 refine ax.seq ?_
 refine ax.seq ?_
 refine ax.region E.obj rfl ?_
 refine ae.val rfl (ah rfl) rfl ?_
 refine ae.val rfl (aS rfl wX) rfl ?_
 refine ae.val rfl (ah rfl) rfl ?_
 refine ae.nil ?_
 refine ax.block ?_
 refine nz.start (B:=S0) (α:=Int) (fun k a=>bP a1 p2 k a=some r) (fun a=>[(0,(.d (.sl ((a1).map (D.int .i64)) false))),(1,(.fn fg3 fc4)),(7,(.d (.int .i64 ((a1).length:Int)))),(8,(.d (.int .i64 a)))]) (fun a=>[]) ?_ ?_ n ⟨0,_,_,S0,.refl _ _,.refl _,(aa.r rfl (aa.r rfl (aa.r rfl (aa.r rfl aa.nil)))),H0.sl [] rfl rfl,h⟩
 ·
  intro a h; simp [bP] at h
 intro k13 x12 S10 H11 h
 replace h:bP a1 p2 (k13 + 1) x12=some r:=h
 replace H11:Has S0 S10 []:=H11
 unfold bP at h
 refine ax.seq ?_
 refine ax.region E.obj rfl ?_
 refine ae.val rfl (ay rfl rfl bG) rfl ?_
 refine ae.nil ?_
 refine ax.seq ?_
 refine ax.cond rfl (fun hb14=>?_) (fun hb14=>?_)
 ·
  replace h:=cB hb14 h
  refine ax.skip ?_
  refine ax.seq ?_
  refine ax.block ?_
  refine ax.seq ?_
  refine ax.region E.obj rfl ?_
  refine ae.val rfl (ah rfl) rfl ?_
  refine ae.val rfl (aj rfl) rfl ?_
  refine ae.nil ?_
  refine ax.seq ?_
  refine ax.region E.obj rfl ?_
  refine ae.val rfl (ah rfl) rfl ?_
  refine ae.val rfl (ah rfl) rfl ?_
  refine ae.val rfl (ah rfl) rfl ?_
  obtain ⟨z15,hzz15,h⟩:=bind_some h
  refine ae.val rfl (bE rfl rfl (bY (enc:=(D.int .i64)) hzz15 kV xC (((fun _=>rfl) _).trans pI.symm))) rfl ?_
  refine ae.val rfl (aU rfl (dL jl rfl)) rfl ?_
  obtain ⟨z16,hzz16,h⟩:=bind_some h
  refine ae.ret rfl (vX rfl rfl) (hpp2 _ H11.keeps H11.wf _ _ hzz16) rfl ?_
  refine ae.nil ?_
  refine ax.cond rfl (fun hb17=>?_) (fun hb17=>?_)
  ·
   replace h:=cB hb17 h
   refine ax.seq ?_
   refine ax.region E.obj rfl ?_
   refine ae.val rfl (ah rfl) rfl ?_
   refine ae.val rfl (aj rfl) rfl ?_
   refine ae.nil ?_
   have hr:=Option.some.inj h
   subst hr
   exact ax.ret ⟨_,rfl,rfl,H11.keeps,dY (aD.eq .nil)⟩
  replace h:=cK hb17 h
  refine ax.skip ?_
  refine ax.region E.obj rfl ?_
  refine ae.val rfl (ay rfl rfl bI) rfl ?_
  refine ae.val rfl (ah rfl) rfl ?_
  refine ae.nil ?_
  exact ⟨(IntKind.wrap .i64 (x12 + 1)),_,_,S10,.refl _ _,.refl _,(aa.r rfl (aa.r rfl (aa.r rfl (aa.r rfl aa.nil)))),H11.sl [] rfl rfl,h⟩
 replace h:=cK hb14 h
 refine ax.exit ?_
 refine ax.seq ?_
 refine ax.region E.obj rfl ?_
 refine ae.val rfl (aj rfl) rfl ?_
 refine ae.nil ?_
 have hr:=Option.some.inj h
 subst hr
 exact ax.ret ⟨_,rfl,rfl,H11.keeps,dY (aD.eq .nil)⟩
set_option maxRecDepth 20000 in
set_option maxHeartbeats 4000000 in
theorem mO (n:Nat) (S0:St) (a1:(List Int)) (fg3:Nat) (fc4:List AV) (p2:Int→Option Bool) (hpp2:∀ S',fq S0 S'→S'.Wf→∀ (y0:Int) (r:Bool),p2 y0=some r→eQ R cfg.P fg3 ([.d (.int .i64 y0)] ++ fc4) S' (fun o=>o=(none,.d (.bool r),S'))) (r:Bool) (h:fA n a1 p2=some r):eQ R cfg.P 56 [.d (.sl ((a1).map (D.int .i64)) false),.fn fg3 fc4] S0 (fun o=>o=(none,.d (.bool r),S0)):=by
 unfold fA at h
 refine SpecS.of_wp (C:=cfg) Tryd.func56 rfl Ox rfl (fun wf0=>?_)
 have H0:Has S0 S0 []:=Has.start wf0
 refine ax.seq ?_
 refine ax.region E.obj rfl ?_
 refine ae.val rfl (aj rfl) rfl ?_
 refine ae.nil ?_
 refine ax.seq ?_
 refine ax.region E.obj rfl ?_
 refine ae.val rfl (ah rfl) rfl ?_
 refine ae.val rfl (ah rfl) rfl ?_
 obtain ⟨z6,hzz6,h⟩:=bind_some h
 refine ae.ret rfl (aC rfl rfl) (eQ.uY (oD E n S0 _ _ _ p2 (fun S' hk hw y5 r hr=>hpp2 S' (H0.keeps.trans hk) hw y5 r hr) _ hzz6) (.cons (.refl _) (.cons (.refl _) .nil))) rfl ?_
 refine ae.val rfl (ay rfl rfl iJ) rfl ?_
 refine ae.val rfl (aj rfl) rfl ?_
 refine ae.nil ?_
 have hr:=Option.some.inj h
 subst hr
 exact ax.ret ⟨_,rfl,rfl,H0.keeps,dY (aD.eq .nil)⟩
set_option maxRecDepth 20000 in
set_option maxHeartbeats 4000000 in
theorem yA (n:Nat) (a1:Int) (r:Bool) (h:tL n a1=some r):bN R cfg.P 41 [(.int .i64 a1)] (.d (.bool r)):=by
 unfold tL at h
 refine bN.of_wp E.obj.toObjOk (C:=cfg) Tryd.func41 rfl OL rfl ?_
 have H0:Has aF aF []:=Has.pure
 refine ax.seq ?_
 refine ax.region E.obj rfl ?_
 refine ae.val rfl (aj rfl) rfl ?_
 refine ae.nil ?_
 refine ax.seq ?_
 refine ax.region E.obj rfl ?_
 refine ae.val rfl (ah rfl) rfl ?_
 refine ae.val rfl (ay rfl rfl iJ) rfl ?_
 refine ae.val rfl (ah rfl) rfl ?_
 refine ae.bC 3 8 (.d (.bool ((decide ((-1000) ≤ a1)) && (decide (a1 ≤ 1000))))) ?_ ?_
 ·
  rcases Bool.eq_false_or_eq_true ((decide ((-1000) ≤ a1))) with hB2 | hB2
  ·
   refine ae.bool hB2 ?_
   refine ae.val rfl (ah rfl) rfl ?_
   refine ae.val rfl (ay rfl rfl qj) rfl ?_
   refine ae.val rfl (az (b:=true) rfl rfl) rfl ?_
   exact ae.nil ⟨_,rfl,(aa.put (aa.push rfl (aa.push rfl (aa.put (.refl _) (Less.eq (by rw [hB2]))))) (Less.eq (by rw [hB2]; rw [Bool.true_and])))⟩
  refine ae.bool hB2 ?_
  refine ae.no rfl rfl ?_
  refine ae.no rfl rfl ?_
  refine ae.val rfl (az (b:=false) rfl rfl) rfl ?_
  exact ae.nil ⟨_,rfl,(aa.put (aa.push rfl (aa.push rfl (aa.put (.refl _) (Less.eq (by rw [hB2]))))) (Less.eq (by rw [hB2]; rw [Bool.false_and])))⟩
 refine ae.val rfl (aj rfl) rfl ?_
 refine ae.nil ?_
 have hr:=Option.some.inj h
 subst hr
 exact ax.ret ⟨_,rfl,rfl,dY (aD.eq .nil)⟩
set_option maxRecDepth 20000 in
set_option maxHeartbeats 4000000 in
theorem A9 (n:Nat) (a1:Int) (r:Bool) (h:nV n a1=some r):bN R cfg.P 57 [(.int .i64 a1)] (.d (.bool r)):=by
 unfold nV at h
 refine bN.of_wp E.obj.toObjOk (C:=cfg) Tryd.func57 rfl PX rfl ?_
 have H0:Has aF aF []:=Has.pure
 refine ax.seq ?_
 refine ax.region E.obj rfl ?_
 refine ae.val rfl (aj rfl) rfl ?_
 refine ae.nil ?_
 refine ax.seq ?_
 refine ax.region E.obj rfl ?_
 refine ae.val rfl (ah rfl) rfl ?_
 obtain ⟨z2,hzz2,h⟩:=bind_some h
 refine ae.ret rfl (aC rfl rfl) (yA E _ _ _ hzz2 _ _ (aD.eq .nil)) rfl ?_
 refine ae.val rfl (eZ rfl) rfl ?_
 refine ae.val rfl (aj rfl) rfl ?_
 refine ae.nil ?_
 have hr:=Option.some.inj h
 subst hr
 exact ax.ret ⟨_,rfl,rfl,dY (aD.eq .nil)⟩
set_option maxRecDepth 20000 in
set_option maxHeartbeats 4000000 in
theorem El (n:Nat) (a1:(List Int)) (r:Bool) (h:qp n a1=some r):bN R cfg.P 38 [(.sl ((a1).map (D.int .i64)) false)] (.d (.bool r)):=by
 unfold qp at h
 refine bN.of_wp E.obj.toObjOk (C:=cfg) Tryd.func38 rfl Qe rfl ?_
 have H0:Has aF aF []:=Has.pure
 refine ax.seq ?_
 refine ax.region E.obj rfl ?_
 refine ae.val rfl (aj rfl) rfl ?_
 refine ae.nil ?_
 refine ax.seq ?_
 refine ax.region E.obj rfl ?_
 refine ae.val rfl (ah rfl) rfl ?_
 obtain ⟨z3,hzz3,h⟩:=bind_some h
 refine ae.ret rfl (aC rfl rfl) (eQ.uY (mO E n aF _ _ _ (fun y2=>nV n y2) (fun S' hk hw y2 r hr=>A9 E n y2 r hr _ S' (aD.eq .nil)) _ hzz3) (.cons (.refl _) (.cons (.refl _) .nil))) rfl ?_
 refine ae.val rfl (eZ rfl) rfl ?_
 refine ae.val rfl (aj rfl) rfl ?_
 refine ae.nil ?_
 have hr:=Option.some.inj h
 subst hr
 exact ax.ret ⟨_,rfl,rfl,dY (aD.eq .nil)⟩
set_option maxRecDepth 20000 in
set_option maxHeartbeats 4000000 in
theorem uX:∀ (n:Nat) (a1:aK) (r:(Int × Int)),jM n a1=some r→bN R cfg.P 58 [(aG a1)] (.tup [.d (.int .i64 r.1),.d (.int .i64 r.2)])
 | 0,a1,r,h=>by simp [jM] at h
 | n + 1,a1,r,h=>by
  have ih:=uX n
  unfold jM at h
  refine bN.of_wp E.obj.toObjOk (C:=cfg) Tryd.func58 rfl P6 rfl ?_
  have H0:Has aF aF []:=Has.pure
  refine ax.seq ?_
  refine ax.region E.obj rfl ?_
  refine ae.box H0 rfl rfl rfl (aK.bf _) rfl (fun b2 S3 H4=>?_)
  refine ae.val rfl (aj rfl) rfl ?_
  refine ae.val rfl (aj rfl) rfl ?_
  refine ae.nil ?_
  refine ax.seq ?_
  refine ax.region E.obj rfl ?_
  refine ae.val rfl (aj rfl) rfl ?_
  refine ae.val rfl (aj rfl) rfl ?_
  refine ae.nil ?_
  refine ax.seq ?_
  refine ax.seq ?_
  refine ax.region E.obj rfl ?_
  refine ae.val rfl (ai rfl jC qF rfl) rfl ?_
  refine ae.val rfl (av H4 (i:=0) rfl rfl (aA uP rfl)) rfl ?_
  refine ae.val rfl (aS rfl yL) rfl ?_
  refine ae.val rfl (ah rfl) rfl ?_
  refine ae.nil ?_
  refine ax.block ?_
  refine nz.start (B:=aF) (α:=Int × Int × Int) (fun k a=>ik (jM n) a1 k a.1 a.2.1 a.2.2=some r) (fun a=>[(4,(.d (.int .i64 a.1))),(5,(.d (.int .i64 a.2.1))),(11,(.d (.sl ((a1.Kids).map aG) false))),(12,(.d (.int .i64 ((a1.Kids).length:Int)))),(13,(.d (.int .i64 a.2.2)))]) (fun a=>[]) ?_ ?_ n ⟨⟨1,0,0⟩,_,_,S3,.refl _ _,.refl _,(aa.r rfl (aa.r rfl (aa.r rfl (aa.r rfl (aa.r rfl aa.nil))))),H4.sl [] rfl rfl,h⟩
  ·
   intro a h; simp [ik] at h
  intro k17 a S12 H13 h
  obtain ⟨x14,x15,x16⟩:=a
  replace h:ik (jM n) a1 (k17 + 1) x14 x15 x16=some r:=h
  replace H13:Has aF S12 []:=H13
  unfold ik at h
  refine ax.seq ?_
  refine ax.region E.obj rfl ?_
  refine ae.val rfl (ay rfl rfl bG) rfl ?_
  refine ae.nil ?_
  refine ax.seq ?_
  refine ax.cond rfl (fun hb18=>?_) (fun hb18=>?_)
  ·
   replace h:=cB hb18 h
   refine ax.skip ?_
   refine ax.seq ?_
   refine ax.block ?_
   refine ax.seq ?_
   refine ax.region E.obj rfl ?_
   obtain ⟨z19,hzz19,h⟩:=bind_some h
   refine ae.val rfl (bE rfl rfl (bY (enc:=aG) hzz19 nL nA ((aK.len _).trans eU.symm))) rfl ?_
   refine ae.val rfl (aU rfl (aK.gT jE eU)) rfl ?_
   refine ae.alloc H13 rfl yF lJ rfl rfl (fun b20 S21 H22=>?_)
   refine ae.store H22 (i:=0) rfl rfl rfl rfl (aK.bf _) rfl eU rfl nA rfl rfl rfl (fun S23 H24=>?_)
   refine ae.nil ?_
   refine ax.seq ?_
   refine ax.region E.obj rfl ?_
   refine ae.val rfl (av H24 (i:=0) rfl rfl (aZ jE eU rfl)) rfl ?_
   refine ae.less (Less.agg' (d:=aG z19) (au.eq rfl (au.eq rfl (au.eq rfl (au.eq rfl (au.eq rfl (au.eq rfl .nil)))))) ((aK.eq _).trans rfl)) ?_
   obtain ⟨z25,hzz25,h⟩:=bind_some h
   refine ae.ret rfl (aC rfl rfl) (ih _ _ hzz25 _ _ (aD.eq .nil)) rfl ?_
   refine ae.val rfl (ah rfl) rfl ?_
   refine ae.val rfl (pR rfl rfl) rfl ?_
   refine ae.val rfl (pR rfl rfl) rfl ?_
   refine ae.val rfl (aj rfl) rfl ?_
   refine ae.val rfl (aj rfl) rfl ?_
   refine ae.nil ?_
   refine ax.region E.obj rfl ?_
   refine ae.val rfl (ah rfl) rfl ?_
   refine ae.val rfl (ah rfl) rfl ?_
   refine ae.val rfl (ay rfl rfl bI) rfl ?_
   refine ae.val rfl (ah rfl) rfl ?_
   refine ae.val rfl (ah rfl) rfl ?_
   refine ae.val rfl (KA rfl rfl) rfl ?_
   refine ae.val rfl (aj rfl) rfl ?_
   refine ae.val rfl (aj rfl) rfl ?_
   refine ae.nil ?_
   refine ax.region E.obj rfl ?_
   refine ae.val rfl (ay rfl rfl bI) rfl ?_
   refine ae.val rfl (ah rfl) rfl ?_
   refine ae.nil ?_
   exact ⟨⟨(IntKind.wrap .i64 (x14 + z25.1)),(Kt x15 z25.2),(IntKind.wrap .i64 (x16 + 1))⟩,_,_,S23,.refl _ _,.refl _,(aa.r rfl (aa.r rfl (aa.r rfl (aa.r rfl (aa.r rfl aa.nil))))),H24.sl [] rfl rfl,h⟩
  replace h:=cK hb18 h
  refine ax.exit ?_
  refine ax.seq ?_
  refine ax.region E.obj rfl ?_
  refine ae.val rfl (ah rfl) rfl ?_
  refine ae.val rfl (ah rfl) rfl ?_
  refine ae.val rfl (ay rfl rfl bI) rfl ?_
  refine ae.val rfl (aj rfl) rfl ?_
  refine ae.val rfl (aj rfl) rfl ?_
  refine ae.nil ?_
  have hr:=Option.some.inj h
  subst hr
  exact ax.ret ⟨_,rfl,rfl,P7 (vs:=[(.d (.int .i64 x14)),(.d (.int .i64 (IntKind.wrap .i64 (x15 + 1))))]) (ds:=[(.int .i64 x14),(.int .i64 (IntKind.wrap .i64 (x15 + 1)))]) (aD.eq (aD.eq .nil))⟩
set_option maxRecDepth 20000 in
set_option maxHeartbeats 4000000 in
theorem uU:∀ (n:Nat) (a1:aK) (a2:Int) (a3:Bool) (r:Bool),gp n a1 a2 a3=some r→bN R cfg.P 59 [(aG a1),(.int .i64 a2),(.bool a3)] (.d (.bool r))
 | 0,a1,a2,a3,r,h=>by simp [gp] at h
 | n + 1,a1,a2,a3,r,h=>by
  have ih:=uU n
  unfold gp at h
  refine bN.of_wp E.obj.toObjOk (C:=cfg) Tryd.func59 rfl PV rfl ?_
  have H0:Has aF aF []:=Has.pure
  refine ax.seq ?_
  refine ax.region E.obj rfl ?_
  refine ae.box H0 rfl rfl rfl (aK.bf _) rfl (fun b4 S5 H6=>?_)
  refine ae.val rfl (aj rfl) rfl ?_
  refine ae.nil ?_
  refine ax.seq ?_
  refine ax.region E.obj rfl ?_
  refine ae.val rfl (ai rfl CX kL rfl) rfl ?_
  refine ae.val rfl (av H6 (i:=0) rfl rfl (aA jl rfl)) rfl ?_
  refine ae.val rfl (ay rfl rfl iJ) rfl ?_
  refine ae.val rfl (ah rfl) rfl ?_
  refine ae.bC 5 19 (.d (.bool ((decide (0 ≤ a1.N)) && (decide (a1.N < a2))))) ?_ ?_
  ·
   rcases Bool.eq_false_or_eq_true ((decide (0 ≤ a1.N))) with hB7 | hB7
   ·
    refine ae.bool hB7 ?_
    refine ae.val rfl (ai rfl CX kL rfl) rfl ?_
    refine ae.val rfl (av H6 (i:=0) rfl rfl (aA jl rfl)) rfl ?_
    refine ae.val rfl (ah rfl) rfl ?_
    refine ae.val rfl (ay rfl rfl bG) rfl ?_
    refine ae.val rfl (az (b:=true) rfl rfl) rfl ?_
    exact ae.nil ⟨_,rfl,(aa.put (aa.push rfl (aa.push rfl (aa.push rfl (aa.push rfl (aa.put (.refl _) (Less.eq (by rw [hB7]))))))) (Less.eq (by rw [hB7]; rw [Bool.true_and])))⟩
   refine ae.bool hB7 ?_
   refine ae.no rfl rfl ?_
   refine ae.no rfl rfl ?_
   refine ae.no rfl rfl ?_
   refine ae.no rfl rfl ?_
   refine ae.val rfl (az (b:=false) rfl rfl) rfl ?_
   exact ae.nil ⟨_,rfl,(aa.put (aa.push rfl (aa.push rfl (aa.push rfl (aa.push rfl (aa.put (.refl _) (Less.eq (by rw [hB7]))))))) (Less.eq (by rw [hB7]; rw [Bool.false_and])))⟩
  refine ae.val rfl (aj rfl) rfl ?_
  refine ae.nil ?_
  refine ax.seq ?_
  refine ax.region E.obj rfl ?_
  refine ae.val rfl (ai rfl ku kL rfl) rfl ?_
  refine ae.val rfl (av H6 (i:=0) rfl rfl (aA jl rfl)) rfl ?_
  refine ae.val rfl (ay rfl rfl dD) rfl ?_
  refine ae.val rfl (ah rfl) rfl ?_
  refine ae.bC 4 27 (.d (.bool ((a1.Kind == 1) || (a1.Kind == 5)))) ?_ ?_
  ·
   rcases Bool.eq_false_or_eq_true ((a1.Kind == 1)) with hB8 | hB8
   ·
    refine ae.bool hB8 ?_
    refine ae.no rfl rfl ?_
    refine ae.no rfl rfl ?_
    refine ae.no rfl rfl ?_
    refine ae.val rfl (az (b:=true) rfl rfl) rfl ?_
    exact ae.nil ⟨_,rfl,(aa.put (aa.push rfl (aa.push rfl (aa.push rfl (aa.put (.refl _) (Less.eq (by rw [hB8])))))) (Less.eq (by rw [hB8]; rw [Bool.true_or])))⟩
   refine ae.bool hB8 ?_
   refine ae.val rfl (ai rfl ku kL rfl) rfl ?_
   refine ae.val rfl (av H6 (i:=0) rfl rfl (aA jl rfl)) rfl ?_
   refine ae.val rfl (ay rfl rfl dD) rfl ?_
   refine ae.val rfl (az (b:=false) rfl rfl) rfl ?_
   exact ae.nil ⟨_,rfl,(aa.put (aa.push rfl (aa.push rfl (aa.push rfl (aa.put (.refl _) (Less.eq (by rw [hB8])))))) (Less.eq (by rw [hB8]; rw [Bool.false_or])))⟩
  refine ae.val rfl (ah rfl) rfl ?_
  refine ae.bC 4 32 (.d (.bool (((a1.Kind == 1) || (a1.Kind == 5)) || (a1.Kind == 6)))) ?_ ?_
  ·
   rcases Bool.eq_false_or_eq_true (((a1.Kind == 1) || (a1.Kind == 5))) with hB9 | hB9
   ·
    refine ae.bool hB9 ?_
    refine ae.no rfl rfl ?_
    refine ae.no rfl rfl ?_
    refine ae.no rfl rfl ?_
    refine ae.val rfl (az (b:=true) rfl rfl) rfl ?_
    exact ae.nil ⟨_,rfl,(aa.put (aa.push rfl (aa.push rfl (aa.push rfl (aa.put (.refl _) (Less.eq (by rw [hB9])))))) (Less.eq (by rw [hB9]; rw [Bool.true_or])))⟩
   refine ae.bool hB9 ?_
   refine ae.val rfl (ai rfl ku kL rfl) rfl ?_
   refine ae.val rfl (av H6 (i:=0) rfl rfl (aA jl rfl)) rfl ?_
   refine ae.val rfl (ay rfl rfl dD) rfl ?_
   refine ae.val rfl (az (b:=false) rfl rfl) rfl ?_
   exact ae.nil ⟨_,rfl,(aa.put (aa.push rfl (aa.push rfl (aa.push rfl (aa.put (.refl _) (Less.eq (by rw [hB9])))))) (Less.eq (by rw [hB9]; rw [Bool.false_or])))⟩
  refine ae.val rfl (aj rfl) rfl ?_
  refine ae.nil ?_
  refine ax.seq ?_
  refine ax.block ?_
  refine ax.seq ?_
  refine ax.region E.obj rfl ?_
  refine ae.val rfl (ai rfl ku kL rfl) rfl ?_
  refine ae.val rfl (av H6 (i:=0) rfl rfl (aA jl rfl)) rfl ?_
  refine ae.val rfl (ay rfl rfl bG) rfl ?_
  refine ae.val rfl (ah rfl) rfl ?_
  refine ae.bC 4 41 (.d (.bool ((decide (a1.Kind < 1)) || (decide (7 < a1.Kind))))) ?_ ?_
  ·
   rcases Bool.eq_false_or_eq_true ((decide (a1.Kind < 1))) with hB10 | hB10
   ·
    refine ae.bool hB10 ?_
    refine ae.no rfl rfl ?_
    refine ae.no rfl rfl ?_
    refine ae.no rfl rfl ?_
    refine ae.val rfl (az (b:=true) rfl rfl) rfl ?_
    exact ae.nil ⟨_,rfl,(aa.put (aa.push rfl (aa.push rfl (aa.push rfl (aa.put (.refl _) (Less.eq (by rw [hB10])))))) (Less.eq (by rw [hB10]; rw [Bool.true_or])))⟩
   refine ae.bool hB10 ?_
   refine ae.val rfl (ai rfl ku kL rfl) rfl ?_
   refine ae.val rfl (av H6 (i:=0) rfl rfl (aA jl rfl)) rfl ?_
   refine ae.val rfl (ay rfl rfl jT) rfl ?_
   refine ae.val rfl (az (b:=false) rfl rfl) rfl ?_
   exact ae.nil ⟨_,rfl,(aa.put (aa.push rfl (aa.push rfl (aa.push rfl (aa.put (.refl _) (Less.eq (by rw [hB10])))))) (Less.eq (by rw [hB10]; rw [Bool.false_or])))⟩
  refine ae.val rfl (ah rfl) rfl ?_
  refine ae.bC 9 51 (.d (.bool (((decide (a1.Kind < 1)) || (decide (7 < a1.Kind))) || ((!(((a1.Kind == 1) || (a1.Kind == 5)) || (a1.Kind == 6))) && (decide (0 < ((a1.Kids).length:Int))))))) ?_ ?_
  ·
   rcases Bool.eq_false_or_eq_true (((decide (a1.Kind < 1)) || (decide (7 < a1.Kind)))) with hB11 | hB11
   ·
    refine ae.bool hB11 ?_
    refine ae.no rfl rfl ?_
    refine ae.no rfl rfl ?_
    refine ae.no rfl rfl ?_
    refine ae.no rfl rfl ?_
    refine ae.no rfl rfl ?_
    refine ae.no rfl rfl ?_
    refine ae.no rfl rfl ?_
    refine ae.no rfl rfl ?_
    refine ae.val rfl (az (b:=true) rfl rfl) rfl ?_
    exact ae.nil ⟨_,rfl,(aa.put (aa.push rfl (aa.push rfl (aa.push rfl (aa.push rfl (aa.push rfl (aa.push rfl (aa.push rfl (aa.push rfl (aa.put (.refl _) (Less.eq (by rw [hB11]))))))))))) (Less.eq (by rw [hB11]; rw [Bool.true_or])))⟩
   refine ae.bool hB11 ?_
   refine ae.val rfl (ah rfl) rfl ?_
   refine ae.val rfl (eZ rfl) rfl ?_
   refine ae.val rfl (ah rfl) rfl ?_
   refine ae.bC 5 50 (.d (.bool ((!(((a1.Kind == 1) || (a1.Kind == 5)) || (a1.Kind == 6))) && (decide (0 < ((a1.Kids).length:Int)))))) ?_ ?_
   ·
    rcases Bool.eq_false_or_eq_true ((!(((a1.Kind == 1) || (a1.Kind == 5)) || (a1.Kind == 6)))) with hB12 | hB12
    ·
     refine ae.bool hB12 ?_
     refine ae.val rfl (ai rfl jC qF rfl) rfl ?_
     refine ae.val rfl (av H6 (i:=0) rfl rfl (aA uP rfl)) rfl ?_
     refine ae.val rfl (aS rfl yL) rfl ?_
     refine ae.val rfl (ay rfl rfl jT) rfl ?_
     refine ae.val rfl (az (b:=true) rfl rfl) rfl ?_
     exact ae.nil ⟨_,rfl,(aa.put (aa.push rfl (aa.push rfl (aa.push rfl (aa.push rfl (aa.put (.refl _) (Less.eq (by rw [hB12]))))))) (Less.eq (by rw [hB12]; rw [Bool.true_and])))⟩
    refine ae.bool hB12 ?_
    refine ae.no rfl rfl ?_
    refine ae.no rfl rfl ?_
    refine ae.no rfl rfl ?_
    refine ae.no rfl rfl ?_
    refine ae.val rfl (az (b:=false) rfl rfl) rfl ?_
    exact ae.nil ⟨_,rfl,(aa.put (aa.push rfl (aa.push rfl (aa.push rfl (aa.push rfl (aa.put (.refl _) (Less.eq (by rw [hB12]))))))) (Less.eq (by rw [hB12]; rw [Bool.false_and])))⟩
   refine ae.val rfl (az (b:=false) rfl rfl) rfl ?_
   exact ae.nil ⟨_,rfl,(aa.put (aa.push rfl (aa.push rfl (aa.push rfl (aa.push rfl (aa.put (.refl _) (Less.eq (by rw [hB11]))))))) (Less.eq (by rw [hB11]; rw [Bool.false_or])))⟩
  refine ae.val rfl (aj rfl) rfl ?_
  refine ae.nil ?_
  refine ax.cond rfl (fun hb13=>?_) (fun hb13=>?_)
  ·
   replace h:=cB hb13 h
   refine ax.seq ?_
   refine ax.region E.obj rfl ?_
   refine ae.val rfl (aj rfl) rfl ?_
   refine ae.nil ?_
   have hr:=Option.some.inj h
   subst hr
   exact ax.ret ⟨_,rfl,rfl,dY (aD.eq .nil)⟩
  replace h:=cK hb13 h
  refine ax.join (B:=aF) (α:=Bool) (fun a=>jY n (gp n) a1 a2 a3 a=some r) (fun a=>[(1,(.d (.int .i64 a2))),(2,(.d (.bool a3))),(3,(.ptr b4 0 0)),(7,(.d (.bool ((decide (0 ≤ a1.N)) && (decide (a1.N < a2)))))),(52,(.d (.bool a)))]) (fun a=>[.box b4 [(.d (.int .i64 a1.Kind)),(.d (.int .i64 a1.N)),(.d (.str a1.Tag)),(.d (.str a1.Text)),(.d (.sl ((a1.bR).map aR) false)),(.d (.sl ((a1.Kids).map aG) false))]]) ?_ ?_
  ·
   intro x16 S14 H15 h
   replace h:jY n (gp n) a1 a2 a3 x16=some r:=h
   replace H15:Has aF S14 [.box b4 [(.d (.int .i64 a1.Kind)),(.d (.int .i64 a1.N)),(.d (.str a1.Tag)),(.d (.str a1.Text)),(.d (.sl ((a1.bR).map aR) false)),(.d (.sl ((a1.Kids).map aG) false))]]:=H15
   unfold jY at h
   refine ax.cond rfl (fun hb18=>?_) (fun hb18=>?_)
   ·
    replace h:=cB hb18 h
    refine ax.seq ?_
    refine ax.region E.obj rfl ?_
    refine ae.val rfl (aj rfl) rfl ?_
    refine ae.nil ?_
    have hr:=Option.some.inj h
    subst hr
    exact ax.ret ⟨_,rfl,rfl,dY (aD.eq .nil)⟩
   replace h:=cK hb18 h
   refine ax.seq ?_
   refine ax.region E.obj rfl ?_
   refine ae.val rfl (ai rfl ku kL rfl) rfl ?_
   refine ae.val rfl (av H15 (i:=0) rfl rfl (aA jl rfl)) rfl ?_
   refine ae.val rfl (ay rfl rfl dD) rfl ?_
   refine ae.val rfl (ah rfl) rfl ?_
   refine ae.bC 4 70 (.d (.bool ((a1.Kind == 3) || (a1.Kind == 5)))) ?_ ?_
   ·
    rcases Bool.eq_false_or_eq_true ((a1.Kind == 3)) with hB19 | hB19
    ·
     refine ae.bool hB19 ?_
     refine ae.no rfl rfl ?_
     refine ae.no rfl rfl ?_
     refine ae.no rfl rfl ?_
     refine ae.val rfl (az (b:=true) rfl rfl) rfl ?_
     exact ae.nil ⟨_,rfl,(aa.put (aa.push rfl (aa.push rfl (aa.push rfl (aa.put (.refl _) (Less.eq (by rw [hB19])))))) (Less.eq (by rw [hB19]; rw [Bool.true_or])))⟩
    refine ae.bool hB19 ?_
    refine ae.val rfl (ai rfl ku kL rfl) rfl ?_
    refine ae.val rfl (av H15 (i:=0) rfl rfl (aA jl rfl)) rfl ?_
    refine ae.val rfl (ay rfl rfl dD) rfl ?_
    refine ae.val rfl (az (b:=false) rfl rfl) rfl ?_
    exact ae.nil ⟨_,rfl,(aa.put (aa.push rfl (aa.push rfl (aa.push rfl (aa.put (.refl _) (Less.eq (by rw [hB19])))))) (Less.eq (by rw [hB19]; rw [Bool.false_or])))⟩
   refine ae.val rfl (ah rfl) rfl ?_
   refine ae.bC 4 75 (.d (.bool (((a1.Kind == 3) || (a1.Kind == 5)) || (a1.Kind == 6)))) ?_ ?_
   ·
    rcases Bool.eq_false_or_eq_true (((a1.Kind == 3) || (a1.Kind == 5))) with hB20 | hB20
    ·
     refine ae.bool hB20 ?_
     refine ae.no rfl rfl ?_
     refine ae.no rfl rfl ?_
     refine ae.no rfl rfl ?_
     refine ae.val rfl (az (b:=true) rfl rfl) rfl ?_
     exact ae.nil ⟨_,rfl,(aa.put (aa.push rfl (aa.push rfl (aa.push rfl (aa.put (.refl _) (Less.eq (by rw [hB20])))))) (Less.eq (by rw [hB20]; rw [Bool.true_or])))⟩
    refine ae.bool hB20 ?_
    refine ae.val rfl (ai rfl ku kL rfl) rfl ?_
    refine ae.val rfl (av H15 (i:=0) rfl rfl (aA jl rfl)) rfl ?_
    refine ae.val rfl (ay rfl rfl dD) rfl ?_
    refine ae.val rfl (az (b:=false) rfl rfl) rfl ?_
    exact ae.nil ⟨_,rfl,(aa.put (aa.push rfl (aa.push rfl (aa.push rfl (aa.put (.refl _) (Less.eq (by rw [hB20])))))) (Less.eq (by rw [hB20]; rw [Bool.false_or])))⟩
   refine ae.val rfl (ah rfl) rfl ?_
   refine ae.bC 3 79 (.d (.bool ((((a1.Kind == 3) || (a1.Kind == 5)) || (a1.Kind == 6)) && (!((decide (0 ≤ a1.N)) && (decide (a1.N < a2))))))) ?_ ?_
   ·
    rcases Bool.eq_false_or_eq_true ((((a1.Kind == 3) || (a1.Kind == 5)) || (a1.Kind == 6))) with hB21 | hB21
    ·
     refine ae.bool hB21 ?_
     refine ae.val rfl (ah rfl) rfl ?_
     refine ae.val rfl (eZ rfl) rfl ?_
     refine ae.val rfl (az (b:=true) rfl rfl) rfl ?_
     exact ae.nil ⟨_,rfl,(aa.put (aa.push rfl (aa.push rfl (aa.put (.refl _) (Less.eq (by rw [hB21]))))) (Less.eq (by rw [hB21]; rw [Bool.true_and])))⟩
    refine ae.bool hB21 ?_
    refine ae.no rfl rfl ?_
    refine ae.no rfl rfl ?_
    refine ae.val rfl (az (b:=false) rfl rfl) rfl ?_
    exact ae.nil ⟨_,rfl,(aa.put (aa.push rfl (aa.push rfl (aa.put (.refl _) (Less.eq (by rw [hB21]))))) (Less.eq (by rw [hB21]; rw [Bool.false_and])))⟩
   refine ae.val rfl (aj rfl) rfl ?_
   refine ae.nil ?_
   refine ax.cond rfl (fun hb22=>?_) (fun hb22=>?_)
   ·
    replace h:=cB hb22 h
    refine ax.seq ?_
    refine ax.region E.obj rfl ?_
    refine ae.val rfl (aj rfl) rfl ?_
    refine ae.nil ?_
    have hr:=Option.some.inj h
    subst hr
    exact ax.ret ⟨_,rfl,rfl,dY (aD.eq .nil)⟩
   replace h:=cK hb22 h
   refine ax.skip ?_
   refine ax.seq ?_
   refine ax.region E.obj rfl ?_
   refine ae.val rfl (ah rfl) rfl ?_
   refine ae.val rfl (ah rfl) rfl ?_
   refine ae.bC 4 85 (.d (.bool (a3 || (a1.Kind == 5)))) ?_ ?_
   ·
    rcases Bool.eq_false_or_eq_true (a3) with hB23 | hB23
    ·
     refine ae.bool hB23 ?_
     refine ae.no rfl rfl ?_
     refine ae.no rfl rfl ?_
     refine ae.no rfl rfl ?_
     refine ae.val rfl (az (b:=true) rfl rfl) rfl ?_
     exact ae.nil ⟨_,rfl,(aa.put (aa.push rfl (aa.push rfl (aa.push rfl (aa.put (.refl _) (Less.eq (by rw [hB23])))))) (Less.eq (by rw [hB23]; rw [Bool.true_or])))⟩
    refine ae.bool hB23 ?_
    refine ae.val rfl (ai rfl ku kL rfl) rfl ?_
    refine ae.val rfl (av H15 (i:=0) rfl rfl (aA jl rfl)) rfl ?_
    refine ae.val rfl (ay rfl rfl dD) rfl ?_
    refine ae.val rfl (az (b:=false) rfl rfl) rfl ?_
    exact ae.nil ⟨_,rfl,(aa.put (aa.push rfl (aa.push rfl (aa.push rfl (aa.put (.refl _) (Less.eq (by rw [hB23])))))) (Less.eq (by rw [hB23]; rw [Bool.false_or])))⟩
   refine ae.val rfl (ah rfl) rfl ?_
   refine ae.bC 4 90 (.d (.bool ((a3 || (a1.Kind == 5)) || (a1.Kind == 6)))) ?_ ?_
   ·
    rcases Bool.eq_false_or_eq_true ((a3 || (a1.Kind == 5))) with hB24 | hB24
    ·
     refine ae.bool hB24 ?_
     refine ae.no rfl rfl ?_
     refine ae.no rfl rfl ?_
     refine ae.no rfl rfl ?_
     refine ae.val rfl (az (b:=true) rfl rfl) rfl ?_
     exact ae.nil ⟨_,rfl,(aa.put (aa.push rfl (aa.push rfl (aa.push rfl (aa.put (.refl _) (Less.eq (by rw [hB24])))))) (Less.eq (by rw [hB24]; rw [Bool.true_or])))⟩
    refine ae.bool hB24 ?_
    refine ae.val rfl (ai rfl ku kL rfl) rfl ?_
    refine ae.val rfl (av H15 (i:=0) rfl rfl (aA jl rfl)) rfl ?_
    refine ae.val rfl (ay rfl rfl dD) rfl ?_
    refine ae.val rfl (az (b:=false) rfl rfl) rfl ?_
    exact ae.nil ⟨_,rfl,(aa.put (aa.push rfl (aa.push rfl (aa.push rfl (aa.put (.refl _) (Less.eq (by rw [hB24])))))) (Less.eq (by rw [hB24]; rw [Bool.false_or])))⟩
   refine ae.val rfl (aj rfl) rfl ?_
   refine ae.nil ?_
   refine ax.seq ?_
   refine ax.seq ?_
   refine ax.region E.obj rfl ?_
   refine ae.val rfl (ai rfl jC qF rfl) rfl ?_
   refine ae.val rfl (av H15 (i:=0) rfl rfl (aA uP rfl)) rfl ?_
   refine ae.val rfl (aS rfl yL) rfl ?_
   refine ae.val rfl (ah rfl) rfl ?_
   refine ae.nil ?_
   refine ax.block ?_
   refine nz.start (B:=aF) (α:=Int) (fun k a=>iD (gp n) a1 a2 a3 k a=some r) (fun a=>[(1,(.d (.int .i64 a2))),(2,(.d (.bool ((a3 || (a1.Kind == 5)) || (a1.Kind == 6))))),(92,(.d (.sl ((a1.Kids).map aG) false))),(93,(.d (.int .i64 ((a1.Kids).length:Int)))),(94,(.d (.int .i64 a)))]) (fun a=>[]) ?_ ?_ n ⟨0,_,_,S14,.refl _ _,.refl _,(aa.r rfl (aa.r rfl (aa.r rfl (aa.r rfl (aa.r rfl aa.nil))))),H15.sl [] rfl rfl,h⟩
   ·
    intro a h; simp [iD] at h
   intro k33 x32 S30 H31 h
   replace h:iD (gp n) a1 a2 a3 (k33 + 1) x32=some r:=h
   replace H31:Has aF S30 []:=H31
   unfold iD at h
   refine ax.seq ?_
   refine ax.region E.obj rfl ?_
   refine ae.val rfl (ay rfl rfl bG) rfl ?_
   refine ae.nil ?_
   refine ax.seq ?_
   refine ax.cond rfl (fun hb34=>?_) (fun hb34=>?_)
   ·
    replace h:=cB hb34 h
    refine ax.skip ?_
    refine ax.seq ?_
    refine ax.block ?_
    refine ax.seq ?_
    refine ax.region E.obj rfl ?_
    obtain ⟨z35,hzz35,h⟩:=bind_some h
    refine ae.val rfl (bE rfl rfl (bY (enc:=aG) hzz35 nL nA ((aK.len _).trans eU.symm))) rfl ?_
    refine ae.val rfl (aU rfl (aK.gT jE eU)) rfl ?_
    refine ae.alloc H31 rfl yF lJ rfl rfl (fun b36 S37 H38=>?_)
    refine ae.store H38 (i:=0) rfl rfl rfl rfl (aK.bf _) rfl eU rfl nA rfl rfl rfl (fun S39 H40=>?_)
    refine ae.nil ?_
    refine ax.seq ?_
    refine ax.region E.obj rfl ?_
    refine ae.val rfl (av H40 (i:=0) rfl rfl (aZ jE eU rfl)) rfl ?_
    refine ae.less (Less.agg' (d:=aG z35) (au.eq rfl (au.eq rfl (au.eq rfl (au.eq rfl (au.eq rfl (au.eq rfl .nil)))))) ((aK.eq _).trans rfl)) ?_
    refine ae.val rfl (ah rfl) rfl ?_
    refine ae.val rfl (ah rfl) rfl ?_
    obtain ⟨z41,hzz41,h⟩:=bind_some h
    refine ae.ret rfl (aC rfl rfl) (ih _ _ _ _ hzz41 _ _ (aD.eq (aD.eq (aD.eq .nil)))) rfl ?_
    refine ae.val rfl (eZ rfl) rfl ?_
    refine ae.nil ?_
    refine ax.cond rfl (fun hb42=>?_) (fun hb42=>?_)
    ·
     replace h:=cB hb42 h
     refine ax.seq ?_
     refine ax.region E.obj rfl ?_
     refine ae.val rfl (aj rfl) rfl ?_
     refine ae.nil ?_
     have hr:=Option.some.inj h
     subst hr
     exact ax.ret ⟨_,rfl,rfl,dY (aD.eq .nil)⟩
    replace h:=cK hb42 h
    refine ax.skip ?_
    refine ax.region E.obj rfl ?_
    refine ae.val rfl (ay rfl rfl bI) rfl ?_
    refine ae.val rfl (ah rfl) rfl ?_
    refine ae.nil ?_
    exact ⟨(IntKind.wrap .i64 (x32 + 1)),_,_,S39,.refl _ _,.refl _,(aa.r rfl (aa.r rfl (aa.r rfl (aa.r rfl (aa.r rfl aa.nil))))),H40.sl [] rfl rfl,h⟩
   replace h:=cK hb34 h
   refine ax.exit ?_
   refine ax.seq ?_
   refine ax.region E.obj rfl ?_
   refine ae.val rfl (aj rfl) rfl ?_
   refine ae.nil ?_
   have hr:=Option.some.inj h
   subst hr
   exact ax.ret ⟨_,rfl,rfl,dY (aD.eq .nil)⟩
  refine ax.seq ?_
  refine ax.region E.obj rfl ?_
  refine ae.val rfl (ai rfl DK yO rfl) rfl ?_
  refine ae.val rfl (av H6 (i:=0) rfl rfl (aA u6 rfl)) rfl ?_
  refine ae.val rfl (ay rfl rfl pX) rfl ?_
  refine ae.val rfl (aj rfl) rfl ?_
  refine ae.nil ?_
  refine ax.cond rfl (fun hb43=>?_) (fun hb43=>?_)
  ·
   replace h:=cB hb43 h
   refine ax.skip ?_
   exact ⟨(a1.Tag == [111,117,116,108,101,116]),_,_,S5,.refl _ _,.refl _,(aa.r rfl (aa.r rfl (aa.r rfl (aa.r rfl (aa.r rfl aa.nil))))),H6.sl [0] rfl rfl,h⟩
  replace h:=cK hb43 h
  refine ax.region E.obj rfl ?_
  refine ae.val rfl (ai rfl ku kL rfl) rfl ?_
  refine ae.val rfl (av H6 (i:=0) rfl rfl (aA jl rfl)) rfl ?_
  refine ae.val rfl (ay rfl rfl dD) rfl ?_
  refine ae.val rfl (ah rfl) rfl ?_
  refine ae.bC 2 61 (.d (.bool ((a1.Kind == 7) && a3))) ?_ ?_
  ·
   rcases Bool.eq_false_or_eq_true ((a1.Kind == 7)) with hB44 | hB44
   ·
    refine ae.bool hB44 ?_
    refine ae.val rfl (ah rfl) rfl ?_
    refine ae.val rfl (az (b:=true) rfl rfl) rfl ?_
    exact ae.nil ⟨_,rfl,(aa.put (aa.push rfl (aa.put (.refl _) (Less.eq (by rw [hB44])))) (Less.eq (by rw [hB44]; rw [Bool.true_and])))⟩
   refine ae.bool hB44 ?_
   refine ae.no rfl rfl ?_
   refine ae.val rfl (az (b:=false) rfl rfl) rfl ?_
   exact ae.nil ⟨_,rfl,(aa.put (aa.push rfl (aa.put (.refl _) (Less.eq (by rw [hB44])))) (Less.eq (by rw [hB44]; rw [Bool.false_and])))⟩
  refine ae.val rfl (aj rfl) rfl ?_
  refine ae.nil ?_
  exact ⟨((a1.Kind == 7) && a3),_,_,S5,.refl _ _,.refl _,(aa.r rfl (aa.r rfl (aa.r rfl (aa.r rfl (aa.r rfl aa.nil))))),H6.sl [0] rfl rfl,h⟩
set_option maxRecDepth 20000 in
set_option maxHeartbeats 4000000 in
theorem AX (n:Nat) (a1:aK) (a2:Int) (r:Bool) (h:jJ n a1 a2=some r):bN R cfg.P 39 [(aG a1),(.int .i64 a2)] (.d (.bool r)):=by
 unfold jJ at h
 refine bN.of_wp E.obj.toObjOk (C:=cfg) Tryd.func39 rfl OJ rfl ?_
 have H0:Has aF aF []:=Has.pure
 refine ax.seq ?_
 refine ax.region E.obj rfl ?_
 refine ae.box H0 rfl rfl rfl (aK.bf _) rfl (fun b3 S4 H5=>?_)
 refine ae.val rfl (aj rfl) rfl ?_
 refine ae.nil ?_
 refine ax.seq ?_
 refine ax.region E.obj rfl ?_
 refine ae.val rfl (av H5 (i:=0) rfl rfl (aZ jE eU rfl)) rfl ?_
 refine ae.less (Less.agg' (d:=aG a1) (au.eq rfl (au.eq rfl (au.eq rfl (au.eq rfl (au.eq rfl (au.eq rfl .nil)))))) ((aK.eq _).trans rfl)) ?_
 obtain ⟨z6,hzz6,h⟩:=bind_some h
 refine ae.ret rfl (aC rfl rfl) (uX E _ _ _ hzz6 _ _ (aD.eq .nil)) rfl ?_
 refine ae.val rfl (ah rfl) rfl ?_
 refine ae.val rfl (pR rfl rfl) rfl ?_
 refine ae.val rfl (pR rfl rfl) rfl ?_
 refine ae.val rfl (aj rfl) rfl ?_
 refine ae.val rfl (aj rfl) rfl ?_
 refine ae.nil ?_
 refine ax.seq ?_
 refine ax.region E.obj rfl ?_
 refine ae.val rfl (ai rfl ku kL rfl) rfl ?_
 refine ae.val rfl (av H5 (i:=0) rfl rfl (aA jl rfl)) rfl ?_
 refine ae.val rfl (ay rfl rfl dD) rfl ?_
 refine ae.val rfl (ah rfl) rfl ?_
 refine ae.bC 3 18 (.d (.bool ((a1.Kind == 1) && (decide (z6.1 ≤ 60))))) ?_ ?_
 ·
  rcases Bool.eq_false_or_eq_true ((a1.Kind == 1)) with hB7 | hB7
  ·
   refine ae.bool hB7 ?_
   refine ae.val rfl (ah rfl) rfl ?_
   refine ae.val rfl (ay rfl rfl qj) rfl ?_
   refine ae.val rfl (az (b:=true) rfl rfl) rfl ?_
   exact ae.nil ⟨_,rfl,(aa.put (aa.push rfl (aa.push rfl (aa.put (.refl _) (Less.eq (by rw [hB7]))))) (Less.eq (by rw [hB7]; rw [Bool.true_and])))⟩
  refine ae.bool hB7 ?_
  refine ae.no rfl rfl ?_
  refine ae.no rfl rfl ?_
  refine ae.val rfl (az (b:=false) rfl rfl) rfl ?_
  exact ae.nil ⟨_,rfl,(aa.put (aa.push rfl (aa.push rfl (aa.put (.refl _) (Less.eq (by rw [hB7]))))) (Less.eq (by rw [hB7]; rw [Bool.false_and])))⟩
 refine ae.val rfl (ah rfl) rfl ?_
 refine ae.bC 3 22 (.d (.bool (((a1.Kind == 1) && (decide (z6.1 ≤ 60))) && (decide (z6.2 ≤ 12))))) ?_ ?_
 ·
  rcases Bool.eq_false_or_eq_true (((a1.Kind == 1) && (decide (z6.1 ≤ 60)))) with hB8 | hB8
  ·
   refine ae.bool hB8 ?_
   refine ae.val rfl (ah rfl) rfl ?_
   refine ae.val rfl (ay rfl rfl qj) rfl ?_
   refine ae.val rfl (az (b:=true) rfl rfl) rfl ?_
   exact ae.nil ⟨_,rfl,(aa.put (aa.push rfl (aa.push rfl (aa.put (.refl _) (Less.eq (by rw [hB8]))))) (Less.eq (by rw [hB8]; rw [Bool.true_and])))⟩
  refine ae.bool hB8 ?_
  refine ae.no rfl rfl ?_
  refine ae.no rfl rfl ?_
  refine ae.val rfl (az (b:=false) rfl rfl) rfl ?_
  exact ae.nil ⟨_,rfl,(aa.put (aa.push rfl (aa.push rfl (aa.put (.refl _) (Less.eq (by rw [hB8]))))) (Less.eq (by rw [hB8]; rw [Bool.false_and])))⟩
 refine ae.val rfl (ah rfl) rfl ?_
 obtain ⟨z10,hzz10,h⟩:=bind_some h
 refine ae.bC 4 27 (.d (.bool z10)) ?_ ?_
 ·
  rcases Bool.eq_false_or_eq_true ((((a1.Kind == 1) && (decide (z6.1 ≤ 60))) && (decide (z6.2 ≤ 12)))) with hB9 | hB9
  ·
   refine ae.bool hB9 ?_
   replace hzz10:=cB hB9 hzz10
   refine ae.val rfl (av H5 (i:=0) rfl rfl (aZ jE eU rfl)) rfl ?_
   refine ae.less (Less.agg' (d:=aG a1) (au.eq rfl (au.eq rfl (au.eq rfl (au.eq rfl (au.eq rfl (au.eq rfl .nil)))))) ((aK.eq _).trans rfl)) ?_
   refine ae.val rfl (ah rfl) rfl ?_
   obtain ⟨z11,hzz11,hzz10⟩:=bind_some hzz10
   refine ae.ret rfl (aC rfl rfl) (uU E _ _ _ _ _ hzz11 _ _ (aD.eq (aD.eq (aD.eq .nil)))) rfl ?_
   refine ae.val rfl (az (b:=true) rfl rfl) rfl ?_
   cases hzz10
   exact ae.nil ⟨_,rfl,(aa.put (aa.push rfl (aa.push rfl (aa.push rfl (aa.put (.refl _) (Less.eq (by rw [hB9])))))) (.refl _))⟩
  refine ae.bool hB9 ?_
  refine ae.no rfl rfl ?_
  refine ae.no rfl rfl ?_
  refine ae.no rfl rfl ?_
  refine ae.val rfl (az (b:=false) rfl rfl) rfl ?_
  replace hzz10:=cK hB9 hzz10
  cases hzz10
  exact ae.nil ⟨_,rfl,(aa.put (aa.push rfl (aa.push rfl (aa.push rfl (aa.put (.refl _) (Less.eq (by rw [hB9])))))) (.refl _))⟩
 refine ae.val rfl (aj rfl) rfl ?_
 refine ae.nil ?_
 have hr:=Option.some.inj h
 subst hr
 exact ax.ret ⟨_,rfl,rfl,dY (aD.eq .nil)⟩
set_option maxRecDepth 20000 in
set_option maxHeartbeats 4000000 in
theorem AY (n:Nat) (a1:aJ) (r:Bool) (h:ja n a1=some r):bN R cfg.P 15 [(aI a1)] (.d (.bool r)):=by
 unfold ja at h
 refine bN.of_wp E.obj.toObjOk (C:=cfg) Tryd.func15 rfl PU rfl ?_
 have H0:Has aF aF []:=Has.pure
 refine ax.seq ?_
 refine ax.region E.obj rfl ?_
 refine ae.box H0 rfl rfl rfl (aJ.bf _) rfl (fun b2 S3 H4=>?_)
 refine ae.val rfl (aj rfl) rfl ?_
 refine ae.nil ?_
 refine ax.seq ?_
 refine ax.seq ?_
 refine ax.region E.obj rfl ?_
 refine ae.val rfl (ai rfl rF lV rfl) rfl ?_
 refine ae.val rfl (av H4 (i:=0) rfl rfl (aA mr rfl)) rfl ?_
 refine ae.val rfl (aS rfl wX) rfl ?_
 refine ae.val rfl (ay rfl rfl jT) rfl ?_
 refine ae.val rfl (ah rfl) rfl ?_
 obtain ⟨z6,hzz6,h⟩:=bind_some h
 refine ae.bC 5 15 (.d (.bool z6)) ?_ ?_
 ·
  rcases Bool.eq_false_or_eq_true ((decide (6 < ((a1.Init).length:Int)))) with hB5 | hB5
  ·
   refine ae.bool hB5 ?_
   refine ae.no rfl rfl ?_
   refine ae.no rfl rfl ?_
   refine ae.no rfl rfl ?_
   refine ae.no rfl rfl ?_
   refine ae.val rfl (az (b:=true) rfl rfl) rfl ?_
   replace hzz6:=cB hB5 hzz6
   cases hzz6
   exact ae.nil ⟨_,rfl,(aa.put (aa.push rfl (aa.push rfl (aa.push rfl (aa.push rfl (aa.put (.refl _) (Less.eq (by rw [hB5]))))))) (.refl _))⟩
  refine ae.bool hB5 ?_
  replace hzz6:=cK hB5 hzz6
  refine ae.val rfl (ai rfl rF lV rfl) rfl ?_
  refine ae.val rfl (av H4 (i:=0) rfl rfl (aA mr rfl)) rfl ?_
  obtain ⟨z7,hzz7,hzz6⟩:=bind_some hzz6
  refine ae.ret rfl (aC rfl rfl) (El E _ _ _ hzz7 _ _ (aD.eq .nil)) rfl ?_
  refine ae.val rfl (eZ rfl) rfl ?_
  refine ae.val rfl (az (b:=false) rfl rfl) rfl ?_
  cases hzz6
  exact ae.nil ⟨_,rfl,(aa.put (aa.push rfl (aa.push rfl (aa.push rfl (aa.push rfl (aa.put (.refl _) (Less.eq (by rw [hB5]))))))) (.refl _))⟩
 refine ae.val rfl (ah rfl) rfl ?_
 refine ae.bC 5 21 (.d (.bool (z6 || (decide (24 < ((a1.On).length:Int)))))) ?_ ?_
 ·
  rcases Bool.eq_false_or_eq_true (z6) with hB8 | hB8
  ·
   refine ae.bool hB8 ?_
   refine ae.no rfl rfl ?_
   refine ae.no rfl rfl ?_
   refine ae.no rfl rfl ?_
   refine ae.no rfl rfl ?_
   refine ae.val rfl (az (b:=true) rfl rfl) rfl ?_
   exact ae.nil ⟨_,rfl,(aa.put (aa.push rfl (aa.push rfl (aa.push rfl (aa.push rfl (aa.put (.refl _) (Less.eq (by rw [hB8]))))))) (Less.eq (by rw [hB8]; rw [Bool.true_or])))⟩
  refine ae.bool hB8 ?_
  refine ae.val rfl (ai rfl vS Gp rfl) rfl ?_
  refine ae.val rfl (av H4 (i:=0) rfl rfl (aA IU rfl)) rfl ?_
  refine ae.val rfl (aS rfl Kw) rfl ?_
  refine ae.val rfl (ay rfl rfl jT) rfl ?_
  refine ae.val rfl (az (b:=false) rfl rfl) rfl ?_
  exact ae.nil ⟨_,rfl,(aa.put (aa.push rfl (aa.push rfl (aa.push rfl (aa.push rfl (aa.put (.refl _) (Less.eq (by rw [hB8]))))))) (Less.eq (by rw [hB8]; rw [Bool.false_or])))⟩
 refine ae.val rfl (ah rfl) rfl ?_
 obtain ⟨z10,hzz10,h⟩:=bind_some h
 refine ae.bC 8 30 (.d (.bool z10)) ?_ ?_
 ·
  rcases Bool.eq_false_or_eq_true ((z6 || (decide (24 < ((a1.On).length:Int))))) with hB9 | hB9
  ·
   refine ae.bool hB9 ?_
   refine ae.no rfl rfl ?_
   refine ae.no rfl rfl ?_
   refine ae.no rfl rfl ?_
   refine ae.no rfl rfl ?_
   refine ae.no rfl rfl ?_
   refine ae.no rfl rfl ?_
   refine ae.no rfl rfl ?_
   refine ae.val rfl (az (b:=true) rfl rfl) rfl ?_
   replace hzz10:=cB hB9 hzz10
   cases hzz10
   exact ae.nil ⟨_,rfl,(aa.put (aa.push rfl (aa.push rfl (aa.push rfl (aa.push rfl (aa.push rfl (aa.push rfl (aa.push rfl (aa.put (.refl _) (Less.eq (by rw [hB9])))))))))) (.refl _))⟩
  refine ae.bool hB9 ?_
  replace hzz10:=cK hB9 hzz10
  refine ae.val rfl (ai rfl vM F7 rfl) rfl ?_
  refine ae.val rfl (av H4 (i:=0) rfl rfl (aZ jE eU rfl)) rfl ?_
  refine ae.less (Less.agg' (d:=aG a1.aK) (au.eq rfl (au.eq rfl (au.eq rfl (au.eq rfl (au.eq rfl (au.eq rfl .nil)))))) ((aK.eq _).trans rfl)) ?_
  refine ae.val rfl (ai rfl rF lV rfl) rfl ?_
  refine ae.val rfl (av H4 (i:=0) rfl rfl (aA mr rfl)) rfl ?_
  refine ae.val rfl (aS rfl wX) rfl ?_
  obtain ⟨z11,hzz11,hzz10⟩:=bind_some hzz10
  refine ae.ret rfl (aC rfl rfl) (AX E _ _ _ _ hzz11 _ _ (aD.eq (aD.eq .nil))) rfl ?_
  refine ae.val rfl (eZ rfl) rfl ?_
  refine ae.val rfl (az (b:=false) rfl rfl) rfl ?_
  cases hzz10
  exact ae.nil ⟨_,rfl,(aa.put (aa.push rfl (aa.push rfl (aa.push rfl (aa.push rfl (aa.push rfl (aa.push rfl (aa.push rfl (aa.put (.refl _) (Less.eq (by rw [hB9])))))))))) (.refl _))⟩
 refine ae.nil ?_
 refine ax.cond rfl (fun hb12=>?_) (fun hb12=>?_)
 ·
  replace h:=cB hb12 h
  refine ax.seq ?_
  refine ax.region E.obj rfl ?_
  refine ae.val rfl (aj rfl) rfl ?_
  refine ae.nil ?_
  have hr:=Option.some.inj h
  subst hr
  exact ax.ret ⟨_,rfl,rfl,dY (aD.eq .nil)⟩
 replace h:=cK hb12 h
 refine ax.skip ?_
 refine ax.seq ?_
 refine ax.seq ?_
 refine ax.region E.obj rfl ?_
 refine ae.val rfl (ai rfl vS Gp rfl) rfl ?_
 refine ae.val rfl (av H4 (i:=0) rfl rfl (aA IU rfl)) rfl ?_
 refine ae.val rfl (aS rfl Kw) rfl ?_
 refine ae.val rfl (ah rfl) rfl ?_
 refine ae.nil ?_
 refine ax.block ?_
 refine nz.start (B:=aF) (α:=Int) (fun k a=>ig n a1 k a=some r) (fun a=>[(1,(.ptr b2 0 0)),(32,(.d (.sl ((a1.On).map eu) false))),(33,(.d (.int .i64 ((a1.On).length:Int)))),(34,(.d (.int .i64 a)))]) (fun a=>[.box b2 [(.d (.int .i64 a1.aK.Kind)),(.d (.int .i64 a1.aK.N)),(.d (.str a1.aK.Tag)),(.d (.str a1.aK.Text)),(.d (.sl ((a1.aK.bR).map aR) false)),(.d (.sl ((a1.aK.Kids).map aG) false)),(.d (.sl ((a1.Init).map (D.int .i64)) false)),(.d (.sl ((a1.On).map eu) false))]]) ?_ ?_ n ⟨0,_,_,S3,.refl _ _,.refl _,(aa.r rfl (aa.r rfl (aa.r rfl (aa.r rfl aa.nil)))),H4.sl [0] rfl rfl,h⟩
 ·
  intro a h; simp [ig] at h
 intro k21 x20 S18 H19 h
 replace h:ig n a1 (k21 + 1) x20=some r:=h
 replace H19:Has aF S18 [.box b2 [(.d (.int .i64 a1.aK.Kind)),(.d (.int .i64 a1.aK.N)),(.d (.str a1.aK.Tag)),(.d (.str a1.aK.Text)),(.d (.sl ((a1.aK.bR).map aR) false)),(.d (.sl ((a1.aK.Kids).map aG) false)),(.d (.sl ((a1.Init).map (D.int .i64)) false)),(.d (.sl ((a1.On).map eu) false))]]:=H19
 unfold ig at h
 refine ax.seq ?_
 refine ax.region E.obj rfl ?_
 refine ae.val rfl (ay rfl rfl bG) rfl ?_
 refine ae.nil ?_
 refine ax.seq ?_
 refine ax.cond rfl (fun hb22=>?_) (fun hb22=>?_)
 ·
  replace h:=cB hb22 h
  refine ax.skip ?_
  refine ax.seq ?_
  refine ax.block ?_
  refine ax.seq ?_
  refine ax.region E.obj rfl ?_
  obtain ⟨z23,hzz23,h⟩:=bind_some h
  refine ae.val rfl (bE rfl rfl (bY (enc:=eu) hzz23 D9 Lv ((On.len _).trans xU.symm))) rfl ?_
  refine ae.val rfl (aU rfl (On.gT Hz xU)) rfl ?_
  refine ae.alloc H19 rfl OA JF rfl rfl (fun b24 S25 H26=>?_)
  refine ae.store H26 (i:=0) rfl rfl rfl rfl (On.bf _) rfl xU rfl Lv rfl rfl rfl (fun S27 H28=>?_)
  refine ae.nil ?_
  refine ax.seq ?_
  refine ax.region E.obj rfl ?_
  refine ae.val rfl (ai rfl Gb yO rfl) rfl ?_
  refine ae.val rfl (av H28 (i:=0) rfl rfl (aA u6 rfl)) rfl ?_
  refine ae.val rfl (ay rfl rfl rU) rfl ?_
  refine ae.val rfl (ah rfl) rfl ?_
  refine ae.bC 5 46 (.d (.bool ((!(z23.Event == [])) && (decide (((z23.Event).length:Int) ≤ 16))))) ?_ ?_
  ·
   rcases Bool.eq_false_or_eq_true ((!(z23.Event == []))) with hB29 | hB29
   ·
    refine ae.bool hB29 ?_
    refine ae.val rfl (ai rfl Gb yO rfl) rfl ?_
    refine ae.val rfl (av H28 (i:=0) rfl rfl (aA u6 rfl)) rfl ?_
    refine ae.val rfl (uh rfl (BU OG) rfl) rfl ?_
    refine ae.val rfl (ay rfl rfl qj) rfl ?_
    refine ae.val rfl (az (b:=true) rfl rfl) rfl ?_
    exact ae.nil ⟨_,rfl,(aa.put (aa.push rfl (aa.push rfl (aa.push rfl (aa.push rfl (aa.put (.refl _) (Less.eq (by rw [hB29]))))))) (Less.eq (by rw [hB29]; rw [Bool.true_and])))⟩
   refine ae.bool hB29 ?_
   refine ae.no rfl rfl ?_
   refine ae.no rfl rfl ?_
   refine ae.no rfl rfl ?_
   refine ae.no rfl rfl ?_
   refine ae.val rfl (az (b:=false) rfl rfl) rfl ?_
   exact ae.nil ⟨_,rfl,(aa.put (aa.push rfl (aa.push rfl (aa.push rfl (aa.push rfl (aa.put (.refl _) (Less.eq (by rw [hB29]))))))) (Less.eq (by rw [hB29]; rw [Bool.false_and])))⟩
  refine ae.val rfl (ah rfl) rfl ?_
  obtain ⟨z31,hzz31,h⟩:=bind_some h
  refine ae.bC 5 52 (.d (.bool z31)) ?_ ?_
  ·
   rcases Bool.eq_false_or_eq_true (((!(z23.Event == [])) && (decide (((z23.Event).length:Int) ≤ 16)))) with hB30 | hB30
   ·
    refine ae.bool hB30 ?_
    replace hzz31:=cB hB30 hzz31
    refine ae.val rfl (ai rfl Gb yO rfl) rfl ?_
    refine ae.val rfl (av H28 (i:=0) rfl rfl (aA u6 rfl)) rfl ?_
    obtain ⟨z32,hzz32,hzz31⟩:=bind_some hzz31
    refine ae.ret rfl (aC rfl rfl) (E.strings_Trim_ok _ _ _ _ hzz32 _ _ (aD.eq (aD.eq .nil))) rfl ?_
    refine ae.val rfl (ay rfl rfl pX) rfl ?_
    refine ae.val rfl (az (b:=true) rfl rfl) rfl ?_
    cases hzz31
    exact ae.nil ⟨_,rfl,(aa.put (aa.push rfl (aa.push rfl (aa.push rfl (aa.push rfl (aa.put (.refl _) (Less.eq (by rw [hB30]))))))) (.refl _))⟩
   refine ae.bool hB30 ?_
   refine ae.no rfl rfl ?_
   refine ae.no rfl rfl ?_
   refine ae.no rfl rfl ?_
   refine ae.no rfl rfl ?_
   refine ae.val rfl (az (b:=false) rfl rfl) rfl ?_
   replace hzz31:=cK hB30 hzz31
   cases hzz31
   exact ae.nil ⟨_,rfl,(aa.put (aa.push rfl (aa.push rfl (aa.push rfl (aa.push rfl (aa.put (.refl _) (Less.eq (by rw [hB30]))))))) (.refl _))⟩
  refine ae.val rfl (aj rfl) rfl ?_
  refine ae.nil ?_
  refine ax.seq ?_
  refine ax.region E.obj rfl ?_
  refine ae.val rfl (ah rfl) rfl ?_
  refine ae.val rfl (eZ rfl) rfl ?_
  refine ae.val rfl (ah rfl) rfl ?_
  refine ae.bC 4 59 (.d (.bool ((!z31) || (decide (z23.N < 0))))) ?_ ?_
  ·
   rcases Bool.eq_false_or_eq_true ((!z31)) with hB33 | hB33
   ·
    refine ae.bool hB33 ?_
    refine ae.no rfl rfl ?_
    refine ae.no rfl rfl ?_
    refine ae.no rfl rfl ?_
    refine ae.val rfl (az (b:=true) rfl rfl) rfl ?_
    exact ae.nil ⟨_,rfl,(aa.put (aa.push rfl (aa.push rfl (aa.push rfl (aa.put (.refl _) (Less.eq (by rw [hB33])))))) (Less.eq (by rw [hB33]; rw [Bool.true_or])))⟩
   refine ae.bool hB33 ?_
   refine ae.val rfl (ai rfl Jr kL rfl) rfl ?_
   refine ae.val rfl (av H28 (i:=0) rfl rfl (aA jl rfl)) rfl ?_
   refine ae.val rfl (ay rfl rfl bG) rfl ?_
   refine ae.val rfl (az (b:=false) rfl rfl) rfl ?_
   exact ae.nil ⟨_,rfl,(aa.put (aa.push rfl (aa.push rfl (aa.push rfl (aa.put (.refl _) (Less.eq (by rw [hB33])))))) (Less.eq (by rw [hB33]; rw [Bool.false_or])))⟩
  refine ae.val rfl (ah rfl) rfl ?_
  refine ae.bC 7 67 (.d (.bool (((!z31) || (decide (z23.N < 0))) || (decide (((a1.Init).length:Int) ≤ z23.N))))) ?_ ?_
  ·
   rcases Bool.eq_false_or_eq_true (((!z31) || (decide (z23.N < 0)))) with hB34 | hB34
   ·
    refine ae.bool hB34 ?_
    refine ae.no rfl rfl ?_
    refine ae.no rfl rfl ?_
    refine ae.no rfl rfl ?_
    refine ae.no rfl rfl ?_
    refine ae.no rfl rfl ?_
    refine ae.no rfl rfl ?_
    refine ae.val rfl (az (b:=true) rfl rfl) rfl ?_
    exact ae.nil ⟨_,rfl,(aa.put (aa.push rfl (aa.push rfl (aa.push rfl (aa.push rfl (aa.push rfl (aa.push rfl (aa.put (.refl _) (Less.eq (by rw [hB34]))))))))) (Less.eq (by rw [hB34]; rw [Bool.true_or])))⟩
   refine ae.bool hB34 ?_
   refine ae.val rfl (ai rfl Jr kL rfl) rfl ?_
   refine ae.val rfl (av H28 (i:=0) rfl rfl (aA jl rfl)) rfl ?_
   refine ae.val rfl (ai rfl rF lV rfl) rfl ?_
   refine ae.val rfl (av H28 (i:=1) rfl rfl (aA mr rfl)) rfl ?_
   refine ae.val rfl (aS rfl wX) rfl ?_
   refine ae.val rfl (ay rfl rfl iJ) rfl ?_
   refine ae.val rfl (az (b:=false) rfl rfl) rfl ?_
   exact ae.nil ⟨_,rfl,(aa.put (aa.push rfl (aa.push rfl (aa.push rfl (aa.push rfl (aa.push rfl (aa.push rfl (aa.put (.refl _) (Less.eq (by rw [hB34]))))))))) (Less.eq (by rw [hB34]; rw [Bool.false_or])))⟩
  refine ae.val rfl (ah rfl) rfl ?_
  obtain ⟨z36,hzz36,h⟩:=bind_some h
  refine ae.bC 5 73 (.d (.bool z36)) ?_ ?_
  ·
   rcases Bool.eq_false_or_eq_true ((((!z31) || (decide (z23.N < 0))) || (decide (((a1.Init).length:Int) ≤ z23.N)))) with hB35 | hB35
   ·
    refine ae.bool hB35 ?_
    refine ae.no rfl rfl ?_
    refine ae.no rfl rfl ?_
    refine ae.no rfl rfl ?_
    refine ae.no rfl rfl ?_
    refine ae.val rfl (az (b:=true) rfl rfl) rfl ?_
    replace hzz36:=cB hB35 hzz36
    cases hzz36
    exact ae.nil ⟨_,rfl,(aa.put (aa.push rfl (aa.push rfl (aa.push rfl (aa.push rfl (aa.put (.refl _) (Less.eq (by rw [hB35]))))))) (.refl _))⟩
   refine ae.bool hB35 ?_
   replace hzz36:=cK hB35 hzz36
   refine ae.val rfl (ai rfl Mx kL rfl) rfl ?_
   refine ae.val rfl (av H28 (i:=0) rfl rfl (aA jl rfl)) rfl ?_
   obtain ⟨z37,hzz37,hzz36⟩:=bind_some hzz36
   refine ae.ret rfl (aC rfl rfl) (yA E _ _ _ hzz37 _ _ (aD.eq .nil)) rfl ?_
   refine ae.val rfl (eZ rfl) rfl ?_
   refine ae.val rfl (az (b:=false) rfl rfl) rfl ?_
   cases hzz36
   exact ae.nil ⟨_,rfl,(aa.put (aa.push rfl (aa.push rfl (aa.push rfl (aa.push rfl (aa.put (.refl _) (Less.eq (by rw [hB35]))))))) (.refl _))⟩
  refine ae.nil ?_
  refine ax.cond rfl (fun hb38=>?_) (fun hb38=>?_)
  ·
   replace h:=cB hb38 h
   refine ax.seq ?_
   refine ax.region E.obj rfl ?_
   refine ae.val rfl (aj rfl) rfl ?_
   refine ae.nil ?_
   have hr:=Option.some.inj h
   subst hr
   exact ax.ret ⟨_,rfl,rfl,dY (aD.eq .nil)⟩
  replace h:=cK hb38 h
  refine ax.skip ?_
  refine ax.region E.obj rfl ?_
  refine ae.val rfl (ay rfl rfl bI) rfl ?_
  refine ae.val rfl (ah rfl) rfl ?_
  refine ae.nil ?_
  exact ⟨(IntKind.wrap .i64 (x20 + 1)),_,_,S27,.refl _ _,.refl _,(aa.r rfl (aa.r rfl (aa.r rfl (aa.r rfl aa.nil)))),H28.sl [1] rfl rfl,h⟩
 replace h:=cK hb22 h
 refine ax.exit ?_
 refine ax.seq ?_
 refine ax.region E.obj rfl ?_
 refine ae.val rfl (aj rfl) rfl ?_
 refine ae.nil ?_
 have hr:=Option.some.inj h
 subst hr
 exact ax.ret ⟨_,rfl,rfl,dY (aD.eq .nil)⟩
set_option maxRecDepth 20000 in
set_option maxHeartbeats 4000000 in
theorem A7 (n:Nat) (a1:aH) (r:Bool) (h:qB n a1=some r):bN R cfg.P 16 [(kS a1)] (.d (.bool r)):=by
 unfold qB at h
 refine bN.of_wp E.obj.toObjOk (C:=cfg) Tryd.func16 rfl OQ rfl ?_
 have H0:Has aF aF []:=Has.pure
 refine ax.seq ?_
 refine ax.region E.obj rfl ?_
 refine ae.box H0 rfl rfl rfl (aH.bf _) rfl (fun b2 S3 H4=>?_)
 refine ae.val rfl (aj rfl) rfl ?_
 refine ae.nil ?_
 refine ax.seq ?_
 refine ax.region E.obj rfl ?_
 refine ae.val rfl (ai rfl ug kL rfl) rfl ?_
 refine ae.val rfl (av H4 (i:=0) rfl rfl (aA jl rfl)) rfl ?_
 refine ae.val rfl (ay rfl rfl dD) rfl ?_
 refine ae.val rfl (ah rfl) rfl ?_
 refine ae.bC 4 11 (.d (.bool ((a1.Kind == 3) || (a1.Kind == 4)))) ?_ ?_
 ·
  rcases Bool.eq_false_or_eq_true ((a1.Kind == 3)) with hB5 | hB5
  ·
   refine ae.bool hB5 ?_
   refine ae.no rfl rfl ?_
   refine ae.no rfl rfl ?_
   refine ae.no rfl rfl ?_
   refine ae.val rfl (az (b:=true) rfl rfl) rfl ?_
   exact ae.nil ⟨_,rfl,(aa.put (aa.push rfl (aa.push rfl (aa.push rfl (aa.put (.refl _) (Less.eq (by rw [hB5])))))) (Less.eq (by rw [hB5]; rw [Bool.true_or])))⟩
  refine ae.bool hB5 ?_
  refine ae.val rfl (ai rfl ug kL rfl) rfl ?_
  refine ae.val rfl (av H4 (i:=0) rfl rfl (aA jl rfl)) rfl ?_
  refine ae.val rfl (ay rfl rfl dD) rfl ?_
  refine ae.val rfl (az (b:=false) rfl rfl) rfl ?_
  exact ae.nil ⟨_,rfl,(aa.put (aa.push rfl (aa.push rfl (aa.push rfl (aa.put (.refl _) (Less.eq (by rw [hB5])))))) (Less.eq (by rw [hB5]; rw [Bool.false_or])))⟩
 refine ae.val rfl (aj rfl) rfl ?_
 refine ae.nil ?_
 refine ax.seq ?_
 refine ax.region E.obj rfl ?_
 refine ae.val rfl (ai rfl ug kL rfl) rfl ?_
 refine ae.val rfl (av H4 (i:=0) rfl rfl (aA jl rfl)) rfl ?_
 refine ae.val rfl (ay rfl rfl iJ) rfl ?_
 refine ae.val rfl (ah rfl) rfl ?_
 refine ae.bC 4 19 (.d (.bool ((decide (0 ≤ a1.Kind)) && (decide (a1.Kind ≤ 4))))) ?_ ?_
 ·
  rcases Bool.eq_false_or_eq_true ((decide (0 ≤ a1.Kind))) with hB6 | hB6
  ·
   refine ae.bool hB6 ?_
   refine ae.val rfl (ai rfl ug kL rfl) rfl ?_
   refine ae.val rfl (av H4 (i:=0) rfl rfl (aA jl rfl)) rfl ?_
   refine ae.val rfl (ay rfl rfl qj) rfl ?_
   refine ae.val rfl (az (b:=true) rfl rfl) rfl ?_
   exact ae.nil ⟨_,rfl,(aa.put (aa.push rfl (aa.push rfl (aa.push rfl (aa.put (.refl _) (Less.eq (by rw [hB6])))))) (Less.eq (by rw [hB6]; rw [Bool.true_and])))⟩
  refine ae.bool hB6 ?_
  refine ae.no rfl rfl ?_
  refine ae.no rfl rfl ?_
  refine ae.no rfl rfl ?_
  refine ae.val rfl (az (b:=false) rfl rfl) rfl ?_
  exact ae.nil ⟨_,rfl,(aa.put (aa.push rfl (aa.push rfl (aa.push rfl (aa.put (.refl _) (Less.eq (by rw [hB6])))))) (Less.eq (by rw [hB6]; rw [Bool.false_and])))⟩
 refine ae.val rfl (ah rfl) rfl ?_
 refine ae.bC 4 24 (.d (.bool (((decide (0 ≤ a1.Kind)) && (decide (a1.Kind ≤ 4))) && (decide (0 ≤ a1.Flag))))) ?_ ?_
 ·
  rcases Bool.eq_false_or_eq_true (((decide (0 ≤ a1.Kind)) && (decide (a1.Kind ≤ 4)))) with hB7 | hB7
  ·
   refine ae.bool hB7 ?_
   refine ae.val rfl (ai rfl Jb kL rfl) rfl ?_
   refine ae.val rfl (av H4 (i:=0) rfl rfl (aA jl rfl)) rfl ?_
   refine ae.val rfl (ay rfl rfl iJ) rfl ?_
   refine ae.val rfl (az (b:=true) rfl rfl) rfl ?_
   exact ae.nil ⟨_,rfl,(aa.put (aa.push rfl (aa.push rfl (aa.push rfl (aa.put (.refl _) (Less.eq (by rw [hB7])))))) (Less.eq (by rw [hB7]; rw [Bool.true_and])))⟩
  refine ae.bool hB7 ?_
  refine ae.no rfl rfl ?_
  refine ae.no rfl rfl ?_
  refine ae.no rfl rfl ?_
  refine ae.val rfl (az (b:=false) rfl rfl) rfl ?_
  exact ae.nil ⟨_,rfl,(aa.put (aa.push rfl (aa.push rfl (aa.push rfl (aa.put (.refl _) (Less.eq (by rw [hB7])))))) (Less.eq (by rw [hB7]; rw [Bool.false_and])))⟩
 refine ae.val rfl (ah rfl) rfl ?_
 refine ae.bC 4 29 (.d (.bool ((((decide (0 ≤ a1.Kind)) && (decide (a1.Kind ≤ 4))) && (decide (0 ≤ a1.Flag))) && (decide (a1.Flag < 8))))) ?_ ?_
 ·
  rcases Bool.eq_false_or_eq_true ((((decide (0 ≤ a1.Kind)) && (decide (a1.Kind ≤ 4))) && (decide (0 ≤ a1.Flag)))) with hB8 | hB8
  ·
   refine ae.bool hB8 ?_
   refine ae.val rfl (ai rfl Jb kL rfl) rfl ?_
   refine ae.val rfl (av H4 (i:=0) rfl rfl (aA jl rfl)) rfl ?_
   refine ae.val rfl (ay rfl rfl bG) rfl ?_
   refine ae.val rfl (az (b:=true) rfl rfl) rfl ?_
   exact ae.nil ⟨_,rfl,(aa.put (aa.push rfl (aa.push rfl (aa.push rfl (aa.put (.refl _) (Less.eq (by rw [hB8])))))) (Less.eq (by rw [hB8]; rw [Bool.true_and])))⟩
  refine ae.bool hB8 ?_
  refine ae.no rfl rfl ?_
  refine ae.no rfl rfl ?_
  refine ae.no rfl rfl ?_
  refine ae.val rfl (az (b:=false) rfl rfl) rfl ?_
  exact ae.nil ⟨_,rfl,(aa.put (aa.push rfl (aa.push rfl (aa.push rfl (aa.put (.refl _) (Less.eq (by rw [hB8])))))) (Less.eq (by rw [hB8]; rw [Bool.false_and])))⟩
 refine ae.val rfl (ah rfl) rfl ?_
 refine ae.bC 7 37 (.d (.bool (((((decide (0 ≤ a1.Kind)) && (decide (a1.Kind ≤ 4))) && (decide (0 ≤ a1.Flag))) && (decide (a1.Flag < 8))) && (((a1.Kind == 3) || (a1.Kind == 4)) || (a1.To == []))))) ?_ ?_
 ·
  rcases Bool.eq_false_or_eq_true (((((decide (0 ≤ a1.Kind)) && (decide (a1.Kind ≤ 4))) && (decide (0 ≤ a1.Flag))) && (decide (a1.Flag < 8)))) with hB9 | hB9
  ·
   refine ae.bool hB9 ?_
   refine ae.val rfl (ah rfl) rfl ?_
   refine ae.val rfl (ah rfl) rfl ?_
   refine ae.bC 4 36 (.d (.bool (((a1.Kind == 3) || (a1.Kind == 4)) || (a1.To == [])))) ?_ ?_
   ·
    rcases Bool.eq_false_or_eq_true (((a1.Kind == 3) || (a1.Kind == 4))) with hB10 | hB10
    ·
     refine ae.bool hB10 ?_
     refine ae.no rfl rfl ?_
     refine ae.no rfl rfl ?_
     refine ae.no rfl rfl ?_
     refine ae.val rfl (az (b:=true) rfl rfl) rfl ?_
     exact ae.nil ⟨_,rfl,(aa.put (aa.push rfl (aa.push rfl (aa.push rfl (aa.put (.refl _) (Less.eq (by rw [hB10])))))) (Less.eq (by rw [hB10]; rw [Bool.true_or])))⟩
    refine ae.bool hB10 ?_
    refine ae.val rfl (ai rfl Gr yO rfl) rfl ?_
    refine ae.val rfl (av H4 (i:=0) rfl rfl (aA u6 rfl)) rfl ?_
    refine ae.val rfl (ay rfl rfl pX) rfl ?_
    refine ae.val rfl (az (b:=false) rfl rfl) rfl ?_
    exact ae.nil ⟨_,rfl,(aa.put (aa.push rfl (aa.push rfl (aa.push rfl (aa.put (.refl _) (Less.eq (by rw [hB10])))))) (Less.eq (by rw [hB10]; rw [Bool.false_or])))⟩
   refine ae.val rfl (az (b:=true) rfl rfl) rfl ?_
   exact ae.nil ⟨_,rfl,(aa.put (aa.push rfl (aa.push rfl (aa.push rfl (aa.put (.refl _) (Less.eq (by rw [hB9])))))) (Less.eq (by rw [hB9]; rw [Bool.true_and])))⟩
  refine ae.bool hB9 ?_
  refine ae.no rfl rfl ?_
  refine ae.no rfl rfl ?_
  refine ae.no rfl rfl ?_
  refine ae.no rfl rfl ?_
  refine ae.no rfl rfl ?_
  refine ae.no rfl rfl ?_
  refine ae.val rfl (az (b:=false) rfl rfl) rfl ?_
  exact ae.nil ⟨_,rfl,(aa.put (aa.push rfl (aa.push rfl (aa.push rfl (aa.push rfl (aa.push rfl (aa.push rfl (aa.put (.refl _) (Less.eq (by rw [hB9]))))))))) (Less.eq (by rw [hB9]; rw [Bool.false_and])))⟩
 refine ae.val rfl (aj rfl) rfl ?_
 refine ae.nil ?_
 have hr:=Option.some.inj h
 subst hr
 exact ax.ret ⟨_,rfl,rfl,dY (aD.eq .nil)⟩
set_option maxRecDepth 20000 in
set_option maxHeartbeats 4000000 in
theorem xX (n:Nat) (a1:ak) (a2:Str) (S0:St) (b3:Nat) (hb4:S0.H.get b3=some (.cells 0 [(.d (.str a2))])) (r:Bool) (h:mf n a1 a2=some r):eQ R cfg.P 67 [.d (aB a1),.ptr b3 0 0] S0 (fun o=>o=(none,.d (.bool r),S0)):=by
 unfold mf at h
 refine SpecS.of_wp (C:=cfg) Tryd.func67 rfl Pm rfl (fun wf0=>?_)
 have H0:Has S0 S0 []:=Has.start wf0
 refine ax.seq ?_
 refine ax.region E.obj rfl ?_
 refine ae.box H0 rfl rfl rfl (ak.bf _) rfl (fun b5 S6 H7=>?_)
 refine ae.val rfl (aj rfl) rfl ?_
 refine ae.nil ?_
 refine ax.seq ?_
 refine ax.region E.obj rfl ?_
 refine ae.val rfl (ai rfl uf yO rfl) rfl ?_
 refine ae.val rfl (av H7 (i:=0) rfl rfl (aA u6 rfl)) rfl ?_
 refine ae.val rfl (vT H7 hb4 rfl (aA u6 rfl)) rfl ?_
 refine ae.val rfl (ay rfl rfl pX) rfl ?_
 refine ae.val rfl (aj rfl) rfl ?_
 refine ae.nil ?_
 have hr:=Option.some.inj h
 subst hr
 exact ax.ret ⟨_,rfl,rfl,H7.keeps,dY (aD.eq .nil)⟩
set_option maxRecDepth 20000 in
set_option maxHeartbeats 4000000 in
theorem zB (n:Nat) (a1:(List ak)) (a2:Str) (r:Int) (h:qI n a1 a2=some r):bN R cfg.P 42 [(.sl ((a1).map aB) false),(.str a2)] (.d (.int .i64 r)):=by
 unfold qI at h
 refine bN.of_wp E.obj.toObjOk (C:=cfg) Tryd.func42 rfl PW rfl ?_
 have H0:Has aF aF []:=Has.pure
 refine ax.seq ?_
 refine ax.region E.obj rfl ?_
 refine ae.box H0 rfl rfl rfl rfl rfl (fun b3 S4 H5=>?_)
 refine ae.val rfl (aj rfl) rfl ?_
 refine ae.nil ?_
 refine ax.seq ?_
 refine ax.region E.obj rfl ?_
 refine ae.val rfl (ah rfl) rfl ?_
 refine ae.val rfl (rC rfl) rfl ?_
 obtain ⟨z7,hzz7,h⟩:=bind_some h
 refine ae.ret rfl (aC rfl rfl) (eQ.uY (gY E n S4 _ _ _ (fun y6=>mf n y6 a2) (fun S' hk hw y6 r hr=>xX E n y6 a2 S' _ (hk.H _ _ (H5.at (i:=0) rfl)) r hr) _ hzz7) (.cons (.refl _) (.cons (.refl _) .nil))) rfl ?_
 refine ae.val rfl (aj rfl) rfl ?_
 refine ae.nil ?_
 have hr:=Option.some.inj h
 subst hr
 exact ax.ret ⟨_,rfl,rfl,dY (aD.eq .nil)⟩
set_option maxRecDepth 20000 in
set_option maxHeartbeats 4000000 in
theorem Bf (n:Nat) (a1:dK) (a2:aH) (r:Bool) (h:mE n a1 a2=some r):bN R cfg.P 17 [(iW a1),(kS a2)] (.d (.bool r)):=by
 unfold mE at h
 refine bN.of_wp E.obj.toObjOk (C:=cfg) Tryd.func17 rfl PO rfl ?_
 have H0:Has aF aF []:=Has.pure
 refine ax.seq ?_
 refine ax.region E.obj rfl ?_
 refine ae.box H0 rfl rfl rfl (dK.bf _) rfl (fun b3 S4 H5=>?_)
 refine ae.box H5 rfl rfl rfl (aH.bf _) rfl (fun b6 S7 H8=>?_)
 refine ae.val rfl (aj rfl) rfl ?_
 refine ae.nil ?_
 refine ax.seq ?_
 refine ax.region E.obj rfl ?_
 refine ae.val rfl (ai rfl ug kL rfl) rfl ?_
 refine ae.val rfl (av H8 (i:=0) rfl rfl (aA jl rfl)) rfl ?_
 refine ae.val rfl (ay rfl rfl fH) rfl ?_
 refine ae.val rfl (ah rfl) rfl ?_
 refine ae.bC 4 12 (.d (.bool ((a2.Kind != 3) && (a2.Kind != 4)))) ?_ ?_
 ·
  rcases Bool.eq_false_or_eq_true ((a2.Kind != 3)) with hB9 | hB9
  ·
   refine ae.bool hB9 ?_
   refine ae.val rfl (ai rfl ug kL rfl) rfl ?_
   refine ae.val rfl (av H8 (i:=0) rfl rfl (aA jl rfl)) rfl ?_
   refine ae.val rfl (ay rfl rfl fH) rfl ?_
   refine ae.val rfl (az (b:=true) rfl rfl) rfl ?_
   exact ae.nil ⟨_,rfl,(aa.put (aa.push rfl (aa.push rfl (aa.push rfl (aa.put (.refl _) (Less.eq (by rw [hB9])))))) (Less.eq (by rw [hB9]; rw [Bool.true_and])))⟩
  refine ae.bool hB9 ?_
  refine ae.no rfl rfl ?_
  refine ae.no rfl rfl ?_
  refine ae.no rfl rfl ?_
  refine ae.val rfl (az (b:=false) rfl rfl) rfl ?_
  exact ae.nil ⟨_,rfl,(aa.put (aa.push rfl (aa.push rfl (aa.push rfl (aa.put (.refl _) (Less.eq (by rw [hB9])))))) (Less.eq (by rw [hB9]; rw [Bool.false_and])))⟩
 refine ae.val rfl (ah rfl) rfl ?_
 obtain ⟨z11,hzz11,h⟩:=bind_some h
 refine ae.bC 7 20 (.d (.bool z11)) ?_ ?_
 ·
  rcases Bool.eq_false_or_eq_true (((a2.Kind != 3) && (a2.Kind != 4))) with hB10 | hB10
  ·
   refine ae.bool hB10 ?_
   refine ae.no rfl rfl ?_
   refine ae.no rfl rfl ?_
   refine ae.no rfl rfl ?_
   refine ae.no rfl rfl ?_
   refine ae.no rfl rfl ?_
   refine ae.no rfl rfl ?_
   refine ae.val rfl (az (b:=true) rfl rfl) rfl ?_
   replace hzz11:=cB hB10 hzz11
   cases hzz11
   exact ae.nil ⟨_,rfl,(aa.put (aa.push rfl (aa.push rfl (aa.push rfl (aa.push rfl (aa.push rfl (aa.push rfl (aa.put (.refl _) (Less.eq (by rw [hB10]))))))))) (.refl _))⟩
  refine ae.bool hB10 ?_
  replace hzz11:=cK hB10 hzz11
  refine ae.val rfl (ai rfl iZ oO rfl) rfl ?_
  refine ae.val rfl (av H8 (i:=1) rfl rfl (aA pK rfl)) rfl ?_
  refine ae.val rfl (ai rfl Gr yO rfl) rfl ?_
  refine ae.val rfl (av H8 (i:=0) rfl rfl (aA u6 rfl)) rfl ?_
  obtain ⟨z12,hzz12,hzz11⟩:=bind_some hzz11
  refine ae.ret rfl (aC rfl rfl) (zB E _ _ _ _ hzz12 _ _ (aD.eq (aD.eq .nil))) rfl ?_
  refine ae.val rfl (ay rfl rfl iJ) rfl ?_
  refine ae.val rfl (az (b:=false) rfl rfl) rfl ?_
  cases hzz11
  exact ae.nil ⟨_,rfl,(aa.put (aa.push rfl (aa.push rfl (aa.push rfl (aa.push rfl (aa.push rfl (aa.push rfl (aa.put (.refl _) (Less.eq (by rw [hB10]))))))))) (.refl _))⟩
 refine ae.val rfl (aj rfl) rfl ?_
 refine ae.nil ?_
 have hr:=Option.some.inj h
 subst hr
 exact ax.ret ⟨_,rfl,rfl,dY (aD.eq .nil)⟩
set_option maxRecDepth 20000 in
set_option maxHeartbeats 4000000 in
theorem uW:∀ (n:Nat) (a1:aK) (r:Int),fB n a1=some r→bN R cfg.P 18 [(aG a1)] (.d (.int .i64 r))
 | 0,a1,r,h=>by simp [fB] at h
 | n + 1,a1,r,h=>by
  have ih:=uW n
  unfold fB at h
  refine bN.of_wp E.obj.toObjOk (C:=cfg) Tryd.func18 rfl Py rfl ?_
  have H0:Has aF aF []:=Has.pure
  refine ax.seq ?_
  refine ax.region E.obj rfl ?_
  refine ae.box H0 rfl rfl rfl (aK.bf _) rfl (fun b2 S3 H4=>?_)
  refine ae.val rfl (aj rfl) rfl ?_
  refine ae.nil ?_
  refine ax.seq ?_
  refine ax.region E.obj rfl ?_
  refine ae.val rfl (aj rfl) rfl ?_
  refine ae.nil ?_
  refine ax.join (B:=aF) (α:=Int) (fun a=>kK n (fB n) a1 a=some r) (fun a=>[(1,(.ptr b2 0 0)),(3,(.d (.int .i64 a)))]) (fun a=>[.box b2 [(.d (.int .i64 a1.Kind)),(.d (.int .i64 a1.N)),(.d (.str a1.Tag)),(.d (.str a1.Text)),(.d (.sl ((a1.bR).map aR) false)),(.d (.sl ((a1.Kids).map aG) false))]]) ?_ ?_
  ·
   intro x7 S5 H6 h
   replace h:kK n (fB n) a1 x7=some r:=h
   replace H6:Has aF S5 [.box b2 [(.d (.int .i64 a1.Kind)),(.d (.int .i64 a1.N)),(.d (.str a1.Tag)),(.d (.str a1.Text)),(.d (.sl ((a1.bR).map aR) false)),(.d (.sl ((a1.Kids).map aG) false))]]:=H6
   unfold kK at h
   refine ax.seq ?_
   refine ax.seq ?_
   refine ax.region E.obj rfl ?_
   refine ae.val rfl (ai rfl jC qF rfl) rfl ?_
   refine ae.val rfl (av H6 (i:=0) rfl rfl (aA uP rfl)) rfl ?_
   refine ae.val rfl (aS rfl yL) rfl ?_
   refine ae.val rfl (ah rfl) rfl ?_
   refine ae.nil ?_
   refine ax.block ?_
   refine nz.start (B:=aF) (α:=Int × Int) (fun k a=>iy (fB n) a1 k a.1 a.2=some r) (fun a=>[(3,(.d (.int .i64 a.1))),(10,(.d (.sl ((a1.Kids).map aG) false))),(11,(.d (.int .i64 ((a1.Kids).length:Int)))),(12,(.d (.int .i64 a.2)))]) (fun a=>[]) ?_ ?_ n ⟨⟨x7,0⟩,_,_,S5,.refl _ _,.refl _,(aa.r rfl (aa.r rfl (aa.r rfl (aa.r rfl aa.nil)))),H6.sl [] rfl rfl,h⟩
   ·
    intro a h; simp [iy] at h
   intro k19 a S15 H16 h
   obtain ⟨x17,x18⟩:=a
   replace h:iy (fB n) a1 (k19 + 1) x17 x18=some r:=h
   replace H16:Has aF S15 []:=H16
   unfold iy at h
   refine ax.seq ?_
   refine ax.region E.obj rfl ?_
   refine ae.val rfl (ay rfl rfl bG) rfl ?_
   refine ae.nil ?_
   refine ax.seq ?_
   refine ax.cond rfl (fun hb20=>?_) (fun hb20=>?_)
   ·
    replace h:=cB hb20 h
    refine ax.skip ?_
    refine ax.seq ?_
    refine ax.block ?_
    refine ax.seq ?_
    refine ax.region E.obj rfl ?_
    obtain ⟨z21,hzz21,h⟩:=bind_some h
    refine ae.val rfl (bE rfl rfl (bY (enc:=aG) hzz21 nL nA ((aK.len _).trans eU.symm))) rfl ?_
    refine ae.val rfl (aU rfl (aK.gT jE eU)) rfl ?_
    refine ae.alloc H16 rfl yF lJ rfl rfl (fun b22 S23 H24=>?_)
    refine ae.store H24 (i:=0) rfl rfl rfl rfl (aK.bf _) rfl eU rfl nA rfl rfl rfl (fun S25 H26=>?_)
    refine ae.nil ?_
    refine ax.region E.obj rfl ?_
    refine ae.val rfl (ah rfl) rfl ?_
    refine ae.val rfl (av H26 (i:=0) rfl rfl (aZ jE eU rfl)) rfl ?_
    refine ae.less (Less.agg' (d:=aG z21) (au.eq rfl (au.eq rfl (au.eq rfl (au.eq rfl (au.eq rfl (au.eq rfl .nil)))))) ((aK.eq _).trans rfl)) ?_
    obtain ⟨z27,hzz27,h⟩:=bind_some h
    refine ae.ret rfl (aC rfl rfl) (ih _ _ hzz27 _ _ (aD.eq .nil)) rfl ?_
    refine ae.val rfl (ay rfl rfl bI) rfl ?_
    refine ae.val rfl (aj rfl) rfl ?_
    refine ae.nil ?_
    refine ax.region E.obj rfl ?_
    refine ae.val rfl (ay rfl rfl bI) rfl ?_
    refine ae.val rfl (ah rfl) rfl ?_
    refine ae.nil ?_
    exact ⟨⟨(IntKind.wrap .i64 (x17 + z27)),(IntKind.wrap .i64 (x18 + 1))⟩,_,_,S25,.refl _ _,.refl _,(aa.r rfl (aa.r rfl (aa.r rfl (aa.r rfl aa.nil)))),H26.sl [] rfl rfl,h⟩
   replace h:=cK hb20 h
   refine ax.exit ?_
   refine ax.seq ?_
   refine ax.region E.obj rfl ?_
   refine ae.val rfl (ah rfl) rfl ?_
   refine ae.val rfl (aj rfl) rfl ?_
   refine ae.nil ?_
   have hr:=Option.some.inj h
   subst hr
   exact ax.ret ⟨_,rfl,rfl,dY (aD.eq .nil)⟩
  refine ax.seq ?_
  refine ax.region E.obj rfl ?_
  refine ae.val rfl (ai rfl ku kL rfl) rfl ?_
  refine ae.val rfl (av H4 (i:=0) rfl rfl (aA jl rfl)) rfl ?_
  refine ae.val rfl (ay rfl rfl dD) rfl ?_
  refine ae.nil ?_
  refine ax.cond rfl (fun hb28=>?_) (fun hb28=>?_)
  ·
   replace h:=cB hb28 h
   refine ax.region E.obj rfl ?_
   refine ae.val rfl (aj rfl) rfl ?_
   refine ae.nil ?_
   exact ⟨1,_,_,S3,.refl _ _,.refl _,(aa.r rfl (aa.r rfl aa.nil)),H4.sl [0] rfl rfl,h⟩
  replace h:=cK hb28 h
  refine ax.skip ?_
  exact ⟨0,_,_,S3,.refl _ _,.refl _,(aa.r rfl (aa.r rfl aa.nil)),H4.sl [0] rfl rfl,h⟩
set_option maxRecDepth 20000 in
set_option maxHeartbeats 4000000 in
theorem kY (n:Nat) (a1:dK) (r:Bool) (h:eP n a1=some r):bN R cfg.P 6 [(iW a1)] (.d (.bool r)):=by
 unfold eP at h
 refine bN.of_wp E.obj.toObjOk (C:=cfg) Tryd.func6 rfl Qq rfl ?_
 have H0:Has aF aF []:=Has.pure
 refine ax.seq ?_
 refine ax.region E.obj rfl ?_
 refine ae.box H0 rfl rfl rfl (dK.bf _) rfl (fun b2 S3 H4=>?_)
 refine ae.val rfl (aj rfl) rfl ?_
 refine ae.nil ?_
 refine ax.seq ?_
 refine ax.seq ?_
 refine ax.region E.obj rfl ?_
 refine ae.val rfl (ai rfl iZ oO rfl) rfl ?_
 refine ae.val rfl (av H4 (i:=0) rfl rfl (aA pK rfl)) rfl ?_
 obtain ⟨z5,hzz5,h⟩:=bind_some h
 refine ae.ret rfl (aC rfl rfl) (zw E _ _ _ hzz5 _ _ (aD.eq .nil)) rfl ?_
 refine ae.val rfl (eZ rfl) rfl ?_
 refine ae.val rfl (ah rfl) rfl ?_
 refine ae.bC 5 16 (.d (.bool ((!z5) || (decide (((a1.Comps).length:Int) < 1))))) ?_ ?_
 ·
  rcases Bool.eq_false_or_eq_true ((!z5)) with hB6 | hB6
  ·
   refine ae.bool hB6 ?_
   refine ae.no rfl rfl ?_
   refine ae.no rfl rfl ?_
   refine ae.no rfl rfl ?_
   refine ae.no rfl rfl ?_
   refine ae.val rfl (az (b:=true) rfl rfl) rfl ?_
   exact ae.nil ⟨_,rfl,(aa.put (aa.push rfl (aa.push rfl (aa.push rfl (aa.push rfl (aa.put (.refl _) (Less.eq (by rw [hB6]))))))) (Less.eq (by rw [hB6]; rw [Bool.true_or])))⟩
  refine ae.bool hB6 ?_
  refine ae.val rfl (ai rfl iG nD rfl) rfl ?_
  refine ae.val rfl (av H4 (i:=0) rfl rfl (aA pF rfl)) rfl ?_
  refine ae.val rfl (aS rfl yJ) rfl ?_
  refine ae.val rfl (ay rfl rfl bG) rfl ?_
  refine ae.val rfl (az (b:=false) rfl rfl) rfl ?_
  exact ae.nil ⟨_,rfl,(aa.put (aa.push rfl (aa.push rfl (aa.push rfl (aa.push rfl (aa.put (.refl _) (Less.eq (by rw [hB6]))))))) (Less.eq (by rw [hB6]; rw [Bool.false_or])))⟩
 refine ae.val rfl (ah rfl) rfl ?_
 refine ae.bC 5 22 (.d (.bool (((!z5) || (decide (((a1.Comps).length:Int) < 1))) || (decide (16 < ((a1.Comps).length:Int)))))) ?_ ?_
 ·
  rcases Bool.eq_false_or_eq_true (((!z5) || (decide (((a1.Comps).length:Int) < 1)))) with hB7 | hB7
  ·
   refine ae.bool hB7 ?_
   refine ae.no rfl rfl ?_
   refine ae.no rfl rfl ?_
   refine ae.no rfl rfl ?_
   refine ae.no rfl rfl ?_
   refine ae.val rfl (az (b:=true) rfl rfl) rfl ?_
   exact ae.nil ⟨_,rfl,(aa.put (aa.push rfl (aa.push rfl (aa.push rfl (aa.push rfl (aa.put (.refl _) (Less.eq (by rw [hB7]))))))) (Less.eq (by rw [hB7]; rw [Bool.true_or])))⟩
  refine ae.bool hB7 ?_
  refine ae.val rfl (ai rfl iG nD rfl) rfl ?_
  refine ae.val rfl (av H4 (i:=0) rfl rfl (aA pF rfl)) rfl ?_
  refine ae.val rfl (aS rfl yJ) rfl ?_
  refine ae.val rfl (ay rfl rfl jT) rfl ?_
  refine ae.val rfl (az (b:=false) rfl rfl) rfl ?_
  exact ae.nil ⟨_,rfl,(aa.put (aa.push rfl (aa.push rfl (aa.push rfl (aa.push rfl (aa.put (.refl _) (Less.eq (by rw [hB7]))))))) (Less.eq (by rw [hB7]; rw [Bool.false_or])))⟩
 refine ae.val rfl (ah rfl) rfl ?_
 refine ae.bC 4 27 (.d (.bool ((((!z5) || (decide (((a1.Comps).length:Int) < 1))) || (decide (16 < ((a1.Comps).length:Int)))) || (decide (a1.Cache < 0))))) ?_ ?_
 ·
  rcases Bool.eq_false_or_eq_true ((((!z5) || (decide (((a1.Comps).length:Int) < 1))) || (decide (16 < ((a1.Comps).length:Int))))) with hB8 | hB8
  ·
   refine ae.bool hB8 ?_
   refine ae.no rfl rfl ?_
   refine ae.no rfl rfl ?_
   refine ae.no rfl rfl ?_
   refine ae.val rfl (az (b:=true) rfl rfl) rfl ?_
   exact ae.nil ⟨_,rfl,(aa.put (aa.push rfl (aa.push rfl (aa.push rfl (aa.put (.refl _) (Less.eq (by rw [hB8])))))) (Less.eq (by rw [hB8]; rw [Bool.true_or])))⟩
  refine ae.bool hB8 ?_
  refine ae.val rfl (ai rfl xG kL rfl) rfl ?_
  refine ae.val rfl (av H4 (i:=0) rfl rfl (aA jl rfl)) rfl ?_
  refine ae.val rfl (ay rfl rfl bG) rfl ?_
  refine ae.val rfl (az (b:=false) rfl rfl) rfl ?_
  exact ae.nil ⟨_,rfl,(aa.put (aa.push rfl (aa.push rfl (aa.push rfl (aa.put (.refl _) (Less.eq (by rw [hB8])))))) (Less.eq (by rw [hB8]; rw [Bool.false_or])))⟩
 refine ae.val rfl (ah rfl) rfl ?_
 refine ae.bC 4 32 (.d (.bool (((((!z5) || (decide (((a1.Comps).length:Int) < 1))) || (decide (16 < ((a1.Comps).length:Int)))) || (decide (a1.Cache < 0))) || (decide (8 < a1.Cache))))) ?_ ?_
 ·
  rcases Bool.eq_false_or_eq_true (((((!z5) || (decide (((a1.Comps).length:Int) < 1))) || (decide (16 < ((a1.Comps).length:Int)))) || (decide (a1.Cache < 0)))) with hB9 | hB9
  ·
   refine ae.bool hB9 ?_
   refine ae.no rfl rfl ?_
   refine ae.no rfl rfl ?_
   refine ae.no rfl rfl ?_
   refine ae.val rfl (az (b:=true) rfl rfl) rfl ?_
   exact ae.nil ⟨_,rfl,(aa.put (aa.push rfl (aa.push rfl (aa.push rfl (aa.put (.refl _) (Less.eq (by rw [hB9])))))) (Less.eq (by rw [hB9]; rw [Bool.true_or])))⟩
  refine ae.bool hB9 ?_
  refine ae.val rfl (ai rfl xG kL rfl) rfl ?_
  refine ae.val rfl (av H4 (i:=0) rfl rfl (aA jl rfl)) rfl ?_
  refine ae.val rfl (ay rfl rfl jT) rfl ?_
  refine ae.val rfl (az (b:=false) rfl rfl) rfl ?_
  exact ae.nil ⟨_,rfl,(aa.put (aa.push rfl (aa.push rfl (aa.push rfl (aa.put (.refl _) (Less.eq (by rw [hB9])))))) (Less.eq (by rw [hB9]; rw [Bool.false_or])))⟩
 refine ae.nil ?_
 refine ax.cond rfl (fun hb10=>?_) (fun hb10=>?_)
 ·
  replace h:=cB hb10 h
  refine ax.seq ?_
  refine ax.region E.obj rfl ?_
  refine ae.val rfl (aj rfl) rfl ?_
  refine ae.nil ?_
  have hr:=Option.some.inj h
  subst hr
  exact ax.ret ⟨_,rfl,rfl,dY (aD.eq .nil)⟩
 replace h:=cK hb10 h
 refine ax.skip ?_
 refine ax.seq ?_
 refine ax.seq ?_
 refine ax.region E.obj rfl ?_
 refine ae.val rfl (ai rfl iG nD rfl) rfl ?_
 refine ae.val rfl (av H4 (i:=0) rfl rfl (aA pF rfl)) rfl ?_
 refine ae.val rfl (aS rfl yJ) rfl ?_
 refine ae.val rfl (ah rfl) rfl ?_
 refine ae.nil ?_
 refine ax.block ?_
 refine nz.start (B:=aF) (α:=Int) (fun k a=>fG n a1 k a=some r) (fun a=>[(1,(.ptr b2 0 0)),(34,(.d (.sl ((a1.Comps).map aI) false))),(35,(.d (.int .i64 ((a1.Comps).length:Int)))),(36,(.d (.int .i64 a)))]) (fun a=>[.box b2 [(.d (.sl ((a1.Records).map aB) false)),(.d (.sl ((a1.Comps).map aI) false)),(.d (.int .i64 a1.Cache))]]) ?_ ?_ n ⟨0,_,_,S3,.refl _ _,.refl _,(aa.r rfl (aa.r rfl (aa.r rfl (aa.r rfl aa.nil)))),H4.sl [0] rfl rfl,h⟩
 ·
  intro a h; simp [fG] at h
 intro k19 x18 S16 H17 h
 replace h:fG n a1 (k19 + 1) x18=some r:=h
 replace H17:Has aF S16 [.box b2 [(.d (.sl ((a1.Records).map aB) false)),(.d (.sl ((a1.Comps).map aI) false)),(.d (.int .i64 a1.Cache))]]:=H17
 unfold fG at h
 refine ax.seq ?_
 refine ax.region E.obj rfl ?_
 refine ae.val rfl (ay rfl rfl bG) rfl ?_
 refine ae.nil ?_
 refine ax.seq ?_
 refine ax.cond rfl (fun hb20=>?_) (fun hb20=>?_)
 ·
  replace h:=cB hb20 h
  refine ax.skip ?_
  refine ax.seq ?_
  refine ax.block ?_
  refine ax.seq ?_
  refine ax.region E.obj rfl ?_
  obtain ⟨z21,hzz21,h⟩:=bind_some h
  refine ae.val rfl (bE rfl rfl (bY (enc:=aI) hzz21 tJ qx ((aJ.len _).trans jS.symm))) rfl ?_
  refine ae.val rfl (aU rfl (aJ.gT wI jS)) rfl ?_
  refine ae.alloc H17 rfl FP tH rfl rfl (fun b22 S23 H24=>?_)
  refine ae.store H24 (i:=0) rfl rfl rfl rfl (aJ.bf _) rfl jS rfl qx rfl rfl rfl (fun S25 H26=>?_)
  refine ae.nil ?_
  refine ax.seq ?_
  refine ax.region E.obj rfl ?_
  refine ae.val rfl (av H26 (i:=0) rfl rfl (aZ wI jS rfl)) rfl ?_
  refine ae.less (Less.agg' (d:=aI z21) (au.eq rfl (au.eq rfl (au.eq rfl (au.eq rfl (au.eq rfl (au.eq rfl (au.eq rfl (au.eq rfl .nil)))))))) ((aJ.eq _).trans rfl)) ?_
  obtain ⟨z27,hzz27,h⟩:=bind_some h
  refine ae.ret rfl (aC rfl rfl) (AY E _ _ _ hzz27 _ _ (aD.eq .nil)) rfl ?_
  refine ae.val rfl (eZ rfl) rfl ?_
  refine ae.nil ?_
  refine ax.cond rfl (fun hb28=>?_) (fun hb28=>?_)
  ·
   replace h:=cB hb28 h
   refine ax.seq ?_
   refine ax.region E.obj rfl ?_
   refine ae.val rfl (aj rfl) rfl ?_
   refine ae.nil ?_
   have hr:=Option.some.inj h
   subst hr
   exact ax.ret ⟨_,rfl,rfl,dY (aD.eq .nil)⟩
  replace h:=cK hb28 h
  refine ax.skip ?_
  refine ax.region E.obj rfl ?_
  refine ae.val rfl (ay rfl rfl bI) rfl ?_
  refine ae.val rfl (ah rfl) rfl ?_
  refine ae.nil ?_
  exact ⟨(IntKind.wrap .i64 (x18 + 1)),_,_,S25,.refl _ _,.refl _,(aa.r rfl (aa.r rfl (aa.r rfl (aa.r rfl aa.nil)))),H26.sl [1] rfl rfl,h⟩
 replace h:=cK hb20 h
 refine ax.exit ?_
 refine ax.seq ?_
 refine ax.seq ?_
 refine ax.region E.obj rfl ?_
 refine ae.val rfl (ai rfl iZ oO rfl) rfl ?_
 refine ae.val rfl (av H17 (i:=0) rfl rfl (aA pK rfl)) rfl ?_
 refine ae.val rfl (aS rfl sD) rfl ?_
 refine ae.val rfl (ah rfl) rfl ?_
 refine ae.nil ?_
 refine ax.block ?_
 refine nz.start (B:=aF) (α:=Int) (fun k a=>dQ n a1 k a=some r) (fun a=>[(1,(.ptr b2 0 0)),(45,(.d (.sl ((a1.Records).map aB) false))),(46,(.d (.int .i64 ((a1.Records).length:Int)))),(47,(.d (.int .i64 a)))]) (fun a=>[.box b2 [(.d (.sl ((a1.Records).map aB) false)),(.d (.sl ((a1.Comps).map aI) false)),(.d (.int .i64 a1.Cache))]]) ?_ ?_ n ⟨0,_,_,S16,.refl _ _,.refl _,(aa.r rfl (aa.r rfl (aa.r rfl (aa.r rfl aa.nil)))),H17.sl [0] rfl rfl,h⟩
 ·
  intro a h; simp [dQ] at h
 intro k37 x36 S34 H35 h
 replace h:dQ n a1 (k37 + 1) x36=some r:=h
 replace H35:Has aF S34 [.box b2 [(.d (.sl ((a1.Records).map aB) false)),(.d (.sl ((a1.Comps).map aI) false)),(.d (.int .i64 a1.Cache))]]:=H35
 unfold dQ at h
 refine ax.seq ?_
 refine ax.region E.obj rfl ?_
 refine ae.val rfl (ay rfl rfl bG) rfl ?_
 refine ae.nil ?_
 refine ax.seq ?_
 refine ax.cond rfl (fun hb38=>?_) (fun hb38=>?_)
 ·
  replace h:=cB hb38 h
  refine ax.skip ?_
  refine ax.seq ?_
  refine ax.block ?_
  refine ax.seq ?_
  refine ax.region E.obj rfl ?_
  refine ae.val rfl (ah rfl) rfl ?_
  obtain ⟨z39,hzz39,h⟩:=bind_some h
  refine ae.val rfl (bE rfl rfl (bY (enc:=aB) hzz39 oK lY ((ak.len _).trans jm.symm))) rfl ?_
  refine ae.val rfl (aU rfl (ak.gT yQ jm)) rfl ?_
  refine ae.alloc H35 rfl HZ tu rfl rfl (fun b40 S41 H42=>?_)
  refine ae.val rfl (aj rfl) rfl ?_
  refine ae.store H42 (i:=0) rfl rfl rfl rfl (ak.bf _) rfl jm rfl lY rfl rfl rfl (fun S43 H44=>?_)
  refine ae.nil ?_
  refine ax.seq ?_
  refine ax.seq ?_
  refine ax.region E.obj rfl ?_
  refine ae.val rfl (ai rfl oN kL rfl) rfl ?_
  refine ae.val rfl (av H44 (i:=0) rfl rfl (aA jl rfl)) rfl ?_
  refine ae.val rfl (ay rfl rfl bG) rfl ?_
  refine ae.val rfl (ah rfl) rfl ?_
  refine ae.bC 7 62 (.d (.bool ((decide (z39.aJ < 0)) || (decide (((a1.Comps).length:Int) ≤ z39.aJ))))) ?_ ?_
  ·
   rcases Bool.eq_false_or_eq_true ((decide (z39.aJ < 0))) with hB45 | hB45
   ·
    refine ae.bool hB45 ?_
    refine ae.no rfl rfl ?_
    refine ae.no rfl rfl ?_
    refine ae.no rfl rfl ?_
    refine ae.no rfl rfl ?_
    refine ae.no rfl rfl ?_
    refine ae.no rfl rfl ?_
    refine ae.val rfl (az (b:=true) rfl rfl) rfl ?_
    exact ae.nil ⟨_,rfl,(aa.put (aa.push rfl (aa.push rfl (aa.push rfl (aa.push rfl (aa.push rfl (aa.push rfl (aa.put (.refl _) (Less.eq (by rw [hB45]))))))))) (Less.eq (by rw [hB45]; rw [Bool.true_or])))⟩
   refine ae.bool hB45 ?_
   refine ae.val rfl (ai rfl oN kL rfl) rfl ?_
   refine ae.val rfl (av H44 (i:=0) rfl rfl (aA jl rfl)) rfl ?_
   refine ae.val rfl (ai rfl iG nD rfl) rfl ?_
   refine ae.val rfl (av H44 (i:=1) rfl rfl (aA pF rfl)) rfl ?_
   refine ae.val rfl (aS rfl yJ) rfl ?_
   refine ae.val rfl (ay rfl rfl iJ) rfl ?_
   refine ae.val rfl (az (b:=false) rfl rfl) rfl ?_
   exact ae.nil ⟨_,rfl,(aa.put (aa.push rfl (aa.push rfl (aa.push rfl (aa.push rfl (aa.push rfl (aa.push rfl (aa.put (.refl _) (Less.eq (by rw [hB45]))))))))) (Less.eq (by rw [hB45]; rw [Bool.false_or])))⟩
  refine ae.val rfl (ah rfl) rfl ?_
  obtain ⟨z47,hzz47,h⟩:=bind_some h
  refine ae.bC 5 68 (.d (.bool z47)) ?_ ?_
  ·
   rcases Bool.eq_false_or_eq_true (((decide (z39.aJ < 0)) || (decide (((a1.Comps).length:Int) ≤ z39.aJ)))) with hB46 | hB46
   ·
    refine ae.bool hB46 ?_
    refine ae.no rfl rfl ?_
    refine ae.no rfl rfl ?_
    refine ae.no rfl rfl ?_
    refine ae.no rfl rfl ?_
    refine ae.val rfl (az (b:=true) rfl rfl) rfl ?_
    replace hzz47:=cB hB46 hzz47
    cases hzz47
    exact ae.nil ⟨_,rfl,(aa.put (aa.push rfl (aa.push rfl (aa.push rfl (aa.push rfl (aa.put (.refl _) (Less.eq (by rw [hB46]))))))) (.refl _))⟩
   refine ae.bool hB46 ?_
   replace hzz47:=cK hB46 hzz47
   refine ae.val rfl (ai rfl rA AU rfl) rfl ?_
   refine ae.val rfl (av H44 (i:=0) rfl rfl (aZ K6 FQ rfl)) rfl ?_
   refine ae.less (Less.agg' (d:=kS z39.aH) (au.eq rfl (au.eq rfl (au.eq rfl .nil))) ((aH.eq _).trans rfl)) ?_
   obtain ⟨z48,hzz48,hzz47⟩:=bind_some hzz47
   refine ae.ret rfl (aC rfl rfl) (A7 E _ _ _ hzz48 _ _ (aD.eq .nil)) rfl ?_
   refine ae.val rfl (eZ rfl) rfl ?_
   refine ae.val rfl (az (b:=false) rfl rfl) rfl ?_
   cases hzz47
   exact ae.nil ⟨_,rfl,(aa.put (aa.push rfl (aa.push rfl (aa.push rfl (aa.push rfl (aa.put (.refl _) (Less.eq (by rw [hB46]))))))) (.refl _))⟩
  refine ae.val rfl (ah rfl) rfl ?_
  obtain ⟨z50,hzz50,h⟩:=bind_some h
  refine ae.bC 6 75 (.d (.bool z50)) ?_ ?_
  ·
   rcases Bool.eq_false_or_eq_true (z47) with hB49 | hB49
   ·
    refine ae.bool hB49 ?_
    refine ae.no rfl rfl ?_
    refine ae.no rfl rfl ?_
    refine ae.no rfl rfl ?_
    refine ae.no rfl rfl ?_
    refine ae.no rfl rfl ?_
    refine ae.val rfl (az (b:=true) rfl rfl) rfl ?_
    replace hzz50:=cB hB49 hzz50
    cases hzz50
    exact ae.nil ⟨_,rfl,(aa.put (aa.push rfl (aa.push rfl (aa.push rfl (aa.push rfl (aa.push rfl (aa.put (.refl _) (Less.eq (by rw [hB49])))))))) (.refl _))⟩
   refine ae.bool hB49 ?_
   replace hzz50:=cK hB49 hzz50
   refine ae.val rfl (av H44 (i:=1) rfl rfl (aZ tF nG rfl)) rfl ?_
   refine ae.less (Less.agg' (d:=iW a1) (au.eq rfl (au.eq rfl (au.eq rfl .nil))) ((dK.eq _).trans rfl)) ?_
   refine ae.val rfl (ai rfl rA AU rfl) rfl ?_
   refine ae.val rfl (av H44 (i:=0) rfl rfl (aZ K6 FQ rfl)) rfl ?_
   refine ae.less (Less.agg' (d:=kS z39.aH) (au.eq rfl (au.eq rfl (au.eq rfl .nil))) ((aH.eq _).trans rfl)) ?_
   obtain ⟨z51,hzz51,hzz50⟩:=bind_some hzz50
   refine ae.ret rfl (aC rfl rfl) (Bf E _ _ _ _ hzz51 _ _ (aD.eq (aD.eq .nil))) rfl ?_
   refine ae.val rfl (eZ rfl) rfl ?_
   refine ae.val rfl (az (b:=false) rfl rfl) rfl ?_
   cases hzz50
   exact ae.nil ⟨_,rfl,(aa.put (aa.push rfl (aa.push rfl (aa.push rfl (aa.push rfl (aa.push rfl (aa.put (.refl _) (Less.eq (by rw [hB49])))))))) (.refl _))⟩
  refine ae.nil ?_
  refine ax.cond rfl (fun hb52=>?_) (fun hb52=>?_)
  ·
   replace h:=cB hb52 h
   refine ax.seq ?_
   refine ax.region E.obj rfl ?_
   refine ae.val rfl (aj rfl) rfl ?_
   refine ae.nil ?_
   have hr:=Option.some.inj h
   subst hr
   exact ax.ret ⟨_,rfl,rfl,dY (aD.eq .nil)⟩
  replace h:=cK hb52 h
  refine ax.skip ?_
  refine ax.seq ?_
  refine ax.region E.obj rfl ?_
  refine ae.val rfl (av H44 (i:=1) rfl rfl (aZ tF nG rfl)) rfl ?_
  refine ae.less (Less.agg' (d:=iW a1) (au.eq rfl (au.eq rfl (au.eq rfl .nil))) ((dK.eq _).trans rfl)) ?_
  refine ae.val rfl (ah rfl) rfl ?_
  obtain ⟨z53,hzz53,h⟩:=bind_some h
  refine ae.ret rfl (aC rfl rfl) (nk E _ _ _ _ hzz53 _ _ (aD.eq (aD.eq .nil))) rfl ?_
  refine ae.val rfl (ah rfl) rfl ?_
  obtain ⟨z55,hzz55,h⟩:=bind_some h
  refine ae.bC 10 89 (.d (.bool z55)) ?_ ?_
  ·
   rcases Bool.eq_false_or_eq_true (z53) with hB54 | hB54
   ·
    refine ae.bool hB54 ?_
    replace hzz55:=cB hB54 hzz55
    refine ae.val rfl (ai rfl iG nD rfl) rfl ?_
    refine ae.val rfl (av H44 (i:=1) rfl rfl (aA pF rfl)) rfl ?_
    refine ae.val rfl (ai rfl oN kL rfl) rfl ?_
    refine ae.val rfl (av H44 (i:=0) rfl rfl (aA jl rfl)) rfl ?_
    obtain ⟨z56,hzz56,hzz55⟩:=bind_some hzz55
    refine ae.val rfl (bE rfl rfl (bY (enc:=aI) hzz56 tJ qx ((aJ.len _).trans jS.symm))) rfl ?_
    refine ae.val rfl (kD rfl vM F7 rfl) rfl ?_
    refine ae.val rfl (aU rfl (by rw [aJ.cells]; exact lF jE eU rfl)) rfl ?_
    refine ae.less (Less.eq (congrArg AV.d ((aK.eq _).trans rfl))) ?_
    obtain ⟨z57,hzz57,hzz55⟩:=bind_some hzz55
    refine ae.ret rfl (aC rfl rfl) (uW E _ _ _ hzz57 _ _ (aD.eq .nil)) rfl ?_
    refine ae.val rfl (ay rfl rfl fH) rfl ?_
    refine ae.val rfl (az (b:=true) rfl rfl) rfl ?_
    cases hzz55
    exact ae.nil ⟨_,rfl,(aa.put (aa.push rfl (aa.push rfl (aa.push rfl (aa.push rfl (aa.push rfl (aa.push rfl (aa.push rfl (aa.push rfl (aa.push rfl (aa.put (.refl _) (Less.eq (by rw [hB54])))))))))))) (.refl _))⟩
   refine ae.bool hB54 ?_
   refine ae.no rfl rfl ?_
   refine ae.no rfl rfl ?_
   refine ae.no rfl rfl ?_
   refine ae.no rfl rfl ?_
   refine ae.no rfl rfl ?_
   refine ae.no rfl rfl ?_
   refine ae.no rfl rfl ?_
   refine ae.no rfl rfl ?_
   refine ae.no rfl rfl ?_
   refine ae.val rfl (az (b:=false) rfl rfl) rfl ?_
   replace hzz55:=cK hB54 hzz55
   cases hzz55
   exact ae.nil ⟨_,rfl,(aa.put (aa.push rfl (aa.push rfl (aa.push rfl (aa.push rfl (aa.push rfl (aa.push rfl (aa.push rfl (aa.push rfl (aa.push rfl (aa.put (.refl _) (Less.eq (by rw [hB54])))))))))))) (.refl _))⟩
  refine ae.nil ?_
  refine ax.cond rfl (fun hb58=>?_) (fun hb58=>?_)
  ·
   replace h:=cB hb58 h
   refine ax.seq ?_
   refine ax.region E.obj rfl ?_
   refine ae.val rfl (aj rfl) rfl ?_
   refine ae.nil ?_
   have hr:=Option.some.inj h
   subst hr
   exact ax.ret ⟨_,rfl,rfl,dY (aD.eq .nil)⟩
  replace h:=cK hb58 h
  refine ax.skip ?_
  refine ax.region E.obj rfl ?_
  refine ae.val rfl (ay rfl rfl bI) rfl ?_
  refine ae.val rfl (ah rfl) rfl ?_
  refine ae.nil ?_
  exact ⟨(IntKind.wrap .i64 (x36 + 1)),_,_,S43,.refl _ _,.refl _,(aa.r rfl (aa.r rfl (aa.r rfl (aa.r rfl aa.nil)))),H44.sl [1] rfl rfl,h⟩
 replace h:=cK hb38 h
 refine ax.exit ?_
 refine ax.seq ?_
 refine ax.region E.obj rfl ?_
 refine ae.val rfl (aj rfl) rfl ?_
 refine ae.nil ?_
 have hr:=Option.some.inj h
 subst hr
 exact ax.ret ⟨_,rfl,rfl,dY (aD.eq .nil)⟩
theorem kP (n:Nat) (a1:(List ak)) (r:(List ak)) (h:eT n a1=some r):mK R cfg.P 21 [(.sl ((a1).map aB) false)] (fun v l=>l=[.row 8 v ((r).map aB)]):=by
 unfold eT at h
 refine mK.of_wp (C:=jI) Tryd.func21 rfl Pn rfl (fun S0 wf0=>?_)
 have H0:Has S0 S0 []:=Has.start wf0
 refine ax.seq ?_
 refine ax.region (dZ E) rfl ?_
 refine ae.val rfl (aj rfl) rfl ?_
 refine ae.nil ?_
 refine ax.seq ?_
 refine ax.seq ?_
 refine ax.region (dZ E) rfl ?_
 refine ae.val rfl (ah rfl) rfl ?_
 refine ae.Ao rfl rfl rfl M9 rfl (fun bb hbb=>?_)
 refine ae.nil ?_
 refine ax.cond rfl (fun hb=>?_) (fun hb=>?_)
 ·
  have e:=map_nil (hbb hb)
  subst e
  have hr:=(mW h).2
  subst hr
  refine ax.seq ?_
  refine ax.region (dZ E) rfl ?_
  refine ae.val rfl (aj rfl) rfl ?_
  refine ae.nil ?_
  exact ax.ret ⟨_,rfl,rfl,_,_,.refl _,rfl,H0.JN 8⟩
 ·
  refine ax.skip ?_
  refine ax.seq ?_
  refine ax.region (dZ E) rfl ?_
  refine ae.val rfl (ng KX oK yQ) rfl ?_
  refine ae.val rfl (ah rfl) rfl ?_
  have H1:=H0.Gi 8
  refine ae.rH (xs:=([]:(List ak)).map aB) (ys:=(a1).map aB) (zs:=(r).map aB) H1 rfl rfl rfl (i:=0) rfl jm rfl zX Jw oK (fI (enc:=aB) h) NH rfl (bS (enc:=aB) (fun z=>(ak.len z).trans jm.symm) _) (tQ (fun x=>ak.flat x) _) rfl J2 rfl (jK h) (fun v2 S2 H2=>?_)
  refine ae.val rfl (aj rfl) rfl ?_
  refine ae.nil ?_
  exact ax.ret ⟨_,rfl,rfl,_,_,.refl _,rfl,H2⟩
theorem mJ (n:Nat) (a1:(List Seg)) (r:(List Seg)) (h:gz n a1=some r):bN R cfg.P 22 [(.sl ((a1).map bB) false)] (.d (.sl ((r).map bB) false)):=by
 unfold gz at h
 refine bN.of_wp E.obj.toObjOk (C:=cfg) Tryd.func22 rfl O1 rfl ?_
 have H0:Has aF aF []:=Has.pure
 refine ax.seq ?_
 refine ax.region E.obj rfl ?_
 refine ae.val rfl (aj rfl) rfl ?_
 refine ae.nil ?_
 refine ax.seq ?_
 refine ax.seq ?_
 refine ax.region E.obj rfl ?_
 refine ae.val rfl (ah rfl) rfl ?_
 refine ae.Ao rfl rfl rfl Na rfl (fun bb hbb=>?_)
 refine ae.nil ?_
 refine ax.cond rfl (fun hb=>?_) (fun hb=>?_)
 ·
  have e:=map_nil (hbb hb)
  subst e
  have hr:=(mW h).2
  subst hr
  refine ax.seq ?_
  refine ax.region E.obj rfl ?_
  refine ae.val rfl (aj rfl) rfl ?_
  refine ae.nil ?_
  exact ax.ret ⟨_,rfl,rfl,dY (aD.gJ rfl (.aO false) .nil)⟩
 ·
  refine ax.skip ?_
  refine ax.seq ?_
  refine ax.region E.obj rfl ?_
  refine ae.val rfl (lQ KZ wV yK) rfl ?_
  refine ae.val rfl (ah rfl) rfl ?_
  have H1:=H0.vU (([]:(List Seg)).map bB)
  refine ae.append (xs:=([]:(List Seg)).map bB) (ys:=(a1).map bB) (zs:=(r).map bB) H1 rfl rfl rfl (i:=0) rfl rfl KZ NY wV (fI (enc:=bB) h) NS rfl (bS (enc:=bB) (fun z=>(Seg.len z).trans pO.symm) _) (bS (enc:=bB) (fun z=>(Seg.len z).trans pO.symm) _) Nq rfl (jK h) (fun v2 S2 H2=>?_)
  refine ae.val rfl (aj rfl) rfl ?_
  refine ae.nil ?_
  exact ax.ret ⟨_,rfl,rfl,dY (aD.grow H2 (i:=0) rfl .nil)⟩
theorem lW (n:Nat) (a1:(List aJ)) (r:(List aJ)) (h:fQ n a1=some r):mK R cfg.P 23 [(.sl ((a1).map aI) false)] (fun v l=>l=[.row 8 v ((r).map aI)]):=by
 unfold fQ at h
 refine mK.of_wp (C:=BL) Tryd.func23 rfl OE rfl (fun S0 wf0=>?_)
 have H0:Has S0 S0 []:=Has.start wf0
 refine ax.seq ?_
 refine ax.region (GM E) rfl ?_
 refine ae.val rfl (aj rfl) rfl ?_
 refine ae.nil ?_
 refine ax.seq ?_
 refine ax.seq ?_
 refine ax.region (GM E) rfl ?_
 refine ae.val rfl (ah rfl) rfl ?_
 refine ae.Ao rfl rfl rfl Nb rfl (fun bb hbb=>?_)
 refine ae.nil ?_
 refine ax.cond rfl (fun hb=>?_) (fun hb=>?_)
 ·
  have e:=map_nil (hbb hb)
  subst e
  have hr:=(mW h).2
  subst hr
  refine ax.seq ?_
  refine ax.region (GM E) rfl ?_
  refine ae.val rfl (aj rfl) rfl ?_
  refine ae.nil ?_
  exact ax.ret ⟨_,rfl,rfl,_,_,.refl _,rfl,H0.JN 8⟩
 ·
  refine ax.skip ?_
  refine ax.seq ?_
  refine ax.region (GM E) rfl ?_
  refine ae.val rfl (ng Ls tJ wI) rfl ?_
  refine ae.val rfl (ah rfl) rfl ?_
  have H1:=H0.Gi 8
  refine ae.rH (xs:=([]:(List aJ)).map aI) (ys:=(a1).map aI) (zs:=(r).map aI) H1 rfl rfl rfl (i:=0) rfl jS rfl LW Ms tJ (fI (enc:=aI) h) Mw rfl (bS (enc:=aI) (fun z=>(aJ.len z).trans jS.symm) _) (tQ (fun x=>aJ.flat x) _) rfl MH rfl (jK h) (fun v2 S2 H2=>?_)
  refine ae.val rfl (aj rfl) rfl ?_
  refine ae.nil ?_
  exact ax.ret ⟨_,rfl,rfl,_,_,.refl _,rfl,H2⟩
theorem l8 (n:Nat) (a1:(List Attr)) (r:(List Attr)) (h:fP n a1=some r):bN R cfg.P 44 [(.sl ((a1).map aR) false)] (.d (.sl ((r).map aR) false)):=by
 unfold fP at h
 refine bN.of_wp E.obj.toObjOk (C:=cfg) Tryd.func44 rfl Pg rfl ?_
 have H0:Has aF aF []:=Has.pure
 refine ax.seq ?_
 refine ax.region E.obj rfl ?_
 refine ae.val rfl (aj rfl) rfl ?_
 refine ae.nil ?_
 refine ax.seq ?_
 refine ax.seq ?_
 refine ax.region E.obj rfl ?_
 refine ae.val rfl (ah rfl) rfl ?_
 refine ae.Ao rfl rfl rfl Nz rfl (fun bb hbb=>?_)
 refine ae.nil ?_
 refine ax.cond rfl (fun hb=>?_) (fun hb=>?_)
 ·
  have e:=map_nil (hbb hb)
  subst e
  have hr:=(mW h).2
  subst hr
  refine ax.seq ?_
  refine ax.region E.obj rfl ?_
  refine ae.val rfl (aj rfl) rfl ?_
  refine ae.nil ?_
  exact ax.ret ⟨_,rfl,rfl,dY (aD.gJ rfl (.aO false) .nil)⟩
 ·
  refine ax.skip ?_
  refine ax.seq ?_
  refine ax.region E.obj rfl ?_
  refine ae.val rfl (lQ Mq Ky K3) rfl ?_
  refine ae.val rfl (ah rfl) rfl ?_
  have H1:=H0.vU (([]:(List Attr)).map aR)
  refine ae.append (xs:=([]:(List Attr)).map aR) (ys:=(a1).map aR) (zs:=(r).map aR) H1 rfl rfl rfl (i:=0) rfl rfl Mq PM Ky (fI (enc:=aR) h) OH rfl (bS (enc:=aR) (fun z=>(Attr.len z).trans FC.symm) _) (bS (enc:=aR) (fun z=>(Attr.len z).trans FC.symm) _) O5 rfl (jK h) (fun v2 S2 H2=>?_)
  refine ae.val rfl (aj rfl) rfl ?_
  refine ae.nil ?_
  exact ax.ret ⟨_,rfl,rfl,dY (aD.grow H2 (i:=0) rfl .nil)⟩
theorem mF (n:Nat) (a1:(List aK)) (r:(List aK)) (h:gB n a1=some r):mK R cfg.P 45 [(.sl ((a1).map aG) false)] (fun v l=>l=[.row 6 v ((r).map aG)]):=by
 unfold gB at h
 refine mK.of_wp (C:=yg) Tryd.func45 rfl Oq rfl (fun S0 wf0=>?_)
 have H0:Has S0 S0 []:=Has.start wf0
 refine ax.seq ?_
 refine ax.region (qa E) rfl ?_
 refine ae.val rfl (aj rfl) rfl ?_
 refine ae.nil ?_
 refine ax.seq ?_
 refine ax.seq ?_
 refine ax.region (qa E) rfl ?_
 refine ae.val rfl (ah rfl) rfl ?_
 refine ae.Ao rfl rfl rfl Nc rfl (fun bb hbb=>?_)
 refine ae.nil ?_
 refine ax.cond rfl (fun hb=>?_) (fun hb=>?_)
 ·
  have e:=map_nil (hbb hb)
  subst e
  have hr:=(mW h).2
  subst hr
  refine ax.seq ?_
  refine ax.region (qa E) rfl ?_
  refine ae.val rfl (aj rfl) rfl ?_
  refine ae.nil ?_
  exact ax.ret ⟨_,rfl,rfl,_,_,.refl _,rfl,H0.JN 6⟩
 ·
  refine ax.skip ?_
  refine ax.seq ?_
  refine ax.region (qa E) rfl ?_
  refine ae.val rfl (ng La nL jE) rfl ?_
  refine ae.val rfl (ah rfl) rfl ?_
  have H1:=H0.Gi 6
  refine ae.rH (xs:=([]:(List aK)).map aG) (ys:=(a1).map aG) (zs:=(r).map aG) H1 rfl rfl rfl (i:=0) rfl eU rfl MU Md nL (fI (enc:=aG) h) Hr rfl (bS (enc:=aG) (fun z=>(aK.len z).trans eU.symm) _) (tQ (fun x=>aK.flat x) _) rfl MF rfl (jK h) (fun v2 S2 H2=>?_)
  refine ae.val rfl (aj rfl) rfl ?_
  refine ae.nil ?_
  exact ax.ret ⟨_,rfl,rfl,_,_,.refl _,rfl,H2⟩
set_option maxRecDepth 20000 in
set_option maxHeartbeats 4000000 in
theorem qZ:∀ (n:Nat) (a1:aK) (r:aK),fZ n a1=some r→bN R cfg.P 24 [(aG a1)] (.d (aG r))
 | 0,a1,r,h=>by simp [fZ] at h
 | n + 1,a1,r,h=>by
  have ih:=qZ n
  unfold fZ at h
  refine bN.of_wp (qa E).toObjOk (C:=yg) Tryd.func24 rfl Oy rfl ?_
  have H0:Has aF aF []:=Has.pure
  refine ax.seq ?_
  refine ax.region (qa E) rfl ?_
  refine ae.box H0 rfl rfl rfl (aK.bf _) rfl (fun b2 S3 H4=>?_)
  refine ae.alloc H4 rfl Ku lJ rfl rfl (fun b5 S6 H7=>?_)
  refine ae.nil ?_
  refine ax.seq ?_
  refine ax.region (qa E) rfl ?_
  refine ae.val rfl (ai rfl zS JD rfl) rfl ?_
  refine ae.val rfl (av H7 (i:=1) rfl rfl (aA MQ rfl)) rfl ?_
  obtain ⟨z8,hzz8,h⟩:=bind_some h
  refine ae.ret rfl (aC rfl rfl) (l8 E _ _ _ hzz8 _ _ (aD.eq .nil)) rfl ?_
  refine ae.val rfl (ai rfl zS JD rfl) rfl ?_
  refine ae.store H7 (i:=1) rfl rfl rfl rfl rfl rfl M0 rfl NG rfl rfl rfl (fun S9 H10=>?_)
  refine ae.nil ?_
  refine ax.seq ?_
  refine ax.region (qa E) rfl ?_
  refine ae.val rfl (ai rfl jC qF rfl) rfl ?_
  refine ae.val rfl (av H10 (i:=1) rfl rfl (aA uP rfl)) rfl ?_
  obtain ⟨z11,hzz11,h⟩:=bind_some h
  refine ae.Bg H10 rfl (aC rfl rfl) (mF E n _ _ hzz11) (aD.eq .nil) rfl ?_
  rintro v12 S13 _ rfl H14
  refine ae.val rfl (ai rfl jC qF rfl) rfl ?_
  refine ae.store H14 (i:=2) rfl rfl rfl rfl (nX (H14.at (i:=0) rfl)).2 rfl Ib (nX (H14.at (i:=0) rfl)).1 Il rfl rfl rfl (fun S17 H18=>?_)
  refine ae.nil ?_
  refine ax.seq ?_
  refine ax.seq ?_
  refine ax.region (qa E) rfl ?_
  refine ae.val rfl (ai rfl jC qF rfl) rfl ?_
  refine ae.val rfl (av H18 (i:=2) rfl rfl (aA uP rfl)) rfl ?_
  refine ae.val rfl (jv H18 (i:=0) rfl rfl yL) rfl ?_
  refine ae.val rfl (ah rfl) rfl ?_
  refine ae.nil ?_
  refine ax.block ?_
  refine nz.start (B:=aF) (α:=(List aK) × Int) (fun k a=>fC (fZ n) a1 z8 z11 k a.1 a.2=some r) (fun a=>[(1,(.ptr b2 0 0)),(2,(.ptr b5 0 0)),(14,v12),(15,(.d (.int .i64 ((z11).length:Int)))),(16,(.d (.int .i64 a.2)))]) (fun a=>[.row 6 v12 ((a.1).map aG),.box b5 [(.d (.int .i64 0)),(.d (.int .i64 0)),(.d (.str [])),(.d (.str [])),(.d .aO),(.d .aO)],.box b2 [(.d (.int .i64 a1.Kind)),(.d (.int .i64 a1.N)),(.d (.str a1.Tag)),(.d (.str a1.Text)),(.d (.sl ((z8).map aR) false)),v12]]) ?_ ?_ n ⟨⟨z11,0⟩,_,_,S17,.refl _ _,.refl _,(aa.r rfl (aa.r rfl (aa.r rfl (aa.r rfl (aa.r rfl aa.nil))))),H18.sl [0,1,2] rfl rfl,h⟩
  ·
   intro a h; simp [fC] at h
  intro k29 a S25 H26 h
  obtain ⟨x27,x28⟩:=a
  replace h:fC (fZ n) a1 z8 z11 (k29 + 1) x27 x28=some r:=h
  replace H26:Has aF S25 [.row 6 v12 ((x27).map aG),.box b5 [(.d (.int .i64 0)),(.d (.int .i64 0)),(.d (.str [])),(.d (.str [])),(.d .aO),(.d .aO)],.box b2 [(.d (.int .i64 a1.Kind)),(.d (.int .i64 a1.N)),(.d (.str a1.Tag)),(.d (.str a1.Text)),(.d (.sl ((z8).map aR) false)),v12]]:=H26
  unfold fC at h
  refine ax.seq ?_
  refine ax.region (qa E) rfl ?_
  refine ae.val rfl (ay rfl rfl bG) rfl ?_
  refine ae.nil ?_
  refine ax.seq ?_
  refine ax.cond rfl (fun hb30=>?_) (fun hb30=>?_)
  ·
   replace h:=cB hb30 h
   refine ax.skip ?_
   refine ax.seq ?_
   refine ax.block ?_
   refine ax.seq ?_
   refine ax.region (qa E) rfl ?_
   refine ae.val rfl (ah rfl) rfl ?_
   obtain ⟨z31,hzz31,h⟩:=bind_some h
   refine ae.iM (enc:=aG) H26 rfl (i:=0) rfl rfl rfl hzz31 nL nA ((aK.len _).trans eU.symm) rfl ?_
   refine ae.lC H26 rfl (i:=0) rfl hzz31 rfl (aK.gT jE eU) rfl ?_
   refine ae.alloc H26 rfl Ku lJ rfl rfl (fun b32 S33 H34=>?_)
   refine ae.val rfl (aj rfl) rfl ?_
   refine ae.store H34 (i:=0) rfl rfl rfl rfl (aK.bf _) rfl eU rfl nA rfl rfl rfl (fun S35 H36=>?_)
   refine ae.nil ?_
   obtain ⟨z37,hzz37,h⟩:=bind_some h
   obtain ⟨z38,hzz38,h⟩:=bind_some h
   refine ax.AP (qa E) pM Pv [(1,none),(2,none),(14,none),(15,none),(16,none)] (by kernel_rfl) 1 [6] (by decide) [some (.ptr b2 0 5),some v12,some (.d (.int .i64 x28)),some (.d (aG z31)),some (.d (aG z37)),some (iF v12 (Int.toNat x28) 0),none] ?_
   refine ⟨[6],[0,1,2,3,4,5],⟨by decide,by decide⟩,by kernel_rfl,?_,?_⟩
   ·
    refine .v rfl rfl rfl rfl (ai rfl jC qF rfl) ?_
    refine .v rfl rfl rfl rfl (av H36 (i:=3) rfl rfl (aA uP rfl)) ?_
    refine .v rfl rfl rfl rfl (ah rfl) ?_
    refine .cons rfl rfl rfl (.step ?_) ?_
    ·
     refine ae.val rfl (av H36 (i:=0) rfl rfl (aZ jE eU rfl)) rfl ?_
     refine ae.less (Less.agg' (d:=aG z31) (au.eq rfl (au.eq rfl (au.eq rfl (au.eq rfl (au.eq rfl (au.eq rfl .nil)))))) ((aK.eq _).trans rfl)) ?_
     exact ae.nil ⟨_,_,rfl,fun _ ht=>by cases ht; exact ⟨rfl,.refl _⟩⟩
    refine .cons rfl rfl rfl (.step ?_) ?_
    ·
     refine ae.ret rfl (aC rfl rfl) (ih _ _ hzz37 _ _ (aD.eq .nil)) rfl ?_
     exact ae.nil ⟨_,_,rfl,fun _ ht=>by cases ht; exact ⟨rfl,.refl _⟩⟩
    refine .cons rfl rfl rfl (.step ?_) ?_
    ·
     refine ae.iM (enc:=aG) H36 rfl (i:=1) rfl rfl rfl hzz38 nL nA ((aK.len _).trans eU.symm) rfl ?_
     exact ae.nil ⟨_,_,rfl,fun _ ht=>by cases ht; exact ⟨rfl,.refl _⟩⟩
    exact .nil
   intro i hw41
   simp only [List.mem_cons,List.not_mem_nil,or_false] at hw41
   rcases hw41 with rfl
   refine ⟨_,_,rfl,rfl,.step ?_⟩
   refine ae.gV (enc:=aG) (z':=z37) (cv:=[(.int .i64 z37.Kind),(.int .i64 z37.N),(.str z37.Tag),(.str z37.Text),(.sl ((z37.bR).map aR) false),(.sl ((z37.Kids).map aG) false)]) H36 rfl (i:=1) rfl hzz38 rfl rfl (aK.bf _) (.refl _) eU rfl nA (by rw [aK.len]; rfl) (by rw [aK.cells,aK.cells]; rfl) (aK.flat _) (fun S42 H43=>?_)
   refine ae.nil ⟨_,.any,_,rfl,(fun _ ht=>by cases ht),_,(.q (.o (.o (.w .any .nil)))),(fun _ ht=>by cases ht),?_⟩
   refine ⟨rfl,[],by kernel_rfl,?_,_,rfl,?_⟩
   ·
    exact .nil
   refine ax.region (qa E) rfl ?_
   refine ae.val rfl (ay rfl rfl bI) rfl ?_
   refine ae.val rfl (ah rfl) rfl ?_
   refine ae.nil ?_
   exact ⟨⟨(je x27 x28 z37),(IntKind.wrap .i64 (x28 + 1))⟩,_,_,S42,.refl _ _,.refl _,(aa.r rfl (aa.r rfl (aa.r rfl (aa.r rfl (aa.r rfl aa.nil))))),H43.sl [1,2,3] rfl rfl,h⟩
  replace h:=cK hb30 h
  refine ax.exit ?_
  refine ax.seq ?_
  refine ax.region (qa E) rfl ?_
  refine ae.val rfl (av H26 (i:=2) rfl rfl (aZ jE eU rfl)) rfl ?_
  refine ae.store H26 (i:=1) rfl rfl rfl rfl (iT _) rfl eU (iP _) nA rfl rfl rfl (fun S44 H45=>?_)
  refine ae.nil ?_
  obtain ⟨SF1,HF1,hgF1⟩:=H45.freeze (qa E).toObjOk (i:=0) (l':=[.box b5 [(.d (.int .i64 a1.Kind)),(.d (.int .i64 a1.N)),(.d (.str a1.Tag)),(.d (.str a1.Text)),(.d (.sl ((z8).map aR) false)),(.d (.sl ((x27).map aG) false))],.box b2 [(.d (.int .i64 a1.Kind)),(.d (.int .i64 a1.N)),(.d (.str a1.Tag)),(.d (.str a1.Text)),(.d (.sl ((z8).map aR) false)),(.d (.sl ((x27).map aG) false))]]) rfl (.box (.cons (.same _) (.cons (.same _) (.cons (.same _) (.cons (.same _) (.cons (.same _) (.cons .it .nil)))))) (.box (.cons (.same _) (.cons (.same _) (.cons (.same _) (.cons (.same _) (.cons (.same _) (.cons .it .nil)))))) .nil))
  refine ax.ghost (hgF1 _ _ [(1,(.ptr b2 0 0)),(2,(.ptr b5 0 0)),(14,(.d (.sl ((x27).map aG) false))),(15,(.d (.int .i64 ((z11).length:Int)))),(16,(.d (.int .i64 x28))),(17,(.d (.bool (decide (x28 < ((z11).length:Int))))))] (.cons rfl (.refl _) (.cons rfl (.refl _) (.it rfl (.cons rfl (.refl _) (.cons rfl (.refl _) (.cons rfl (.refl _) .nil))))))) ?_
  have hr:=Option.some.inj h
  subst hr
  exact ax.ret ⟨_,gZ HF1 (i:=0) rfl rfl rfl (aZ jE eU rfl),rfl,dY (aD.qd (d:=aG (aK.mk a1.Kind a1.N a1.Tag a1.Text z8 x27)) (au.eq rfl (au.eq rfl (au.eq rfl (au.eq rfl (au.eq rfl (au.eq rfl .nil)))))) ((aK.eq _).trans rfl))⟩
theorem qG (n:Nat) (a1:(List Int)) (r:(List Int)) (h:jg n a1=some r):bN R cfg.P 25 [(.sl ((a1).map (D.int .i64)) false)] (.d (.sl ((r).map (D.int .i64)) false)):=by
 unfold jg at h
 refine bN.of_wp E.obj.toObjOk (C:=cfg) Tryd.func25 rfl O7 rfl ?_
 have H0:Has aF aF []:=Has.pure
 refine ax.seq ?_
 refine ax.region E.obj rfl ?_
 refine ae.val rfl (aj rfl) rfl ?_
 refine ae.nil ?_
 refine ax.seq ?_
 refine ax.seq ?_
 refine ax.region E.obj rfl ?_
 refine ae.val rfl (ah rfl) rfl ?_
 refine ae.Ao rfl rfl rfl Np rfl (fun bb hbb=>?_)
 refine ae.nil ?_
 refine ax.cond rfl (fun hb=>?_) (fun hb=>?_)
 ·
  have e:=map_nil (hbb hb)
  subst e
  have hr:=(mW h).2
  subst hr
  refine ax.seq ?_
  refine ax.region E.obj rfl ?_
  refine ae.val rfl (aj rfl) rfl ?_
  refine ae.nil ?_
  exact ax.ret ⟨_,rfl,rfl,dY (aD.gJ rfl (.aO false) .nil)⟩
 ·
  refine ax.skip ?_
  refine ax.seq ?_
  refine ax.region E.obj rfl ?_
  refine ae.val rfl (lQ Fs kV jl) rfl ?_
  refine ae.val rfl (ah rfl) rfl ?_
  have H1:=H0.vU (([]:(List Int)).map (D.int .i64))
  refine ae.append (xs:=([]:(List Int)).map (D.int .i64)) (ys:=(a1).map (D.int .i64)) (zs:=(r).map (D.int .i64)) H1 rfl rfl rfl (i:=0) rfl rfl Fs LP kV (fI (enc:=(D.int .i64)) h) Nw rfl (bS (enc:=(D.int .i64)) (fun _=>pI.symm) _) (bS (enc:=(D.int .i64)) (fun _=>pI.symm) _) PL rfl (jK h) (fun v2 S2 H2=>?_)
  refine ae.val rfl (aj rfl) rfl ?_
  refine ae.nil ?_
  exact ax.ret ⟨_,rfl,rfl,dY (aD.grow H2 (i:=0) rfl .nil)⟩
theorem ny (n:Nat) (a1:(List On)) (r:(List On)) (h:gP n a1=some r):bN R cfg.P 26 [(.sl ((a1).map eu) false)] (.d (.sl ((r).map eu) false)):=by
 unfold gP at h
 refine bN.of_wp E.obj.toObjOk (C:=cfg) Tryd.func26 rfl Oi rfl ?_
 have H0:Has aF aF []:=Has.pure
 refine ax.seq ?_
 refine ax.region E.obj rfl ?_
 refine ae.val rfl (aj rfl) rfl ?_
 refine ae.nil ?_
 refine ax.seq ?_
 refine ax.seq ?_
 refine ax.region E.obj rfl ?_
 refine ae.val rfl (ah rfl) rfl ?_
 refine ae.Ao rfl rfl rfl M5 rfl (fun bb hbb=>?_)
 refine ae.nil ?_
 refine ax.cond rfl (fun hb=>?_) (fun hb=>?_)
 ·
  have e:=map_nil (hbb hb)
  subst e
  have hr:=(mW h).2
  subst hr
  refine ax.seq ?_
  refine ax.region E.obj rfl ?_
  refine ae.val rfl (aj rfl) rfl ?_
  refine ae.nil ?_
  exact ax.ret ⟨_,rfl,rfl,dY (aD.gJ rfl (.aO false) .nil)⟩
 ·
  refine ax.skip ?_
  refine ax.seq ?_
  refine ax.region E.obj rfl ?_
  refine ae.val rfl (lQ K4 D9 Hz) rfl ?_
  refine ae.val rfl (ah rfl) rfl ?_
  have H1:=H0.vU (([]:(List On)).map eu)
  refine ae.append (xs:=([]:(List On)).map eu) (ys:=(a1).map eu) (zs:=(r).map eu) H1 rfl rfl rfl (i:=0) rfl rfl K4 Nv D9 (fI (enc:=eu) h) NV rfl (bS (enc:=eu) (fun z=>(On.len z).trans xU.symm) _) (bS (enc:=eu) (fun z=>(On.len z).trans xU.symm) _) M3 rfl (jK h) (fun v2 S2 H2=>?_)
  refine ae.val rfl (aj rfl) rfl ?_
  refine ae.nil ?_
  exact ax.ret ⟨_,rfl,rfl,dY (aD.grow H2 (i:=0) rfl .nil)⟩
set_option maxRecDepth 20000 in
set_option maxHeartbeats 4000000 in
theorem zI (n:Nat) (a1:dK) (r:dK) (h:ql n a1=some r):mK R cfg.P 8 [(iW a1)] (fun v l=>∃ w0 w1,v=Ev.iY [w0,w1,.d (.int .i64 r.Cache)]∧l=[.row 8 w0 ((r.Records).map aB),.row 8 w1 ((r.Comps).map aI)]):=by
 unfold ql at h
 refine mK.of_wp (C:=oL) Tryd.func8 rfl QE rfl (fun S0 wf0=>?_)
 have H0:Has S0 S0 []:=Has.start wf0
 refine ax.seq ?_
 refine ax.region (dA E) rfl ?_
 refine ae.box H0 rfl rfl rfl (dK.bf _) rfl (fun b2 S3 H4=>?_)
 refine ae.alloc H4 rfl vC wC rfl rfl (fun b5 S6 H7=>?_)
 refine ae.nil ?_
 refine ax.seq ?_
 refine ax.region (dA E) rfl ?_
 refine ae.val rfl (ai rfl iZ oO rfl) rfl ?_
 refine ae.val rfl (av H7 (i:=1) rfl rfl (aA pK rfl)) rfl ?_
 obtain ⟨z8,hzz8,h⟩:=bind_some h
 refine ae.Bg H7 rfl (aC rfl rfl) (kP E n _ _ hzz8) (aD.eq .nil) rfl ?_
 rintro v9 S10 _ rfl H11
 refine ae.val rfl (ai rfl iZ oO rfl) rfl ?_
 refine ae.store H11 (i:=2) rfl rfl rfl rfl (nX (H11.at (i:=0) rfl)).2 rfl P8 (nX (H11.at (i:=0) rfl)).1 Ou rfl rfl rfl (fun S14 H15=>?_)
 refine ae.nil ?_
 refine ax.seq ?_
 refine ax.seq ?_
 refine ax.region (dA E) rfl ?_
 refine ae.val rfl (ai rfl iZ oO rfl) rfl ?_
 refine ae.val rfl (av H15 (i:=2) rfl rfl (aA pK rfl)) rfl ?_
 refine ae.val rfl (jv H15 (i:=0) rfl rfl sD) rfl ?_
 refine ae.val rfl (ah rfl) rfl ?_
 refine ae.nil ?_
 refine ax.block ?_
 refine nz.start (B:=S0) (α:=(List ak) × Int) (fun k a=>ib n a1 z8 k a.1 a.2=some r) (fun a=>[(1,(.ptr b2 0 0)),(2,(.ptr b5 0 0)),(12,v9),(13,(.d (.int .i64 ((z8).length:Int)))),(14,(.d (.int .i64 a.2)))]) (fun a=>[.row 8 v9 ((a.1).map aB),.box b5 [(.d .aO),(.d .aO),(.d (.int .i64 0))],.box b2 [v9,(.d (.sl ((a1.Comps).map aI) false)),(.d (.int .i64 a1.Cache))]]) ?_ ?_ n ⟨⟨z8,0⟩,_,_,S14,.refl _ _,.refl _,(aa.r rfl (aa.r rfl (aa.r rfl (aa.r rfl (aa.r rfl aa.nil))))),H15.sl [0,1,2] rfl rfl,h⟩
 ·
  intro a h; simp [ib] at h
 intro k26 a S22 H23 h
 obtain ⟨x24,x25⟩:=a
 replace h:ib n a1 z8 (k26 + 1) x24 x25=some r:=h
 replace H23:Has S0 S22 [.row 8 v9 ((x24).map aB),.box b5 [(.d .aO),(.d .aO),(.d (.int .i64 0))],.box b2 [v9,(.d (.sl ((a1.Comps).map aI) false)),(.d (.int .i64 a1.Cache))]]:=H23
 unfold ib at h
 refine ax.seq ?_
 refine ax.region (dA E) rfl ?_
 refine ae.val rfl (ay rfl rfl bG) rfl ?_
 refine ae.nil ?_
 refine ax.seq ?_
 refine ax.cond rfl (fun hb27=>?_) (fun hb27=>?_)
 ·
  replace h:=cB hb27 h
  refine ax.skip ?_
  refine ax.seq ?_
  refine ax.block ?_
  refine ax.seq ?_
  refine ax.region (dA E) rfl ?_
  refine ae.val rfl (ah rfl) rfl ?_
  obtain ⟨z28,hzz28,h⟩:=bind_some h
  refine ae.iM (enc:=aB) H23 rfl (i:=0) rfl rfl rfl hzz28 oK lY ((ak.len _).trans jm.symm) rfl ?_
  refine ae.lC H23 rfl (i:=0) rfl hzz28 rfl (ak.gT yQ jm) rfl ?_
  refine ae.alloc H23 rfl JY tu rfl rfl (fun b29 S30 H31=>?_)
  refine ae.val rfl (aj rfl) rfl ?_
  refine ae.store H31 (i:=0) rfl rfl rfl rfl (ak.bf _) rfl jm rfl lY rfl rfl rfl (fun S32 H33=>?_)
  refine ae.nil ?_
  obtain ⟨z34,hzz34,h⟩:=bind_some h
  obtain ⟨z35,hzz35,h⟩:=bind_some h
  refine ax.AP (dA E) pM Pt [(1,none),(2,none),(12,none),(13,none),(14,none)] (by kernel_rfl) 1 [8] (by decide) [some (.ptr b2 0 0),some v9,some (.d (.int .i64 x25)),some (.ptr b29 0 2),some (.d (.sl ((z28.dX).map bB) false)),some (.d (.sl ((z34).map bB) false)),some (iF v9 (Int.toNat x25) 0),some (iF v9 (Int.toNat x25) 2),none] ?_
  refine ⟨[8],[0,1,2,3,4,5,6,7],⟨by decide,by decide⟩,by kernel_rfl,?_,?_⟩
  ·
   refine .v rfl rfl rfl rfl (ai rfl iZ oO rfl) ?_
   refine .v rfl rfl rfl rfl (av H33 (i:=3) rfl rfl (aA pK rfl)) ?_
   refine .v rfl rfl rfl rfl (ah rfl) ?_
   refine .v rfl rfl rfl rfl (ai rfl xk Ia rfl) ?_
   refine .v rfl rfl rfl rfl (av H33 (i:=0) rfl rfl (aA Jt rfl)) ?_
   refine .cons rfl rfl rfl (.step ?_) ?_
   ·
    refine ae.ret rfl (aC rfl rfl) (mJ E _ _ _ hzz34 _ _ (aD.eq .nil)) rfl ?_
    exact ae.nil ⟨_,_,rfl,fun _ ht=>by cases ht; exact ⟨rfl,.refl _⟩⟩
   refine .cons rfl rfl rfl (.step ?_) ?_
   ·
    refine ae.iM (enc:=aB) H33 rfl (i:=1) rfl rfl rfl hzz35 oK lY ((ak.len _).trans jm.symm) rfl ?_
    exact ae.nil ⟨_,_,rfl,fun _ ht=>by cases ht; exact ⟨rfl,.refl _⟩⟩
   refine .cons rfl rfl rfl (.step ?_) ?_
   ·
    refine ae.gu H33 (i:=1) rfl hzz35 rfl rfl xk Ia rfl rfl ?_
    exact ae.nil ⟨_,_,rfl,fun _ ht=>by cases ht; exact ⟨rfl,.refl _⟩⟩
   exact .nil
  intro i hw38
  simp only [List.mem_cons,List.not_mem_nil,or_false] at hw38
  rcases hw38 with rfl
  refine ⟨_,_,rfl,rfl,.step ?_⟩
  refine ae.gV (enc:=aB) (z':=(ak.mk z35.Name z35.Parent z34 z35.aJ z35.fT z35.aH)) (cv:=[(.sl ((z34).map bB) false)]) H33 rfl (i:=1) rfl hzz35 rfl rfl rfl (.cons (.refl _) .nil) Qf rfl Qb (by rw [ak.len]; rfl) (by rw [ak.cells,ak.cells]; rfl) (ak.flat _) (fun S39 H40=>?_)
  refine ae.nil ⟨_,.any,_,rfl,(fun _ ht=>by cases ht),_,(.q (.q (.w .any .nil))),(fun _ ht=>by cases ht),?_⟩
  refine ⟨rfl,[],by kernel_rfl,?_,_,rfl,?_⟩
  ·
   exact .nil
  refine ax.region (dA E) rfl ?_
  refine ae.val rfl (ay rfl rfl bI) rfl ?_
  refine ae.val rfl (ah rfl) rfl ?_
  refine ae.nil ?_
  exact ⟨⟨(je x24 x25 (ak.mk z35.Name z35.Parent z34 z35.aJ z35.fT z35.aH)),(IntKind.wrap .i64 (x25 + 1))⟩,_,_,S39,.refl _ _,.refl _,(aa.r rfl (aa.r rfl (aa.r rfl (aa.r rfl (aa.r rfl aa.nil))))),H40.sl [1,2,3] rfl rfl,h⟩
 replace h:=cK hb27 h
 refine ax.exit ?_
 refine ax.seq ?_
 refine ax.region (dA E) rfl ?_
 refine ae.val rfl (ai rfl iG nD rfl) rfl ?_
 refine ae.val rfl (av H23 (i:=2) rfl rfl (aA pF rfl)) rfl ?_
 obtain ⟨z41,hzz41,h⟩:=bind_some h
 refine ae.Bg H23 rfl (aC rfl rfl) (lW E n _ _ hzz41) (aD.eq .nil) rfl ?_
 rintro v42 S43 _ rfl H44
 refine ae.val rfl (ai rfl iG nD rfl) rfl ?_
 refine ae.store H44 (i:=3) rfl rfl rfl rfl (nX (H44.at (i:=0) rfl)).2 rfl K5 (nX (H44.at (i:=0) rfl)).1 K9 rfl rfl rfl (fun S47 H48=>?_)
 refine ae.nil ?_
 refine ax.seq ?_
 refine ax.seq ?_
 refine ax.region (dA E) rfl ?_
 refine ae.val rfl (ai rfl iG nD rfl) rfl ?_
 refine ae.val rfl (av H48 (i:=3) rfl rfl (aA pF rfl)) rfl ?_
 refine ae.val rfl (jv H48 (i:=0) rfl rfl yJ) rfl ?_
 refine ae.val rfl (ah rfl) rfl ?_
 refine ae.nil ?_
 refine ax.block ?_
 refine nz.start (B:=S0) (α:=(List aJ) × Int) (fun k a=>ic n a1 x24 z41 k a.1 a.2=some r) (fun a=>[(1,(.ptr b2 0 0)),(2,(.ptr b5 0 0)),(33,v42),(34,(.d (.int .i64 ((z41).length:Int)))),(35,(.d (.int .i64 a.2)))]) (fun a=>[.row 8 v42 ((a.1).map aI),.row 8 v9 ((x24).map aB),.box b5 [(.d .aO),(.d .aO),(.d (.int .i64 0))],.box b2 [v9,v42,(.d (.int .i64 a1.Cache))]]) ?_ ?_ n ⟨⟨z41,0⟩,_,_,S47,.refl _ _,.refl _,(aa.r rfl (aa.r rfl (aa.r rfl (aa.r rfl (aa.r rfl aa.nil))))),H48.sl [0,1,2,3] rfl rfl,h⟩
 ·
  intro a h; simp [ic] at h
 intro k59 a S55 H56 h
 obtain ⟨x57,x58⟩:=a
 replace h:ic n a1 x24 z41 (k59 + 1) x57 x58=some r:=h
 replace H56:Has S0 S55 [.row 8 v42 ((x57).map aI),.row 8 v9 ((x24).map aB),.box b5 [(.d .aO),(.d .aO),(.d (.int .i64 0))],.box b2 [v9,v42,(.d (.int .i64 a1.Cache))]]:=H56
 unfold ic at h
 refine ax.seq ?_
 refine ax.region (dA E) rfl ?_
 refine ae.val rfl (ay rfl rfl bG) rfl ?_
 refine ae.nil ?_
 refine ax.seq ?_
 refine ax.cond rfl (fun hb60=>?_) (fun hb60=>?_)
 ·
  replace h:=cB hb60 h
  refine ax.skip ?_
  refine ax.seq ?_
  refine ax.block ?_
  refine ax.seq ?_
  refine ax.region (dA E) rfl ?_
  refine ae.val rfl (ah rfl) rfl ?_
  obtain ⟨z61,hzz61,h⟩:=bind_some h
  refine ae.iM (enc:=aI) H56 rfl (i:=0) rfl rfl rfl hzz61 tJ qx ((aJ.len _).trans jS.symm) rfl ?_
  refine ae.lC H56 rfl (i:=0) rfl hzz61 rfl (aJ.gT wI jS) rfl ?_
  refine ae.alloc H56 rfl FO tH rfl rfl (fun b62 S63 H64=>?_)
  refine ae.val rfl (aj rfl) rfl ?_
  refine ae.store H64 (i:=0) rfl rfl rfl rfl (aJ.bf _) rfl jS rfl qx rfl rfl rfl (fun S65 H66=>?_)
  refine ae.nil ?_
  obtain ⟨z67,hzz67,h⟩:=bind_some h
  obtain ⟨z68,hzz68,h⟩:=bind_some h
  obtain ⟨z69,hzz69,h⟩:=bind_some h
  obtain ⟨z70,hzz70,h⟩:=bind_some h
  refine ax.AP (dA E) pM Om [(1,none),(2,none),(33,none),(34,none),(35,none)] (by kernel_rfl) 1 [14] (by decide) [some (.ptr b2 0 1),some v42,some (.d (.int .i64 x58)),some (.ptr b62 0 0),some (.d (aG z61.aK)),some (.d (aG z67)),some (.ptr b62 0 6),some (.d (.sl ((z61.Init).map (D.int .i64)) false)),some (.d (.sl ((z68).map (D.int .i64)) false)),some (.ptr b62 0 7),some (.d (.sl ((z61.On).map eu) false)),some (.d (.sl ((z69).map eu) false)),some (.d (aI (aJ.mk z67 z68 z69))),some (iF v42 (Int.toNat x58) 0),none] ?_
  refine ⟨[14],[0,1,2,3,4,5,6,7,8,9,10,11,12,13],⟨by decide,by decide⟩,by kernel_rfl,?_,?_⟩
  ·
   refine .v rfl rfl rfl rfl (ai rfl iG nD rfl) ?_
   refine .v rfl rfl rfl rfl (av H66 (i:=4) rfl rfl (aA pF rfl)) ?_
   refine .v rfl rfl rfl rfl (ah rfl) ?_
   refine .v rfl rfl rfl rfl (ai rfl vM F7 rfl) ?_
   refine .cons rfl rfl rfl (.step ?_) ?_
   ·
    refine ae.val rfl (av H66 (i:=0) rfl rfl (aZ jE eU rfl)) rfl ?_
    refine ae.less (Less.agg' (d:=aG z61.aK) (au.eq rfl (au.eq rfl (au.eq rfl (au.eq rfl (au.eq rfl (au.eq rfl .nil)))))) ((aK.eq _).trans rfl)) ?_
    exact ae.nil ⟨_,_,rfl,fun _ ht=>by cases ht; exact ⟨rfl,.refl _⟩⟩
   refine .cons rfl rfl rfl (.step ?_) ?_
   ·
    refine ae.ret rfl (aC rfl rfl) (qZ E _ _ _ hzz67 _ _ (aD.eq .nil)) rfl ?_
    exact ae.nil ⟨_,_,rfl,fun _ ht=>by cases ht; exact ⟨rfl,.refl _⟩⟩
   refine .v rfl rfl rfl rfl (ai rfl rF lV rfl) ?_
   refine .v rfl rfl rfl rfl (av H66 (i:=0) rfl rfl (aA mr rfl)) ?_
   refine .cons rfl rfl rfl (.step ?_) ?_
   ·
    refine ae.ret rfl (aC rfl rfl) (qG E _ _ _ hzz68 _ _ (aD.eq .nil)) rfl ?_
    exact ae.nil ⟨_,_,rfl,fun _ ht=>by cases ht; exact ⟨rfl,.refl _⟩⟩
   refine .v rfl rfl rfl rfl (ai rfl vS Gp rfl) ?_
   refine .v rfl rfl rfl rfl (av H66 (i:=0) rfl rfl (aA IU rfl)) ?_
   refine .cons rfl rfl rfl (.step ?_) ?_
   ·
    refine ae.ret rfl (aC rfl rfl) (ny E _ _ _ hzz69 _ _ (aD.eq .nil)) rfl ?_
    exact ae.nil ⟨_,_,rfl,fun _ ht=>by cases ht; exact ⟨rfl,.refl _⟩⟩
   refine .cons rfl rfl rfl (.step ?_) ?_
   ·
    refine ae.val rfl (bH (cs:=[(.d (.int .i64 z67.Kind)),(.d (.int .i64 z67.N)),(.d (.str z67.Tag)),(.d (.str z67.Text)),(.d (.sl ((z67.bR).map aR) false)),(.d (.sl ((z67.Kids).map aG) false)),(.d (.sl ((z68).map (D.int .i64)) false)),(.d (.sl ((z69).map eu) false))]) tH rfl (nO) (cO rfl (kF (aK.bf _)) rfl rfl (cO rfl rfl rfl rfl (cO rfl rfl rfl rfl rfl)))) rfl ?_
    refine ae.less (Less.agg' (d:=aI (aJ.mk z67 z68 z69)) (au.eq rfl (au.eq rfl (au.eq rfl (au.eq rfl (au.eq rfl (au.eq rfl (au.eq rfl (au.eq rfl .nil)))))))) ((aJ.eq _).trans rfl)) ?_
    exact ae.nil ⟨_,_,rfl,fun _ ht=>by cases ht; exact ⟨rfl,.refl _⟩⟩
   refine .cons rfl rfl rfl (.step ?_) ?_
   ·
    refine ae.iM (enc:=aI) H66 rfl (i:=1) rfl rfl rfl hzz70 tJ qx ((aJ.len _).trans jS.symm) rfl ?_
    exact ae.nil ⟨_,_,rfl,fun _ ht=>by cases ht; exact ⟨rfl,.refl _⟩⟩
   exact .nil
  intro i hw73
  simp only [List.mem_cons,List.not_mem_nil,or_false] at hw73
  rcases hw73 with rfl
  refine ⟨_,_,rfl,rfl,.step ?_⟩
  refine ae.gV (enc:=aI) (z':=(aJ.mk z67 z68 z69)) (cv:=[(.int .i64 (aJ.mk z67 z68 z69).aK.Kind),(.int .i64 (aJ.mk z67 z68 z69).aK.N),(.str (aJ.mk z67 z68 z69).aK.Tag),(.str (aJ.mk z67 z68 z69).aK.Text),(.sl (((aJ.mk z67 z68 z69).aK.bR).map aR) false),(.sl (((aJ.mk z67 z68 z69).aK.Kids).map aG) false),(.sl (((aJ.mk z67 z68 z69).Init).map (D.int .i64)) false),(.sl (((aJ.mk z67 z68 z69).On).map eu) false)]) H66 rfl (i:=1) rfl hzz70 rfl rfl (aJ.bf _) (.refl _) jS rfl qx (by rw [aJ.len]; rfl) (by rw [aJ.cells,aJ.cells]; rfl) (aJ.flat _) (fun S74 H75=>?_)
  refine ae.nil ⟨_,.any,_,rfl,(fun _ ht=>by cases ht),_,(.q (.q (.q (.o (.o (.w .any .nil)))))),(fun _ ht=>by cases ht),?_⟩
  refine ⟨rfl,[],by kernel_rfl,?_,_,rfl,?_⟩
  ·
   exact .nil
  refine ax.region (dA E) rfl ?_
  refine ae.val rfl (ay rfl rfl bI) rfl ?_
  refine ae.val rfl (ah rfl) rfl ?_
  refine ae.nil ?_
  exact ⟨⟨(je x57 x58 (aJ.mk z67 z68 z69)),(IntKind.wrap .i64 (x58 + 1))⟩,_,_,S74,.refl _ _,.refl _,(aa.r rfl (aa.r rfl (aa.r rfl (aa.r rfl (aa.r rfl aa.nil))))),H75.sl [1,2,3,4] rfl rfl,h⟩
 replace h:=cK hb60 h
 refine ax.exit ?_
 refine ax.seq ?_
 refine ax.region (dA E) rfl ?_
 refine ae.val rfl (av H56 (i:=3) rfl rfl (aZ tF nG rfl)) rfl ?_
 refine ae.store H56 (i:=2) rfl rfl rfl rfl (iT _) rfl nG (iP _) Bj rfl rfl rfl (fun S76 H77=>?_)
 refine ae.nil ?_
 have hr:=Option.some.inj h
 subst hr
 exact ax.ret ⟨_,gZ H77 (i:=2) rfl rfl rfl (aZ tF nG rfl),rfl,_,_,.refl _,⟨v9,v42,rfl,rfl⟩,H77.sl [1,0] rfl rfl⟩
set_option maxRecDepth 20000 in
set_option maxHeartbeats 4000000 in
theorem pU (n:Nat) (a1:(List Seg)) (a2:(List Seg)) (r:Bool) (h:gL n a1 a2=some r):bN R cfg.P 27 [(.sl ((a1).map bB) false),(.sl ((a2).map bB) false)] (.d (.bool r)):=by
 unfold gL at h
 refine bN.of_wp E.obj.toObjOk (C:=cfg) Tryd.func27 rfl Ol rfl ?_
 have H0:Has aF aF []:=Has.pure
 refine ax.seq ?_
 refine ax.region E.obj rfl ?_
 refine ae.val rfl (aj rfl) rfl ?_
 refine ae.nil ?_
 refine ax.seq ?_
 refine ax.seq ?_
 refine ax.region E.obj rfl ?_
 refine ae.val rfl (ah rfl) rfl ?_
 refine ae.val rfl (aS rfl Dv) rfl ?_
 refine ae.val rfl (ah rfl) rfl ?_
 refine ae.val rfl (aS rfl Dv) rfl ?_
 refine ae.val rfl (ay rfl rfl fH) rfl ?_
 refine ae.nil ?_
 refine ax.cond rfl (fun hb3=>?_) (fun hb3=>?_)
 ·
  replace h:=cB hb3 h
  refine ax.seq ?_
  refine ax.region E.obj rfl ?_
  refine ae.val rfl (aj rfl) rfl ?_
  refine ae.nil ?_
  have hr:=Option.some.inj h
  subst hr
  exact ax.ret ⟨_,rfl,rfl,dY (aD.eq .nil)⟩
 replace h:=cK hb3 h
 refine ax.skip ?_
 refine ax.seq ?_
 refine ax.seq ?_
 refine ax.region E.obj rfl ?_
 refine ae.val rfl (aj rfl) rfl ?_
 refine ae.nil ?_
 refine ax.block ?_
 refine nz.start (B:=aF) (α:=Int) (fun k a=>cu a1 a2 k a=some r) (fun a=>[(0,(.d (.sl ((a1).map bB) false))),(1,(.d (.sl ((a2).map bB) false))),(5,(.d (.int .i64 a)))]) (fun a=>[]) ?_ ?_ n ⟨0,_,_,aF,.refl _ _,.refl _,(aa.r rfl (aa.r rfl (aa.r rfl aa.nil))),H0.sl [] rfl rfl,h⟩
 ·
  intro a h; simp [cu] at h
 intro k12 x11 S9 H10 h
 replace h:cu a1 a2 (k12 + 1) x11=some r:=h
 replace H10:Has aF S9 []:=H10
 unfold cu at h
 refine ax.seq ?_
 refine ax.seq ?_
 refine ax.region E.obj rfl ?_
 refine ae.val rfl (ah rfl) rfl ?_
 refine ae.val rfl (ah rfl) rfl ?_
 refine ae.val rfl (aS rfl Dv) rfl ?_
 refine ae.val rfl (ay rfl rfl bG) rfl ?_
 refine ae.nil ?_
 refine ax.cond rfl (fun hb13=>?_) (fun hb13=>?_)
 ·
  replace h:=cB hb13 h
  refine ax.skip ?_
  refine ax.seq ?_
  refine ax.block ?_
  refine ax.seq ?_
  obtain ⟨z14,hzz14,h⟩:=bind_some h
  obtain ⟨z15,hzz15,h⟩:=bind_some h
  refine ax.qi E.obj pM KS [(0,none),(1,none),(5,none),(25,some 8)] (by kernel_rfl) [] (by decide) [some (.d (.sl ((a1).map bB) false)),some (.d (.int .i64 x11)),some (.eptr (bB z14) 0),some (.d (bB z14)),some (.d (.sl ((a2).map bB) false)),some (.d (.int .i64 x11)),some (.eptr (bB z15) 0),some (.d (bB z15)),some (.d (.bool (!(Seg.beq z14 z15))))] ?_
  refine ⟨[0,1,2,3,4,5,6,7,8],by kernel_rfl,?_,_,rfl,?_⟩
  ·
   refine .v rfl rfl rfl rfl (ah rfl) ?_
   refine .v rfl rfl rfl rfl (ah rfl) ?_
   refine .v rfl rfl rfl rfl (bE rfl rfl (bY (enc:=bB) hzz14 wV EZ ((Seg.len _).trans pO.symm))) ?_
   refine .v rfl rfl rfl rfl (aU rfl (Seg.gT yK pO)) ?_
   refine .v rfl rfl rfl rfl (ah rfl) ?_
   refine .v rfl rfl rfl rfl (ah rfl) ?_
   refine .v rfl rfl rfl rfl (bE rfl rfl (bY (enc:=bB) hzz15 wV EZ ((Seg.len _).trans pO.symm))) ?_
   refine .v rfl rfl rfl rfl (aU rfl (Seg.gT yK pO)) ?_
   refine .v rfl rfl rfl rfl (ay rfl rfl (sP (Seg.eq _) (Seg.eq _) (Nl _ _))) ?_
   exact .nil
  refine ax.cond rfl (fun hb16=>?_) (fun hb16=>?_)
  ·
   replace h:=cB hb16 h
   refine ax.seq ?_
   refine ax.region E.obj rfl ?_
   refine ae.val rfl (aj rfl) rfl ?_
   refine ae.nil ?_
   have hr:=Option.some.inj h
   subst hr
   exact ax.ret ⟨_,rfl,rfl,dY (aD.eq .nil)⟩
  replace h:=cK hb16 h
  refine ax.skip ?_
  refine ax.region E.obj rfl ?_
  refine ae.val rfl (ah rfl) rfl ?_
  refine ae.val rfl (ay rfl rfl bI) rfl ?_
  refine ae.val rfl (aj rfl) rfl ?_
  refine ae.nil ?_
  exact ⟨(IntKind.wrap .i64 (x11 + 1)),_,_,S9,.refl _ _,.refl _,(aa.r rfl (aa.r rfl (aa.r rfl aa.nil))),H10.sl [] rfl rfl,h⟩
 replace h:=cK hb13 h
 refine ax.exit ?_
 refine ax.seq ?_
 refine ax.region E.obj rfl ?_
 refine ae.val rfl (aj rfl) rfl ?_
 refine ae.nil ?_
 have hr:=Option.some.inj h
 subst hr
 exact ax.ret ⟨_,rfl,rfl,dY (aD.eq .nil)⟩
end
end Pr
end Go.Ev

import Derived.Test.YtdcagjnahedliaaDoorPartC
import Derived.IntWalk
namespace Go.Ev
namespace Pr
set_option linter.unusedVariables false
set_option linter.unusedSimpArgs false
open Go.Proofs
section
variable {R:cZ} (E:JK R)
include E
set_option maxRecDepth 20000 in
set_option maxHeartbeats 4000000 in
theorem qG (n:Nat) (a1:jS) (r:dO) (h:ik n a1=some r):bU R cfg.P 5 [(oD a1)] (.d (iN r)):=by
 unfold ik at h
 refine bU.of_wp (dI E).toObjOk (C:=iM) Tryd.func5 rfl Nc rfl ?_
 have H0:Has aI aI []:=Has.pure
 refine ax.seq ?_
 refine ax.region (dI E) rfl ?_
 refine ae.box H0 rfl rfl rfl (jS.bu _) rfl (fun b2 S3 H4=>?_)
 refine ae.alloc H4 rfl DT vL rfl rfl (fun b5 S6 H7=>?_)
 refine ae.nil ?_
 refine ax.join (B:=aI) (α:=Nat × (List au) × AV × Int) (fun a=>fZ n a1 a.2.1 a.2.2.2=some r) (fun a=>[(1,(.ptr b2 0 0)),(2,(.ptr b5 0 0)),(3,(.ptr a.1 0 0))]) (fun a=>[.box b5 [(.d .aQ),(.d .aQ),(.d (.int .i64 0))],.box b2 [(.d (.sl ((a1.Table.Parents).map (D.int .i64)) false)),(.d (.sl ((a1.Table.Kinds).map (D.int .i64)) false)),(.d (.sl ((a1.Table.Texts).map (D.int .i64)) false)),(.d (.sl ((a1.Table.Rules).map (D.int .i64)) false)),(.d (.sl ((a1.Table.Flags).map (D.int .i64)) false)),(.d (.sl ((a1.Table.fK).map (D.int .i64)) false)),(.d (.sl ((a1.Table.Comps).map (D.int .i64)) false)),(.d (.sl ((a1.Parts).map dV) false)),(.d (.int .i64 a1.Cache))],.row 8 a.2.2.1 ((a.2.1).map aB),.box a.1 [a.2.2.1,(.d .aQ),(.d (.int .i64 a.2.2.2))]]) ?_ ?_
 ·
  intro a S8 H9 h
  obtain ⟨b10,x11,v12,x13⟩:=a
  replace h:fZ n a1 x11 x13=some r:=h
  replace H9:Has aI S8 [.box b5 [(.d .aQ),(.d .aQ),(.d (.int .i64 0))],.box b2 [(.d (.sl ((a1.Table.Parents).map (D.int .i64)) false)),(.d (.sl ((a1.Table.Kinds).map (D.int .i64)) false)),(.d (.sl ((a1.Table.Texts).map (D.int .i64)) false)),(.d (.sl ((a1.Table.Rules).map (D.int .i64)) false)),(.d (.sl ((a1.Table.Flags).map (D.int .i64)) false)),(.d (.sl ((a1.Table.fK).map (D.int .i64)) false)),(.d (.sl ((a1.Table.Comps).map (D.int .i64)) false)),(.d (.sl ((a1.Parts).map dV) false)),(.d (.int .i64 a1.Cache))],.row 8 v12 ((x11).map aB),.box b10 [v12,(.d .aQ),(.d (.int .i64 x13))]]:=H9
  unfold fZ at h
  refine ax.seq ?_
  refine ax.seq ?_
  refine ax.region (dI E) rfl ?_
  refine ae.val rfl (ah rfl) rfl ?_
  refine ae.nil ?_
  refine ax.block ?_
  have H121:=H9.CY
  refine nR.start (B:=aI) (α:=(List aG) × AV × Int) (fun k a=>bE n a1 x11 x13 k a.1 a.2.2=some r) (fun a=>[(1,(.ptr b2 0 0)),(2,(.ptr b5 0 0)),(3,(.ptr b10 0 0)),(17,(.d (.int .i64 a.2.2)))]) (fun a=>[.box b5 [(.d .aQ),(.d .aQ),(.d (.int .i64 0))],.box b2 [(.d (.sl ((a1.Table.Parents).map (D.int .i64)) false)),(.d (.sl ((a1.Table.Kinds).map (D.int .i64)) false)),(.d (.sl ((a1.Table.Texts).map (D.int .i64)) false)),(.d (.sl ((a1.Table.Rules).map (D.int .i64)) false)),(.d (.sl ((a1.Table.Flags).map (D.int .i64)) false)),(.d (.sl ((a1.Table.fK).map (D.int .i64)) false)),(.d (.sl ((a1.Table.Comps).map (D.int .i64)) false)),(.d (.sl ((a1.Parts).map dV) false)),(.d (.int .i64 a1.Cache))],.row 8 v12 ((x11).map aB),.box b10 [v12,a.2.1,(.d (.int .i64 x13))],.grow a.2.1 ((a.1).map aM)]) ?_ ?_ n ⟨⟨[],(.d .aQ),0⟩,_,_,S8,.refl _ _,.refl _,(aa.r rfl (aa.r rfl (aa.r rfl (aa.r rfl aa.nil)))),H121.sl [1,2,3,4,0] rfl rfl,h⟩
  ·
   intro a h; simp [bE] at h
  intro k27 a S22 H23 h
  obtain ⟨x24,v25,x26⟩:=a
  replace h:bE n a1 x11 x13 (k27 + 1) x24 x26=some r:=h
  replace H23:Has aI S22 [.box b5 [(.d .aQ),(.d .aQ),(.d (.int .i64 0))],.box b2 [(.d (.sl ((a1.Table.Parents).map (D.int .i64)) false)),(.d (.sl ((a1.Table.Kinds).map (D.int .i64)) false)),(.d (.sl ((a1.Table.Texts).map (D.int .i64)) false)),(.d (.sl ((a1.Table.Rules).map (D.int .i64)) false)),(.d (.sl ((a1.Table.Flags).map (D.int .i64)) false)),(.d (.sl ((a1.Table.fK).map (D.int .i64)) false)),(.d (.sl ((a1.Table.Comps).map (D.int .i64)) false)),(.d (.sl ((a1.Parts).map dV) false)),(.d (.int .i64 a1.Cache))],.row 8 v12 ((x11).map aB),.box b10 [v12,v25,(.d (.int .i64 x13))],.grow v25 ((x24).map aM)]:=H23
  unfold bE at h
  refine ax.seq ?_
  refine ax.region (dI E) rfl ?_
  refine ae.val rfl (ay rfl rfl bQ) rfl ?_
  refine ae.nil ?_
  refine ax.seq ?_
  refine ax.cond rfl (fun hb28=>?_) (fun hb28=>?_)
  ·
   replace h:=dK hb28 h
   refine ax.skip ?_
   refine ax.seq ?_
   refine ax.block ?_
   refine ax.seq ?_
   refine ax.region (dI E) rfl ?_
   refine ae.val rfl (ah rfl) rfl ?_
   refine ae.val rfl (aj rfl) rfl ?_
   refine ae.nil ?_
   refine ax.seq ?_
   refine ax.region (dI E) rfl ?_
   refine ae.val rfl (aO (vs:=[(.d (.int .i64 1)),(.d (.int .i64 0)),(.d (.int .i64 2))]) (ds:=[(.int .i64 1),(.int .i64 0),(.int .i64 2)]) qC ku ji DU pI rfl (by decide) (.cons rfl rfl (.cons rfl rfl (.cons rfl rfl .nil))) rfl (by intro d hd; simp only [List.mem_cons,List.not_mem_nil,or_false] at hd; rcases hd with rfl | rfl | rfl <;> rfl) rfl) rfl ?_
   refine ae.val rfl (aO (vs:=[(.d (.int .i64 5)),(.d (.int .i64 11)),(.d (.int .i64 2))]) (ds:=[(.int .i64 5),(.int .i64 11),(.int .i64 2)]) qC ku ji DU pI rfl (by decide) (.cons rfl rfl (.cons rfl rfl (.cons rfl rfl .nil))) rfl (by intro d hd; simp only [List.mem_cons,List.not_mem_nil,or_false] at hd; rcases hd with rfl | rfl | rfl <;> rfl) rfl) rfl ?_
   refine ae.val rfl (aO (vs:=[(.d (.int .i64 0)),(.d (.int .i64 0)),(.d (.int .i64 1))]) (ds:=[(.int .i64 0),(.int .i64 0),(.int .i64 1)]) qC ku ji DU pI rfl (by decide) (.cons rfl rfl (.cons rfl rfl (.cons rfl rfl .nil))) rfl (by intro d hd; simp only [List.mem_cons,List.not_mem_nil,or_false] at hd; rcases hd with rfl | rfl | rfl <;> rfl) rfl) rfl ?_
   refine ae.val rfl (aO (vs:=[(.d (.int .i64 3)),(.d (.int .i64 1)),(.d (.int .i64 3))]) (ds:=[(.int .i64 3),(.int .i64 1),(.int .i64 3)]) qC ku ji DU pI rfl (by decide) (.cons rfl rfl (.cons rfl rfl (.cons rfl rfl .nil))) rfl (by intro d hd; simp only [List.mem_cons,List.not_mem_nil,or_false] at hd; rcases hd with rfl | rfl | rfl <;> rfl) rfl) rfl ?_
   refine ae.val rfl (aO (vs:=[(.d (.int .i64 0)),(.d (.int .i64 1)),(.d (.int .i64 2))]) (ds:=[(.int .i64 0),(.int .i64 1),(.int .i64 2)]) qC ku ji DU pI rfl (by decide) (.cons rfl rfl (.cons rfl rfl (.cons rfl rfl .nil))) rfl (by intro d hd; simp only [List.mem_cons,List.not_mem_nil,or_false] at hd; rcases hd with rfl | rfl | rfl <;> rfl) rfl) rfl ?_
   refine ae.val rfl (ah rfl) rfl ?_
   refine ae.val rfl (aO (vs:=[(.d (.int .i64 x26))]) (ds:=[(.int .i64 x26)]) qC ku ji DU pI rfl (by decide) (.cons rfl rfl .nil) rfl (by intro d hd; simp only [List.mem_cons,List.not_mem_nil,or_false] at hd; rcases hd with rfl <;> rfl) rfl) rfl ?_
   refine ae.val rfl (bA (cs:=[(.d (.sl (([0,0,1]).map (D.int .i64)) true)),(.d (.sl (([3,1,3]).map (D.int .i64)) true)),(.d (.sl (([0,1,2]).map (D.int .i64)) true)),(.d (.sl (([x26]).map (D.int .i64)) true))]) MO rfl (vU) (bT rfl rfl rfl rfl (bT rfl rfl rfl rfl (bT rfl rfl rfl rfl (bT rfl rfl rfl rfl rfl))))) rfl ?_
   refine ae.less (Less.agg' (d:=jq (bR.mk [0,0,1] [3,1,3] [0,1,2] [x26])) (ak.fe rfl (.iZ _ _) rfl rfl (ak.fe rfl (.iZ _ _) rfl rfl (ak.fe rfl (.iZ _ _) rfl rfl (ak.fe rfl (.iZ _ _) rfl rfl .nil)))) ((bR.eq _).trans rfl)) ?_
   refine ae.val rfl (bA (cs:=[(.d (.sl (((bR.mk [0,0,1] [3,1,3] [0,1,2] [x26]).Under).map (D.int .i64)) false)),(.d (.sl (((bR.mk [0,0,1] [3,1,3] [0,1,2] [x26]).Kinds).map (D.int .i64)) false)),(.d (.sl (((bR.mk [0,0,1] [3,1,3] [0,1,2] [x26]).Ns).map (D.int .i64)) false)),(.d (.sl (((bR.mk [0,0,1] [3,1,3] [0,1,2] [x26]).Texts).map (D.int .i64)) false)),(.d (.sl (([1,0,2]).map (D.int .i64)) true)),(.d (.sl (([5,11,2]).map (D.int .i64)) true)),(.d (.bool false))]) Kr rfl (vV) (bT rfl rfl rfl rfl (bT rfl rfl rfl rfl (bT rfl (iO (bR.bu _)) rfl rfl rfl)))) rfl ?_
   refine ae.alloc H23 rfl JV Kr rfl rfl (fun b29 S30 H31=>?_)
   refine ae.store H31 (i:=0) rfl rfl rfl rfl rfl rfl EO rfl Jy rfl rfl rfl (fun S32 H33=>?_)
   refine ae.nil ?_
   refine ax.join (B:=aI) (α:=(List Int) × (List Int) × (List Int) × (List Int) × (List Int) × (List Int) × Bool) (fun a=>dU n x24 x26 (bE n a1 x11 x13 k27) a.1 a.2.1 a.2.2.1 a.2.2.2.1 a.2.2.2.2.1 a.2.2.2.2.2.1 a.2.2.2.2.2.2=some r) (fun a=>[(1,(.ptr b2 0 0)),(2,(.ptr b5 0 0)),(3,(.ptr b10 0 0)),(5,(.ptr b29 0 0)),(17,(.d (.int .i64 x26)))]) (fun a=>[.box b29 [(.d (.sl ((a.1).map (D.int .i64)) false)),(.d (.sl ((a.2.1).map (D.int .i64)) false)),(.d (.sl ((a.2.2.1).map (D.int .i64)) false)),(.d (.sl ((a.2.2.2.1).map (D.int .i64)) false)),(.d (.sl ((a.2.2.2.2.1).map (D.int .i64)) false)),(.d (.sl ((a.2.2.2.2.2.1).map (D.int .i64)) false)),(.d (.bool a.2.2.2.2.2.2))],.box b5 [(.d .aQ),(.d .aQ),(.d (.int .i64 0))],.box b2 [(.d (.sl ((a1.Table.Parents).map (D.int .i64)) false)),(.d (.sl ((a1.Table.Kinds).map (D.int .i64)) false)),(.d (.sl ((a1.Table.Texts).map (D.int .i64)) false)),(.d (.sl ((a1.Table.Rules).map (D.int .i64)) false)),(.d (.sl ((a1.Table.Flags).map (D.int .i64)) false)),(.d (.sl ((a1.Table.fK).map (D.int .i64)) false)),(.d (.sl ((a1.Table.Comps).map (D.int .i64)) false)),(.d (.sl ((a1.Parts).map dV) false)),(.d (.int .i64 a1.Cache))],.row 8 v12 ((x11).map aB),.box b10 [v12,v25,(.d (.int .i64 x13))],.grow v25 ((x24).map aM)]) ?_ ?_
   ·
    intro a S34 H35 h
    obtain ⟨x36,x37,x38,x39,x40,x41,x42⟩:=a
    replace h:dU n x24 x26 (bE n a1 x11 x13 k27) x36 x37 x38 x39 x40 x41 x42=some r:=h
    replace H35:Has aI S34 [.box b29 [(.d (.sl ((x36).map (D.int .i64)) false)),(.d (.sl ((x37).map (D.int .i64)) false)),(.d (.sl ((x38).map (D.int .i64)) false)),(.d (.sl ((x39).map (D.int .i64)) false)),(.d (.sl ((x40).map (D.int .i64)) false)),(.d (.sl ((x41).map (D.int .i64)) false)),(.d (.bool x42))],.box b5 [(.d .aQ),(.d .aQ),(.d (.int .i64 0))],.box b2 [(.d (.sl ((a1.Table.Parents).map (D.int .i64)) false)),(.d (.sl ((a1.Table.Kinds).map (D.int .i64)) false)),(.d (.sl ((a1.Table.Texts).map (D.int .i64)) false)),(.d (.sl ((a1.Table.Rules).map (D.int .i64)) false)),(.d (.sl ((a1.Table.Flags).map (D.int .i64)) false)),(.d (.sl ((a1.Table.fK).map (D.int .i64)) false)),(.d (.sl ((a1.Table.Comps).map (D.int .i64)) false)),(.d (.sl ((a1.Parts).map dV) false)),(.d (.int .i64 a1.Cache))],.row 8 v12 ((x11).map aB),.box b10 [v12,v25,(.d (.int .i64 x13))],.grow v25 ((x24).map aM)]:=H35
    unfold dU at h
    refine ax.seq ?_
    refine ax.region (dI E) rfl ?_
    refine ae.val rfl (ai rfl Aw KT rfl) rfl ?_
    refine ae.store H35 (i:=0) rfl rfl rfl rfl rfl rfl LA rfl Mq rfl rfl rfl (fun S44 H45=>?_)
    refine ae.nil ?_
    refine ax.seq ?_
    obtain ⟨z46,hzz46,h⟩:=bind_some h
    obtain ⟨z47,hzz47,h⟩:=bind_some h
    refine ax.qL (dI E) rO Nu [(1,none),(2,none),(3,none),(5,none),(17,none)] (by kernel_rfl) [5,7] (by decide) [some (.ptr b10 0 1),some v25,some (.d (dV (dW.mk (bR.mk x36 x37 x38 x39) x40 x41 false))),some (.d (aM z46)),some (.d (.sl (([z46]).map aM) true)),none,none,none] ?_
    refine ⟨[0,1,2,3,4],by kernel_rfl,?_,_,_,rfl,rfl,.step ?_⟩
    ·
     refine .v rfl rfl rfl rfl (ai rfl jv qz rfl) ?_
     refine .v rfl rfl rfl rfl (av H45 (i:=4) rfl rfl (aC ug rfl)) ?_
     refine .cons rfl rfl rfl (.step ?_) ?_
     ·
      refine ae.val rfl (av H45 (i:=0) rfl rfl (bf I5 EO rfl)) rfl ?_
      refine ae.less (Less.agg' (d:=dV (dW.mk (bR.mk x36 x37 x38 x39) x40 x41 false)) (ak.eq rfl (ak.eq rfl (ak.eq rfl (ak.eq rfl (ak.eq rfl (ak.eq rfl (ak.eq rfl .nil))))))) ((dW.eq _).trans rfl)) ?_
      exact ae.nil ⟨_,_,rfl,fun _ ht=>by cases ht; exact ⟨rfl,.refl _⟩⟩
     refine .cons rfl rfl rfl (.step ?_) ?_
     ·
      refine ae.ret rfl (aA rfl rfl) (kW E _ _ _ hzz46 _ _ (aD.eq .nil)) rfl ?_
      exact ae.nil ⟨_,_,rfl,fun _ ht=>by cases ht; exact ⟨rfl,.refl _⟩⟩
     refine .v rfl rfl rfl rfl (aO (vs:=[(.d (aM z46))]) (ds:=[(aM z46)]) AP uF yI rG kT rfl (by decide) (.cons rfl (aG.len _) .nil) rfl (by intro d hd; simp only [List.mem_cons,List.not_mem_nil,or_false] at hd; rcases hd with rfl <;> exact aG.agg _) rfl) ?_
     exact .nil
    refine ae.append (xs:=(x24).map aM) (ys:=([z46]).map aM) (zs:=(z47).map aM) H45 rfl rfl rfl (i:=5) rfl rfl AP F8 uF (eD hzz47) Ig rfl (bK (enc:=aM) (fun z=>(aG.len z).trans kT.symm) _) (bK (enc:=aM) (fun z=>(aG.len z).trans kT.symm) _) Gg rfl (iJ hzz47) (fun v53 S54 H55=>?_)
    refine ae.nil ⟨_,_,_,rfl,(fun _ ht=>by cases ht; rfl),_,(.q (.o (.w v53 (.w (.ptr b10 0 1) (.n .nil))))),(fun _ ht=>by cases ht; exact ⟨_,rfl,.refl _⟩),?_⟩
    refine ⟨[6],by kernel_rfl,?_,_,_,rfl,rfl,.step ?_⟩
    ·
     refine .v rfl rfl rfl rfl (ai rfl jv qz rfl) ?_
     exact .nil
    refine ae.store H55 (i:=4) rfl rfl rfl rfl (iq (H55.at (i:=5) rfl)).2.2.2.2 rfl IB (iq (H55.at (i:=5) rfl)).2.2.2.1 IP rfl rfl rfl (fun S56 H57=>?_)
    refine ae.nil ⟨_,.any,_,rfl,(fun _ ht=>by cases ht),_,(.q (.o (.o (.o (.w .any .nil))))),(fun _ ht=>by cases ht),?_⟩
    refine ⟨[],by kernel_rfl,?_,_,rfl,?_⟩
    ·
     exact .nil
    refine ax.seq ?_
    refine ax.region (dI E) rfl ?_
    refine ae.val rfl (ai rfl Aw KT rfl) rfl ?_
    refine ae.store H57 (i:=0) rfl rfl rfl rfl rfl rfl LA rfl Mq rfl rfl rfl (fun S58 H59=>?_)
    refine ae.nil ?_
    obtain ⟨z60,hzz60,h⟩:=bind_some h
    obtain ⟨z61,hzz61,h⟩:=bind_some h
    refine ax.qL (dI E) rO MQ [(1,none),(2,none),(3,none),(17,none)] (by kernel_rfl) [5,7] (by decide) [some (.ptr b10 0 1),some v53,some (.d (dV (dW.mk (bR.mk x36 x37 x38 x39) x40 x41 true))),some (.d (aM z60)),some (.d (.sl (([z60]).map aM) true)),none,none,none] ?_
    refine ⟨[0,1,2,3,4],by kernel_rfl,?_,_,_,rfl,rfl,.step ?_⟩
    ·
     refine .v rfl rfl rfl rfl (ai rfl jv qz rfl) ?_
     refine .v rfl rfl rfl rfl (av H59 (i:=4) rfl rfl (aC ug rfl)) ?_
     refine .cons rfl rfl rfl (.step ?_) ?_
     ·
      refine ae.val rfl (av H59 (i:=0) rfl rfl (bf I5 EO rfl)) rfl ?_
      refine ae.less (Less.agg' (d:=dV (dW.mk (bR.mk x36 x37 x38 x39) x40 x41 true)) (ak.eq rfl (ak.eq rfl (ak.eq rfl (ak.eq rfl (ak.eq rfl (ak.eq rfl (ak.eq rfl .nil))))))) ((dW.eq _).trans rfl)) ?_
      exact ae.nil ⟨_,_,rfl,fun _ ht=>by cases ht; exact ⟨rfl,.refl _⟩⟩
     refine .cons rfl rfl rfl (.step ?_) ?_
     ·
      refine ae.ret rfl (aA rfl rfl) (kW E _ _ _ hzz60 _ _ (aD.eq .nil)) rfl ?_
      exact ae.nil ⟨_,_,rfl,fun _ ht=>by cases ht; exact ⟨rfl,.refl _⟩⟩
     refine .v rfl rfl rfl rfl (aO (vs:=[(.d (aM z60))]) (ds:=[(aM z60)]) AP uF yI rG kT rfl (by decide) (.cons rfl (aG.len _) .nil) rfl (by intro d hd; simp only [List.mem_cons,List.not_mem_nil,or_false] at hd; rcases hd with rfl <;> exact aG.agg _) rfl) ?_
     exact .nil
    refine ae.append (xs:=(z47).map aM) (ys:=([z60]).map aM) (zs:=(z61).map aM) H59 rfl rfl rfl (i:=5) rfl rfl AP F8 uF (eD hzz61) Ig rfl (bK (enc:=aM) (fun z=>(aG.len z).trans kT.symm) _) (bK (enc:=aM) (fun z=>(aG.len z).trans kT.symm) _) Gg rfl (iJ hzz61) (fun v67 S68 H69=>?_)
    refine ae.nil ⟨_,_,_,rfl,(fun _ ht=>by cases ht; rfl),_,(.q (.o (.w v67 (.w (.ptr b10 0 1) (.n .nil))))),(fun _ ht=>by cases ht; exact ⟨_,rfl,.refl _⟩),?_⟩
    refine ⟨[6],by kernel_rfl,?_,_,_,rfl,rfl,.step ?_⟩
    ·
     refine .v rfl rfl rfl rfl (ai rfl jv qz rfl) ?_
     exact .nil
    refine ae.store H69 (i:=4) rfl rfl rfl rfl (iq (H69.at (i:=5) rfl)).2.2.2.2 rfl IB (iq (H69.at (i:=5) rfl)).2.2.2.1 IP rfl rfl rfl (fun S70 H71=>?_)
    refine ae.nil ⟨_,.any,_,rfl,(fun _ ht=>by cases ht),_,(.q (.o (.o (.o (.w .any .nil))))),(fun _ ht=>by cases ht),?_⟩
    refine ⟨[],by kernel_rfl,?_,_,rfl,?_⟩
    ·
     exact .nil
    refine ax.region (dI E) rfl ?_
    refine ae.val rfl (ay rfl rfl cu) rfl ?_
    refine ae.val rfl (ah rfl) rfl ?_
    refine ae.nil ?_
    exact ⟨⟨z61,v67,(IntKind.wrap .i64 (x26 + 1))⟩,_,_,S70,.refl _ _,.refl _,(aa.r rfl (aa.r rfl (aa.r rfl (aa.r rfl aa.nil)))),H71.sl [1,2,3,4,5] rfl rfl,h⟩
   refine ax.seq ?_
   refine ax.region (dI E) rfl ?_
   refine ae.val rfl (ah rfl) rfl ?_
   refine ae.val rfl (ai rfl GA J4 rfl) rfl ?_
   refine ae.val rfl (av H33 (i:=2) rfl rfl (aC KM rfl)) rfl ?_
   refine ae.val rfl (bz rfl Mh) rfl ?_
   refine ae.val rfl (ay rfl rfl bQ) rfl ?_
   refine ae.nil ?_
   refine ax.cond rfl (fun hb72=>?_) (fun hb72=>?_)
   ·
    replace h:=dK hb72 h
    refine ax.region (dI E) rfl ?_
    refine ae.val rfl (ai rfl GA J4 rfl) rfl ?_
    refine ae.val rfl (av H33 (i:=2) rfl rfl (aC KM rfl)) rfl ?_
    refine ae.val rfl (ah rfl) rfl ?_
    obtain ⟨z73,hzz73,h⟩:=bind_some h
    refine ae.val rfl (df rfl rfl (dQ (enc:=dV) hzz73 Lc Jy ((dW.len _).trans EO.symm))) rfl ?_
    refine ae.val rfl (bD rfl (dW.jO I5 EO)) rfl ?_
    refine ae.store H33 (i:=0) rfl rfl rfl rfl (dW.bu _) rfl EO rfl Jy rfl rfl rfl (fun S74 H75=>?_)
    refine ae.nil ?_
    exact ⟨⟨z73.Page.Under,z73.Page.Kinds,z73.Page.Ns,z73.Page.Texts,z73.Init,z73.Adds,z73.Outlet⟩,_,_,S74,.refl _ _,.refl _,(aa.r rfl (aa.r rfl (aa.r rfl (aa.r rfl (aa.r rfl aa.nil))))),H75.sl [0,1,2,3,4,5] rfl rfl,h⟩
   replace h:=dJ hb72 h
   refine ax.skip ?_
   obtain ⟨S76,hw77,H78⟩:=H33.AQ (i:=0) (cs':=[(.d (.sl (((bR.mk [0,0,1] [3,1,3] [0,1,2] [x26]).Under).map (D.int .i64)) false)),(.d (.sl (((bR.mk [0,0,1] [3,1,3] [0,1,2] [x26]).Kinds).map (D.int .i64)) false)),(.d (.sl (((bR.mk [0,0,1] [3,1,3] [0,1,2] [x26]).Ns).map (D.int .i64)) false)),(.d (.sl (((bR.mk [0,0,1] [3,1,3] [0,1,2] [x26]).Texts).map (D.int .i64)) false)),(.d (.sl (([1,0,2]).map (D.int .i64)) false)),(.d (.sl (([5,11,2]).map (D.int .i64)) false)),(.d (.bool false))]) rfl (.cons (.refl _) (.cons (.refl _) (.cons (.refl _) (.cons (.refl _) (.cons Fq (.cons Fq (.cons (.refl _) .nil)))))))
   exact ⟨⟨(bR.mk [0,0,1] [3,1,3] [0,1,2] [x26]).Under,(bR.mk [0,0,1] [3,1,3] [0,1,2] [x26]).Kinds,(bR.mk [0,0,1] [3,1,3] [0,1,2] [x26]).Ns,(bR.mk [0,0,1] [3,1,3] [0,1,2] [x26]).Texts,[1,0,2],[5,11,2],false⟩,_,_,S76,.refl _ _,hw77,(aa.r rfl (aa.r rfl (aa.r rfl (aa.r rfl (aa.r rfl aa.nil))))),H78.sl [0,1,2,3,4,5] rfl rfl,h⟩
  replace h:=dJ hb28 h
  refine ax.exit ?_
  refine ax.seq ?_
  refine ax.seq ?_
  refine ax.region (dI E) rfl ?_
  refine ae.val rfl (ai rfl kP su rfl) rfl ?_
  refine ae.val rfl (av H23 (i:=3) rfl rfl (aC tX rfl)) rfl ?_
  refine ae.val rfl (jc H23 (i:=2) rfl rfl uL) rfl ?_
  refine ae.val rfl (ah rfl) rfl ?_
  refine ae.nil ?_
  refine ax.block ?_
  refine nR.start (B:=aI) (α:=(List au) × Int) (fun k a=>aY n x11 x13 x24 k a.1 a.2=some r) (fun a=>[(2,(.ptr b5 0 0)),(3,(.ptr b10 0 0)),(58,(.d (.int .i64 ((x11).length:Int)))),(59,(.d (.int .i64 a.2)))]) (fun a=>[.box b5 [(.d .aQ),(.d .aQ),(.d (.int .i64 0))],.row 8 v12 ((a.1).map aB),.box b10 [v12,v25,(.d (.int .i64 x13))],.grow v25 ((x24).map aM)]) ?_ ?_ n ⟨⟨x11,0⟩,_,_,S22,.refl _ _,.refl _,(aa.r rfl (aa.r rfl (aa.r rfl (aa.r rfl aa.nil)))),H23.sl [0,2,3,4] rfl rfl,h⟩
  ·
   intro a h; simp [aY] at h
  intro k89 a S85 H86 h
  obtain ⟨x87,x88⟩:=a
  replace h:aY n x11 x13 x24 (k89 + 1) x87 x88=some r:=h
  replace H86:Has aI S85 [.box b5 [(.d .aQ),(.d .aQ),(.d (.int .i64 0))],.row 8 v12 ((x87).map aB),.box b10 [v12,v25,(.d (.int .i64 x13))],.grow v25 ((x24).map aM)]:=H86
  unfold aY at h
  refine ax.seq ?_
  refine ax.region (dI E) rfl ?_
  refine ae.val rfl (ay rfl rfl bQ) rfl ?_
  refine ae.nil ?_
  refine ax.seq ?_
  refine ax.cond rfl (fun hb90=>?_) (fun hb90=>?_)
  ·
   replace h:=dK hb90 h
   refine ax.skip ?_
   refine ax.seq ?_
   refine ax.block ?_
   refine ax.seq ?_
   refine ax.region (dI E) rfl ?_
   refine ae.val rfl (ah rfl) rfl ?_
   refine ae.val rfl (aj rfl) rfl ?_
   refine ae.nil ?_
   refine ax.seq ?_
   refine ax.region (dI E) rfl ?_
   refine ae.val rfl (ai rfl kP su rfl) rfl ?_
   refine ae.val rfl (av H86 (i:=2) rfl rfl (aC tX rfl)) rfl ?_
   refine ae.val rfl (ah rfl) rfl ?_
   obtain ⟨z91,hzz91,h⟩:=bind_some h
   refine ae.iA (enc:=aB) H86 rfl (i:=1) rfl rfl rfl hzz91 pO oL ((au.len _).trans kM.symm) rfl ?_
   refine ae.jG H86 (i:=1) rfl hzz91 rfl rfl tK mg rfl rfl ?_
   refine ae.lQ H86 rfl (i:=1) rfl hzz91 rfl (by rw [au.cells]; exact dG ji rfl) rfl ?_
   obtain ⟨z92,hzz92,h⟩:=bind_some h
   refine ae.ret rfl (aA rfl rfl) (aN E _ _ _ _ _ hzz92 _ _ (aD.eq (aD.eq (aD.eq .nil)))) rfl ?_
   refine ae.val rfl (ay rfl rfl Gc) rfl ?_
   refine ae.val rfl (aj rfl) rfl ?_
   refine ae.nil ?_
   refine ax.seq ?_
   refine ax.seq ?_
   refine ax.region (dI E) rfl ?_
   refine ae.val rfl (ai rfl kP su rfl) rfl ?_
   refine ae.val rfl (av H86 (i:=2) rfl rfl (aC tX rfl)) rfl ?_
   refine ae.val rfl (jc H86 (i:=1) rfl rfl uL) rfl ?_
   refine ae.val rfl (ah rfl) rfl ?_
   refine ae.nil ?_
   refine ax.block ?_
   refine nR.start (B:=aI) (α:=Int × Int) (fun k a=>bG x87 x88 (aY n x11 x13 x24 k89) k a.1 a.2=some r) (fun a=>[(2,(.ptr b5 0 0)),(3,(.ptr b10 0 0)),(6,(.d (.int .i64 x88))),(7,(.d (.int .i64 a.1))),(58,(.d (.int .i64 ((x11).length:Int)))),(59,(.d (.int .i64 x88))),(71,v12),(72,(.d (.int .i64 ((x87).length:Int)))),(73,(.d (.int .i64 a.2)))]) (fun a=>[.box b5 [(.d .aQ),(.d .aQ),(.d (.int .i64 0))],.row 8 v12 ((x87).map aB),.box b10 [v12,v25,(.d (.int .i64 x13))],.grow v25 ((x24).map aM)]) ?_ ?_ n ⟨⟨(IntKind.wrap .i64 (2 * z92)),0⟩,_,_,S85,.refl _ _,.refl _,(aa.r rfl (aa.r rfl (aa.r rfl (aa.r rfl (aa.r rfl (aa.r rfl (aa.r rfl (aa.r rfl (aa.r rfl aa.nil))))))))),H86.sl [0,1,2,3] rfl rfl,h⟩
   ·
    intro a h; simp [bG] at h
   intro k103 a S99 H100 h
   obtain ⟨x101,x102⟩:=a
   replace h:bG x87 x88 (aY n x11 x13 x24 k89) (k103 + 1) x101 x102=some r:=h
   replace H100:Has aI S99 [.box b5 [(.d .aQ),(.d .aQ),(.d (.int .i64 0))],.row 8 v12 ((x87).map aB),.box b10 [v12,v25,(.d (.int .i64 x13))],.grow v25 ((x24).map aM)]:=H100
   unfold bG at h
   refine ax.seq ?_
   refine ax.region (dI E) rfl ?_
   refine ae.val rfl (ay rfl rfl bQ) rfl ?_
   refine ae.nil ?_
   refine ax.seq ?_
   refine ax.cond rfl (fun hb104=>?_) (fun hb104=>?_)
   ·
    replace h:=dK hb104 h
    refine ax.skip ?_
    refine ax.join (B:=aI) (α:=Int) (fun a=>eQ x102 (bG x87 x88 (aY n x11 x13 x24 k89) k103) a=some r) (fun a=>[(2,(.ptr b5 0 0)),(3,(.ptr b10 0 0)),(6,(.d (.int .i64 x88))),(7,(.d (.int .i64 a))),(58,(.d (.int .i64 ((x11).length:Int)))),(59,(.d (.int .i64 x88))),(71,v12),(72,(.d (.int .i64 ((x87).length:Int)))),(73,(.d (.int .i64 x102)))]) (fun a=>[.box b5 [(.d .aQ),(.d .aQ),(.d (.int .i64 0))],.row 8 v12 ((x87).map aB),.box b10 [v12,v25,(.d (.int .i64 x13))],.grow v25 ((x24).map aM)]) ?_ ?_
    ·
     intro x107 S105 H106 h
     replace h:eQ x102 (bG x87 x88 (aY n x11 x13 x24 k89) k103) x107=some r:=h
     replace H106:Has aI S105 [.box b5 [(.d .aQ),(.d .aQ),(.d (.int .i64 0))],.row 8 v12 ((x87).map aB),.box b10 [v12,v25,(.d (.int .i64 x13))],.grow v25 ((x24).map aM)]:=H106
     unfold eQ at h
     refine ax.region (dI E) rfl ?_
     refine ae.val rfl (ay rfl rfl cu) rfl ?_
     refine ae.val rfl (ah rfl) rfl ?_
     refine ae.nil ?_
     exact ⟨⟨x107,(IntKind.wrap .i64 (x102 + 1))⟩,_,_,S105,.refl _ _,.refl _,(aa.r rfl (aa.r rfl (aa.r rfl (aa.r rfl (aa.r rfl (aa.r rfl (aa.r rfl (aa.r rfl (aa.r rfl aa.nil))))))))),H106.sl [0,1,2,3] rfl rfl,h⟩
    refine ax.block ?_
    refine ax.seq ?_
    refine ax.region (dI E) rfl ?_
    obtain ⟨z109,hzz109,h⟩:=bind_some h
    refine ae.iA (enc:=aB) H100 rfl (i:=1) rfl rfl rfl hzz109 pO oL ((au.len _).trans kM.symm) rfl ?_
    refine ae.lQ H100 rfl (i:=1) rfl hzz109 rfl (au.jO Da kM) rfl ?_
    refine ae.alloc H100 rfl G7 vN rfl rfl (fun b110 S111 H112=>?_)
    refine ae.store H112 (i:=0) rfl rfl rfl rfl (au.bu _) rfl kM rfl oL rfl rfl rfl (fun S113 H114=>?_)
    refine ae.nil ?_
    refine ax.seq ?_
    refine ax.region (dI E) rfl ?_
    refine ae.val rfl (ai rfl yQ mg rfl) rfl ?_
    refine ae.val rfl (av H114 (i:=0) rfl rfl (aC ji rfl)) rfl ?_
    refine ae.val rfl (ah rfl) rfl ?_
    refine ae.val rfl (ay rfl rfl dS) rfl ?_
    refine ae.nil ?_
    refine ax.cond rfl (fun hb115=>?_) (fun hb115=>?_)
    ·
     replace h:=dK hb115 h
     refine ax.region (dI E) rfl ?_
     refine ae.val rfl (ah rfl) rfl ?_
     refine ae.val rfl (ay rfl rfl Iq) rfl ?_
     refine ae.val rfl (aj rfl) rfl ?_
     refine ae.nil ?_
     exact ⟨(KZ .i64 x101 1),_,_,S113,.refl _ _,.refl _,(aa.r rfl (aa.r rfl (aa.r rfl (aa.r rfl (aa.r rfl (aa.r rfl (aa.r rfl (aa.r rfl (aa.r rfl aa.nil))))))))),H114.sl [1,2,3,4] rfl rfl,h⟩
    replace h:=dJ hb115 h
    refine ax.skip ?_
    exact ⟨x101,_,_,S113,.refl _ _,.refl _,(aa.r rfl (aa.r rfl (aa.r rfl (aa.r rfl (aa.r rfl (aa.r rfl (aa.r rfl (aa.r rfl (aa.r rfl aa.nil))))))))),H114.sl [1,2,3,4] rfl rfl,h⟩
   replace h:=dJ hb104 h
   refine ax.exit ?_
   refine ax.region (dI E) rfl ?_
   refine ae.val rfl (ai rfl kP su rfl) rfl ?_
   refine ae.val rfl (av H100 (i:=2) rfl rfl (aC tX rfl)) rfl ?_
   refine ae.val rfl (ah rfl) rfl ?_
   refine ae.val rfl (ah rfl) rfl ?_
   obtain ⟨z116,hzz116,h⟩:=bind_some h
   refine ae.iA (enc:=aB) H100 rfl (i:=1) rfl rfl rfl hzz116 pO oL ((au.len _).trans kM.symm) rfl ?_
   refine ae.jG H100 (i:=1) rfl hzz116 rfl rfl tK mg rfl rfl ?_
   refine ae.jF (enc:=aB) (z':=(au.mk z116.Name z116.Parent z116.eT x101 z116.iK z116.aJ)) (cv:=[(.int .i64 x101)]) H100 rfl (i:=1) rfl hzz116 rfl rfl rfl (.cons (.refl _) .nil) pI rfl zi (by rw [au.len]; rfl) (by rw [au.cells,au.cells]; rfl) (au.flat _) (fun S117 H118=>?_)
   refine ae.nil ?_
   refine ax.region (dI E) rfl ?_
   refine ae.val rfl (ay rfl rfl cu) rfl ?_
   refine ae.val rfl (ah rfl) rfl ?_
   refine ae.nil ?_
   exact ⟨⟨(jJ x87 x88 (au.mk z116.Name z116.Parent z116.eT x101 z116.iK z116.aJ)),(IntKind.wrap .i64 (x88 + 1))⟩,_,_,S117,.refl _ _,.refl _,(aa.r rfl (aa.r rfl (aa.r rfl (aa.r rfl aa.nil)))),H118.sl [0,1,2,3] rfl rfl,h⟩
  replace h:=dJ hb90 h
  refine ax.exit ?_
  refine ax.seq ?_
  refine ax.region (dI E) rfl ?_
  refine ae.val rfl (av H86 (i:=2) rfl rfl (bf sF nC rfl)) rfl ?_
  refine ae.store H86 (i:=0) rfl rfl rfl rfl (gV _) rfl nC (gW _) Bn rfl rfl rfl (fun S119 H120=>?_)
  refine ae.nil ?_
  obtain ⟨SF1,HF1,hgF1⟩:=H120.freeze (dI E).toObjOk (i:=1) (l':=[.box b5 [(.d (.sl ((x87).map aB) false)),v25,(.d (.int .i64 x13))],.box b10 [(.d (.sl ((x87).map aB) false)),v25,(.d (.int .i64 x13))],.grow v25 ((x24).map aM)]) rfl (.box (.cons .it (.cons (.same _) (.cons (.same _) .nil))) (.box (.cons .it (.cons (.same _) (.cons (.same _) .nil))) (.same .nil)))
  refine ax.ghost (hgF1 _ _ [(2,(.ptr b5 0 0)),(3,(.ptr b10 0 0)),(58,(.d (.int .i64 ((x11).length:Int)))),(59,(.d (.int .i64 x88))),(60,(.d (.bool (decide (x88 < ((x11).length:Int))))))] (.cons rfl (.refl _) (.cons rfl (.refl _) (.cons rfl (.refl _) (.cons rfl (.refl _) (.cons rfl (.refl _) .nil)))))) ?_
  have hr:=Option.some.inj h
  subst hr
  exact ax.ret ⟨_,gq HF1 (i:=0) rfl rfl rfl (bf sF nC rfl),rfl,fE (aD.ou (d:=iN (dO.mk x87 x24 x13)) (ak.eq rfl (ak.grow HF1 (i:=2) rfl (ak.eq rfl .nil))) ((dO.eq _).trans rfl))⟩
 obtain ⟨z122,hzz122,h⟩:=bind_some h
 obtain ⟨z128,hzz128,h⟩:=bind_some h
 refine ax.Ct (dI E) rO NB [(1,none),(2,none),(3,some 7)] (by kernel_rfl) 3 [2,7,8] (by decide) [some (.ptr b2 0 0),some (.d (jX a1.Table)),none,some (.ptr b2 0 8),some (.d (.int .i64 a1.Cache)),none,none,none,none] ?_
 refine ⟨[2,7],[0,1,3,4],⟨by decide,by decide⟩,by kernel_rfl,?_,?_⟩
 ·
  refine .v rfl rfl rfl rfl (ai rfl Gx Km rfl) ?_
  refine .cons rfl rfl rfl (.step ?_) ?_
  ·
   refine ae.val rfl (av H7 (i:=1) rfl rfl (bf Kz KC rfl)) rfl ?_
   refine ae.less (Less.agg' (d:=jX a1.Table) (ak.eq rfl (ak.eq rfl (ak.eq rfl (ak.eq rfl (ak.eq rfl (ak.eq rfl (ak.eq rfl .nil))))))) ((fU.eq _).trans rfl)) ?_
   exact ae.nil ⟨_,_,rfl,fun _ ht=>by cases ht; exact ⟨rfl,.refl _⟩⟩
  refine .v rfl rfl rfl rfl (ai rfl xG mg rfl) ?_
  refine .v rfl rfl rfl rfl (av H7 (i:=1) rfl rfl (aC ji rfl)) ?_
  exact .nil
 intro i hw134
 simp only [List.mem_cons,List.not_mem_nil,or_false] at hw134
 rcases hw134 with rfl | rfl
 ·
  refine ⟨_,_,rfl,rfl,.step ?_⟩
  refine ae.yT H7 rfl (aA rfl rfl) (jl E n _ _ hzz122) (aD.eq .nil) rfl ?_
  rintro v135 S136 _ rfl H137
  refine ae.nil ⟨_,_,_,rfl,(fun _ ht=>by cases ht; rfl),_,(.o (.o (.w v135 (.o (.o (.w (.d (.int .i64 z128)) (.w (Ev.gP [v135,(.d .aQ),(.d (.int .i64 z128))]) (.n (.n .nil))))))))),(fun _ ht=>by cases ht; exact ⟨_,rfl,.refl _⟩),?_⟩
  refine ⟨[7],[3,4,5,6],⟨by decide,by decide⟩,by kernel_rfl,?_,?_⟩
  ·
   refine .v rfl rfl rfl rfl (ai rfl xG mg rfl) ?_
   refine .v rfl rfl rfl rfl (av H137 (i:=2) rfl rfl (aC ji rfl)) ?_
   refine .cons rfl rfl rfl (.step ?_) ?_
   ·
    refine ae.ret rfl (aA rfl rfl) (aN E _ _ _ _ _ hzz128 _ _ (aD.eq (aD.eq (aD.eq .nil)))) rfl ?_
    exact ae.nil ⟨_,_,rfl,fun _ ht=>by cases ht; exact ⟨rfl,.refl _⟩⟩
   refine .v rfl rfl rfl rfl (bA (cs:=[v135,(.d .aQ),(.d (.int .i64 z128))]) vL rfl (mG) (bT rfl (pV H137 (i:=0) rfl) rfl rfl (bT rfl rfl rfl rfl rfl))) ?_
   exact .nil
  intro i hw140
  simp only [List.mem_cons,List.not_mem_nil,or_false] at hw140
  rcases hw140 with rfl
  refine ⟨_,_,rfl,rfl,.step ?_⟩
  refine ae.alloc H137 rfl DT vL rfl rfl (fun b141 S142 H143=>?_)
  refine ae.nil ⟨_,_,_,rfl,(fun _ ht=>by cases ht; rfl),_,(.q (.o (.o (.o (.w (.ptr b141 0 0) (.n .nil)))))),(fun _ ht=>by cases ht; exact ⟨_,rfl,.refl _⟩),?_⟩
  refine ⟨[8],[3,4,5,6],⟨by decide,by decide⟩,by kernel_rfl,?_,?_⟩
  ·
   refine .v rfl rfl rfl rfl (ai rfl xG mg rfl) ?_
   refine .v rfl rfl rfl rfl (av H143 (i:=3) rfl rfl (aC ji rfl)) ?_
   refine .cons rfl rfl rfl (.step ?_) ?_
   ·
    refine ae.ret rfl (aA rfl rfl) (aN E _ _ _ _ _ hzz128 _ _ (aD.eq (aD.eq (aD.eq .nil)))) rfl ?_
    exact ae.nil ⟨_,_,rfl,fun _ ht=>by cases ht; exact ⟨rfl,.refl _⟩⟩
   refine .v rfl rfl rfl rfl (bA (cs:=[v135,(.d .aQ),(.d (.int .i64 z128))]) vL rfl (mG) (bT rfl (pV H143 (i:=1) rfl) rfl rfl (bT rfl rfl rfl rfl rfl))) ?_
   exact .nil
  intro i hw144
  simp only [List.mem_cons,List.not_mem_nil,or_false] at hw144
  rcases hw144 with rfl
  refine ⟨_,_,rfl,rfl,.step ?_⟩
  refine ae.store H143 (i:=0) rfl rfl rfl rfl (gV _) rfl nC (gW _) Bn rfl rfl rfl (fun S145 H146=>?_)
  refine ae.nil ⟨_,.any,_,rfl,(fun _ ht=>by cases ht),_,(.q (.q (.w .any .nil))),(fun _ ht=>by cases ht),?_⟩
  refine ⟨rfl,[],by kernel_rfl,?_,_,rfl,?_⟩
  ·
   exact .nil
  exact ⟨⟨b141,z122,v135,z128⟩,_,_,S145,.refl _ _,.refl _,(aa.r rfl (aa.r rfl (aa.r rfl aa.nil))),H146.sl [2,3,1,0] rfl rfl,h⟩
 refine ⟨_,_,rfl,rfl,.step ?_⟩
 refine ae.alloc H7 rfl DT vL rfl rfl (fun b147 S148 H149=>?_)
 refine ae.nil ⟨_,_,_,rfl,(fun _ ht=>by cases ht; rfl),_,(.o (.o (.n (.o (.o (.n (.n (.w (.ptr b147 0 0) (.n .nil))))))))),(fun _ ht=>by cases ht; exact ⟨_,rfl,.refl _⟩),?_⟩
 refine ⟨[2],[0,1,3,4],⟨by decide,by decide⟩,by kernel_rfl,?_,?_⟩
 ·
  refine .v rfl rfl rfl rfl (ai rfl Gx Km rfl) ?_
  refine .cons rfl rfl rfl (.step ?_) ?_
  ·
   refine ae.val rfl (av H149 (i:=2) rfl rfl (bf Kz KC rfl)) rfl ?_
   refine ae.less (Less.agg' (d:=jX a1.Table) (ak.eq rfl (ak.eq rfl (ak.eq rfl (ak.eq rfl (ak.eq rfl (ak.eq rfl (ak.eq rfl .nil))))))) ((fU.eq _).trans rfl)) ?_
   exact ae.nil ⟨_,_,rfl,fun _ ht=>by cases ht; exact ⟨rfl,.refl _⟩⟩
  refine .v rfl rfl rfl rfl (ai rfl xG mg rfl) ?_
  refine .v rfl rfl rfl rfl (av H149 (i:=2) rfl rfl (aC ji rfl)) ?_
  exact .nil
 intro i hw150
 simp only [List.mem_cons,List.not_mem_nil,or_false] at hw150
 rcases hw150 with rfl
 refine ⟨_,_,rfl,rfl,.step ?_⟩
 refine ae.yT H149 rfl (aA rfl rfl) (jl E n _ _ hzz122) (aD.eq .nil) rfl ?_
 rintro v151 S152 _ rfl H153
 refine ae.nil ⟨_,_,_,rfl,(fun _ ht=>by cases ht; rfl),_,(.o (.o (.w v151 (.o (.o (.w (.d (.int .i64 z128)) (.w (Ev.gP [v151,(.d .aQ),(.d (.int .i64 z128))]) (.o (.n .nil))))))))),(fun _ ht=>by cases ht; exact ⟨_,rfl,.refl _⟩),?_⟩
 refine ⟨[8],[3,4,5,6],⟨by decide,by decide⟩,by kernel_rfl,?_,?_⟩
 ·
  refine .v rfl rfl rfl rfl (ai rfl xG mg rfl) ?_
  refine .v rfl rfl rfl rfl (av H153 (i:=3) rfl rfl (aC ji rfl)) ?_
  refine .cons rfl rfl rfl (.step ?_) ?_
  ·
   refine ae.ret rfl (aA rfl rfl) (aN E _ _ _ _ _ hzz128 _ _ (aD.eq (aD.eq (aD.eq .nil)))) rfl ?_
   exact ae.nil ⟨_,_,rfl,fun _ ht=>by cases ht; exact ⟨rfl,.refl _⟩⟩
  refine .v rfl rfl rfl rfl (bA (cs:=[v151,(.d .aQ),(.d (.int .i64 z128))]) vL rfl (mG) (bT rfl (pV H153 (i:=0) rfl) rfl rfl (bT rfl rfl rfl rfl rfl))) ?_
  exact .nil
 intro i hw156
 simp only [List.mem_cons,List.not_mem_nil,or_false] at hw156
 rcases hw156 with rfl
 refine ⟨_,_,rfl,rfl,.step ?_⟩
 refine ae.store H153 (i:=1) rfl rfl rfl rfl (gV _) rfl nC (gW _) Bn rfl rfl rfl (fun S157 H158=>?_)
 refine ae.nil ⟨_,.any,_,rfl,(fun _ ht=>by cases ht),_,(.q (.q (.w .any .nil))),(fun _ ht=>by cases ht),?_⟩
 refine ⟨rfl,[],by kernel_rfl,?_,_,rfl,?_⟩
 ·
  exact .nil
 exact ⟨⟨b147,z122,v151,z128⟩,_,_,S157,.refl _ _,.refl _,(aa.r rfl (aa.r rfl (aa.r rfl aa.nil))),H158.sl [2,3,0,1] rfl rfl,h⟩
set_option maxRecDepth 20000 in
set_option maxHeartbeats 4000000 in
theorem gp (n:Nat) (S0:St) (a1:(List au)) (fg3:Nat) (fc4:List AV) (p2:au→Option Bool) (hpp2:∀ S',fK S0 S'→S'.Wf→∀ (y0:au) (r:Bool),p2 y0=some r→dZ R cfg.P fg3 ([.d (aB y0)] ++ fc4) S' (fun o=>o=(none,.d (.bool r),S'))) (r:Int) (h:bP n a1 p2=some r):dZ R cfg.P 43 [.d (.sl ((a1).map aB) false),.fn fg3 fc4] S0 (fun o=>o=(none,.d (.int .i64 r),S0)):=by
 unfold bP at h
 refine SpecS.of_wp (C:=cfg) Tryd.func43 rfl Ml rfl (fun wf0=>?_)
 have H0:Has S0 S0 []:=Has.start wf0
 refine ax.seq ?_
 refine ax.region E.obj rfl ?_
 refine ae.val rfl (aj rfl) rfl ?_
 refine ae.nil ?_
 refine ax.seq ?_
 refine ax.seq ?_
 refine ax.region E.obj rfl ?_
 refine ae.val rfl (ah rfl) rfl ?_
 refine ae.val rfl (bz rfl uL) rfl ?_
 refine ae.val rfl (ah rfl) rfl ?_
 refine ae.nil ?_
 refine ax.block ?_
 refine nR.start (B:=S0) (α:=Int) (fun k a=>aS a1 p2 k a=some r) (fun a=>[(0,(.d (.sl ((a1).map aB) false))),(1,(.fn fg3 fc4)),(7,(.d (.int .i64 ((a1).length:Int)))),(8,(.d (.int .i64 a)))]) (fun a=>[]) ?_ ?_ n ⟨0,_,_,S0,.refl _ _,.refl _,(aa.r rfl (aa.r rfl (aa.r rfl (aa.r rfl aa.nil)))),H0.sl [] rfl rfl,h⟩
 ·
  intro a h; simp [aS] at h
 intro k13 x12 S10 H11 h
 replace h:aS a1 p2 (k13 + 1) x12=some r:=h
 replace H11:Has S0 S10 []:=H11
 unfold aS at h
 refine ax.seq ?_
 refine ax.region E.obj rfl ?_
 refine ae.val rfl (ay rfl rfl bQ) rfl ?_
 refine ae.nil ?_
 refine ax.seq ?_
 refine ax.cond rfl (fun hb14=>?_) (fun hb14=>?_)
 ·
  replace h:=dK hb14 h
  refine ax.skip ?_
  refine ax.seq ?_
  refine ax.block ?_
  refine ax.seq ?_
  refine ax.region E.obj rfl ?_
  refine ae.val rfl (ah rfl) rfl ?_
  refine ae.val rfl (aj rfl) rfl ?_
  refine ae.nil ?_
  refine ax.seq ?_
  refine ax.region E.obj rfl ?_
  refine ae.val rfl (ah rfl) rfl ?_
  refine ae.val rfl (ah rfl) rfl ?_
  refine ae.val rfl (ah rfl) rfl ?_
  obtain ⟨z15,hzz15,h⟩:=bind_some h
  refine ae.val rfl (df rfl rfl (dQ (enc:=aB) hzz15 pO oL ((au.len _).trans kM.symm))) rfl ?_
  refine ae.val rfl (bD rfl (au.jO Da kM)) rfl ?_
  obtain ⟨z16,hzz16,h⟩:=bind_some h
  refine ae.ret rfl (tH rfl rfl) (hpp2 _ H11.keeps H11.wf _ _ hzz16) rfl ?_
  refine ae.nil ?_
  refine ax.cond rfl (fun hb17=>?_) (fun hb17=>?_)
  ·
   replace h:=dK hb17 h
   refine ax.seq ?_
   refine ax.region E.obj rfl ?_
   refine ae.val rfl (ah rfl) rfl ?_
   refine ae.val rfl (aj rfl) rfl ?_
   refine ae.nil ?_
   have hr:=Option.some.inj h
   subst hr
   exact ax.ret ⟨_,rfl,rfl,H11.keeps,fE (aD.eq .nil)⟩
  replace h:=dJ hb17 h
  refine ax.skip ?_
  refine ax.region E.obj rfl ?_
  refine ae.val rfl (ay rfl rfl cu) rfl ?_
  refine ae.val rfl (ah rfl) rfl ?_
  refine ae.nil ?_
  exact ⟨(IntKind.wrap .i64 (x12 + 1)),_,_,S10,.refl _ _,.refl _,(aa.r rfl (aa.r rfl (aa.r rfl (aa.r rfl aa.nil)))),H11.sl [] rfl rfl,h⟩
 replace h:=dJ hb14 h
 refine ax.exit ?_
 refine ax.seq ?_
 refine ax.region E.obj rfl ?_
 refine ae.val rfl (aj rfl) rfl ?_
 refine ae.nil ?_
 have hr:=Option.some.inj h
 subst hr
 exact ax.ret ⟨_,rfl,rfl,H11.keeps,fE (aD.eq .nil)⟩
set_option maxRecDepth 20000 in
set_option maxHeartbeats 4000000 in
theorem iR (n:Nat) (S0:St) (a1:(List au)) (fg3:Nat) (fc4:List AV) (p2:au→Option Bool) (hpp2:∀ S',fK S0 S'→S'.Wf→∀ (y0:au) (r:Bool),p2 y0=some r→dZ R cfg.P fg3 ([.d (aB y0)] ++ fc4) S' (fun o=>o=(none,.d (.bool r),S'))) (r:Bool) (h:dC n a1 p2=some r):dZ R cfg.P 19 [.d (.sl ((a1).map aB) false),.fn fg3 fc4] S0 (fun o=>o=(none,.d (.bool r),S0)):=by
 unfold dC at h
 refine SpecS.of_wp (C:=cfg) Tryd.func19 rfl K9 rfl (fun wf0=>?_)
 have H0:Has S0 S0 []:=Has.start wf0
 refine ax.seq ?_
 refine ax.region E.obj rfl ?_
 refine ae.val rfl (aj rfl) rfl ?_
 refine ae.nil ?_
 refine ax.seq ?_
 refine ax.region E.obj rfl ?_
 refine ae.val rfl (ah rfl) rfl ?_
 refine ae.val rfl (ah rfl) rfl ?_
 obtain ⟨z6,hzz6,h⟩:=bind_some h
 refine ae.ret rfl (aA rfl rfl) (dZ.sP (gp E n S0 _ _ _ p2 (fun S' hk hw y5 r hr=>hpp2 S' (H0.keeps.trans hk) hw y5 r hr) _ hzz6) (.cons (.refl _) (.cons (.refl _) .nil))) rfl ?_
 refine ae.val rfl (ay rfl rfl gM) rfl ?_
 refine ae.val rfl (aj rfl) rfl ?_
 refine ae.nil ?_
 have hr:=Option.some.inj h
 subst hr
 exact ax.ret ⟨_,rfl,rfl,H0.keeps,fE (aD.eq .nil)⟩
set_option maxRecDepth 20000 in
set_option maxHeartbeats 4000000 in
theorem vB (n:Nat) (a1:au) (a2:Int) (S0:St) (b3:Nat) (hb4:S0.H.get b3=some (.cells 0 [(.d (.int .i64 a2))])) (r:Bool) (h:kX n a1 a2=some r):dZ R cfg.P 20 [.d (aB a1),.ptr b3 0 0] S0 (fun o=>o=(none,.d (.bool r),S0)):=by
 unfold kX at h
 refine SpecS.of_wp (C:=cfg) Tryd.func20 rfl nm20 rfl (fun wf0=>?_)
 have H0:Has S0 S0 []:=Has.start wf0
 refine ax.seq ?_
 refine ax.region E.obj rfl ?_
 refine ae.box H0 rfl rfl rfl (au.bu _) rfl (fun b5 S6 H7=>?_)
 refine ae.val rfl (aj rfl) rfl ?_
 refine ae.nil ?_
 refine ax.seq ?_
 refine ax.region E.obj rfl ?_
 refine ae.val rfl (ai rfl yQ mg rfl) rfl ?_
 refine ae.val rfl (av H7 (i:=0) rfl rfl (aC ji rfl)) rfl ?_
 refine ae.val rfl (uh H7 hb4 rfl (aC ji rfl)) rfl ?_
 refine ae.val rfl (ay rfl rfl dS) rfl ?_
 refine ae.val rfl (aj rfl) rfl ?_
 refine ae.nil ?_
 have hr:=Option.some.inj h
 subst hr
 exact ax.ret ⟨_,rfl,rfl,H7.keeps,fE (aD.eq .nil)⟩
set_option maxRecDepth 20000 in
set_option maxHeartbeats 4000000 in
theorem j6 (n:Nat) (a1:dO) (a2:Int) (r:Bool) (h:jk n a1 a2=some r):bU R cfg.P 7 [(iN a1),(.int .i64 a2)] (.d (.bool r)):=by
 unfold jk at h
 refine bU.of_wp E.obj.toObjOk (C:=cfg) Tryd.func7 rfl Nl rfl ?_
 have H0:Has aI aI []:=Has.pure
 refine ax.seq ?_
 refine ax.region E.obj rfl ?_
 refine ae.box H0 rfl rfl rfl (dO.bu _) rfl (fun b3 S4 H5=>?_)
 refine ae.box H5 rfl rfl rfl rfl rfl (fun b6 S7 H8=>?_)
 refine ae.val rfl (aj rfl) rfl ?_
 refine ae.nil ?_
 refine ax.seq ?_
 refine ax.region E.obj rfl ?_
 refine ae.val rfl (ai rfl kP su rfl) rfl ?_
 refine ae.val rfl (av H8 (i:=1) rfl rfl (aC tX rfl)) rfl ?_
 refine ae.val rfl (pR rfl) rfl ?_
 obtain ⟨z10,hzz10,h⟩:=bind_some h
 refine ae.ret rfl (aA rfl rfl) (dZ.sP (iR E n S7 _ _ _ (fun y9=>kX n y9 a2) (fun S' hk hw y9 r hr=>vB E n y9 a2 S' _ (hk.H _ _ (H8.at (i:=0) rfl)) r hr) _ hzz10) (.cons (.refl _) (.cons (.refl _) .nil))) rfl ?_
 refine ae.val rfl (aj rfl) rfl ?_
 refine ae.nil ?_
 have hr:=Option.some.inj h
 subst hr
 exact ax.ret ⟨_,rfl,rfl,fE (aD.eq .nil)⟩
set_option maxRecDepth 20000 in
set_option maxHeartbeats 4000000 in
theorem uY (n:Nat) (a1:Str) (r:Bool) (h:fQ n a1=some r):bU R cfg.P 52 [(.str a1)] (.d (.bool r)):=by
 unfold fQ at h
 refine bU.of_wp E.obj.toObjOk (C:=cfg) Tryd.func52 rfl LQ rfl ?_
 have H0:Has aI aI []:=Has.pure
 refine ax.seq ?_
 refine ax.region E.obj rfl ?_
 refine ae.val rfl (aj rfl) rfl ?_
 refine ae.nil ?_
 refine ax.seq ?_
 refine ax.region E.obj rfl ?_
 refine ae.val rfl (ah rfl) rfl ?_
 refine ae.val rfl (ay rfl rfl zY) rfl ?_
 refine ae.val rfl (ah rfl) rfl ?_
 refine ae.bL 4 9 (.d (.bool ((!(a1 == [])) && (decide (((a1).length:Int) ≤ 16))))) ?_ ?_
 ·
  rcases Bool.eq_false_or_eq_true ((!(a1 == []))) with hB2 | hB2
  ·
   refine ae.bool hB2 ?_
   refine ae.val rfl (ah rfl) rfl ?_
   refine ae.val rfl (rC rfl (zT Lb) rfl) rfl ?_
   refine ae.val rfl (ay rfl rfl oK) rfl ?_
   refine ae.val rfl (az (b:=true) rfl rfl) rfl ?_
   exact ae.nil ⟨_,rfl,(aa.put (aa.push rfl (aa.push rfl (aa.push rfl (aa.put (.refl _) (Less.eq (by rw [hB2])))))) (Less.eq (by rw [hB2]; rw [Bool.true_and])))⟩
  refine ae.bool hB2 ?_
  refine ae.no rfl rfl ?_
  refine ae.no rfl rfl ?_
  refine ae.no rfl rfl ?_
  refine ae.val rfl (az (b:=false) rfl rfl) rfl ?_
  exact ae.nil ⟨_,rfl,(aa.put (aa.push rfl (aa.push rfl (aa.push rfl (aa.put (.refl _) (Less.eq (by rw [hB2])))))) (Less.eq (by rw [hB2]; rw [Bool.false_and])))⟩
 refine ae.val rfl (ah rfl) rfl ?_
 obtain ⟨z4,hzz4,h⟩:=bind_some h
 refine ae.bL 4 14 (.d (.bool z4)) ?_ ?_
 ·
  rcases Bool.eq_false_or_eq_true (((!(a1 == [])) && (decide (((a1).length:Int) ≤ 16)))) with hB3 | hB3
  ·
   refine ae.bool hB3 ?_
   replace hzz4:=dK hB3 hzz4
   refine ae.val rfl (ah rfl) rfl ?_
   obtain ⟨z5,hzz5,hzz4⟩:=bind_some hzz4
   refine ae.ret rfl (aA rfl rfl) (E.strings_Trim_ok _ _ _ _ hzz5 _ _ (aD.eq (aD.eq .nil))) rfl ?_
   refine ae.val rfl (ay rfl rfl nP) rfl ?_
   refine ae.val rfl (az (b:=true) rfl rfl) rfl ?_
   cases hzz4
   exact ae.nil ⟨_,rfl,(aa.put (aa.push rfl (aa.push rfl (aa.push rfl (aa.put (.refl _) (Less.eq (by rw [hB3])))))) (.refl _))⟩
  refine ae.bool hB3 ?_
  refine ae.no rfl rfl ?_
  refine ae.no rfl rfl ?_
  refine ae.no rfl rfl ?_
  refine ae.val rfl (az (b:=false) rfl rfl) rfl ?_
  replace hzz4:=dJ hB3 hzz4
  cases hzz4
  exact ae.nil ⟨_,rfl,(aa.put (aa.push rfl (aa.push rfl (aa.push rfl (aa.put (.refl _) (Less.eq (by rw [hB3])))))) (.refl _))⟩
 refine ae.val rfl (aj rfl) rfl ?_
 refine ae.nil ?_
 have hr:=Option.some.inj h
 subst hr
 exact ax.ret ⟨_,rfl,rfl,fE (aD.eq .nil)⟩
set_option maxRecDepth 20000 in
set_option maxHeartbeats 4000000 in
theorem tV (n:Nat) (a1:Seg) (a2:Seg) (S0:St) (b3:Nat) (hb4:S0.H.get b3=some (.cells 0 [(.d (.int .i64 a2.Kind)),(.d (.str a2.Text))])) (r:Bool) (h:iL n a1 a2=some r):dZ R cfg.P 53 [.d (bC a1),.ptr b3 0 0] S0 (fun o=>o=(none,.d (.bool r),S0)):=by
 unfold iL at h
 refine SpecS.of_wp (C:=cfg) Tryd.func53 rfl M5 rfl (fun wf0=>?_)
 have H0:Has S0 S0 []:=Has.start wf0
 refine ax.seq ?_
 refine ax.region E.obj rfl ?_
 refine ae.box H0 rfl rfl rfl (Seg.bu _) rfl (fun b5 S6 H7=>?_)
 refine ae.val rfl (aj rfl) rfl ?_
 refine ae.nil ?_
 refine ax.seq ?_
 refine ax.region E.obj rfl ?_
 refine ae.val rfl (ai rfl ui mg rfl) rfl ?_
 refine ae.val rfl (av H7 (i:=0) rfl rfl (aC ji rfl)) rfl ?_
 refine ae.val rfl (ay rfl rfl jA) rfl ?_
 refine ae.val rfl (ah rfl) rfl ?_
 refine ae.bL 6 13 (.d (.bool ((a1.Kind != 0) && (a1.Text == a2.Text)))) ?_ ?_
 ·
  rcases Bool.eq_false_or_eq_true ((a1.Kind != 0)) with hB8 | hB8
  ·
   refine ae.bool hB8 ?_
   refine ae.val rfl (ai rfl Dt Bz rfl) rfl ?_
   refine ae.val rfl (av H7 (i:=0) rfl rfl (aC vW rfl)) rfl ?_
   refine ae.val rfl (ai rfl Dt Bz rfl) rfl ?_
   refine ae.val rfl (uh H7 hb4 rfl (aC vW rfl)) rfl ?_
   refine ae.val rfl (ay rfl rfl nP) rfl ?_
   refine ae.val rfl (az (b:=true) rfl rfl) rfl ?_
   exact ae.nil ⟨_,rfl,(aa.put (aa.push rfl (aa.push rfl (aa.push rfl (aa.push rfl (aa.push rfl (aa.put (.refl _) (Less.eq (by rw [hB8])))))))) (Less.eq (by rw [hB8]; rw [Bool.true_and])))⟩
  refine ae.bool hB8 ?_
  refine ae.no rfl rfl ?_
  refine ae.no rfl rfl ?_
  refine ae.no rfl rfl ?_
  refine ae.no rfl rfl ?_
  refine ae.no rfl rfl ?_
  refine ae.val rfl (az (b:=false) rfl rfl) rfl ?_
  exact ae.nil ⟨_,rfl,(aa.put (aa.push rfl (aa.push rfl (aa.push rfl (aa.push rfl (aa.push rfl (aa.put (.refl _) (Less.eq (by rw [hB8])))))))) (Less.eq (by rw [hB8]; rw [Bool.false_and])))⟩
 refine ae.val rfl (aj rfl) rfl ?_
 refine ae.nil ?_
 have hr:=Option.some.inj h
 subst hr
 exact ax.ret ⟨_,rfl,rfl,H7.keeps,fE (aD.eq .nil)⟩
set_option maxRecDepth 20000 in
set_option maxHeartbeats 4000000 in
theorem kI (n:Nat) (S0:St) (a1:(List Seg)) (fg3:Nat) (fc4:List AV) (p2:Seg→Option Bool) (hpp2:∀ S',fK S0 S'→S'.Wf→∀ (y0:Seg) (r:Bool),p2 y0=some r→dZ R cfg.P fg3 ([.d (bC y0)] ++ fc4) S' (fun o=>o=(none,.d (.bool r),S'))) (r:Int) (h:eF n a1 p2=some r):dZ R cfg.P 68 [.d (.sl ((a1).map bC) false),.fn fg3 fc4] S0 (fun o=>o=(none,.d (.int .i64 r),S0)):=by
 unfold eF at h
 refine SpecS.of_wp (C:=cfg) Tryd.func68 rfl M0 rfl (fun wf0=>?_)
 have H0:Has S0 S0 []:=Has.start wf0
 refine ax.seq ?_
 refine ax.region E.obj rfl ?_
 refine ae.val rfl (aj rfl) rfl ?_
 refine ae.nil ?_
 refine ax.seq ?_
 refine ax.seq ?_
 refine ax.region E.obj rfl ?_
 refine ae.val rfl (ah rfl) rfl ?_
 refine ae.val rfl (bz rfl ES) rfl ?_
 refine ae.val rfl (ah rfl) rfl ?_
 refine ae.nil ?_
 refine ax.block ?_
 refine nR.start (B:=S0) (α:=Int) (fun k a=>aX a1 p2 k a=some r) (fun a=>[(0,(.d (.sl ((a1).map bC) false))),(1,(.fn fg3 fc4)),(7,(.d (.int .i64 ((a1).length:Int)))),(8,(.d (.int .i64 a)))]) (fun a=>[]) ?_ ?_ n ⟨0,_,_,S0,.refl _ _,.refl _,(aa.r rfl (aa.r rfl (aa.r rfl (aa.r rfl aa.nil)))),H0.sl [] rfl rfl,h⟩
 ·
  intro a h; simp [aX] at h
 intro k13 x12 S10 H11 h
 replace h:aX a1 p2 (k13 + 1) x12=some r:=h
 replace H11:Has S0 S10 []:=H11
 unfold aX at h
 refine ax.seq ?_
 refine ax.region E.obj rfl ?_
 refine ae.val rfl (ay rfl rfl bQ) rfl ?_
 refine ae.nil ?_
 refine ax.seq ?_
 refine ax.cond rfl (fun hb14=>?_) (fun hb14=>?_)
 ·
  replace h:=dK hb14 h
  refine ax.skip ?_
  refine ax.seq ?_
  refine ax.block ?_
  refine ax.seq ?_
  refine ax.region E.obj rfl ?_
  refine ae.val rfl (ah rfl) rfl ?_
  refine ae.val rfl (aj rfl) rfl ?_
  refine ae.nil ?_
  refine ax.seq ?_
  refine ax.region E.obj rfl ?_
  refine ae.val rfl (ah rfl) rfl ?_
  refine ae.val rfl (ah rfl) rfl ?_
  refine ae.val rfl (ah rfl) rfl ?_
  obtain ⟨z15,hzz15,h⟩:=bind_some h
  refine ae.val rfl (df rfl rfl (dQ (enc:=bC) hzz15 wW Fz ((Seg.len _).trans qc.symm))) rfl ?_
  refine ae.val rfl (bD rfl (Seg.jO zm qc)) rfl ?_
  obtain ⟨z16,hzz16,h⟩:=bind_some h
  refine ae.ret rfl (tH rfl rfl) (hpp2 _ H11.keeps H11.wf _ _ hzz16) rfl ?_
  refine ae.nil ?_
  refine ax.cond rfl (fun hb17=>?_) (fun hb17=>?_)
  ·
   replace h:=dK hb17 h
   refine ax.seq ?_
   refine ax.region E.obj rfl ?_
   refine ae.val rfl (ah rfl) rfl ?_
   refine ae.val rfl (aj rfl) rfl ?_
   refine ae.nil ?_
   have hr:=Option.some.inj h
   subst hr
   exact ax.ret ⟨_,rfl,rfl,H11.keeps,fE (aD.eq .nil)⟩
  replace h:=dJ hb17 h
  refine ax.skip ?_
  refine ax.region E.obj rfl ?_
  refine ae.val rfl (ay rfl rfl cu) rfl ?_
  refine ae.val rfl (ah rfl) rfl ?_
  refine ae.nil ?_
  exact ⟨(IntKind.wrap .i64 (x12 + 1)),_,_,S10,.refl _ _,.refl _,(aa.r rfl (aa.r rfl (aa.r rfl (aa.r rfl aa.nil)))),H11.sl [] rfl rfl,h⟩
 replace h:=dJ hb14 h
 refine ax.exit ?_
 refine ax.seq ?_
 refine ax.region E.obj rfl ?_
 refine ae.val rfl (aj rfl) rfl ?_
 refine ae.nil ?_
 have hr:=Option.some.inj h
 subst hr
 exact ax.ret ⟨_,rfl,rfl,H11.keeps,fE (aD.eq .nil)⟩
set_option maxRecDepth 20000 in
set_option maxHeartbeats 4000000 in
theorem jK (n:Nat) (S0:St) (a1:(List Seg)) (fg3:Nat) (fc4:List AV) (p2:Seg→Option Bool) (hpp2:∀ S',fK S0 S'→S'.Wf→∀ (y0:Seg) (r:Bool),p2 y0=some r→dZ R cfg.P fg3 ([.d (bC y0)] ++ fc4) S' (fun o=>o=(none,.d (.bool r),S'))) (r:Bool) (h:bV n a1 p2=some r):dZ R cfg.P 54 [.d (.sl ((a1).map bC) false),.fn fg3 fc4] S0 (fun o=>o=(none,.d (.bool r),S0)):=by
 unfold bV at h
 refine SpecS.of_wp (C:=cfg) Tryd.func54 rfl LY rfl (fun wf0=>?_)
 have H0:Has S0 S0 []:=Has.start wf0
 refine ax.seq ?_
 refine ax.region E.obj rfl ?_
 refine ae.val rfl (aj rfl) rfl ?_
 refine ae.nil ?_
 refine ax.seq ?_
 refine ax.region E.obj rfl ?_
 refine ae.val rfl (ah rfl) rfl ?_
 refine ae.val rfl (ah rfl) rfl ?_
 obtain ⟨z6,hzz6,h⟩:=bind_some h
 refine ae.ret rfl (aA rfl rfl) (dZ.sP (kI E n S0 _ _ _ p2 (fun S' hk hw y5 r hr=>hpp2 S' (H0.keeps.trans hk) hw y5 r hr) _ hzz6) (.cons (.refl _) (.cons (.refl _) .nil))) rfl ?_
 refine ae.val rfl (ay rfl rfl gM) rfl ?_
 refine ae.val rfl (aj rfl) rfl ?_
 refine ae.nil ?_
 have hr:=Option.some.inj h
 subst hr
 exact ax.ret ⟨_,rfl,rfl,H0.keeps,fE (aD.eq .nil)⟩
set_option maxRecDepth 20000 in
set_option maxHeartbeats 4000000 in
theorem qb (n:Nat) (a1:(List Seg)) (r:Bool) (h:gQ n a1=some r):bU R cfg.P 36 [(.sl ((a1).map bC) false)] (.d (.bool r)):=by
 unfold gQ at h
 refine bU.of_wp E.obj.toObjOk (C:=cfg) Tryd.func36 rfl L8 rfl ?_
 have H0:Has aI aI []:=Has.pure
 refine ax.seq ?_
 refine ax.region E.obj rfl ?_
 refine ae.val rfl (aj rfl) rfl ?_
 refine ae.nil ?_
 refine ax.seq ?_
 refine ax.seq ?_
 refine ax.region E.obj rfl ?_
 refine ae.val rfl (ah rfl) rfl ?_
 refine ae.val rfl (bz rfl ES) rfl ?_
 refine ae.val rfl (ay rfl rfl jb) rfl ?_
 refine ae.nil ?_
 refine ax.cond rfl (fun hb2=>?_) (fun hb2=>?_)
 ·
  replace h:=dK hb2 h
  refine ax.seq ?_
  refine ax.region E.obj rfl ?_
  refine ae.val rfl (aj rfl) rfl ?_
  refine ae.nil ?_
  have hr:=Option.some.inj h
  subst hr
  exact ax.ret ⟨_,rfl,rfl,fE (aD.eq .nil)⟩
 replace h:=dJ hb2 h
 refine ax.skip ?_
 refine ax.seq ?_
 refine ax.seq ?_
 refine ax.region E.obj rfl ?_
 refine ae.val rfl (ah rfl) rfl ?_
 refine ae.val rfl (bz rfl ES) rfl ?_
 refine ae.val rfl (ah rfl) rfl ?_
 refine ae.nil ?_
 refine ax.block ?_
 refine nR.start (B:=aI) (α:=Int) (fun k a=>dN n a1 k a=some r) (fun a=>[(0,(.d (.sl ((a1).map bC) false))),(10,(.d (.sl ((a1).map bC) false))),(11,(.d (.int .i64 ((a1).length:Int)))),(12,(.d (.int .i64 a)))]) (fun a=>[]) ?_ ?_ n ⟨0,_,_,aI,.refl _ _,.refl _,(aa.r rfl (aa.r rfl (aa.r rfl (aa.r rfl aa.nil)))),H0.sl [] rfl rfl,h⟩
 ·
  intro a h; simp [dN] at h
 intro k11 x10 S8 H9 h
 replace h:dN n a1 (k11 + 1) x10=some r:=h
 replace H9:Has aI S8 []:=H9
 unfold dN at h
 refine ax.seq ?_
 refine ax.region E.obj rfl ?_
 refine ae.val rfl (ay rfl rfl bQ) rfl ?_
 refine ae.nil ?_
 refine ax.seq ?_
 refine ax.cond rfl (fun hb12=>?_) (fun hb12=>?_)
 ·
  replace h:=dK hb12 h
  refine ax.skip ?_
  refine ax.seq ?_
  refine ax.block ?_
  refine ax.seq ?_
  refine ax.region E.obj rfl ?_
  refine ae.val rfl (ah rfl) rfl ?_
  obtain ⟨z13,hzz13,h⟩:=bind_some h
  refine ae.val rfl (df rfl rfl (dQ (enc:=bC) hzz13 wW Fz ((Seg.len _).trans qc.symm))) rfl ?_
  refine ae.val rfl (bD rfl (Seg.jO zm qc)) rfl ?_
  refine ae.alloc H9 rfl L9 wU rfl rfl (fun b14 S15 H16=>?_)
  refine ae.val rfl (aj rfl) rfl ?_
  refine ae.store H16 (i:=0) rfl rfl rfl rfl (Seg.bu _) rfl qc rfl Fz rfl rfl rfl (fun S17 H18=>?_)
  refine ae.nil ?_
  refine ax.seq ?_
  refine ax.region E.obj rfl ?_
  refine ae.val rfl (ah rfl) rfl ?_
  refine ae.val rfl (ah rfl) rfl ?_
  refine ae.val rfl (bz rfl ES) rfl ?_
  refine ae.val rfl (ay rfl rfl ig) rfl ?_
  refine ae.val rfl (ay rfl rfl dS) rfl ?_
  refine ae.val rfl (aj rfl) rfl ?_
  refine ae.nil ?_
  refine ax.seq ?_
  refine ax.block ?_
  refine ax.seq ?_
  refine ax.region E.obj rfl ?_
  refine ae.val rfl (ai rfl Dt Bz rfl) rfl ?_
  refine ae.val rfl (av H18 (i:=0) rfl rfl (aC vW rfl)) rfl ?_
  obtain ⟨z19,hzz19,h⟩:=bind_some h
  refine ae.ret rfl (aA rfl rfl) (uY E _ _ _ hzz19 _ _ (aD.eq .nil)) rfl ?_
  refine ae.val rfl (fP rfl) rfl ?_
  refine ae.val rfl (ah rfl) rfl ?_
  refine ae.bL 4 31 (.d (.bool ((!z19) || (decide (z13.Kind < 0))))) ?_ ?_
  ·
   rcases Bool.eq_false_or_eq_true ((!z19)) with hB20 | hB20
   ·
    refine ae.bool hB20 ?_
    refine ae.no rfl rfl ?_
    refine ae.no rfl rfl ?_
    refine ae.no rfl rfl ?_
    refine ae.val rfl (az (b:=true) rfl rfl) rfl ?_
    exact ae.nil ⟨_,rfl,(aa.put (aa.push rfl (aa.push rfl (aa.push rfl (aa.put (.refl _) (Less.eq (by rw [hB20])))))) (Less.eq (by rw [hB20]; rw [Bool.true_or])))⟩
   refine ae.bool hB20 ?_
   refine ae.val rfl (ai rfl ui mg rfl) rfl ?_
   refine ae.val rfl (av H18 (i:=0) rfl rfl (aC ji rfl)) rfl ?_
   refine ae.val rfl (ay rfl rfl bQ) rfl ?_
   refine ae.val rfl (az (b:=false) rfl rfl) rfl ?_
   exact ae.nil ⟨_,rfl,(aa.put (aa.push rfl (aa.push rfl (aa.push rfl (aa.put (.refl _) (Less.eq (by rw [hB20])))))) (Less.eq (by rw [hB20]; rw [Bool.false_or])))⟩
  refine ae.val rfl (ah rfl) rfl ?_
  refine ae.bL 4 36 (.d (.bool (((!z19) || (decide (z13.Kind < 0))) || (decide (3 < z13.Kind))))) ?_ ?_
  ·
   rcases Bool.eq_false_or_eq_true (((!z19) || (decide (z13.Kind < 0)))) with hB21 | hB21
   ·
    refine ae.bool hB21 ?_
    refine ae.no rfl rfl ?_
    refine ae.no rfl rfl ?_
    refine ae.no rfl rfl ?_
    refine ae.val rfl (az (b:=true) rfl rfl) rfl ?_
    exact ae.nil ⟨_,rfl,(aa.put (aa.push rfl (aa.push rfl (aa.push rfl (aa.put (.refl _) (Less.eq (by rw [hB21])))))) (Less.eq (by rw [hB21]; rw [Bool.true_or])))⟩
   refine ae.bool hB21 ?_
   refine ae.val rfl (ai rfl ui mg rfl) rfl ?_
   refine ae.val rfl (av H18 (i:=0) rfl rfl (aC ji rfl)) rfl ?_
   refine ae.val rfl (ay rfl rfl jb) rfl ?_
   refine ae.val rfl (az (b:=false) rfl rfl) rfl ?_
   exact ae.nil ⟨_,rfl,(aa.put (aa.push rfl (aa.push rfl (aa.push rfl (aa.put (.refl _) (Less.eq (by rw [hB21])))))) (Less.eq (by rw [hB21]; rw [Bool.false_or])))⟩
  refine ae.val rfl (aj rfl) rfl ?_
  refine ae.nil ?_
  refine ax.cond rfl (fun hb22=>?_) (fun hb22=>?_)
  ·
   replace h:=dK hb22 h
   refine ax.seq ?_
   refine ax.region E.obj rfl ?_
   refine ae.val rfl (aj rfl) rfl ?_
   refine ae.nil ?_
   have hr:=Option.some.inj h
   subst hr
   exact ax.ret ⟨_,rfl,rfl,fE (aD.eq .nil)⟩
  replace h:=dJ hb22 h
  refine ax.seq ?_
  refine ax.region E.obj rfl ?_
  refine ae.val rfl (ai rfl ui mg rfl) rfl ?_
  refine ae.val rfl (av H18 (i:=0) rfl rfl (aC ji rfl)) rfl ?_
  refine ae.val rfl (ay rfl rfl gM) rfl ?_
  refine ae.val rfl (ah rfl) rfl ?_
  refine ae.bL 3 44 (.d (.bool ((decide (2 ≤ z13.Kind)) && (!(x10 == (IntKind.wrap .i64 (((a1).length:Int) - 1))))))) ?_ ?_
  ·
   rcases Bool.eq_false_or_eq_true ((decide (2 ≤ z13.Kind))) with hB23 | hB23
   ·
    refine ae.bool hB23 ?_
    refine ae.val rfl (ah rfl) rfl ?_
    refine ae.val rfl (fP rfl) rfl ?_
    refine ae.val rfl (az (b:=true) rfl rfl) rfl ?_
    exact ae.nil ⟨_,rfl,(aa.put (aa.push rfl (aa.push rfl (aa.put (.refl _) (Less.eq (by rw [hB23]))))) (Less.eq (by rw [hB23]; rw [Bool.true_and])))⟩
   refine ae.bool hB23 ?_
   refine ae.no rfl rfl ?_
   refine ae.no rfl rfl ?_
   refine ae.val rfl (az (b:=false) rfl rfl) rfl ?_
   exact ae.nil ⟨_,rfl,(aa.put (aa.push rfl (aa.push rfl (aa.put (.refl _) (Less.eq (by rw [hB23]))))) (Less.eq (by rw [hB23]; rw [Bool.false_and])))⟩
  refine ae.val rfl (aj rfl) rfl ?_
  refine ae.nil ?_
  refine ax.cond rfl (fun hb24=>?_) (fun hb24=>?_)
  ·
   replace h:=dK hb24 h
   refine ax.seq ?_
   refine ax.region E.obj rfl ?_
   refine ae.val rfl (aj rfl) rfl ?_
   refine ae.nil ?_
   have hr:=Option.some.inj h
   subst hr
   exact ax.ret ⟨_,rfl,rfl,fE (aD.eq .nil)⟩
  replace h:=dJ hb24 h
  refine ax.skip ?_
  refine ax.seq ?_
  refine ax.region E.obj rfl ?_
  refine ae.val rfl (pR rfl) rfl ?_
  refine ae.val rfl (aj rfl) rfl ?_
  refine ae.nil ?_
  refine ax.seq ?_
  refine ax.region E.obj rfl ?_
  refine ae.val rfl (ai rfl ui mg rfl) rfl ?_
  refine ae.val rfl (av H18 (i:=0) rfl rfl (aC ji rfl)) rfl ?_
  refine ae.val rfl (ay rfl rfl jA) rfl ?_
  refine ae.val rfl (ah rfl) rfl ?_
  obtain ⟨z26,hzz26,h⟩:=bind_some h
  refine ae.bL 6 55 (.d (.bool z26)) ?_ ?_
  ·
   rcases Bool.eq_false_or_eq_true ((z13.Kind != 0)) with hB25 | hB25
   ·
    refine ae.bool hB25 ?_
    replace hzz26:=dK hB25 hzz26
    refine ae.val rfl (ah rfl) rfl ?_
    refine ae.val rfl (ah rfl) rfl ?_
    obtain ⟨z27,hzz27,hzz26⟩:=bind_some hzz26
    refine ae.val rfl (Dm rfl rfl wW L6 (fun z=>(Seg.len z).trans qc.symm) hzz27) rfl ?_
    refine ae.val rfl (ah rfl) rfl ?_
    obtain ⟨z29,hzz29,hzz26⟩:=bind_some hzz26
    refine ae.ret rfl (aA rfl rfl) (dZ.sP (jK E n S17 _ _ _ (fun y28=>iL n y28 z13) (fun S' hk hw y28 r hr=>tV E n y28 z13 S' _ (hk.H _ _ (H18.at (i:=0) rfl)) r hr) _ hzz29) (.cons (.refl _) (.cons (.refl _) .nil))) rfl ?_
    refine ae.val rfl (az (b:=true) rfl rfl) rfl ?_
    cases hzz26
    exact ae.nil ⟨_,rfl,(aa.put (aa.push rfl (aa.push rfl (aa.push rfl (aa.push rfl (aa.push rfl (aa.put (.refl _) (Less.eq (by rw [hB25])))))))) (.refl _))⟩
   refine ae.bool hB25 ?_
   refine ae.no rfl rfl ?_
   refine ae.no rfl rfl ?_
   refine ae.no rfl rfl ?_
   refine ae.no rfl rfl ?_
   refine ae.no rfl rfl ?_
   refine ae.val rfl (az (b:=false) rfl rfl) rfl ?_
   replace hzz26:=dJ hB25 hzz26
   cases hzz26
   exact ae.nil ⟨_,rfl,(aa.put (aa.push rfl (aa.push rfl (aa.push rfl (aa.push rfl (aa.push rfl (aa.put (.refl _) (Less.eq (by rw [hB25])))))))) (.refl _))⟩
  refine ae.nil ?_
  refine ax.cond rfl (fun hb30=>?_) (fun hb30=>?_)
  ·
   replace h:=dK hb30 h
   refine ax.seq ?_
   refine ax.region E.obj rfl ?_
   refine ae.val rfl (aj rfl) rfl ?_
   refine ae.nil ?_
   have hr:=Option.some.inj h
   subst hr
   exact ax.ret ⟨_,rfl,rfl,fE (aD.eq .nil)⟩
  replace h:=dJ hb30 h
  refine ax.skip ?_
  refine ax.region E.obj rfl ?_
  refine ae.val rfl (ay rfl rfl cu) rfl ?_
  refine ae.val rfl (ah rfl) rfl ?_
  refine ae.nil ?_
  exact ⟨(IntKind.wrap .i64 (x10 + 1)),_,_,S17,.refl _ _,.refl _,(aa.r rfl (aa.r rfl (aa.r rfl (aa.r rfl aa.nil)))),H18.sl [] rfl rfl,h⟩
 replace h:=dJ hb12 h
 refine ax.exit ?_
 refine ax.seq ?_
 refine ax.region E.obj rfl ?_
 refine ae.val rfl (aj rfl) rfl ?_
 refine ae.nil ?_
 have hr:=Option.some.inj h
 subst hr
 exact ax.ret ⟨_,rfl,rfl,fE (aD.eq .nil)⟩
set_option maxRecDepth 20000 in
set_option maxHeartbeats 4000000 in
theorem nL (n:Nat) (a1:(List Int)) (r:(List Int)) (h:fO n a1=some r) (w2:AV):CW R cfg.P 69 [w2] [.row 1 w2 ((a1).map (D.int .i64))] (fun v l=>l=[.row 1 w2 ((r).map (D.int .i64))]):=by
 unfold fO at h
 refine CW.of_wp (C:=Ai) Tryd.func69 rfl Mx rfl (fun B0 S0 H0=>?_)
 replace H0:Has B0 S0 [.row 1 w2 ((a1).map (D.int .i64))]:=H0
 refine ax.seq ?_
 refine ax.region (nJ E) rfl ?_
 refine ae.val rfl (ah rfl) rfl ?_
 refine ae.val rfl (jc H0 (i:=0) rfl rfl xS) rfl ?_
 refine ae.val rfl (ay rfl rfl ig) rfl ?_
 refine ae.val rfl (aj rfl) rfl ?_
 refine ae.val rfl (aj rfl) rfl ?_
 refine ae.nil ?_
 refine ax.block ?_
 refine nR.start (B:=B0) (α:=(List Int) × Int × Int) (fun k a=>bH  k a.1 a.2.1 a.2.2=some r) (fun a=>[(0,w2),(2,(.d (.int .i64 a.2.1))),(3,(.d (.int .i64 a.2.2)))]) (fun a=>[.row 1 w2 ((a.1).map (D.int .i64))]) ?_ ?_ n ⟨⟨a1,0,(IntKind.wrap .i64 (((a1).length:Int) - 1))⟩,_,_,S0,.refl _ _,.refl _,(aa.r rfl (aa.r rfl (aa.r rfl aa.nil))),H0.sl [0] rfl rfl,h⟩
 ·
  intro a h; simp [bH] at h
 intro k15 a S10 H11 h
 obtain ⟨x12,x13,x14⟩:=a
 replace h:bH  (k15 + 1) x12 x13 x14=some r:=h
 replace H11:Has B0 S10 [.row 1 w2 ((x12).map (D.int .i64))]:=H11
 unfold bH at h
 refine ax.seq ?_
 refine ax.seq ?_
 refine ax.region (nJ E) rfl ?_
 refine ae.val rfl (ah rfl) rfl ?_
 refine ae.val rfl (ah rfl) rfl ?_
 refine ae.val rfl (ay rfl rfl bQ) rfl ?_
 refine ae.nil ?_
 refine ax.cond rfl (fun hb16=>?_) (fun hb16=>?_)
 ·
  replace h:=dK hb16 h
  refine ax.skip ?_
  refine ax.seq ?_
  refine ax.block ?_
  obtain ⟨z17,hzz17,h⟩:=bind_some h
  obtain ⟨z18,hzz18,h⟩:=bind_some h
  obtain ⟨z21,hzz21,h⟩:=bind_some h
  refine ax.Ct (nJ E) rO Ls [(0,none),(2,none),(3,none)] (by kernel_rfl) 2 [13,15] (by decide) [some w2,some (.d (.int .i64 x13)),some w2,some (.d (.int .i64 x14)),some w2,some (.d (.int .i64 x14)),some (jT w2 (Int.toNat x14) 0),some (.d (.int .i64 z17)),some w2,some (.d (.int .i64 x13)),some (jT w2 (Int.toNat x13) 0),some (.d (.int .i64 z18)),some (jT w2 (Int.toNat x13) 0),none,none,none] ?_
  refine ⟨[13],[0,1,2,3,4,5,6,7,8,9,10,11,12],⟨by decide,by decide⟩,by kernel_rfl,?_,?_⟩
  ·
   refine .v rfl rfl rfl rfl (ah rfl) ?_
   refine .v rfl rfl rfl rfl (ah rfl) ?_
   refine .v rfl rfl rfl rfl (ah rfl) ?_
   refine .v rfl rfl rfl rfl (ah rfl) ?_
   refine .v rfl rfl rfl rfl (ah rfl) ?_
   refine .v rfl rfl rfl rfl (ah rfl) ?_
   refine .cons rfl rfl rfl (.step ?_) ?_
   ·
    refine ae.iA (enc:=(D.int .i64)) H11 rfl (i:=0) rfl rfl rfl hzz17 ku zi (((fun _=>rfl) _).trans pI.symm) rfl ?_
    exact ae.nil ⟨_,_,rfl,fun _ ht=>by cases ht; exact ⟨rfl,.refl _⟩⟩
   refine .cons rfl rfl rfl (.step ?_) ?_
   ·
    refine ae.lQ H11 rfl (i:=0) rfl hzz17 rfl (dG ji rfl) rfl ?_
    exact ae.nil ⟨_,_,rfl,fun _ ht=>by cases ht; exact ⟨rfl,.refl _⟩⟩
   refine .v rfl rfl rfl rfl (ah rfl) ?_
   refine .v rfl rfl rfl rfl (ah rfl) ?_
   refine .cons rfl rfl rfl (.step ?_) ?_
   ·
    refine ae.iA (enc:=(D.int .i64)) H11 rfl (i:=0) rfl rfl rfl hzz18 ku zi (((fun _=>rfl) _).trans pI.symm) rfl ?_
    exact ae.nil ⟨_,_,rfl,fun _ ht=>by cases ht; exact ⟨rfl,.refl _⟩⟩
   refine .cons rfl rfl rfl (.step ?_) ?_
   ·
    refine ae.lQ H11 rfl (i:=0) rfl hzz18 rfl (dG ji rfl) rfl ?_
    exact ae.nil ⟨_,_,rfl,fun _ ht=>by cases ht; exact ⟨rfl,.refl _⟩⟩
   refine .cons rfl rfl rfl (.step ?_) ?_
   ·
    refine ae.iA (enc:=(D.int .i64)) H11 rfl (i:=0) rfl rfl rfl hzz18 ku zi (((fun _=>rfl) _).trans pI.symm) rfl ?_
    exact ae.nil ⟨_,_,rfl,fun _ ht=>by cases ht; exact ⟨rfl,.refl _⟩⟩
   exact .nil
  intro i hw24
  simp only [List.mem_cons,List.not_mem_nil,or_false] at hw24
  rcases hw24 with rfl
  refine ⟨_,_,rfl,rfl,.step ?_⟩
  refine ae.jF (enc:=(D.int .i64)) (z':=z17) (cv:=[(.int .i64 z17)]) H11 rfl (i:=0) rfl hzz18 rfl rfl rfl (.cons (.refl _) .nil) pI rfl zi rfl rfl rfl (fun S25 H26=>?_)
  refine ae.nil ⟨_,.any,_,rfl,(fun _ ht=>by cases ht),_,(.q (.q (.q (.o (.w .any (.w (jT w2 (Int.toNat x14) 0) (.n .nil))))))),(fun _ ht=>by cases ht),?_⟩
  refine ⟨[15],[2,3,14],⟨by decide,by decide⟩,by kernel_rfl,?_,?_⟩
  ·
   refine .v rfl rfl rfl rfl (ah rfl) ?_
   refine .v rfl rfl rfl rfl (ah rfl) ?_
   refine .cons rfl rfl rfl (.step ?_) ?_
   ·
    refine ae.iA (enc:=(D.int .i64)) H26 rfl (i:=0) rfl rfl rfl hzz21 ku zi (((fun _=>rfl) _).trans pI.symm) rfl ?_
    exact ae.nil ⟨_,_,rfl,fun _ ht=>by cases ht; exact ⟨rfl,.refl _⟩⟩
   exact .nil
  intro i hw27
  simp only [List.mem_cons,List.not_mem_nil,or_false] at hw27
  rcases hw27 with rfl
  refine ⟨_,_,rfl,rfl,.step ?_⟩
  refine ae.jF (enc:=(D.int .i64)) (z':=z18) (cv:=[(.int .i64 z18)]) H26 rfl (i:=0) rfl hzz21 rfl rfl rfl (.cons (.refl _) .nil) pI rfl zi rfl rfl rfl (fun S28 H29=>?_)
  refine ae.nil ⟨_,.any,_,rfl,(fun _ ht=>by cases ht),_,(.q (.q (.q (.o (.o (.o (.w .any .nil))))))),(fun _ ht=>by cases ht),?_⟩
  refine ⟨rfl,[],by kernel_rfl,?_,_,rfl,?_⟩
  ·
   exact .nil
  refine ax.region (nJ E) rfl ?_
  refine ae.val rfl (ah rfl) rfl ?_
  refine ae.val rfl (ay rfl rfl cu) rfl ?_
  refine ae.val rfl (ah rfl) rfl ?_
  refine ae.val rfl (ay rfl rfl ig) rfl ?_
  refine ae.val rfl (aj rfl) rfl ?_
  refine ae.val rfl (aj rfl) rfl ?_
  refine ae.nil ?_
  exact ⟨⟨(jJ (jJ x12 x13 z17) x14 z18),(IntKind.wrap .i64 (x13 + 1)),(IntKind.wrap .i64 (x14 - 1))⟩,_,_,S28,.refl _ _,.refl _,(aa.r rfl (aa.r rfl (aa.r rfl aa.nil))),H29.sl [0] rfl rfl,h⟩
 replace h:=dJ hb16 h
 refine ax.exit ?_
 have hr:=Option.some.inj h
 subst hr
 exact ⟨_,rfl,rfl,_,_,_,.refl _,(.refl _),rfl,H11.sl [0] rfl rfl⟩
set_option maxRecDepth 20000 in
set_option maxHeartbeats 4000000 in
theorem xR (n:Nat) (a1:(List au)) (a2:Int) (r:(List Int)) (h:mZ n a1 a2=some r):bU R cfg.P 55 [(.sl ((a1).map aB) false),(.int .i64 a2)] (.d (.sl ((r).map (D.int .i64)) false)):=by
 unfold mZ at h
 refine bU.of_wp (nJ E).toObjOk (C:=Ai) Tryd.func55 rfl Li rfl ?_
 have H0:Has aI aI []:=Has.pure
 refine ax.seq ?_
 refine ax.region (nJ E) rfl ?_
 refine ae.val rfl (aj rfl) rfl ?_
 refine ae.nil ?_
 refine ax.seq ?_
 refine ax.region (nJ E) rfl ?_
 refine ae.val rfl (aj rfl) rfl ?_
 refine ae.nil ?_
 refine ax.join (B:=aI) (α:=(List Int) × AV) (fun a=>iG n a.1=some r) (fun a=>[(5,a.2)]) (fun a=>[.row 1 a.2 ((a.1).map (D.int .i64))]) ?_ ?_
 ·
  intro a S3 H4 h
  obtain ⟨x5,v6⟩:=a
  replace h:iG n x5=some r:=h
  replace H4:Has aI S3 [.row 1 v6 ((x5).map (D.int .i64))]:=H4
  unfold iG at h
  refine ax.seq ?_
  refine ax.region (nJ E) rfl ?_
  refine ae.val rfl (ah rfl) rfl ?_
  obtain ⟨z8,hzz8,h⟩:=bind_some h
  refine ae.Mj (ins:=[.row 1 v6 ((x5).map (D.int .i64))]) (more:=[]) (H4.sl [0] rfl rfl) rfl (aA rfl rfl) (nL E n _ _ hzz8 _) (.cons (.refl _) .nil) rfl ?_
  rintro _ S9 _ rfl H10
  replace H10:Has aI S9 [.row 1 v6 ((z8).map (D.int .i64))]:=H10
  refine ae.nil ?_
  refine ax.seq ?_
  refine ax.region (nJ E) rfl ?_
  refine ae.val rfl (ah rfl) rfl ?_
  refine ae.val rfl (aj rfl) rfl ?_
  refine ae.nil ?_
  obtain ⟨SF4,HF4,hgF4⟩:=H10.freeze (nJ E).toObjOk (i:=0) (l':=[]) rfl .nil
  refine ax.ghost (hgF4 _ _ [(4,(.d (.sl ((z8).map (D.int .i64)) false))),(5,(.d (.sl ((z8).map (D.int .i64)) false))),(28,(.d (.sl ((z8).map (D.int .i64)) false))),(30,(.d (.sl ((z8).map (D.int .i64)) false)))] (.it rfl (.it rfl (.it rfl (.it rfl .nil))))) ?_
  have hr:=Option.some.inj h
  subst hr
  exact ax.ret ⟨_,rfl,rfl,fE (aD.eq .nil)⟩
 refine ax.block ?_
 have H35:=H0.IV 1
 refine nR.start (B:=aI) (α:=Int × (List Int) × AV) (fun k a=>fC n a1 k a.1 a.2.1=some r) (fun a=>[(0,(.d (.sl ((a1).map aB) false))),(1,(.d (.int .i64 a.1))),(5,a.2.2)]) (fun a=>[.row 1 a.2.2 ((a.2.1).map (D.int .i64))]) ?_ ?_ n ⟨⟨a2,[],(.d .aQ)⟩,_,_,aI,.refl _ _,.refl _,(aa.r rfl (aa.r rfl (aa.r rfl aa.nil))),H35.sl [0] rfl rfl,h⟩
 ·
  intro a h; simp [fC] at h
 intro k23 a S18 H19 h
 obtain ⟨x20,x21,v22⟩:=a
 replace h:fC n a1 (k23 + 1) x20 x21=some r:=h
 replace H19:Has aI S18 [.row 1 v22 ((x21).map (D.int .i64))]:=H19
 unfold fC at h
 refine ax.seq ?_
 refine ax.seq ?_
 refine ax.region (nJ E) rfl ?_
 refine ae.val rfl (ah rfl) rfl ?_
 refine ae.val rfl (ay rfl rfl gM) rfl ?_
 refine ae.val rfl (ah rfl) rfl ?_
 refine ae.bL 5 14 (.d (.bool ((decide (0 ≤ x20)) && (decide (x20 < ((a1).length:Int)))))) ?_ ?_
 ·
  rcases Bool.eq_false_or_eq_true ((decide (0 ≤ x20))) with hB24 | hB24
  ·
   refine ae.bool hB24 ?_
   refine ae.val rfl (ah rfl) rfl ?_
   refine ae.val rfl (ah rfl) rfl ?_
   refine ae.val rfl (bz rfl uL) rfl ?_
   refine ae.val rfl (ay rfl rfl bQ) rfl ?_
   refine ae.val rfl (az (b:=true) rfl rfl) rfl ?_
   exact ae.nil ⟨_,rfl,(aa.put (aa.push rfl (aa.push rfl (aa.push rfl (aa.push rfl (aa.put (.refl _) (Less.eq (by rw [hB24]))))))) (Less.eq (by rw [hB24]; rw [Bool.true_and])))⟩
  refine ae.bool hB24 ?_
  refine ae.no rfl rfl ?_
  refine ae.no rfl rfl ?_
  refine ae.no rfl rfl ?_
  refine ae.no rfl rfl ?_
  refine ae.val rfl (az (b:=false) rfl rfl) rfl ?_
  exact ae.nil ⟨_,rfl,(aa.put (aa.push rfl (aa.push rfl (aa.push rfl (aa.push rfl (aa.put (.refl _) (Less.eq (by rw [hB24]))))))) (Less.eq (by rw [hB24]; rw [Bool.false_and])))⟩
 refine ae.nil ?_
 refine ax.cond rfl (fun hb25=>?_) (fun hb25=>?_)
 ·
  replace h:=dK hb25 h
  refine ax.skip ?_
  refine ax.block ?_
  refine ax.seq ?_
  refine ax.region (nJ E) rfl ?_
  refine ae.val rfl (ah rfl) rfl ?_
  refine ae.val rfl (ah rfl) rfl ?_
  refine ae.pY (enc:=(D.int .i64)) (xs:=[x20]) (vs:=[(.d (.int .i64 x20))]) (cs:=[[(.d (.int .i64 x20))]]) H19 rfl GR ku zi DU pI rfl (by decide) (.cons rfl rfl .nil) rfl (.cons (.refl _) .nil) (fun _=>rfl) (fun _=>rfl) rfl rfl (fun v26 S27 H28=>?_)
  obtain ⟨SF7,HF7,hgF7⟩:=H28.freeze (nJ E).toObjOk (i:=0) (l':=[.row 1 v22 ((x21).map (D.int .i64))]) rfl (.same .nil)
  refine ae.ghost (hgF7 _ _ [(0,(.d (.sl ((a1).map aB) false))),(1,(.d (.int .i64 x20))),(5,v22),(7,(.d (.int .i64 x20))),(8,(.d (.bool (decide (0 ≤ x20))))),(9,(.d (.bool (decide (0 ≤ x20))))),(14,(.d (.bool ((decide (0 ≤ x20)) && (decide (x20 < ((a1).length:Int))))))),(15,v22),(16,(.d (.int .i64 x20))),(17,(.d (.sl (([x20]).map (D.int .i64)) false)))] (.cons rfl (.refl _) (.cons rfl (.refl _) (.cons rfl (.refl _) (.cons rfl (.refl _) (.cons rfl (.refl _) (.cons rfl (.refl _) (.cons rfl (.refl _) (.cons rfl (.refl _) (.cons rfl (.refl _) (.it rfl .nil))))))))))) ?_
  obtain ⟨z29,hzz29,h⟩:=bind_some h
  refine ae.nU (xs:=(x21).map (D.int .i64)) (ys:=([x20]).map (D.int .i64)) (zs:=(z29).map (D.int .i64)) HF7 rfl rfl rfl (i:=0) rfl pI rfl GR JJ ku (eD hzz29) Kj rfl (bK (enc:=(D.int .i64)) (fun _=>pI.symm) _) (qd (fun _=>rfl) _) rfl Kt rfl (iJ hzz29) (fun v30 S31 H32=>?_)
  refine ae.val rfl (aj rfl) rfl ?_
  refine ae.nil ?_
  refine ax.seq ?_
  refine ax.region (nJ E) rfl ?_
  refine ae.val rfl (ah rfl) rfl ?_
  refine ae.val rfl (ah rfl) rfl ?_
  obtain ⟨z33,hzz33,h⟩:=bind_some h
  refine ae.val rfl (df rfl rfl (dQ (enc:=aB) hzz33 pO oL ((au.len _).trans kM.symm))) rfl ?_
  refine ae.val rfl (jB rfl yQ mg rfl) rfl ?_
  refine ae.val rfl (bD rfl (by rw [au.cells]; exact dG ji rfl)) rfl ?_
  refine ae.val rfl (aj rfl) rfl ?_
  refine ae.nil ?_
  refine ax.seq ?_
  refine ax.seq ?_
  refine ax.region (nJ E) rfl ?_
  refine ae.val rfl (ah rfl) rfl ?_
  refine ae.val rfl (ah rfl) rfl ?_
  refine ae.val rfl (ay rfl rfl gM) rfl ?_
  refine ae.nil ?_
  refine ax.cond rfl (fun hb34=>?_) (fun hb34=>?_)
  ·
   replace h:=dK hb34 h
   refine ax.exit ?_
   exact ⟨⟨z29,v30⟩,_,_,S31,.refl _ _,.refl _,(aa.r rfl aa.nil),H32.sl [0] rfl rfl,h⟩
  replace h:=dJ hb34 h
  refine ax.skip ?_
  refine ax.region (nJ E) rfl ?_
  refine ae.val rfl (ah rfl) rfl ?_
  refine ae.val rfl (aj rfl) rfl ?_
  refine ae.nil ?_
  exact ⟨⟨z33.Parent,z29,v30⟩,_,_,S31,.refl _ _,.refl _,(aa.r rfl (aa.r rfl (aa.r rfl aa.nil))),H32.sl [0] rfl rfl,h⟩
 replace h:=dJ hb25 h
 refine ax.exit ?_
 exact ⟨⟨x21,v22⟩,_,_,S18,.refl _ _,.refl _,(aa.r rfl aa.nil),H19.sl [0] rfl rfl,h⟩
set_option maxRecDepth 20000 in
set_option maxHeartbeats 4000000 in
theorem y7 (n:Nat) (a1:(List au)) (a2:Int) (r:(List Seg)) (h:mE n a1 a2=some r):bU R cfg.P 37 [(.sl ((a1).map aB) false),(.int .i64 a2)] (.d (.sl ((r).map bC) false)):=by
 unfold mE at h
 refine bU.of_wp E.obj.toObjOk (C:=cfg) Tryd.func37 rfl LW rfl ?_
 have H0:Has aI aI []:=Has.pure
 refine ax.seq ?_
 refine ax.region E.obj rfl ?_
 refine ae.val rfl (aj rfl) rfl ?_
 refine ae.nil ?_
 refine ax.seq ?_
 refine ax.region E.obj rfl ?_
 refine ae.val rfl (aj rfl) rfl ?_
 refine ae.nil ?_
 refine ax.seq ?_
 refine ax.seq ?_
 refine ax.region E.obj rfl ?_
 refine ae.val rfl (ah rfl) rfl ?_
 refine ae.val rfl (ah rfl) rfl ?_
 obtain ⟨z3,hzz3,h⟩:=bind_some h
 refine ae.ret rfl (aA rfl rfl) (xR E _ _ _ _ hzz3 _ _ (aD.eq (aD.eq .nil))) rfl ?_
 refine ae.val rfl (bz rfl xS) rfl ?_
 refine ae.val rfl (ah rfl) rfl ?_
 refine ae.nil ?_
 refine ax.block ?_
 have H24:=H0.CY
 refine nR.start (B:=aI) (α:=(List Seg) × AV × Int) (fun k a=>gF a1 z3 k a.1 a.2.2=some r) (fun a=>[(0,(.d (.sl ((a1).map aB) false))),(5,a.2.1),(10,(.d (.sl ((z3).map (D.int .i64)) false))),(11,(.d (.int .i64 ((z3).length:Int)))),(12,(.d (.int .i64 a.2.2)))]) (fun a=>[.grow a.2.1 ((a.1).map bC)]) ?_ ?_ n ⟨⟨[],(.d .aQ),0⟩,_,_,aI,.refl _ _,.refl _,(aa.r rfl (aa.r rfl (aa.r rfl (aa.r rfl (aa.r rfl aa.nil))))),H24.sl [0] rfl rfl,h⟩
 ·
  intro a h; simp [gF] at h
 intro k16 a S11 H12 h
 obtain ⟨x13,v14,x15⟩:=a
 replace h:gF a1 z3 (k16 + 1) x13 x15=some r:=h
 replace H12:Has aI S11 [.grow v14 ((x13).map bC)]:=H12
 unfold gF at h
 refine ax.seq ?_
 refine ax.region E.obj rfl ?_
 refine ae.val rfl (ay rfl rfl bQ) rfl ?_
 refine ae.nil ?_
 refine ax.seq ?_
 refine ax.cond rfl (fun hb17=>?_) (fun hb17=>?_)
 ·
  replace h:=dK hb17 h
  refine ax.skip ?_
  refine ax.seq ?_
  refine ax.block ?_
  refine ax.seq ?_
  refine ax.region E.obj rfl ?_
  obtain ⟨z18,hzz18,h⟩:=bind_some h
  refine ae.val rfl (df rfl rfl (dQ (enc:=(D.int .i64)) hzz18 ku zi (((fun _=>rfl) _).trans pI.symm))) rfl ?_
  refine ae.val rfl (bD rfl (dG ji rfl)) rfl ?_
  refine ae.val rfl (aj rfl) rfl ?_
  refine ae.nil ?_
  refine ax.region E.obj rfl ?_
  refine ae.val rfl (ah rfl) rfl ?_
  refine ae.val rfl (ah rfl) rfl ?_
  refine ae.val rfl (ah rfl) rfl ?_
  obtain ⟨z19,hzz19,h⟩:=bind_some h
  refine ae.val rfl (df rfl rfl (dQ (enc:=aB) hzz19 pO oL ((au.len _).trans kM.symm))) rfl ?_
  refine ae.val rfl (jB rfl A8 Ii rfl) rfl ?_
  refine ae.val rfl (bD rfl (by rw [au.cells]; exact dG Jl rfl)) rfl ?_
  obtain ⟨z20,hzz20,h⟩:=bind_some h
  refine ae.append (xs:=(x13).map bC) (ys:=(z19.eT).map bC) (zs:=(z20).map bC) H12 rfl rfl rfl (i:=0) rfl rfl Il KV wW (eD hzz20) Kn rfl (bK (enc:=bC) (fun z=>(Seg.len z).trans qc.symm) _) (bK (enc:=bC) (fun z=>(Seg.len z).trans qc.symm) _) J5 rfl (iJ hzz20) (fun v21 S22 H23=>?_)
  refine ae.val rfl (aj rfl) rfl ?_
  refine ae.nil ?_
  refine ax.region E.obj rfl ?_
  refine ae.val rfl (ay rfl rfl cu) rfl ?_
  refine ae.val rfl (ah rfl) rfl ?_
  refine ae.nil ?_
  exact ⟨⟨z20,v21,(IntKind.wrap .i64 (x15 + 1))⟩,_,_,S22,.refl _ _,.refl _,(aa.r rfl (aa.r rfl (aa.r rfl (aa.r rfl (aa.r rfl aa.nil))))),H23.sl [0] rfl rfl,h⟩
 replace h:=dJ hb17 h
 refine ax.exit ?_
 refine ax.seq ?_
 refine ax.region E.obj rfl ?_
 refine ae.val rfl (ah rfl) rfl ?_
 refine ae.val rfl (aj rfl) rfl ?_
 refine ae.nil ?_
 have hr:=Option.some.inj h
 subst hr
 exact ax.ret ⟨_,rfl,rfl,fE (aD.grow H12 (i:=0) rfl .nil)⟩
set_option maxRecDepth 20000 in
set_option maxHeartbeats 4000000 in
theorem yF (n:Nat) (a1:(List au)) (r:Bool) (h:j4 n a1=some r):bU R cfg.P 14 [(.sl ((a1).map aB) false)] (.d (.bool r)):=by
 unfold j4 at h
 refine bU.of_wp E.obj.toObjOk (C:=cfg) Tryd.func14 rfl MK rfl ?_
 have H0:Has aI aI []:=Has.pure
 refine ax.seq ?_
 refine ax.region E.obj rfl ?_
 refine ae.val rfl (aj rfl) rfl ?_
 refine ae.nil ?_
 refine ax.seq ?_
 refine ax.seq ?_
 refine ax.region E.obj rfl ?_
 refine ae.val rfl (ah rfl) rfl ?_
 refine ae.val rfl (bz rfl uL) rfl ?_
 refine ae.val rfl (ay rfl rfl bQ) rfl ?_
 refine ae.val rfl (ah rfl) rfl ?_
 refine ae.bL 4 14 (.d (.bool ((decide (((a1).length:Int) < 1)) || (decide (16 < ((a1).length:Int)))))) ?_ ?_
 ·
  rcases Bool.eq_false_or_eq_true ((decide (((a1).length:Int) < 1))) with hB2 | hB2
  ·
   refine ae.bool hB2 ?_
   refine ae.no rfl rfl ?_
   refine ae.no rfl rfl ?_
   refine ae.no rfl rfl ?_
   refine ae.val rfl (az (b:=true) rfl rfl) rfl ?_
   exact ae.nil ⟨_,rfl,(aa.put (aa.push rfl (aa.push rfl (aa.push rfl (aa.put (.refl _) (Less.eq (by rw [hB2])))))) (Less.eq (by rw [hB2]; rw [Bool.true_or])))⟩
  refine ae.bool hB2 ?_
  refine ae.val rfl (ah rfl) rfl ?_
  refine ae.val rfl (bz rfl uL) rfl ?_
  refine ae.val rfl (ay rfl rfl jb) rfl ?_
  refine ae.val rfl (az (b:=false) rfl rfl) rfl ?_
  exact ae.nil ⟨_,rfl,(aa.put (aa.push rfl (aa.push rfl (aa.push rfl (aa.put (.refl _) (Less.eq (by rw [hB2])))))) (Less.eq (by rw [hB2]; rw [Bool.false_or])))⟩
 refine ae.nil ?_
 refine ax.cond rfl (fun hb3=>?_) (fun hb3=>?_)
 ·
  replace h:=dK hb3 h
  refine ax.seq ?_
  refine ax.region E.obj rfl ?_
  refine ae.val rfl (aj rfl) rfl ?_
  refine ae.nil ?_
  have hr:=Option.some.inj h
  subst hr
  exact ax.ret ⟨_,rfl,rfl,fE (aD.eq .nil)⟩
 replace h:=dJ hb3 h
 refine ax.skip ?_
 refine ax.seq ?_
 refine ax.region E.obj rfl ?_
 refine ae.makeMap D.str (D.int .i64) H0 rfl IJ rfl (fun b4 S5 H6=>?_)
 refine ae.val rfl (aj rfl) rfl ?_
 refine ae.nil ?_
 refine ax.seq ?_
 refine ax.seq ?_
 refine ax.region E.obj rfl ?_
 refine ae.val rfl (ah rfl) rfl ?_
 refine ae.val rfl (bz rfl uL) rfl ?_
 refine ae.val rfl (ah rfl) rfl ?_
 refine ae.nil ?_
 refine ax.block ?_
 refine nR.start (B:=aI) (α:=(List (Str × Int)) × Int) (fun k a=>fB n a1 k a.1 a.2=some r) (fun a=>[(0,(.d (.sl ((a1).map aB) false))),(3,(.map b4)),(16,(.d (.sl ((a1).map aB) false))),(17,(.d (.int .i64 ((a1).length:Int)))),(18,(.d (.int .i64 a.2)))]) (fun a=>[.map b4 (mD D.str (D.int .i64) a.1)]) ?_ ?_ n ⟨⟨[],0⟩,_,_,S5,.refl _ _,.refl _,(aa.r rfl (aa.r rfl (aa.r rfl (aa.r rfl (aa.r rfl aa.nil))))),H6.sl [0] rfl rfl,h⟩
 ·
  intro a h; simp [fB] at h
 intro k17 a S13 H14 h
 obtain ⟨x15,x16⟩:=a
 replace h:fB n a1 (k17 + 1) x15 x16=some r:=h
 replace H14:Has aI S13 [.map b4 (mD D.str (D.int .i64) x15)]:=H14
 unfold fB at h
 refine ax.seq ?_
 refine ax.region E.obj rfl ?_
 refine ae.val rfl (ay rfl rfl bQ) rfl ?_
 refine ae.nil ?_
 refine ax.seq ?_
 refine ax.cond rfl (fun hb18=>?_) (fun hb18=>?_)
 ·
  replace h:=dK hb18 h
  refine ax.skip ?_
  refine ax.seq ?_
  refine ax.block ?_
  refine ax.seq ?_
  refine ax.region E.obj rfl ?_
  refine ae.val rfl (ah rfl) rfl ?_
  obtain ⟨z19,hzz19,h⟩:=bind_some h
  refine ae.val rfl (df rfl rfl (dQ (enc:=aB) hzz19 pO oL ((au.len _).trans kM.symm))) rfl ?_
  refine ae.val rfl (bD rfl (au.jO Da kM)) rfl ?_
  refine ae.alloc H14 rfl Ki vN rfl rfl (fun b20 S21 H22=>?_)
  refine ae.val rfl (aj rfl) rfl ?_
  refine ae.store H22 (i:=0) rfl rfl rfl rfl (au.bu _) rfl kM rfl oL rfl rfl rfl (fun S23 H24=>?_)
  refine ae.nil ?_
  refine ax.seq ?_
  refine ax.region E.obj rfl ?_
  refine ae.val rfl (ai rfl yE Bz rfl) rfl ?_
  refine ae.val rfl (av H24 (i:=0) rfl rfl (aC vW rfl)) rfl ?_
  refine ae.val rfl (bA (cs:=[(.d (.int .i64 0)),(.d (.str z19.Name))]) wU rfl (xm) (bT rfl rfl rfl rfl rfl)) rfl ?_
  refine ae.less (Less.agg' (d:=bC (Seg.mk 0 z19.Name)) (ak.eq rfl (ak.eq rfl .nil)) ((Seg.eq _).trans rfl)) ?_
  refine ae.val rfl (aO (vs:=[(.d (bC (Seg.mk 0 z19.Name)))]) (ds:=[(bC (Seg.mk 0 z19.Name))]) Il wW zm wU qc rfl (by decide) (.cons rfl (Seg.len _) .nil) rfl (by intro d hd; simp only [List.mem_cons,List.not_mem_nil,or_false] at hd; rcases hd with rfl <;> exact Seg.agg _) rfl) rfl ?_
  obtain ⟨z25,hzz25,h⟩:=bind_some h
  refine ae.ret rfl (aA rfl rfl) (qb E _ _ _ hzz25 _ _ (aD.fe rfl (.iZ _ _) .nil)) rfl ?_
  refine ae.val rfl (aj rfl) rfl ?_
  refine ae.nil ?_
  refine ax.seq ?_
  refine ax.seq ?_
  refine ax.region E.obj rfl ?_
  refine ae.val rfl (ah rfl) rfl ?_
  refine ae.val rfl (fP rfl) rfl ?_
  refine ae.val rfl (ah rfl) rfl ?_
  refine ae.bL 6 36 (.d (.bool ((!z25) || (decide (0 < (lI x15 z19.Name 0)))))) ?_ ?_
  ·
   rcases Bool.eq_false_or_eq_true ((!z25)) with hB26 | hB26
   ·
    refine ae.bool hB26 ?_
    refine ae.no rfl rfl ?_
    refine ae.no rfl rfl ?_
    refine ae.no rfl rfl ?_
    refine ae.no rfl rfl ?_
    refine ae.no rfl rfl ?_
    refine ae.val rfl (az (b:=true) rfl rfl) rfl ?_
    exact ae.nil ⟨_,rfl,(aa.put (aa.push rfl (aa.push rfl (aa.push rfl (aa.push rfl (aa.push rfl (aa.put (.refl _) (Less.eq (by rw [hB26])))))))) (Less.eq (by rw [hB26]; rw [Bool.true_or])))⟩
   refine ae.bool hB26 ?_
   refine ae.val rfl (ah rfl) rfl ?_
   refine ae.val rfl (ai rfl yE Bz rfl) rfl ?_
   refine ae.val rfl (av H24 (i:=0) rfl rfl (aC vW rfl)) rfl ?_
   refine ae.val rfl (uJ (ek:=D.str) (ev:=(D.int .i64)) (k:=z19.Name) (z:=0) H24 (i:=1) rfl rfl rfl IJ (CX LJ) DU) rfl ?_
   refine ae.val rfl (ay rfl rfl jb) rfl ?_
   refine ae.val rfl (az (b:=false) rfl rfl) rfl ?_
   exact ae.nil ⟨_,rfl,(aa.put (aa.push rfl (aa.push rfl (aa.push rfl (aa.push rfl (aa.push rfl (aa.put (.refl _) (Less.eq (by rw [hB26])))))))) (Less.eq (by rw [hB26]; rw [Bool.false_or])))⟩
  refine ae.val rfl (ah rfl) rfl ?_
  refine ae.bL 4 41 (.d (.bool (((!z25) || (decide (0 < (lI x15 z19.Name 0)))) || (decide (z19.Parent < (-1)))))) ?_ ?_
  ·
   rcases Bool.eq_false_or_eq_true (((!z25) || (decide (0 < (lI x15 z19.Name 0))))) with hB27 | hB27
   ·
    refine ae.bool hB27 ?_
    refine ae.no rfl rfl ?_
    refine ae.no rfl rfl ?_
    refine ae.no rfl rfl ?_
    refine ae.val rfl (az (b:=true) rfl rfl) rfl ?_
    exact ae.nil ⟨_,rfl,(aa.put (aa.push rfl (aa.push rfl (aa.push rfl (aa.put (.refl _) (Less.eq (by rw [hB27])))))) (Less.eq (by rw [hB27]; rw [Bool.true_or])))⟩
   refine ae.bool hB27 ?_
   refine ae.val rfl (ai rfl yQ mg rfl) rfl ?_
   refine ae.val rfl (av H24 (i:=0) rfl rfl (aC ji rfl)) rfl ?_
   refine ae.val rfl (ay rfl rfl bQ) rfl ?_
   refine ae.val rfl (az (b:=false) rfl rfl) rfl ?_
   exact ae.nil ⟨_,rfl,(aa.put (aa.push rfl (aa.push rfl (aa.push rfl (aa.put (.refl _) (Less.eq (by rw [hB27])))))) (Less.eq (by rw [hB27]; rw [Bool.false_or])))⟩
  refine ae.val rfl (ah rfl) rfl ?_
  refine ae.bL 5 47 (.d (.bool ((((!z25) || (decide (0 < (lI x15 z19.Name 0)))) || (decide (z19.Parent < (-1)))) || (decide (x16 ≤ z19.Parent))))) ?_ ?_
  ·
   rcases Bool.eq_false_or_eq_true ((((!z25) || (decide (0 < (lI x15 z19.Name 0)))) || (decide (z19.Parent < (-1))))) with hB28 | hB28
   ·
    refine ae.bool hB28 ?_
    refine ae.no rfl rfl ?_
    refine ae.no rfl rfl ?_
    refine ae.no rfl rfl ?_
    refine ae.no rfl rfl ?_
    refine ae.val rfl (az (b:=true) rfl rfl) rfl ?_
    exact ae.nil ⟨_,rfl,(aa.put (aa.push rfl (aa.push rfl (aa.push rfl (aa.push rfl (aa.put (.refl _) (Less.eq (by rw [hB28]))))))) (Less.eq (by rw [hB28]; rw [Bool.true_or])))⟩
   refine ae.bool hB28 ?_
   refine ae.val rfl (ai rfl yQ mg rfl) rfl ?_
   refine ae.val rfl (av H24 (i:=0) rfl rfl (aC ji rfl)) rfl ?_
   refine ae.val rfl (ah rfl) rfl ?_
   refine ae.val rfl (ay rfl rfl gM) rfl ?_
   refine ae.val rfl (az (b:=false) rfl rfl) rfl ?_
   exact ae.nil ⟨_,rfl,(aa.put (aa.push rfl (aa.push rfl (aa.push rfl (aa.push rfl (aa.put (.refl _) (Less.eq (by rw [hB28]))))))) (Less.eq (by rw [hB28]; rw [Bool.false_or])))⟩
  refine ae.val rfl (ah rfl) rfl ?_
  obtain ⟨z30,hzz30,h⟩:=bind_some h
  refine ae.bL 6 54 (.d (.bool z30)) ?_ ?_
  ·
   rcases Bool.eq_false_or_eq_true (((((!z25) || (decide (0 < (lI x15 z19.Name 0)))) || (decide (z19.Parent < (-1)))) || (decide (x16 ≤ z19.Parent)))) with hB29 | hB29
   ·
    refine ae.bool hB29 ?_
    refine ae.no rfl rfl ?_
    refine ae.no rfl rfl ?_
    refine ae.no rfl rfl ?_
    refine ae.no rfl rfl ?_
    refine ae.no rfl rfl ?_
    refine ae.val rfl (az (b:=true) rfl rfl) rfl ?_
    replace hzz30:=dK hB29 hzz30
    cases hzz30
    exact ae.nil ⟨_,rfl,(aa.put (aa.push rfl (aa.push rfl (aa.push rfl (aa.push rfl (aa.push rfl (aa.put (.refl _) (Less.eq (by rw [hB29])))))))) (.refl _))⟩
   refine ae.bool hB29 ?_
   replace hzz30:=dJ hB29 hzz30
   refine ae.val rfl (ah rfl) rfl ?_
   refine ae.val rfl (ah rfl) rfl ?_
   obtain ⟨z31,hzz31,hzz30⟩:=bind_some hzz30
   refine ae.ret rfl (aA rfl rfl) (y7 E _ _ _ _ hzz31 _ _ (aD.eq (aD.eq .nil))) rfl ?_
   obtain ⟨z32,hzz32,hzz30⟩:=bind_some hzz30
   refine ae.ret rfl (aA rfl rfl) (qb E _ _ _ hzz32 _ _ (aD.eq .nil)) rfl ?_
   refine ae.val rfl (fP rfl) rfl ?_
   refine ae.val rfl (az (b:=false) rfl rfl) rfl ?_
   cases hzz30
   exact ae.nil ⟨_,rfl,(aa.put (aa.push rfl (aa.push rfl (aa.push rfl (aa.push rfl (aa.push rfl (aa.put (.refl _) (Less.eq (by rw [hB29])))))))) (.refl _))⟩
  refine ae.nil ?_
  refine ax.cond rfl (fun hb33=>?_) (fun hb33=>?_)
  ·
   replace h:=dK hb33 h
   refine ax.seq ?_
   refine ax.region E.obj rfl ?_
   refine ae.val rfl (aj rfl) rfl ?_
   refine ae.nil ?_
   have hr:=Option.some.inj h
   subst hr
   exact ax.ret ⟨_,rfl,rfl,fE (aD.eq .nil)⟩
  replace h:=dJ hb33 h
  refine ax.skip ?_
  refine ax.region E.obj rfl ?_
  refine ae.val rfl (ah rfl) rfl ?_
  refine ae.val rfl (ai rfl yE Bz rfl) rfl ?_
  refine ae.val rfl (av H24 (i:=0) rfl rfl (aC vW rfl)) rfl ?_
  refine ae.val rfl (uJ (ek:=D.str) (ev:=(D.int .i64)) (k:=z19.Name) (z:=0) H24 (i:=1) rfl rfl rfl IJ (CX LJ) DU) rfl ?_
  refine ae.val rfl (ay rfl rfl cu) rfl ?_
  refine ae.mapUpdate (ek:=D.str) (ev:=(D.int .i64)) (k:=z19.Name) (v:=(IntKind.wrap .i64 ((lI x15 z19.Name 0) + 1))) H24 rfl (i:=1) rfl rfl rfl rfl IJ (CX LJ) (fun S34 H35=>?_)
  refine ae.nil ?_
  refine ax.region E.obj rfl ?_
  refine ae.val rfl (ay rfl rfl cu) rfl ?_
  refine ae.val rfl (ah rfl) rfl ?_
  refine ae.nil ?_
  exact ⟨⟨(vC x15 z19.Name (IntKind.wrap .i64 ((lI x15 z19.Name 0) + 1))),(IntKind.wrap .i64 (x16 + 1))⟩,_,_,S34,.refl _ _,.refl _,(aa.r rfl (aa.r rfl (aa.r rfl (aa.r rfl (aa.r rfl aa.nil))))),H35.sl [1] rfl rfl,h⟩
 replace h:=dJ hb18 h
 refine ax.exit ?_
 refine ax.seq ?_
 refine ax.region E.obj rfl ?_
 refine ae.val rfl (aj rfl) rfl ?_
 refine ae.nil ?_
 have hr:=Option.some.inj h
 subst hr
 exact ax.ret ⟨_,rfl,rfl,fE (aD.eq .nil)⟩
set_option maxRecDepth 20000 in
set_option maxHeartbeats 4000000 in
theorem mV (n:Nat) (S0:St) (a1:(List Int)) (fg3:Nat) (fc4:List AV) (p2:Int→Option Bool) (hpp2:∀ S',fK S0 S'→S'.Wf→∀ (y0:Int) (r:Bool),p2 y0=some r→dZ R cfg.P fg3 ([.d (.int .i64 y0)] ++ fc4) S' (fun o=>o=(none,.d (.bool r),S'))) (r:Int) (h:gz n a1 p2=some r):dZ R cfg.P 70 [.d (.sl ((a1).map (D.int .i64)) false),.fn fg3 fc4] S0 (fun o=>o=(none,.d (.int .i64 r),S0)):=by
 unfold gz at h
 refine SpecS.of_wp (C:=cfg) Tryd.func70 rfl Le rfl (fun wf0=>?_)
 have H0:Has S0 S0 []:=Has.start wf0
 refine ax.seq ?_
 refine ax.region E.obj rfl ?_
 refine ae.val rfl (aj rfl) rfl ?_
 refine ae.nil ?_
 refine ax.seq ?_
 refine ax.seq ?_
 refine ax.region E.obj rfl ?_
 refine ae.val rfl (ah rfl) rfl ?_
 refine ae.val rfl (bz rfl xS) rfl ?_
 refine ae.val rfl (ah rfl) rfl ?_
 refine ae.nil ?_
 refine ax.block ?_
 refine nR.start (B:=S0) (α:=Int) (fun k a=>bJ a1 p2 k a=some r) (fun a=>[(0,(.d (.sl ((a1).map (D.int .i64)) false))),(1,(.fn fg3 fc4)),(7,(.d (.int .i64 ((a1).length:Int)))),(8,(.d (.int .i64 a)))]) (fun a=>[]) ?_ ?_ n ⟨0,_,_,S0,.refl _ _,.refl _,(aa.r rfl (aa.r rfl (aa.r rfl (aa.r rfl aa.nil)))),H0.sl [] rfl rfl,h⟩
 ·
  intro a h; simp [bJ] at h
 intro k13 x12 S10 H11 h
 replace h:bJ a1 p2 (k13 + 1) x12=some r:=h
 replace H11:Has S0 S10 []:=H11
 unfold bJ at h
 refine ax.seq ?_
 refine ax.region E.obj rfl ?_
 refine ae.val rfl (ay rfl rfl bQ) rfl ?_
 refine ae.nil ?_
 refine ax.seq ?_
 refine ax.cond rfl (fun hb14=>?_) (fun hb14=>?_)
 ·
  replace h:=dK hb14 h
  refine ax.skip ?_
  refine ax.seq ?_
  refine ax.block ?_
  refine ax.seq ?_
  refine ax.region E.obj rfl ?_
  refine ae.val rfl (ah rfl) rfl ?_
  refine ae.val rfl (aj rfl) rfl ?_
  refine ae.nil ?_
  refine ax.seq ?_
  refine ax.region E.obj rfl ?_
  refine ae.val rfl (ah rfl) rfl ?_
  refine ae.val rfl (ah rfl) rfl ?_
  refine ae.val rfl (ah rfl) rfl ?_
  obtain ⟨z15,hzz15,h⟩:=bind_some h
  refine ae.val rfl (df rfl rfl (dQ (enc:=(D.int .i64)) hzz15 ku zi (((fun _=>rfl) _).trans pI.symm))) rfl ?_
  refine ae.val rfl (bD rfl (dG ji rfl)) rfl ?_
  obtain ⟨z16,hzz16,h⟩:=bind_some h
  refine ae.ret rfl (tH rfl rfl) (hpp2 _ H11.keeps H11.wf _ _ hzz16) rfl ?_
  refine ae.nil ?_
  refine ax.cond rfl (fun hb17=>?_) (fun hb17=>?_)
  ·
   replace h:=dK hb17 h
   refine ax.seq ?_
   refine ax.region E.obj rfl ?_
   refine ae.val rfl (ah rfl) rfl ?_
   refine ae.val rfl (aj rfl) rfl ?_
   refine ae.nil ?_
   have hr:=Option.some.inj h
   subst hr
   exact ax.ret ⟨_,rfl,rfl,H11.keeps,fE (aD.eq .nil)⟩
  replace h:=dJ hb17 h
  refine ax.skip ?_
  refine ax.region E.obj rfl ?_
  refine ae.val rfl (ay rfl rfl cu) rfl ?_
  refine ae.val rfl (ah rfl) rfl ?_
  refine ae.nil ?_
  exact ⟨(IntKind.wrap .i64 (x12 + 1)),_,_,S10,.refl _ _,.refl _,(aa.r rfl (aa.r rfl (aa.r rfl (aa.r rfl aa.nil)))),H11.sl [] rfl rfl,h⟩
 replace h:=dJ hb14 h
 refine ax.exit ?_
 refine ax.seq ?_
 refine ax.region E.obj rfl ?_
 refine ae.val rfl (aj rfl) rfl ?_
 refine ae.nil ?_
 have hr:=Option.some.inj h
 subst hr
 exact ax.ret ⟨_,rfl,rfl,H11.keeps,fE (aD.eq .nil)⟩
set_option maxRecDepth 20000 in
set_option maxHeartbeats 4000000 in
theorem lS (n:Nat) (S0:St) (a1:(List Int)) (fg3:Nat) (fc4:List AV) (p2:Int→Option Bool) (hpp2:∀ S',fK S0 S'→S'.Wf→∀ (y0:Int) (r:Bool),p2 y0=some r→dZ R cfg.P fg3 ([.d (.int .i64 y0)] ++ fc4) S' (fun o=>o=(none,.d (.bool r),S'))) (r:Bool) (h:eB n a1 p2=some r):dZ R cfg.P 56 [.d (.sl ((a1).map (D.int .i64)) false),.fn fg3 fc4] S0 (fun o=>o=(none,.d (.bool r),S0)):=by
 unfold eB at h
 refine SpecS.of_wp (C:=cfg) Tryd.func56 rfl LD rfl (fun wf0=>?_)
 have H0:Has S0 S0 []:=Has.start wf0
 refine ax.seq ?_
 refine ax.region E.obj rfl ?_
 refine ae.val rfl (aj rfl) rfl ?_
 refine ae.nil ?_
 refine ax.seq ?_
 refine ax.region E.obj rfl ?_
 refine ae.val rfl (ah rfl) rfl ?_
 refine ae.val rfl (ah rfl) rfl ?_
 obtain ⟨z6,hzz6,h⟩:=bind_some h
 refine ae.ret rfl (aA rfl rfl) (dZ.sP (mV E n S0 _ _ _ p2 (fun S' hk hw y5 r hr=>hpp2 S' (H0.keeps.trans hk) hw y5 r hr) _ hzz6) (.cons (.refl _) (.cons (.refl _) .nil))) rfl ?_
 refine ae.val rfl (ay rfl rfl gM) rfl ?_
 refine ae.val rfl (aj rfl) rfl ?_
 refine ae.nil ?_
 have hr:=Option.some.inj h
 subst hr
 exact ax.ret ⟨_,rfl,rfl,H0.keeps,fE (aD.eq .nil)⟩
set_option maxRecDepth 20000 in
set_option maxHeartbeats 4000000 in
theorem wJ (n:Nat) (a1:Int) (r:Bool) (h:rz n a1=some r):bU R cfg.P 41 [(.int .i64 a1)] (.d (.bool r)):=by
 unfold rz at h
 refine bU.of_wp E.obj.toObjOk (C:=cfg) Tryd.func41 rfl LZ rfl ?_
 have H0:Has aI aI []:=Has.pure
 refine ax.seq ?_
 refine ax.region E.obj rfl ?_
 refine ae.val rfl (aj rfl) rfl ?_
 refine ae.nil ?_
 refine ax.seq ?_
 refine ax.region E.obj rfl ?_
 refine ae.val rfl (ah rfl) rfl ?_
 refine ae.val rfl (ay rfl rfl gM) rfl ?_
 refine ae.val rfl (ah rfl) rfl ?_
 refine ae.bL 3 8 (.d (.bool ((decide ((-1000) ≤ a1)) && (decide (a1 ≤ 1000))))) ?_ ?_
 ·
  rcases Bool.eq_false_or_eq_true ((decide ((-1000) ≤ a1))) with hB2 | hB2
  ·
   refine ae.bool hB2 ?_
   refine ae.val rfl (ah rfl) rfl ?_
   refine ae.val rfl (ay rfl rfl oK) rfl ?_
   refine ae.val rfl (az (b:=true) rfl rfl) rfl ?_
   exact ae.nil ⟨_,rfl,(aa.put (aa.push rfl (aa.push rfl (aa.put (.refl _) (Less.eq (by rw [hB2]))))) (Less.eq (by rw [hB2]; rw [Bool.true_and])))⟩
  refine ae.bool hB2 ?_
  refine ae.no rfl rfl ?_
  refine ae.no rfl rfl ?_
  refine ae.val rfl (az (b:=false) rfl rfl) rfl ?_
  exact ae.nil ⟨_,rfl,(aa.put (aa.push rfl (aa.push rfl (aa.put (.refl _) (Less.eq (by rw [hB2]))))) (Less.eq (by rw [hB2]; rw [Bool.false_and])))⟩
 refine ae.val rfl (aj rfl) rfl ?_
 refine ae.nil ?_
 have hr:=Option.some.inj h
 subst hr
 exact ax.ret ⟨_,rfl,rfl,fE (aD.eq .nil)⟩
set_option maxRecDepth 20000 in
set_option maxHeartbeats 4000000 in
theorem zk (n:Nat) (a1:Int) (r:Bool) (h:mq n a1=some r):bU R cfg.P 57 [(.int .i64 a1)] (.d (.bool r)):=by
 unfold mq at h
 refine bU.of_wp E.obj.toObjOk (C:=cfg) Tryd.func57 rfl Mr rfl ?_
 have H0:Has aI aI []:=Has.pure
 refine ax.seq ?_
 refine ax.region E.obj rfl ?_
 refine ae.val rfl (aj rfl) rfl ?_
 refine ae.nil ?_
 refine ax.seq ?_
 refine ax.region E.obj rfl ?_
 refine ae.val rfl (ah rfl) rfl ?_
 obtain ⟨z2,hzz2,h⟩:=bind_some h
 refine ae.ret rfl (aA rfl rfl) (wJ E _ _ _ hzz2 _ _ (aD.eq .nil)) rfl ?_
 refine ae.val rfl (fP rfl) rfl ?_
 refine ae.val rfl (aj rfl) rfl ?_
 refine ae.nil ?_
 have hr:=Option.some.inj h
 subst hr
 exact ax.ret ⟨_,rfl,rfl,fE (aD.eq .nil)⟩
set_option maxRecDepth 20000 in
set_option maxHeartbeats 4000000 in
theorem CE (n:Nat) (a1:(List Int)) (r:Bool) (h:rD n a1=some r):bU R cfg.P 38 [(.sl ((a1).map (D.int .i64)) false)] (.d (.bool r)):=by
 unfold rD at h
 refine bU.of_wp E.obj.toObjOk (C:=cfg) Tryd.func38 rfl Mi rfl ?_
 have H0:Has aI aI []:=Has.pure
 refine ax.seq ?_
 refine ax.region E.obj rfl ?_
 refine ae.val rfl (aj rfl) rfl ?_
 refine ae.nil ?_
 refine ax.seq ?_
 refine ax.region E.obj rfl ?_
 refine ae.val rfl (ah rfl) rfl ?_
 obtain ⟨z3,hzz3,h⟩:=bind_some h
 refine ae.ret rfl (aA rfl rfl) (dZ.sP (lS E n aI _ _ _ (fun y2=>mq n y2) (fun S' hk hw y2 r hr=>zk E n y2 r hr _ S' (aD.eq .nil)) _ hzz3) (.cons (.refl _) (.cons (.refl _) .nil))) rfl ?_
 refine ae.val rfl (fP rfl) rfl ?_
 refine ae.val rfl (aj rfl) rfl ?_
 refine ae.nil ?_
 have hr:=Option.some.inj h
 subst hr
 exact ax.ret ⟨_,rfl,rfl,fE (aD.eq .nil)⟩
set_option maxRecDepth 20000 in
set_option maxHeartbeats 4000000 in
theorem sJ:∀ (n:Nat) (a1:aF) (r:(Int × Int)),iT n a1=some r→bU R cfg.P 58 [(aH a1)] (.tup [.d (.int .i64 r.1),.d (.int .i64 r.2)])
 | 0,a1,r,h=>by simp [iT] at h
 | n + 1,a1,r,h=>by
  have ih:=sJ n
  unfold iT at h
  refine bU.of_wp E.obj.toObjOk (C:=cfg) Tryd.func58 rfl Lj rfl ?_
  have H0:Has aI aI []:=Has.pure
  refine ax.seq ?_
  refine ax.region E.obj rfl ?_
  refine ae.box H0 rfl rfl rfl (aF.bu _) rfl (fun b2 S3 H4=>?_)
  refine ae.val rfl (aj rfl) rfl ?_
  refine ae.val rfl (aj rfl) rfl ?_
  refine ae.nil ?_
  refine ax.seq ?_
  refine ax.region E.obj rfl ?_
  refine ae.val rfl (aj rfl) rfl ?_
  refine ae.val rfl (aj rfl) rfl ?_
  refine ae.nil ?_
  refine ax.seq ?_
  refine ax.seq ?_
  refine ax.region E.obj rfl ?_
  refine ae.val rfl (ai rfl jN qO rfl) rfl ?_
  refine ae.val rfl (av H4 (i:=0) rfl rfl (aC xu rfl)) rfl ?_
  refine ae.val rfl (bz rfl Bv) rfl ?_
  refine ae.val rfl (ah rfl) rfl ?_
  refine ae.nil ?_
  refine ax.block ?_
  refine nR.start (B:=aI) (α:=Int × Int × Int) (fun k a=>gI (iT n) a1 k a.1 a.2.1 a.2.2=some r) (fun a=>[(4,(.d (.int .i64 a.1))),(5,(.d (.int .i64 a.2.1))),(11,(.d (.sl ((a1.Kids).map aH) false))),(12,(.d (.int .i64 ((a1.Kids).length:Int)))),(13,(.d (.int .i64 a.2.2)))]) (fun a=>[]) ?_ ?_ n ⟨⟨1,0,0⟩,_,_,S3,.refl _ _,.refl _,(aa.r rfl (aa.r rfl (aa.r rfl (aa.r rfl (aa.r rfl aa.nil))))),H4.sl [] rfl rfl,h⟩
  ·
   intro a h; simp [gI] at h
  intro k17 a S12 H13 h
  obtain ⟨x14,x15,x16⟩:=a
  replace h:gI (iT n) a1 (k17 + 1) x14 x15 x16=some r:=h
  replace H13:Has aI S12 []:=H13
  unfold gI at h
  refine ax.seq ?_
  refine ax.region E.obj rfl ?_
  refine ae.val rfl (ay rfl rfl bQ) rfl ?_
  refine ae.nil ?_
  refine ax.seq ?_
  refine ax.cond rfl (fun hb18=>?_) (fun hb18=>?_)
  ·
   replace h:=dK hb18 h
   refine ax.skip ?_
   refine ax.seq ?_
   refine ax.block ?_
   refine ax.seq ?_
   refine ax.region E.obj rfl ?_
   obtain ⟨z19,hzz19,h⟩:=bind_some h
   refine ae.val rfl (df rfl rfl (dQ (enc:=aH) hzz19 nz nD ((aF.len _).trans eO.symm))) rfl ?_
   refine ae.val rfl (bD rfl (aF.jO jf eO)) rfl ?_
   refine ae.alloc H13 rfl wM jV rfl rfl (fun b20 S21 H22=>?_)
   refine ae.store H22 (i:=0) rfl rfl rfl rfl (aF.bu _) rfl eO rfl nD rfl rfl rfl (fun S23 H24=>?_)
   refine ae.nil ?_
   refine ax.seq ?_
   refine ax.region E.obj rfl ?_
   refine ae.val rfl (av H24 (i:=0) rfl rfl (bf jf eO rfl)) rfl ?_
   refine ae.less (Less.agg' (d:=aH z19) (ak.eq rfl (ak.eq rfl (ak.eq rfl (ak.eq rfl (ak.eq rfl (ak.eq rfl .nil)))))) ((aF.eq _).trans rfl)) ?_
   obtain ⟨z25,hzz25,h⟩:=bind_some h
   refine ae.ret rfl (aA rfl rfl) (ih _ _ hzz25 _ _ (aD.eq .nil)) rfl ?_
   refine ae.val rfl (ah rfl) rfl ?_
   refine ae.val rfl (nO rfl rfl) rfl ?_
   refine ae.val rfl (nO rfl rfl) rfl ?_
   refine ae.val rfl (aj rfl) rfl ?_
   refine ae.val rfl (aj rfl) rfl ?_
   refine ae.nil ?_
   refine ax.region E.obj rfl ?_
   refine ae.val rfl (ah rfl) rfl ?_
   refine ae.val rfl (ah rfl) rfl ?_
   refine ae.val rfl (ay rfl rfl cu) rfl ?_
   refine ae.val rfl (ah rfl) rfl ?_
   refine ae.val rfl (ah rfl) rfl ?_
   refine ae.val rfl (Ha rfl rfl) rfl ?_
   refine ae.val rfl (aj rfl) rfl ?_
   refine ae.val rfl (aj rfl) rfl ?_
   refine ae.nil ?_
   refine ax.region E.obj rfl ?_
   refine ae.val rfl (ay rfl rfl cu) rfl ?_
   refine ae.val rfl (ah rfl) rfl ?_
   refine ae.nil ?_
   exact ⟨⟨(IntKind.wrap .i64 (x14 + z25.1)),(Gf x15 z25.2),(IntKind.wrap .i64 (x16 + 1))⟩,_,_,S23,.refl _ _,.refl _,(aa.r rfl (aa.r rfl (aa.r rfl (aa.r rfl (aa.r rfl aa.nil))))),H24.sl [] rfl rfl,h⟩
  replace h:=dJ hb18 h
  refine ax.exit ?_
  refine ax.seq ?_
  refine ax.region E.obj rfl ?_
  refine ae.val rfl (ah rfl) rfl ?_
  refine ae.val rfl (ah rfl) rfl ?_
  refine ae.val rfl (ay rfl rfl cu) rfl ?_
  refine ae.val rfl (aj rfl) rfl ?_
  refine ae.val rfl (aj rfl) rfl ?_
  refine ae.nil ?_
  have hr:=Option.some.inj h
  subst hr
  exact ax.ret ⟨_,rfl,rfl,LH (vs:=[(.d (.int .i64 x14)),(.d (.int .i64 (IntKind.wrap .i64 (x15 + 1))))]) (ds:=[(.int .i64 x14),(.int .i64 (IntKind.wrap .i64 (x15 + 1)))]) (aD.eq (aD.eq .nil))⟩
set_option maxRecDepth 20000 in
set_option maxHeartbeats 4000000 in
theorem sH:∀ (n:Nat) (a1:aF) (a2:Int) (a3:Bool) (r:Bool),fq n a1 a2 a3=some r→bU R cfg.P 59 [(aH a1),(.int .i64 a2),(.bool a3)] (.d (.bool r))
 | 0,a1,a2,a3,r,h=>by simp [fq] at h
 | n + 1,a1,a2,a3,r,h=>by
  have ih:=sH n
  unfold fq at h
  refine bU.of_wp E.obj.toObjOk (C:=cfg) Tryd.func59 rfl Lv rfl ?_
  have H0:Has aI aI []:=Has.pure
  refine ax.seq ?_
  refine ax.region E.obj rfl ?_
  refine ae.box H0 rfl rfl rfl (aF.bu _) rfl (fun b4 S5 H6=>?_)
  refine ae.val rfl (aj rfl) rfl ?_
  refine ae.nil ?_
  refine ax.seq ?_
  refine ax.region E.obj rfl ?_
  refine ae.val rfl (ai rfl F6 mg rfl) rfl ?_
  refine ae.val rfl (av H6 (i:=0) rfl rfl (aC ji rfl)) rfl ?_
  refine ae.val rfl (ay rfl rfl gM) rfl ?_
  refine ae.val rfl (ah rfl) rfl ?_
  refine ae.bL 5 19 (.d (.bool ((decide (0 ≤ a1.N)) && (decide (a1.N < a2))))) ?_ ?_
  ·
   rcases Bool.eq_false_or_eq_true ((decide (0 ≤ a1.N))) with hB7 | hB7
   ·
    refine ae.bool hB7 ?_
    refine ae.val rfl (ai rfl F6 mg rfl) rfl ?_
    refine ae.val rfl (av H6 (i:=0) rfl rfl (aC ji rfl)) rfl ?_
    refine ae.val rfl (ah rfl) rfl ?_
    refine ae.val rfl (ay rfl rfl bQ) rfl ?_
    refine ae.val rfl (az (b:=true) rfl rfl) rfl ?_
    exact ae.nil ⟨_,rfl,(aa.put (aa.push rfl (aa.push rfl (aa.push rfl (aa.push rfl (aa.put (.refl _) (Less.eq (by rw [hB7]))))))) (Less.eq (by rw [hB7]; rw [Bool.true_and])))⟩
   refine ae.bool hB7 ?_
   refine ae.no rfl rfl ?_
   refine ae.no rfl rfl ?_
   refine ae.no rfl rfl ?_
   refine ae.no rfl rfl ?_
   refine ae.val rfl (az (b:=false) rfl rfl) rfl ?_
   exact ae.nil ⟨_,rfl,(aa.put (aa.push rfl (aa.push rfl (aa.push rfl (aa.push rfl (aa.put (.refl _) (Less.eq (by rw [hB7]))))))) (Less.eq (by rw [hB7]; rw [Bool.false_and])))⟩
  refine ae.val rfl (aj rfl) rfl ?_
  refine ae.nil ?_
  refine ax.seq ?_
  refine ax.region E.obj rfl ?_
  refine ae.val rfl (ai rfl j3 mg rfl) rfl ?_
  refine ae.val rfl (av H6 (i:=0) rfl rfl (aC ji rfl)) rfl ?_
  refine ae.val rfl (ay rfl rfl dS) rfl ?_
  refine ae.val rfl (ah rfl) rfl ?_
  refine ae.bL 4 27 (.d (.bool ((a1.Kind == 1) || (a1.Kind == 5)))) ?_ ?_
  ·
   rcases Bool.eq_false_or_eq_true ((a1.Kind == 1)) with hB8 | hB8
   ·
    refine ae.bool hB8 ?_
    refine ae.no rfl rfl ?_
    refine ae.no rfl rfl ?_
    refine ae.no rfl rfl ?_
    refine ae.val rfl (az (b:=true) rfl rfl) rfl ?_
    exact ae.nil ⟨_,rfl,(aa.put (aa.push rfl (aa.push rfl (aa.push rfl (aa.put (.refl _) (Less.eq (by rw [hB8])))))) (Less.eq (by rw [hB8]; rw [Bool.true_or])))⟩
   refine ae.bool hB8 ?_
   refine ae.val rfl (ai rfl j3 mg rfl) rfl ?_
   refine ae.val rfl (av H6 (i:=0) rfl rfl (aC ji rfl)) rfl ?_
   refine ae.val rfl (ay rfl rfl dS) rfl ?_
   refine ae.val rfl (az (b:=false) rfl rfl) rfl ?_
   exact ae.nil ⟨_,rfl,(aa.put (aa.push rfl (aa.push rfl (aa.push rfl (aa.put (.refl _) (Less.eq (by rw [hB8])))))) (Less.eq (by rw [hB8]; rw [Bool.false_or])))⟩
  refine ae.val rfl (ah rfl) rfl ?_
  refine ae.bL 4 32 (.d (.bool (((a1.Kind == 1) || (a1.Kind == 5)) || (a1.Kind == 6)))) ?_ ?_
  ·
   rcases Bool.eq_false_or_eq_true (((a1.Kind == 1) || (a1.Kind == 5))) with hB9 | hB9
   ·
    refine ae.bool hB9 ?_
    refine ae.no rfl rfl ?_
    refine ae.no rfl rfl ?_
    refine ae.no rfl rfl ?_
    refine ae.val rfl (az (b:=true) rfl rfl) rfl ?_
    exact ae.nil ⟨_,rfl,(aa.put (aa.push rfl (aa.push rfl (aa.push rfl (aa.put (.refl _) (Less.eq (by rw [hB9])))))) (Less.eq (by rw [hB9]; rw [Bool.true_or])))⟩
   refine ae.bool hB9 ?_
   refine ae.val rfl (ai rfl j3 mg rfl) rfl ?_
   refine ae.val rfl (av H6 (i:=0) rfl rfl (aC ji rfl)) rfl ?_
   refine ae.val rfl (ay rfl rfl dS) rfl ?_
   refine ae.val rfl (az (b:=false) rfl rfl) rfl ?_
   exact ae.nil ⟨_,rfl,(aa.put (aa.push rfl (aa.push rfl (aa.push rfl (aa.put (.refl _) (Less.eq (by rw [hB9])))))) (Less.eq (by rw [hB9]; rw [Bool.false_or])))⟩
  refine ae.val rfl (aj rfl) rfl ?_
  refine ae.nil ?_
  refine ax.seq ?_
  refine ax.block ?_
  refine ax.seq ?_
  refine ax.region E.obj rfl ?_
  refine ae.val rfl (ai rfl j3 mg rfl) rfl ?_
  refine ae.val rfl (av H6 (i:=0) rfl rfl (aC ji rfl)) rfl ?_
  refine ae.val rfl (ay rfl rfl bQ) rfl ?_
  refine ae.val rfl (ah rfl) rfl ?_
  refine ae.bL 4 41 (.d (.bool ((decide (a1.Kind < 1)) || (decide (7 < a1.Kind))))) ?_ ?_
  ·
   rcases Bool.eq_false_or_eq_true ((decide (a1.Kind < 1))) with hB10 | hB10
   ·
    refine ae.bool hB10 ?_
    refine ae.no rfl rfl ?_
    refine ae.no rfl rfl ?_
    refine ae.no rfl rfl ?_
    refine ae.val rfl (az (b:=true) rfl rfl) rfl ?_
    exact ae.nil ⟨_,rfl,(aa.put (aa.push rfl (aa.push rfl (aa.push rfl (aa.put (.refl _) (Less.eq (by rw [hB10])))))) (Less.eq (by rw [hB10]; rw [Bool.true_or])))⟩
   refine ae.bool hB10 ?_
   refine ae.val rfl (ai rfl j3 mg rfl) rfl ?_
   refine ae.val rfl (av H6 (i:=0) rfl rfl (aC ji rfl)) rfl ?_
   refine ae.val rfl (ay rfl rfl jb) rfl ?_
   refine ae.val rfl (az (b:=false) rfl rfl) rfl ?_
   exact ae.nil ⟨_,rfl,(aa.put (aa.push rfl (aa.push rfl (aa.push rfl (aa.put (.refl _) (Less.eq (by rw [hB10])))))) (Less.eq (by rw [hB10]; rw [Bool.false_or])))⟩
  refine ae.val rfl (ah rfl) rfl ?_
  refine ae.bL 9 51 (.d (.bool (((decide (a1.Kind < 1)) || (decide (7 < a1.Kind))) || ((!(((a1.Kind == 1) || (a1.Kind == 5)) || (a1.Kind == 6))) && (decide (0 < ((a1.Kids).length:Int))))))) ?_ ?_
  ·
   rcases Bool.eq_false_or_eq_true (((decide (a1.Kind < 1)) || (decide (7 < a1.Kind)))) with hB11 | hB11
   ·
    refine ae.bool hB11 ?_
    refine ae.no rfl rfl ?_
    refine ae.no rfl rfl ?_
    refine ae.no rfl rfl ?_
    refine ae.no rfl rfl ?_
    refine ae.no rfl rfl ?_
    refine ae.no rfl rfl ?_
    refine ae.no rfl rfl ?_
    refine ae.no rfl rfl ?_
    refine ae.val rfl (az (b:=true) rfl rfl) rfl ?_
    exact ae.nil ⟨_,rfl,(aa.put (aa.push rfl (aa.push rfl (aa.push rfl (aa.push rfl (aa.push rfl (aa.push rfl (aa.push rfl (aa.push rfl (aa.put (.refl _) (Less.eq (by rw [hB11]))))))))))) (Less.eq (by rw [hB11]; rw [Bool.true_or])))⟩
   refine ae.bool hB11 ?_
   refine ae.val rfl (ah rfl) rfl ?_
   refine ae.val rfl (fP rfl) rfl ?_
   refine ae.val rfl (ah rfl) rfl ?_
   refine ae.bL 5 50 (.d (.bool ((!(((a1.Kind == 1) || (a1.Kind == 5)) || (a1.Kind == 6))) && (decide (0 < ((a1.Kids).length:Int)))))) ?_ ?_
   ·
    rcases Bool.eq_false_or_eq_true ((!(((a1.Kind == 1) || (a1.Kind == 5)) || (a1.Kind == 6)))) with hB12 | hB12
    ·
     refine ae.bool hB12 ?_
     refine ae.val rfl (ai rfl jN qO rfl) rfl ?_
     refine ae.val rfl (av H6 (i:=0) rfl rfl (aC xu rfl)) rfl ?_
     refine ae.val rfl (bz rfl Bv) rfl ?_
     refine ae.val rfl (ay rfl rfl jb) rfl ?_
     refine ae.val rfl (az (b:=true) rfl rfl) rfl ?_
     exact ae.nil ⟨_,rfl,(aa.put (aa.push rfl (aa.push rfl (aa.push rfl (aa.push rfl (aa.put (.refl _) (Less.eq (by rw [hB12]))))))) (Less.eq (by rw [hB12]; rw [Bool.true_and])))⟩
    refine ae.bool hB12 ?_
    refine ae.no rfl rfl ?_
    refine ae.no rfl rfl ?_
    refine ae.no rfl rfl ?_
    refine ae.no rfl rfl ?_
    refine ae.val rfl (az (b:=false) rfl rfl) rfl ?_
    exact ae.nil ⟨_,rfl,(aa.put (aa.push rfl (aa.push rfl (aa.push rfl (aa.push rfl (aa.put (.refl _) (Less.eq (by rw [hB12]))))))) (Less.eq (by rw [hB12]; rw [Bool.false_and])))⟩
   refine ae.val rfl (az (b:=false) rfl rfl) rfl ?_
   exact ae.nil ⟨_,rfl,(aa.put (aa.push rfl (aa.push rfl (aa.push rfl (aa.push rfl (aa.put (.refl _) (Less.eq (by rw [hB11]))))))) (Less.eq (by rw [hB11]; rw [Bool.false_or])))⟩
  refine ae.val rfl (aj rfl) rfl ?_
  refine ae.nil ?_
  refine ax.cond rfl (fun hb13=>?_) (fun hb13=>?_)
  ·
   replace h:=dK hb13 h
   refine ax.seq ?_
   refine ax.region E.obj rfl ?_
   refine ae.val rfl (aj rfl) rfl ?_
   refine ae.nil ?_
   have hr:=Option.some.inj h
   subst hr
   exact ax.ret ⟨_,rfl,rfl,fE (aD.eq .nil)⟩
  replace h:=dJ hb13 h
  refine ax.join (B:=aI) (α:=Bool) (fun a=>jd n (fq n) a1 a2 a3 a=some r) (fun a=>[(1,(.d (.int .i64 a2))),(2,(.d (.bool a3))),(3,(.ptr b4 0 0)),(7,(.d (.bool ((decide (0 ≤ a1.N)) && (decide (a1.N < a2)))))),(52,(.d (.bool a)))]) (fun a=>[.box b4 [(.d (.int .i64 a1.Kind)),(.d (.int .i64 a1.N)),(.d (.str a1.Tag)),(.d (.str a1.Text)),(.d (.sl ((a1.bB).map aU) false)),(.d (.sl ((a1.Kids).map aH) false))]]) ?_ ?_
  ·
   intro x16 S14 H15 h
   replace h:jd n (fq n) a1 a2 a3 x16=some r:=h
   replace H15:Has aI S14 [.box b4 [(.d (.int .i64 a1.Kind)),(.d (.int .i64 a1.N)),(.d (.str a1.Tag)),(.d (.str a1.Text)),(.d (.sl ((a1.bB).map aU) false)),(.d (.sl ((a1.Kids).map aH) false))]]:=H15
   unfold jd at h
   refine ax.cond rfl (fun hb18=>?_) (fun hb18=>?_)
   ·
    replace h:=dK hb18 h
    refine ax.seq ?_
    refine ax.region E.obj rfl ?_
    refine ae.val rfl (aj rfl) rfl ?_
    refine ae.nil ?_
    have hr:=Option.some.inj h
    subst hr
    exact ax.ret ⟨_,rfl,rfl,fE (aD.eq .nil)⟩
   replace h:=dJ hb18 h
   refine ax.seq ?_
   refine ax.region E.obj rfl ?_
   refine ae.val rfl (ai rfl j3 mg rfl) rfl ?_
   refine ae.val rfl (av H15 (i:=0) rfl rfl (aC ji rfl)) rfl ?_
   refine ae.val rfl (ay rfl rfl dS) rfl ?_
   refine ae.val rfl (ah rfl) rfl ?_
   refine ae.bL 4 70 (.d (.bool ((a1.Kind == 3) || (a1.Kind == 5)))) ?_ ?_
   ·
    rcases Bool.eq_false_or_eq_true ((a1.Kind == 3)) with hB19 | hB19
    ·
     refine ae.bool hB19 ?_
     refine ae.no rfl rfl ?_
     refine ae.no rfl rfl ?_
     refine ae.no rfl rfl ?_
     refine ae.val rfl (az (b:=true) rfl rfl) rfl ?_
     exact ae.nil ⟨_,rfl,(aa.put (aa.push rfl (aa.push rfl (aa.push rfl (aa.put (.refl _) (Less.eq (by rw [hB19])))))) (Less.eq (by rw [hB19]; rw [Bool.true_or])))⟩
    refine ae.bool hB19 ?_
    refine ae.val rfl (ai rfl j3 mg rfl) rfl ?_
    refine ae.val rfl (av H15 (i:=0) rfl rfl (aC ji rfl)) rfl ?_
    refine ae.val rfl (ay rfl rfl dS) rfl ?_
    refine ae.val rfl (az (b:=false) rfl rfl) rfl ?_
    exact ae.nil ⟨_,rfl,(aa.put (aa.push rfl (aa.push rfl (aa.push rfl (aa.put (.refl _) (Less.eq (by rw [hB19])))))) (Less.eq (by rw [hB19]; rw [Bool.false_or])))⟩
   refine ae.val rfl (ah rfl) rfl ?_
   refine ae.bL 4 75 (.d (.bool (((a1.Kind == 3) || (a1.Kind == 5)) || (a1.Kind == 6)))) ?_ ?_
   ·
    rcases Bool.eq_false_or_eq_true (((a1.Kind == 3) || (a1.Kind == 5))) with hB20 | hB20
    ·
     refine ae.bool hB20 ?_
     refine ae.no rfl rfl ?_
     refine ae.no rfl rfl ?_
     refine ae.no rfl rfl ?_
     refine ae.val rfl (az (b:=true) rfl rfl) rfl ?_
     exact ae.nil ⟨_,rfl,(aa.put (aa.push rfl (aa.push rfl (aa.push rfl (aa.put (.refl _) (Less.eq (by rw [hB20])))))) (Less.eq (by rw [hB20]; rw [Bool.true_or])))⟩
    refine ae.bool hB20 ?_
    refine ae.val rfl (ai rfl j3 mg rfl) rfl ?_
    refine ae.val rfl (av H15 (i:=0) rfl rfl (aC ji rfl)) rfl ?_
    refine ae.val rfl (ay rfl rfl dS) rfl ?_
    refine ae.val rfl (az (b:=false) rfl rfl) rfl ?_
    exact ae.nil ⟨_,rfl,(aa.put (aa.push rfl (aa.push rfl (aa.push rfl (aa.put (.refl _) (Less.eq (by rw [hB20])))))) (Less.eq (by rw [hB20]; rw [Bool.false_or])))⟩
   refine ae.val rfl (ah rfl) rfl ?_
   refine ae.bL 3 79 (.d (.bool ((((a1.Kind == 3) || (a1.Kind == 5)) || (a1.Kind == 6)) && (!((decide (0 ≤ a1.N)) && (decide (a1.N < a2))))))) ?_ ?_
   ·
    rcases Bool.eq_false_or_eq_true ((((a1.Kind == 3) || (a1.Kind == 5)) || (a1.Kind == 6))) with hB21 | hB21
    ·
     refine ae.bool hB21 ?_
     refine ae.val rfl (ah rfl) rfl ?_
     refine ae.val rfl (fP rfl) rfl ?_
     refine ae.val rfl (az (b:=true) rfl rfl) rfl ?_
     exact ae.nil ⟨_,rfl,(aa.put (aa.push rfl (aa.push rfl (aa.put (.refl _) (Less.eq (by rw [hB21]))))) (Less.eq (by rw [hB21]; rw [Bool.true_and])))⟩
    refine ae.bool hB21 ?_
    refine ae.no rfl rfl ?_
    refine ae.no rfl rfl ?_
    refine ae.val rfl (az (b:=false) rfl rfl) rfl ?_
    exact ae.nil ⟨_,rfl,(aa.put (aa.push rfl (aa.push rfl (aa.put (.refl _) (Less.eq (by rw [hB21]))))) (Less.eq (by rw [hB21]; rw [Bool.false_and])))⟩
   refine ae.val rfl (aj rfl) rfl ?_
   refine ae.nil ?_
   refine ax.cond rfl (fun hb22=>?_) (fun hb22=>?_)
   ·
    replace h:=dK hb22 h
    refine ax.seq ?_
    refine ax.region E.obj rfl ?_
    refine ae.val rfl (aj rfl) rfl ?_
    refine ae.nil ?_
    have hr:=Option.some.inj h
    subst hr
    exact ax.ret ⟨_,rfl,rfl,fE (aD.eq .nil)⟩
   replace h:=dJ hb22 h
   refine ax.skip ?_
   refine ax.seq ?_
   refine ax.region E.obj rfl ?_
   refine ae.val rfl (ah rfl) rfl ?_
   refine ae.val rfl (ah rfl) rfl ?_
   refine ae.bL 4 85 (.d (.bool (a3 || (a1.Kind == 5)))) ?_ ?_
   ·
    rcases Bool.eq_false_or_eq_true (a3) with hB23 | hB23
    ·
     refine ae.bool hB23 ?_
     refine ae.no rfl rfl ?_
     refine ae.no rfl rfl ?_
     refine ae.no rfl rfl ?_
     refine ae.val rfl (az (b:=true) rfl rfl) rfl ?_
     exact ae.nil ⟨_,rfl,(aa.put (aa.push rfl (aa.push rfl (aa.push rfl (aa.put (.refl _) (Less.eq (by rw [hB23])))))) (Less.eq (by rw [hB23]; rw [Bool.true_or])))⟩
    refine ae.bool hB23 ?_
    refine ae.val rfl (ai rfl j3 mg rfl) rfl ?_
    refine ae.val rfl (av H15 (i:=0) rfl rfl (aC ji rfl)) rfl ?_
    refine ae.val rfl (ay rfl rfl dS) rfl ?_
    refine ae.val rfl (az (b:=false) rfl rfl) rfl ?_
    exact ae.nil ⟨_,rfl,(aa.put (aa.push rfl (aa.push rfl (aa.push rfl (aa.put (.refl _) (Less.eq (by rw [hB23])))))) (Less.eq (by rw [hB23]; rw [Bool.false_or])))⟩
   refine ae.val rfl (ah rfl) rfl ?_
   refine ae.bL 4 90 (.d (.bool ((a3 || (a1.Kind == 5)) || (a1.Kind == 6)))) ?_ ?_
   ·
    rcases Bool.eq_false_or_eq_true ((a3 || (a1.Kind == 5))) with hB24 | hB24
    ·
     refine ae.bool hB24 ?_
     refine ae.no rfl rfl ?_
     refine ae.no rfl rfl ?_
     refine ae.no rfl rfl ?_
     refine ae.val rfl (az (b:=true) rfl rfl) rfl ?_
     exact ae.nil ⟨_,rfl,(aa.put (aa.push rfl (aa.push rfl (aa.push rfl (aa.put (.refl _) (Less.eq (by rw [hB24])))))) (Less.eq (by rw [hB24]; rw [Bool.true_or])))⟩
    refine ae.bool hB24 ?_
    refine ae.val rfl (ai rfl j3 mg rfl) rfl ?_
    refine ae.val rfl (av H15 (i:=0) rfl rfl (aC ji rfl)) rfl ?_
    refine ae.val rfl (ay rfl rfl dS) rfl ?_
    refine ae.val rfl (az (b:=false) rfl rfl) rfl ?_
    exact ae.nil ⟨_,rfl,(aa.put (aa.push rfl (aa.push rfl (aa.push rfl (aa.put (.refl _) (Less.eq (by rw [hB24])))))) (Less.eq (by rw [hB24]; rw [Bool.false_or])))⟩
   refine ae.val rfl (aj rfl) rfl ?_
   refine ae.nil ?_
   refine ax.seq ?_
   refine ax.seq ?_
   refine ax.region E.obj rfl ?_
   refine ae.val rfl (ai rfl jN qO rfl) rfl ?_
   refine ae.val rfl (av H15 (i:=0) rfl rfl (aC xu rfl)) rfl ?_
   refine ae.val rfl (bz rfl Bv) rfl ?_
   refine ae.val rfl (ah rfl) rfl ?_
   refine ae.nil ?_
   refine ax.block ?_
   refine nR.start (B:=aI) (α:=Int) (fun k a=>gB (fq n) a1 a2 a3 k a=some r) (fun a=>[(1,(.d (.int .i64 a2))),(2,(.d (.bool ((a3 || (a1.Kind == 5)) || (a1.Kind == 6))))),(92,(.d (.sl ((a1.Kids).map aH) false))),(93,(.d (.int .i64 ((a1.Kids).length:Int)))),(94,(.d (.int .i64 a)))]) (fun a=>[]) ?_ ?_ n ⟨0,_,_,S14,.refl _ _,.refl _,(aa.r rfl (aa.r rfl (aa.r rfl (aa.r rfl (aa.r rfl aa.nil))))),H15.sl [] rfl rfl,h⟩
   ·
    intro a h; simp [gB] at h
   intro k33 x32 S30 H31 h
   replace h:gB (fq n) a1 a2 a3 (k33 + 1) x32=some r:=h
   replace H31:Has aI S30 []:=H31
   unfold gB at h
   refine ax.seq ?_
   refine ax.region E.obj rfl ?_
   refine ae.val rfl (ay rfl rfl bQ) rfl ?_
   refine ae.nil ?_
   refine ax.seq ?_
   refine ax.cond rfl (fun hb34=>?_) (fun hb34=>?_)
   ·
    replace h:=dK hb34 h
    refine ax.skip ?_
    refine ax.seq ?_
    refine ax.block ?_
    refine ax.seq ?_
    refine ax.region E.obj rfl ?_
    obtain ⟨z35,hzz35,h⟩:=bind_some h
    refine ae.val rfl (df rfl rfl (dQ (enc:=aH) hzz35 nz nD ((aF.len _).trans eO.symm))) rfl ?_
    refine ae.val rfl (bD rfl (aF.jO jf eO)) rfl ?_
    refine ae.alloc H31 rfl wM jV rfl rfl (fun b36 S37 H38=>?_)
    refine ae.store H38 (i:=0) rfl rfl rfl rfl (aF.bu _) rfl eO rfl nD rfl rfl rfl (fun S39 H40=>?_)
    refine ae.nil ?_
    refine ax.seq ?_
    refine ax.region E.obj rfl ?_
    refine ae.val rfl (av H40 (i:=0) rfl rfl (bf jf eO rfl)) rfl ?_
    refine ae.less (Less.agg' (d:=aH z35) (ak.eq rfl (ak.eq rfl (ak.eq rfl (ak.eq rfl (ak.eq rfl (ak.eq rfl .nil)))))) ((aF.eq _).trans rfl)) ?_
    refine ae.val rfl (ah rfl) rfl ?_
    refine ae.val rfl (ah rfl) rfl ?_
    obtain ⟨z41,hzz41,h⟩:=bind_some h
    refine ae.ret rfl (aA rfl rfl) (ih _ _ _ _ hzz41 _ _ (aD.eq (aD.eq (aD.eq .nil)))) rfl ?_
    refine ae.val rfl (fP rfl) rfl ?_
    refine ae.nil ?_
    refine ax.cond rfl (fun hb42=>?_) (fun hb42=>?_)
    ·
     replace h:=dK hb42 h
     refine ax.seq ?_
     refine ax.region E.obj rfl ?_
     refine ae.val rfl (aj rfl) rfl ?_
     refine ae.nil ?_
     have hr:=Option.some.inj h
     subst hr
     exact ax.ret ⟨_,rfl,rfl,fE (aD.eq .nil)⟩
    replace h:=dJ hb42 h
    refine ax.skip ?_
    refine ax.region E.obj rfl ?_
    refine ae.val rfl (ay rfl rfl cu) rfl ?_
    refine ae.val rfl (ah rfl) rfl ?_
    refine ae.nil ?_
    exact ⟨(IntKind.wrap .i64 (x32 + 1)),_,_,S39,.refl _ _,.refl _,(aa.r rfl (aa.r rfl (aa.r rfl (aa.r rfl (aa.r rfl aa.nil))))),H40.sl [] rfl rfl,h⟩
   replace h:=dJ hb34 h
   refine ax.exit ?_
   refine ax.seq ?_
   refine ax.region E.obj rfl ?_
   refine ae.val rfl (aj rfl) rfl ?_
   refine ae.nil ?_
   have hr:=Option.some.inj h
   subst hr
   exact ax.ret ⟨_,rfl,rfl,fE (aD.eq .nil)⟩
  refine ax.seq ?_
  refine ax.region E.obj rfl ?_
  refine ae.val rfl (ai rfl FO Bz rfl) rfl ?_
  refine ae.val rfl (av H6 (i:=0) rfl rfl (aC vW rfl)) rfl ?_
  refine ae.val rfl (ay rfl rfl nP) rfl ?_
  refine ae.val rfl (aj rfl) rfl ?_
  refine ae.nil ?_
  refine ax.cond rfl (fun hb43=>?_) (fun hb43=>?_)
  ·
   replace h:=dK hb43 h
   refine ax.skip ?_
   exact ⟨(a1.Tag == [111,117,116,108,101,116]),_,_,S5,.refl _ _,.refl _,(aa.r rfl (aa.r rfl (aa.r rfl (aa.r rfl (aa.r rfl aa.nil))))),H6.sl [0] rfl rfl,h⟩
  replace h:=dJ hb43 h
  refine ax.region E.obj rfl ?_
  refine ae.val rfl (ai rfl j3 mg rfl) rfl ?_
  refine ae.val rfl (av H6 (i:=0) rfl rfl (aC ji rfl)) rfl ?_
  refine ae.val rfl (ay rfl rfl dS) rfl ?_
  refine ae.val rfl (ah rfl) rfl ?_
  refine ae.bL 2 61 (.d (.bool ((a1.Kind == 7) && a3))) ?_ ?_
  ·
   rcases Bool.eq_false_or_eq_true ((a1.Kind == 7)) with hB44 | hB44
   ·
    refine ae.bool hB44 ?_
    refine ae.val rfl (ah rfl) rfl ?_
    refine ae.val rfl (az (b:=true) rfl rfl) rfl ?_
    exact ae.nil ⟨_,rfl,(aa.put (aa.push rfl (aa.put (.refl _) (Less.eq (by rw [hB44])))) (Less.eq (by rw [hB44]; rw [Bool.true_and])))⟩
   refine ae.bool hB44 ?_
   refine ae.no rfl rfl ?_
   refine ae.val rfl (az (b:=false) rfl rfl) rfl ?_
   exact ae.nil ⟨_,rfl,(aa.put (aa.push rfl (aa.put (.refl _) (Less.eq (by rw [hB44])))) (Less.eq (by rw [hB44]; rw [Bool.false_and])))⟩
  refine ae.val rfl (aj rfl) rfl ?_
  refine ae.nil ?_
  exact ⟨((a1.Kind == 7) && a3),_,_,S5,.refl _ _,.refl _,(aa.r rfl (aa.r rfl (aa.r rfl (aa.r rfl (aa.r rfl aa.nil))))),H6.sl [0] rfl rfl,h⟩
set_option maxRecDepth 20000 in
set_option maxHeartbeats 4000000 in
theorem yU (n:Nat) (a1:aF) (a2:Int) (r:Bool) (h:j5 n a1 a2=some r):bU R cfg.P 39 [(aH a1),(.int .i64 a2)] (.d (.bool r)):=by
 unfold j5 at h
 refine bU.of_wp E.obj.toObjOk (C:=cfg) Tryd.func39 rfl Lp rfl ?_
 have H0:Has aI aI []:=Has.pure
 refine ax.seq ?_
 refine ax.region E.obj rfl ?_
 refine ae.box H0 rfl rfl rfl (aF.bu _) rfl (fun b3 S4 H5=>?_)
 refine ae.val rfl (aj rfl) rfl ?_
 refine ae.nil ?_
 refine ax.seq ?_
 refine ax.region E.obj rfl ?_
 refine ae.val rfl (av H5 (i:=0) rfl rfl (bf jf eO rfl)) rfl ?_
 refine ae.less (Less.agg' (d:=aH a1) (ak.eq rfl (ak.eq rfl (ak.eq rfl (ak.eq rfl (ak.eq rfl (ak.eq rfl .nil)))))) ((aF.eq _).trans rfl)) ?_
 obtain ⟨z6,hzz6,h⟩:=bind_some h
 refine ae.ret rfl (aA rfl rfl) (sJ E _ _ _ hzz6 _ _ (aD.eq .nil)) rfl ?_
 refine ae.val rfl (ah rfl) rfl ?_
 refine ae.val rfl (nO rfl rfl) rfl ?_
 refine ae.val rfl (nO rfl rfl) rfl ?_
 refine ae.val rfl (aj rfl) rfl ?_
 refine ae.val rfl (aj rfl) rfl ?_
 refine ae.nil ?_
 refine ax.seq ?_
 refine ax.region E.obj rfl ?_
 refine ae.val rfl (ai rfl j3 mg rfl) rfl ?_
 refine ae.val rfl (av H5 (i:=0) rfl rfl (aC ji rfl)) rfl ?_
 refine ae.val rfl (ay rfl rfl dS) rfl ?_
 refine ae.val rfl (ah rfl) rfl ?_
 refine ae.bL 3 18 (.d (.bool ((a1.Kind == 1) && (decide (z6.1 ≤ 60))))) ?_ ?_
 ·
  rcases Bool.eq_false_or_eq_true ((a1.Kind == 1)) with hB7 | hB7
  ·
   refine ae.bool hB7 ?_
   refine ae.val rfl (ah rfl) rfl ?_
   refine ae.val rfl (ay rfl rfl oK) rfl ?_
   refine ae.val rfl (az (b:=true) rfl rfl) rfl ?_
   exact ae.nil ⟨_,rfl,(aa.put (aa.push rfl (aa.push rfl (aa.put (.refl _) (Less.eq (by rw [hB7]))))) (Less.eq (by rw [hB7]; rw [Bool.true_and])))⟩
  refine ae.bool hB7 ?_
  refine ae.no rfl rfl ?_
  refine ae.no rfl rfl ?_
  refine ae.val rfl (az (b:=false) rfl rfl) rfl ?_
  exact ae.nil ⟨_,rfl,(aa.put (aa.push rfl (aa.push rfl (aa.put (.refl _) (Less.eq (by rw [hB7]))))) (Less.eq (by rw [hB7]; rw [Bool.false_and])))⟩
 refine ae.val rfl (ah rfl) rfl ?_
 refine ae.bL 3 22 (.d (.bool (((a1.Kind == 1) && (decide (z6.1 ≤ 60))) && (decide (z6.2 ≤ 12))))) ?_ ?_
 ·
  rcases Bool.eq_false_or_eq_true (((a1.Kind == 1) && (decide (z6.1 ≤ 60)))) with hB8 | hB8
  ·
   refine ae.bool hB8 ?_
   refine ae.val rfl (ah rfl) rfl ?_
   refine ae.val rfl (ay rfl rfl oK) rfl ?_
   refine ae.val rfl (az (b:=true) rfl rfl) rfl ?_
   exact ae.nil ⟨_,rfl,(aa.put (aa.push rfl (aa.push rfl (aa.put (.refl _) (Less.eq (by rw [hB8]))))) (Less.eq (by rw [hB8]; rw [Bool.true_and])))⟩
  refine ae.bool hB8 ?_
  refine ae.no rfl rfl ?_
  refine ae.no rfl rfl ?_
  refine ae.val rfl (az (b:=false) rfl rfl) rfl ?_
  exact ae.nil ⟨_,rfl,(aa.put (aa.push rfl (aa.push rfl (aa.put (.refl _) (Less.eq (by rw [hB8]))))) (Less.eq (by rw [hB8]; rw [Bool.false_and])))⟩
 refine ae.val rfl (ah rfl) rfl ?_
 obtain ⟨z10,hzz10,h⟩:=bind_some h
 refine ae.bL 4 27 (.d (.bool z10)) ?_ ?_
 ·
  rcases Bool.eq_false_or_eq_true ((((a1.Kind == 1) && (decide (z6.1 ≤ 60))) && (decide (z6.2 ≤ 12)))) with hB9 | hB9
  ·
   refine ae.bool hB9 ?_
   replace hzz10:=dK hB9 hzz10
   refine ae.val rfl (av H5 (i:=0) rfl rfl (bf jf eO rfl)) rfl ?_
   refine ae.less (Less.agg' (d:=aH a1) (ak.eq rfl (ak.eq rfl (ak.eq rfl (ak.eq rfl (ak.eq rfl (ak.eq rfl .nil)))))) ((aF.eq _).trans rfl)) ?_
   refine ae.val rfl (ah rfl) rfl ?_
   obtain ⟨z11,hzz11,hzz10⟩:=bind_some hzz10
   refine ae.ret rfl (aA rfl rfl) (sH E _ _ _ _ _ hzz11 _ _ (aD.eq (aD.eq (aD.eq .nil)))) rfl ?_
   refine ae.val rfl (az (b:=true) rfl rfl) rfl ?_
   cases hzz10
   exact ae.nil ⟨_,rfl,(aa.put (aa.push rfl (aa.push rfl (aa.push rfl (aa.put (.refl _) (Less.eq (by rw [hB9])))))) (.refl _))⟩
  refine ae.bool hB9 ?_
  refine ae.no rfl rfl ?_
  refine ae.no rfl rfl ?_
  refine ae.no rfl rfl ?_
  refine ae.val rfl (az (b:=false) rfl rfl) rfl ?_
  replace hzz10:=dJ hB9 hzz10
  cases hzz10
  exact ae.nil ⟨_,rfl,(aa.put (aa.push rfl (aa.push rfl (aa.push rfl (aa.put (.refl _) (Less.eq (by rw [hB9])))))) (.refl _))⟩
 refine ae.val rfl (aj rfl) rfl ?_
 refine ae.nil ?_
 have hr:=Option.some.inj h
 subst hr
 exact ax.ret ⟨_,rfl,rfl,fE (aD.eq .nil)⟩
set_option maxRecDepth 20000 in
set_option maxHeartbeats 4000000 in
theorem zb (n:Nat) (a1:aG) (r:Bool) (h:ib n a1=some r):bU R cfg.P 15 [(aM a1)] (.d (.bool r)):=by
 unfold ib at h
 refine bU.of_wp E.obj.toObjOk (C:=cfg) Tryd.func15 rfl LF rfl ?_
 have H0:Has aI aI []:=Has.pure
 refine ax.seq ?_
 refine ax.region E.obj rfl ?_
 refine ae.box H0 rfl rfl rfl (aG.bu _) rfl (fun b2 S3 H4=>?_)
 refine ae.val rfl (aj rfl) rfl ?_
 refine ae.nil ?_
 refine ax.seq ?_
 refine ax.seq ?_
 refine ax.region E.obj rfl ?_
 refine ae.val rfl (ai rfl um lK rfl) rfl ?_
 refine ae.val rfl (av H4 (i:=0) rfl rfl (aC lX rfl)) rfl ?_
 refine ae.val rfl (bz rfl xS) rfl ?_
 refine ae.val rfl (ay rfl rfl jb) rfl ?_
 refine ae.val rfl (ah rfl) rfl ?_
 obtain ⟨z6,hzz6,h⟩:=bind_some h
 refine ae.bL 5 15 (.d (.bool z6)) ?_ ?_
 ·
  rcases Bool.eq_false_or_eq_true ((decide (6 < ((a1.Init).length:Int)))) with hB5 | hB5
  ·
   refine ae.bool hB5 ?_
   refine ae.no rfl rfl ?_
   refine ae.no rfl rfl ?_
   refine ae.no rfl rfl ?_
   refine ae.no rfl rfl ?_
   refine ae.val rfl (az (b:=true) rfl rfl) rfl ?_
   replace hzz6:=dK hB5 hzz6
   cases hzz6
   exact ae.nil ⟨_,rfl,(aa.put (aa.push rfl (aa.push rfl (aa.push rfl (aa.push rfl (aa.put (.refl _) (Less.eq (by rw [hB5]))))))) (.refl _))⟩
  refine ae.bool hB5 ?_
  replace hzz6:=dJ hB5 hzz6
  refine ae.val rfl (ai rfl um lK rfl) rfl ?_
  refine ae.val rfl (av H4 (i:=0) rfl rfl (aC lX rfl)) rfl ?_
  obtain ⟨z7,hzz7,hzz6⟩:=bind_some hzz6
  refine ae.ret rfl (aA rfl rfl) (CE E _ _ _ hzz7 _ _ (aD.eq .nil)) rfl ?_
  refine ae.val rfl (fP rfl) rfl ?_
  refine ae.val rfl (az (b:=false) rfl rfl) rfl ?_
  cases hzz6
  exact ae.nil ⟨_,rfl,(aa.put (aa.push rfl (aa.push rfl (aa.push rfl (aa.push rfl (aa.put (.refl _) (Less.eq (by rw [hB5]))))))) (.refl _))⟩
 refine ae.val rfl (ah rfl) rfl ?_
 refine ae.bL 5 21 (.d (.bool (z6 || (decide (24 < ((a1.On).length:Int)))))) ?_ ?_
 ·
  rcases Bool.eq_false_or_eq_true (z6) with hB8 | hB8
  ·
   refine ae.bool hB8 ?_
   refine ae.no rfl rfl ?_
   refine ae.no rfl rfl ?_
   refine ae.no rfl rfl ?_
   refine ae.no rfl rfl ?_
   refine ae.val rfl (az (b:=true) rfl rfl) rfl ?_
   exact ae.nil ⟨_,rfl,(aa.put (aa.push rfl (aa.push rfl (aa.push rfl (aa.push rfl (aa.put (.refl _) (Less.eq (by rw [hB8]))))))) (Less.eq (by rw [hB8]; rw [Bool.true_or])))⟩
  refine ae.bool hB8 ?_
  refine ae.val rfl (ai rfl yO Hw rfl) rfl ?_
  refine ae.val rfl (av H4 (i:=0) rfl rfl (aC IE rfl)) rfl ?_
  refine ae.val rfl (bz rfl Kv) rfl ?_
  refine ae.val rfl (ay rfl rfl jb) rfl ?_
  refine ae.val rfl (az (b:=false) rfl rfl) rfl ?_
  exact ae.nil ⟨_,rfl,(aa.put (aa.push rfl (aa.push rfl (aa.push rfl (aa.push rfl (aa.put (.refl _) (Less.eq (by rw [hB8]))))))) (Less.eq (by rw [hB8]; rw [Bool.false_or])))⟩
 refine ae.val rfl (ah rfl) rfl ?_
 obtain ⟨z10,hzz10,h⟩:=bind_some h
 refine ae.bL 8 30 (.d (.bool z10)) ?_ ?_
 ·
  rcases Bool.eq_false_or_eq_true ((z6 || (decide (24 < ((a1.On).length:Int))))) with hB9 | hB9
  ·
   refine ae.bool hB9 ?_
   refine ae.no rfl rfl ?_
   refine ae.no rfl rfl ?_
   refine ae.no rfl rfl ?_
   refine ae.no rfl rfl ?_
   refine ae.no rfl rfl ?_
   refine ae.no rfl rfl ?_
   refine ae.no rfl rfl ?_
   refine ae.val rfl (az (b:=true) rfl rfl) rfl ?_
   replace hzz10:=dK hB9 hzz10
   cases hzz10
   exact ae.nil ⟨_,rfl,(aa.put (aa.push rfl (aa.push rfl (aa.push rfl (aa.push rfl (aa.push rfl (aa.push rfl (aa.push rfl (aa.put (.refl _) (Less.eq (by rw [hB9])))))))))) (.refl _))⟩
  refine ae.bool hB9 ?_
  replace hzz10:=dJ hB9 hzz10
  refine ae.val rfl (ai rfl yg F3 rfl) rfl ?_
  refine ae.val rfl (av H4 (i:=0) rfl rfl (bf jf eO rfl)) rfl ?_
  refine ae.less (Less.agg' (d:=aH a1.aF) (ak.eq rfl (ak.eq rfl (ak.eq rfl (ak.eq rfl (ak.eq rfl (ak.eq rfl .nil)))))) ((aF.eq _).trans rfl)) ?_
  refine ae.val rfl (ai rfl um lK rfl) rfl ?_
  refine ae.val rfl (av H4 (i:=0) rfl rfl (aC lX rfl)) rfl ?_
  refine ae.val rfl (bz rfl xS) rfl ?_
  obtain ⟨z11,hzz11,hzz10⟩:=bind_some hzz10
  refine ae.ret rfl (aA rfl rfl) (yU E _ _ _ _ hzz11 _ _ (aD.eq (aD.eq .nil))) rfl ?_
  refine ae.val rfl (fP rfl) rfl ?_
  refine ae.val rfl (az (b:=false) rfl rfl) rfl ?_
  cases hzz10
  exact ae.nil ⟨_,rfl,(aa.put (aa.push rfl (aa.push rfl (aa.push rfl (aa.push rfl (aa.push rfl (aa.push rfl (aa.push rfl (aa.put (.refl _) (Less.eq (by rw [hB9])))))))))) (.refl _))⟩
 refine ae.nil ?_
 refine ax.cond rfl (fun hb12=>?_) (fun hb12=>?_)
 ·
  replace h:=dK hb12 h
  refine ax.seq ?_
  refine ax.region E.obj rfl ?_
  refine ae.val rfl (aj rfl) rfl ?_
  refine ae.nil ?_
  have hr:=Option.some.inj h
  subst hr
  exact ax.ret ⟨_,rfl,rfl,fE (aD.eq .nil)⟩
 replace h:=dJ hb12 h
 refine ax.skip ?_
 refine ax.seq ?_
 refine ax.seq ?_
 refine ax.region E.obj rfl ?_
 refine ae.val rfl (ai rfl yO Hw rfl) rfl ?_
 refine ae.val rfl (av H4 (i:=0) rfl rfl (aC IE rfl)) rfl ?_
 refine ae.val rfl (bz rfl Kv) rfl ?_
 refine ae.val rfl (ah rfl) rfl ?_
 refine ae.nil ?_
 refine ax.block ?_
 refine nR.start (B:=aI) (α:=Int) (fun k a=>gH n a1 k a=some r) (fun a=>[(1,(.ptr b2 0 0)),(32,(.d (.sl ((a1.On).map eH) false))),(33,(.d (.int .i64 ((a1.On).length:Int)))),(34,(.d (.int .i64 a)))]) (fun a=>[.box b2 [(.d (.int .i64 a1.aF.Kind)),(.d (.int .i64 a1.aF.N)),(.d (.str a1.aF.Tag)),(.d (.str a1.aF.Text)),(.d (.sl ((a1.aF.bB).map aU) false)),(.d (.sl ((a1.aF.Kids).map aH) false)),(.d (.sl ((a1.Init).map (D.int .i64)) false)),(.d (.sl ((a1.On).map eH) false))]]) ?_ ?_ n ⟨0,_,_,S3,.refl _ _,.refl _,(aa.r rfl (aa.r rfl (aa.r rfl (aa.r rfl aa.nil)))),H4.sl [0] rfl rfl,h⟩
 ·
  intro a h; simp [gH] at h
 intro k21 x20 S18 H19 h
 replace h:gH n a1 (k21 + 1) x20=some r:=h
 replace H19:Has aI S18 [.box b2 [(.d (.int .i64 a1.aF.Kind)),(.d (.int .i64 a1.aF.N)),(.d (.str a1.aF.Tag)),(.d (.str a1.aF.Text)),(.d (.sl ((a1.aF.bB).map aU) false)),(.d (.sl ((a1.aF.Kids).map aH) false)),(.d (.sl ((a1.Init).map (D.int .i64)) false)),(.d (.sl ((a1.On).map eH) false))]]:=H19
 unfold gH at h
 refine ax.seq ?_
 refine ax.region E.obj rfl ?_
 refine ae.val rfl (ay rfl rfl bQ) rfl ?_
 refine ae.nil ?_
 refine ax.seq ?_
 refine ax.cond rfl (fun hb22=>?_) (fun hb22=>?_)
 ·
  replace h:=dK hb22 h
  refine ax.skip ?_
  refine ax.seq ?_
  refine ax.block ?_
  refine ax.seq ?_
  refine ax.region E.obj rfl ?_
  obtain ⟨z23,hzz23,h⟩:=bind_some h
  refine ae.val rfl (df rfl rfl (dQ (enc:=eH) hzz23 EK KA ((On.len _).trans A9.symm))) rfl ?_
  refine ae.val rfl (bD rfl (On.jO Ih A9)) rfl ?_
  refine ae.alloc H19 rfl Mg GJ rfl rfl (fun b24 S25 H26=>?_)
  refine ae.store H26 (i:=0) rfl rfl rfl rfl (On.bu _) rfl A9 rfl KA rfl rfl rfl (fun S27 H28=>?_)
  refine ae.nil ?_
  refine ax.seq ?_
  refine ax.region E.obj rfl ?_
  refine ae.val rfl (ai rfl Db Bz rfl) rfl ?_
  refine ae.val rfl (av H28 (i:=0) rfl rfl (aC vW rfl)) rfl ?_
  refine ae.val rfl (ay rfl rfl zY) rfl ?_
  refine ae.val rfl (ah rfl) rfl ?_
  refine ae.bL 5 46 (.d (.bool ((!(z23.Event == [])) && (decide (((z23.Event).length:Int) ≤ 16))))) ?_ ?_
  ·
   rcases Bool.eq_false_or_eq_true ((!(z23.Event == []))) with hB29 | hB29
   ·
    refine ae.bool hB29 ?_
    refine ae.val rfl (ai rfl Db Bz rfl) rfl ?_
    refine ae.val rfl (av H28 (i:=0) rfl rfl (aC vW rfl)) rfl ?_
    refine ae.val rfl (rC rfl (zT Lb) rfl) rfl ?_
    refine ae.val rfl (ay rfl rfl oK) rfl ?_
    refine ae.val rfl (az (b:=true) rfl rfl) rfl ?_
    exact ae.nil ⟨_,rfl,(aa.put (aa.push rfl (aa.push rfl (aa.push rfl (aa.push rfl (aa.put (.refl _) (Less.eq (by rw [hB29]))))))) (Less.eq (by rw [hB29]; rw [Bool.true_and])))⟩
   refine ae.bool hB29 ?_
   refine ae.no rfl rfl ?_
   refine ae.no rfl rfl ?_
   refine ae.no rfl rfl ?_
   refine ae.no rfl rfl ?_
   refine ae.val rfl (az (b:=false) rfl rfl) rfl ?_
   exact ae.nil ⟨_,rfl,(aa.put (aa.push rfl (aa.push rfl (aa.push rfl (aa.push rfl (aa.put (.refl _) (Less.eq (by rw [hB29]))))))) (Less.eq (by rw [hB29]; rw [Bool.false_and])))⟩
  refine ae.val rfl (ah rfl) rfl ?_
  obtain ⟨z31,hzz31,h⟩:=bind_some h
  refine ae.bL 5 52 (.d (.bool z31)) ?_ ?_
  ·
   rcases Bool.eq_false_or_eq_true (((!(z23.Event == [])) && (decide (((z23.Event).length:Int) ≤ 16)))) with hB30 | hB30
   ·
    refine ae.bool hB30 ?_
    replace hzz31:=dK hB30 hzz31
    refine ae.val rfl (ai rfl Db Bz rfl) rfl ?_
    refine ae.val rfl (av H28 (i:=0) rfl rfl (aC vW rfl)) rfl ?_
    obtain ⟨z32,hzz32,hzz31⟩:=bind_some hzz31
    refine ae.ret rfl (aA rfl rfl) (E.strings_Trim_ok _ _ _ _ hzz32 _ _ (aD.eq (aD.eq .nil))) rfl ?_
    refine ae.val rfl (ay rfl rfl nP) rfl ?_
    refine ae.val rfl (az (b:=true) rfl rfl) rfl ?_
    cases hzz31
    exact ae.nil ⟨_,rfl,(aa.put (aa.push rfl (aa.push rfl (aa.push rfl (aa.push rfl (aa.put (.refl _) (Less.eq (by rw [hB30]))))))) (.refl _))⟩
   refine ae.bool hB30 ?_
   refine ae.no rfl rfl ?_
   refine ae.no rfl rfl ?_
   refine ae.no rfl rfl ?_
   refine ae.no rfl rfl ?_
   refine ae.val rfl (az (b:=false) rfl rfl) rfl ?_
   replace hzz31:=dJ hB30 hzz31
   cases hzz31
   exact ae.nil ⟨_,rfl,(aa.put (aa.push rfl (aa.push rfl (aa.push rfl (aa.push rfl (aa.put (.refl _) (Less.eq (by rw [hB30]))))))) (.refl _))⟩
  refine ae.val rfl (aj rfl) rfl ?_
  refine ae.nil ?_
  refine ax.seq ?_
  refine ax.region E.obj rfl ?_
  refine ae.val rfl (ah rfl) rfl ?_
  refine ae.val rfl (fP rfl) rfl ?_
  refine ae.val rfl (ah rfl) rfl ?_
  refine ae.bL 4 59 (.d (.bool ((!z31) || (decide (z23.N < 0))))) ?_ ?_
  ·
   rcases Bool.eq_false_or_eq_true ((!z31)) with hB33 | hB33
   ·
    refine ae.bool hB33 ?_
    refine ae.no rfl rfl ?_
    refine ae.no rfl rfl ?_
    refine ae.no rfl rfl ?_
    refine ae.val rfl (az (b:=true) rfl rfl) rfl ?_
    exact ae.nil ⟨_,rfl,(aa.put (aa.push rfl (aa.push rfl (aa.push rfl (aa.put (.refl _) (Less.eq (by rw [hB33])))))) (Less.eq (by rw [hB33]; rw [Bool.true_or])))⟩
   refine ae.bool hB33 ?_
   refine ae.val rfl (ai rfl FK mg rfl) rfl ?_
   refine ae.val rfl (av H28 (i:=0) rfl rfl (aC ji rfl)) rfl ?_
   refine ae.val rfl (ay rfl rfl bQ) rfl ?_
   refine ae.val rfl (az (b:=false) rfl rfl) rfl ?_
   exact ae.nil ⟨_,rfl,(aa.put (aa.push rfl (aa.push rfl (aa.push rfl (aa.put (.refl _) (Less.eq (by rw [hB33])))))) (Less.eq (by rw [hB33]; rw [Bool.false_or])))⟩
  refine ae.val rfl (ah rfl) rfl ?_
  refine ae.bL 7 67 (.d (.bool (((!z31) || (decide (z23.N < 0))) || (decide (((a1.Init).length:Int) ≤ z23.N))))) ?_ ?_
  ·
   rcases Bool.eq_false_or_eq_true (((!z31) || (decide (z23.N < 0)))) with hB34 | hB34
   ·
    refine ae.bool hB34 ?_
    refine ae.no rfl rfl ?_
    refine ae.no rfl rfl ?_
    refine ae.no rfl rfl ?_
    refine ae.no rfl rfl ?_
    refine ae.no rfl rfl ?_
    refine ae.no rfl rfl ?_
    refine ae.val rfl (az (b:=true) rfl rfl) rfl ?_
    exact ae.nil ⟨_,rfl,(aa.put (aa.push rfl (aa.push rfl (aa.push rfl (aa.push rfl (aa.push rfl (aa.push rfl (aa.put (.refl _) (Less.eq (by rw [hB34]))))))))) (Less.eq (by rw [hB34]; rw [Bool.true_or])))⟩
   refine ae.bool hB34 ?_
   refine ae.val rfl (ai rfl FK mg rfl) rfl ?_
   refine ae.val rfl (av H28 (i:=0) rfl rfl (aC ji rfl)) rfl ?_
   refine ae.val rfl (ai rfl um lK rfl) rfl ?_
   refine ae.val rfl (av H28 (i:=1) rfl rfl (aC lX rfl)) rfl ?_
   refine ae.val rfl (bz rfl xS) rfl ?_
   refine ae.val rfl (ay rfl rfl gM) rfl ?_
   refine ae.val rfl (az (b:=false) rfl rfl) rfl ?_
   exact ae.nil ⟨_,rfl,(aa.put (aa.push rfl (aa.push rfl (aa.push rfl (aa.push rfl (aa.push rfl (aa.push rfl (aa.put (.refl _) (Less.eq (by rw [hB34]))))))))) (Less.eq (by rw [hB34]; rw [Bool.false_or])))⟩
  refine ae.val rfl (ah rfl) rfl ?_
  obtain ⟨z36,hzz36,h⟩:=bind_some h
  refine ae.bL 5 73 (.d (.bool z36)) ?_ ?_
  ·
   rcases Bool.eq_false_or_eq_true ((((!z31) || (decide (z23.N < 0))) || (decide (((a1.Init).length:Int) ≤ z23.N)))) with hB35 | hB35
   ·
    refine ae.bool hB35 ?_
    refine ae.no rfl rfl ?_
    refine ae.no rfl rfl ?_
    refine ae.no rfl rfl ?_
    refine ae.no rfl rfl ?_
    refine ae.val rfl (az (b:=true) rfl rfl) rfl ?_
    replace hzz36:=dK hB35 hzz36
    cases hzz36
    exact ae.nil ⟨_,rfl,(aa.put (aa.push rfl (aa.push rfl (aa.push rfl (aa.push rfl (aa.put (.refl _) (Less.eq (by rw [hB35]))))))) (.refl _))⟩
   refine ae.bool hB35 ?_
   replace hzz36:=dJ hB35 hzz36
   refine ae.val rfl (ai rfl Jz mg rfl) rfl ?_
   refine ae.val rfl (av H28 (i:=0) rfl rfl (aC ji rfl)) rfl ?_
   obtain ⟨z37,hzz37,hzz36⟩:=bind_some hzz36
   refine ae.ret rfl (aA rfl rfl) (wJ E _ _ _ hzz37 _ _ (aD.eq .nil)) rfl ?_
   refine ae.val rfl (fP rfl) rfl ?_
   refine ae.val rfl (az (b:=false) rfl rfl) rfl ?_
   cases hzz36
   exact ae.nil ⟨_,rfl,(aa.put (aa.push rfl (aa.push rfl (aa.push rfl (aa.push rfl (aa.put (.refl _) (Less.eq (by rw [hB35]))))))) (.refl _))⟩
  refine ae.nil ?_
  refine ax.cond rfl (fun hb38=>?_) (fun hb38=>?_)
  ·
   replace h:=dK hb38 h
   refine ax.seq ?_
   refine ax.region E.obj rfl ?_
   refine ae.val rfl (aj rfl) rfl ?_
   refine ae.nil ?_
   have hr:=Option.some.inj h
   subst hr
   exact ax.ret ⟨_,rfl,rfl,fE (aD.eq .nil)⟩
  replace h:=dJ hb38 h
  refine ax.skip ?_
  refine ax.region E.obj rfl ?_
  refine ae.val rfl (ay rfl rfl cu) rfl ?_
  refine ae.val rfl (ah rfl) rfl ?_
  refine ae.nil ?_
  exact ⟨(IntKind.wrap .i64 (x20 + 1)),_,_,S27,.refl _ _,.refl _,(aa.r rfl (aa.r rfl (aa.r rfl (aa.r rfl aa.nil)))),H28.sl [1] rfl rfl,h⟩
 replace h:=dJ hb22 h
 refine ax.exit ?_
 refine ax.seq ?_
 refine ax.region E.obj rfl ?_
 refine ae.val rfl (aj rfl) rfl ?_
 refine ae.nil ?_
 have hr:=Option.some.inj h
 subst hr
 exact ax.ret ⟨_,rfl,rfl,fE (aD.eq .nil)⟩
set_option maxRecDepth 20000 in
set_option maxHeartbeats 4000000 in
theorem yS (n:Nat) (a1:aJ) (r:Bool) (h:oF n a1=some r):bU R cfg.P 16 [(mR a1)] (.d (.bool r)):=by
 unfold oF at h
 refine bU.of_wp E.obj.toObjOk (C:=cfg) Tryd.func16 rfl LG rfl ?_
 have H0:Has aI aI []:=Has.pure
 refine ax.seq ?_
 refine ax.region E.obj rfl ?_
 refine ae.box H0 rfl rfl rfl (aJ.bu _) rfl (fun b2 S3 H4=>?_)
 refine ae.val rfl (aj rfl) rfl ?_
 refine ae.nil ?_
 refine ax.seq ?_
 refine ax.region E.obj rfl ?_
 refine ae.val rfl (ai rfl qZ mg rfl) rfl ?_
 refine ae.val rfl (av H4 (i:=0) rfl rfl (aC ji rfl)) rfl ?_
 refine ae.val rfl (ay rfl rfl dS) rfl ?_
 refine ae.val rfl (ah rfl) rfl ?_
 refine ae.bL 4 11 (.d (.bool ((a1.Kind == 3) || (a1.Kind == 4)))) ?_ ?_
 ·
  rcases Bool.eq_false_or_eq_true ((a1.Kind == 3)) with hB5 | hB5
  ·
   refine ae.bool hB5 ?_
   refine ae.no rfl rfl ?_
   refine ae.no rfl rfl ?_
   refine ae.no rfl rfl ?_
   refine ae.val rfl (az (b:=true) rfl rfl) rfl ?_
   exact ae.nil ⟨_,rfl,(aa.put (aa.push rfl (aa.push rfl (aa.push rfl (aa.put (.refl _) (Less.eq (by rw [hB5])))))) (Less.eq (by rw [hB5]; rw [Bool.true_or])))⟩
  refine ae.bool hB5 ?_
  refine ae.val rfl (ai rfl qZ mg rfl) rfl ?_
  refine ae.val rfl (av H4 (i:=0) rfl rfl (aC ji rfl)) rfl ?_
  refine ae.val rfl (ay rfl rfl dS) rfl ?_
  refine ae.val rfl (az (b:=false) rfl rfl) rfl ?_
  exact ae.nil ⟨_,rfl,(aa.put (aa.push rfl (aa.push rfl (aa.push rfl (aa.put (.refl _) (Less.eq (by rw [hB5])))))) (Less.eq (by rw [hB5]; rw [Bool.false_or])))⟩
 refine ae.val rfl (aj rfl) rfl ?_
 refine ae.nil ?_
 refine ax.seq ?_
 refine ax.region E.obj rfl ?_
 refine ae.val rfl (ai rfl qZ mg rfl) rfl ?_
 refine ae.val rfl (av H4 (i:=0) rfl rfl (aC ji rfl)) rfl ?_
 refine ae.val rfl (ay rfl rfl gM) rfl ?_
 refine ae.val rfl (ah rfl) rfl ?_
 refine ae.bL 4 19 (.d (.bool ((decide (0 ≤ a1.Kind)) && (decide (a1.Kind ≤ 4))))) ?_ ?_
 ·
  rcases Bool.eq_false_or_eq_true ((decide (0 ≤ a1.Kind))) with hB6 | hB6
  ·
   refine ae.bool hB6 ?_
   refine ae.val rfl (ai rfl qZ mg rfl) rfl ?_
   refine ae.val rfl (av H4 (i:=0) rfl rfl (aC ji rfl)) rfl ?_
   refine ae.val rfl (ay rfl rfl oK) rfl ?_
   refine ae.val rfl (az (b:=true) rfl rfl) rfl ?_
   exact ae.nil ⟨_,rfl,(aa.put (aa.push rfl (aa.push rfl (aa.push rfl (aa.put (.refl _) (Less.eq (by rw [hB6])))))) (Less.eq (by rw [hB6]; rw [Bool.true_and])))⟩
  refine ae.bool hB6 ?_
  refine ae.no rfl rfl ?_
  refine ae.no rfl rfl ?_
  refine ae.no rfl rfl ?_
  refine ae.val rfl (az (b:=false) rfl rfl) rfl ?_
  exact ae.nil ⟨_,rfl,(aa.put (aa.push rfl (aa.push rfl (aa.push rfl (aa.put (.refl _) (Less.eq (by rw [hB6])))))) (Less.eq (by rw [hB6]; rw [Bool.false_and])))⟩
 refine ae.val rfl (ah rfl) rfl ?_
 refine ae.bL 4 24 (.d (.bool (((decide (0 ≤ a1.Kind)) && (decide (a1.Kind ≤ 4))) && (decide (0 ≤ a1.Flag))))) ?_ ?_
 ·
  rcases Bool.eq_false_or_eq_true (((decide (0 ≤ a1.Kind)) && (decide (a1.Kind ≤ 4)))) with hB7 | hB7
  ·
   refine ae.bool hB7 ?_
   refine ae.val rfl (ai rfl GD mg rfl) rfl ?_
   refine ae.val rfl (av H4 (i:=0) rfl rfl (aC ji rfl)) rfl ?_
   refine ae.val rfl (ay rfl rfl gM) rfl ?_
   refine ae.val rfl (az (b:=true) rfl rfl) rfl ?_
   exact ae.nil ⟨_,rfl,(aa.put (aa.push rfl (aa.push rfl (aa.push rfl (aa.put (.refl _) (Less.eq (by rw [hB7])))))) (Less.eq (by rw [hB7]; rw [Bool.true_and])))⟩
  refine ae.bool hB7 ?_
  refine ae.no rfl rfl ?_
  refine ae.no rfl rfl ?_
  refine ae.no rfl rfl ?_
  refine ae.val rfl (az (b:=false) rfl rfl) rfl ?_
  exact ae.nil ⟨_,rfl,(aa.put (aa.push rfl (aa.push rfl (aa.push rfl (aa.put (.refl _) (Less.eq (by rw [hB7])))))) (Less.eq (by rw [hB7]; rw [Bool.false_and])))⟩
 refine ae.val rfl (ah rfl) rfl ?_
 refine ae.bL 4 29 (.d (.bool ((((decide (0 ≤ a1.Kind)) && (decide (a1.Kind ≤ 4))) && (decide (0 ≤ a1.Flag))) && (decide (a1.Flag < 8))))) ?_ ?_
 ·
  rcases Bool.eq_false_or_eq_true ((((decide (0 ≤ a1.Kind)) && (decide (a1.Kind ≤ 4))) && (decide (0 ≤ a1.Flag)))) with hB8 | hB8
  ·
   refine ae.bool hB8 ?_
   refine ae.val rfl (ai rfl GD mg rfl) rfl ?_
   refine ae.val rfl (av H4 (i:=0) rfl rfl (aC ji rfl)) rfl ?_
   refine ae.val rfl (ay rfl rfl bQ) rfl ?_
   refine ae.val rfl (az (b:=true) rfl rfl) rfl ?_
   exact ae.nil ⟨_,rfl,(aa.put (aa.push rfl (aa.push rfl (aa.push rfl (aa.put (.refl _) (Less.eq (by rw [hB8])))))) (Less.eq (by rw [hB8]; rw [Bool.true_and])))⟩
  refine ae.bool hB8 ?_
  refine ae.no rfl rfl ?_
  refine ae.no rfl rfl ?_
  refine ae.no rfl rfl ?_
  refine ae.val rfl (az (b:=false) rfl rfl) rfl ?_
  exact ae.nil ⟨_,rfl,(aa.put (aa.push rfl (aa.push rfl (aa.push rfl (aa.put (.refl _) (Less.eq (by rw [hB8])))))) (Less.eq (by rw [hB8]; rw [Bool.false_and])))⟩
 refine ae.val rfl (ah rfl) rfl ?_
 refine ae.bL 7 37 (.d (.bool (((((decide (0 ≤ a1.Kind)) && (decide (a1.Kind ≤ 4))) && (decide (0 ≤ a1.Flag))) && (decide (a1.Flag < 8))) && (((a1.Kind == 3) || (a1.Kind == 4)) || (a1.To == []))))) ?_ ?_
 ·
  rcases Bool.eq_false_or_eq_true (((((decide (0 ≤ a1.Kind)) && (decide (a1.Kind ≤ 4))) && (decide (0 ≤ a1.Flag))) && (decide (a1.Flag < 8)))) with hB9 | hB9
  ·
   refine ae.bool hB9 ?_
   refine ae.val rfl (ah rfl) rfl ?_
   refine ae.val rfl (ah rfl) rfl ?_
   refine ae.bL 4 36 (.d (.bool (((a1.Kind == 3) || (a1.Kind == 4)) || (a1.To == [])))) ?_ ?_
   ·
    rcases Bool.eq_false_or_eq_true (((a1.Kind == 3) || (a1.Kind == 4))) with hB10 | hB10
    ·
     refine ae.bool hB10 ?_
     refine ae.no rfl rfl ?_
     refine ae.no rfl rfl ?_
     refine ae.no rfl rfl ?_
     refine ae.val rfl (az (b:=true) rfl rfl) rfl ?_
     exact ae.nil ⟨_,rfl,(aa.put (aa.push rfl (aa.push rfl (aa.push rfl (aa.put (.refl _) (Less.eq (by rw [hB10])))))) (Less.eq (by rw [hB10]; rw [Bool.true_or])))⟩
    refine ae.bool hB10 ?_
    refine ae.val rfl (ai rfl Dz Bz rfl) rfl ?_
    refine ae.val rfl (av H4 (i:=0) rfl rfl (aC vW rfl)) rfl ?_
    refine ae.val rfl (ay rfl rfl nP) rfl ?_
    refine ae.val rfl (az (b:=false) rfl rfl) rfl ?_
    exact ae.nil ⟨_,rfl,(aa.put (aa.push rfl (aa.push rfl (aa.push rfl (aa.put (.refl _) (Less.eq (by rw [hB10])))))) (Less.eq (by rw [hB10]; rw [Bool.false_or])))⟩
   refine ae.val rfl (az (b:=true) rfl rfl) rfl ?_
   exact ae.nil ⟨_,rfl,(aa.put (aa.push rfl (aa.push rfl (aa.push rfl (aa.put (.refl _) (Less.eq (by rw [hB9])))))) (Less.eq (by rw [hB9]; rw [Bool.true_and])))⟩
  refine ae.bool hB9 ?_
  refine ae.no rfl rfl ?_
  refine ae.no rfl rfl ?_
  refine ae.no rfl rfl ?_
  refine ae.no rfl rfl ?_
  refine ae.no rfl rfl ?_
  refine ae.no rfl rfl ?_
  refine ae.val rfl (az (b:=false) rfl rfl) rfl ?_
  exact ae.nil ⟨_,rfl,(aa.put (aa.push rfl (aa.push rfl (aa.push rfl (aa.push rfl (aa.push rfl (aa.push rfl (aa.put (.refl _) (Less.eq (by rw [hB9]))))))))) (Less.eq (by rw [hB9]; rw [Bool.false_and])))⟩
 refine ae.val rfl (aj rfl) rfl ?_
 refine ae.nil ?_
 have hr:=Option.some.inj h
 subst hr
 exact ax.ret ⟨_,rfl,rfl,fE (aD.eq .nil)⟩
set_option maxRecDepth 20000 in
set_option maxHeartbeats 4000000 in
theorem uZ (n:Nat) (a1:au) (a2:Str) (S0:St) (b3:Nat) (hb4:S0.H.get b3=some (.cells 0 [(.d (.str a2))])) (r:Bool) (h:kV n a1 a2=some r):dZ R cfg.P 67 [.d (aB a1),.ptr b3 0 0] S0 (fun o=>o=(none,.d (.bool r),S0)):=by
 unfold kV at h
 refine SpecS.of_wp (C:=cfg) Tryd.func67 rfl Md rfl (fun wf0=>?_)
 have H0:Has S0 S0 []:=Has.start wf0
 refine ax.seq ?_
 refine ax.region E.obj rfl ?_
 refine ae.box H0 rfl rfl rfl (au.bu _) rfl (fun b5 S6 H7=>?_)
 refine ae.val rfl (aj rfl) rfl ?_
 refine ae.nil ?_
 refine ax.seq ?_
 refine ax.region E.obj rfl ?_
 refine ae.val rfl (ai rfl yE Bz rfl) rfl ?_
 refine ae.val rfl (av H7 (i:=0) rfl rfl (aC vW rfl)) rfl ?_
 refine ae.val rfl (uh H7 hb4 rfl (aC vW rfl)) rfl ?_
 refine ae.val rfl (ay rfl rfl nP) rfl ?_
 refine ae.val rfl (aj rfl) rfl ?_
 refine ae.nil ?_
 have hr:=Option.some.inj h
 subst hr
 exact ax.ret ⟨_,rfl,rfl,H7.keeps,fE (aD.eq .nil)⟩
set_option maxRecDepth 20000 in
set_option maxHeartbeats 4000000 in
theorem xN (n:Nat) (a1:(List au)) (a2:Str) (r:Int) (h:o9 n a1 a2=some r):bU R cfg.P 42 [(.sl ((a1).map aB) false),(.str a2)] (.d (.int .i64 r)):=by
 unfold o9 at h
 refine bU.of_wp E.obj.toObjOk (C:=cfg) Tryd.func42 rfl K8 rfl ?_
 have H0:Has aI aI []:=Has.pure
 refine ax.seq ?_
 refine ax.region E.obj rfl ?_
 refine ae.box H0 rfl rfl rfl rfl rfl (fun b3 S4 H5=>?_)
 refine ae.val rfl (aj rfl) rfl ?_
 refine ae.nil ?_
 refine ax.seq ?_
 refine ax.region E.obj rfl ?_
 refine ae.val rfl (ah rfl) rfl ?_
 refine ae.val rfl (pR rfl) rfl ?_
 obtain ⟨z7,hzz7,h⟩:=bind_some h
 refine ae.ret rfl (aA rfl rfl) (dZ.sP (gp E n S4 _ _ _ (fun y6=>kV n y6 a2) (fun S' hk hw y6 r hr=>uZ E n y6 a2 S' _ (hk.H _ _ (H5.at (i:=0) rfl)) r hr) _ hzz7) (.cons (.refl _) (.cons (.refl _) .nil))) rfl ?_
 refine ae.val rfl (aj rfl) rfl ?_
 refine ae.nil ?_
 have hr:=Option.some.inj h
 subst hr
 exact ax.ret ⟨_,rfl,rfl,fE (aD.eq .nil)⟩
set_option maxRecDepth 20000 in
set_option maxHeartbeats 4000000 in
theorem yY (n:Nat) (a1:dO) (a2:aJ) (r:Bool) (h:lF n a1 a2=some r):bU R cfg.P 17 [(iN a1),(mR a2)] (.d (.bool r)):=by
 unfold lF at h
 refine bU.of_wp E.obj.toObjOk (C:=cfg) Tryd.func17 rfl Mf rfl ?_
 have H0:Has aI aI []:=Has.pure
 refine ax.seq ?_
 refine ax.region E.obj rfl ?_
 refine ae.box H0 rfl rfl rfl (dO.bu _) rfl (fun b3 S4 H5=>?_)
 refine ae.box H5 rfl rfl rfl (aJ.bu _) rfl (fun b6 S7 H8=>?_)
 refine ae.val rfl (aj rfl) rfl ?_
 refine ae.nil ?_
 refine ax.seq ?_
 refine ax.region E.obj rfl ?_
 refine ae.val rfl (ai rfl qZ mg rfl) rfl ?_
 refine ae.val rfl (av H8 (i:=0) rfl rfl (aC ji rfl)) rfl ?_
 refine ae.val rfl (ay rfl rfl jA) rfl ?_
 refine ae.val rfl (ah rfl) rfl ?_
 refine ae.bL 4 12 (.d (.bool ((a2.Kind != 3) && (a2.Kind != 4)))) ?_ ?_
 ·
  rcases Bool.eq_false_or_eq_true ((a2.Kind != 3)) with hB9 | hB9
  ·
   refine ae.bool hB9 ?_
   refine ae.val rfl (ai rfl qZ mg rfl) rfl ?_
   refine ae.val rfl (av H8 (i:=0) rfl rfl (aC ji rfl)) rfl ?_
   refine ae.val rfl (ay rfl rfl jA) rfl ?_
   refine ae.val rfl (az (b:=true) rfl rfl) rfl ?_
   exact ae.nil ⟨_,rfl,(aa.put (aa.push rfl (aa.push rfl (aa.push rfl (aa.put (.refl _) (Less.eq (by rw [hB9])))))) (Less.eq (by rw [hB9]; rw [Bool.true_and])))⟩
  refine ae.bool hB9 ?_
  refine ae.no rfl rfl ?_
  refine ae.no rfl rfl ?_
  refine ae.no rfl rfl ?_
  refine ae.val rfl (az (b:=false) rfl rfl) rfl ?_
  exact ae.nil ⟨_,rfl,(aa.put (aa.push rfl (aa.push rfl (aa.push rfl (aa.put (.refl _) (Less.eq (by rw [hB9])))))) (Less.eq (by rw [hB9]; rw [Bool.false_and])))⟩
 refine ae.val rfl (ah rfl) rfl ?_
 obtain ⟨z11,hzz11,h⟩:=bind_some h
 refine ae.bL 7 20 (.d (.bool z11)) ?_ ?_
 ·
  rcases Bool.eq_false_or_eq_true (((a2.Kind != 3) && (a2.Kind != 4))) with hB10 | hB10
  ·
   refine ae.bool hB10 ?_
   refine ae.no rfl rfl ?_
   refine ae.no rfl rfl ?_
   refine ae.no rfl rfl ?_
   refine ae.no rfl rfl ?_
   refine ae.no rfl rfl ?_
   refine ae.no rfl rfl ?_
   refine ae.val rfl (az (b:=true) rfl rfl) rfl ?_
   replace hzz11:=dK hB10 hzz11
   cases hzz11
   exact ae.nil ⟨_,rfl,(aa.put (aa.push rfl (aa.push rfl (aa.push rfl (aa.push rfl (aa.push rfl (aa.push rfl (aa.put (.refl _) (Less.eq (by rw [hB10]))))))))) (.refl _))⟩
  refine ae.bool hB10 ?_
  replace hzz11:=dJ hB10 hzz11
  refine ae.val rfl (ai rfl kP su rfl) rfl ?_
  refine ae.val rfl (av H8 (i:=1) rfl rfl (aC tX rfl)) rfl ?_
  refine ae.val rfl (ai rfl Dz Bz rfl) rfl ?_
  refine ae.val rfl (av H8 (i:=0) rfl rfl (aC vW rfl)) rfl ?_
  obtain ⟨z12,hzz12,hzz11⟩:=bind_some hzz11
  refine ae.ret rfl (aA rfl rfl) (xN E _ _ _ _ hzz12 _ _ (aD.eq (aD.eq .nil))) rfl ?_
  refine ae.val rfl (ay rfl rfl gM) rfl ?_
  refine ae.val rfl (az (b:=false) rfl rfl) rfl ?_
  cases hzz11
  exact ae.nil ⟨_,rfl,(aa.put (aa.push rfl (aa.push rfl (aa.push rfl (aa.push rfl (aa.push rfl (aa.push rfl (aa.put (.refl _) (Less.eq (by rw [hB10]))))))))) (.refl _))⟩
 refine ae.val rfl (aj rfl) rfl ?_
 refine ae.nil ?_
 have hr:=Option.some.inj h
 subst hr
 exact ax.ret ⟨_,rfl,rfl,fE (aD.eq .nil)⟩
set_option maxRecDepth 20000 in
set_option maxHeartbeats 4000000 in
theorem sQ:∀ (n:Nat) (a1:aF) (r:Int),dH n a1=some r→bU R cfg.P 18 [(aH a1)] (.d (.int .i64 r))
 | 0,a1,r,h=>by simp [dH] at h
 | n + 1,a1,r,h=>by
  have ih:=sQ n
  unfold dH at h
  refine bU.of_wp E.obj.toObjOk (C:=cfg) Tryd.func18 rfl MM rfl ?_
  have H0:Has aI aI []:=Has.pure
  refine ax.seq ?_
  refine ax.region E.obj rfl ?_
  refine ae.box H0 rfl rfl rfl (aF.bu _) rfl (fun b2 S3 H4=>?_)
  refine ae.val rfl (aj rfl) rfl ?_
  refine ae.nil ?_
  refine ax.seq ?_
  refine ax.region E.obj rfl ?_
  refine ae.val rfl (aj rfl) rfl ?_
  refine ae.nil ?_
  refine ax.join (B:=aI) (α:=Int) (fun a=>jD n (dH n) a1 a=some r) (fun a=>[(1,(.ptr b2 0 0)),(3,(.d (.int .i64 a)))]) (fun a=>[.box b2 [(.d (.int .i64 a1.Kind)),(.d (.int .i64 a1.N)),(.d (.str a1.Tag)),(.d (.str a1.Text)),(.d (.sl ((a1.bB).map aU) false)),(.d (.sl ((a1.Kids).map aH) false))]]) ?_ ?_
  ·
   intro x7 S5 H6 h
   replace h:jD n (dH n) a1 x7=some r:=h
   replace H6:Has aI S5 [.box b2 [(.d (.int .i64 a1.Kind)),(.d (.int .i64 a1.N)),(.d (.str a1.Tag)),(.d (.str a1.Text)),(.d (.sl ((a1.bB).map aU) false)),(.d (.sl ((a1.Kids).map aH) false))]]:=H6
   unfold jD at h
   refine ax.seq ?_
   refine ax.seq ?_
   refine ax.region E.obj rfl ?_
   refine ae.val rfl (ai rfl jN qO rfl) rfl ?_
   refine ae.val rfl (av H6 (i:=0) rfl rfl (aC xu rfl)) rfl ?_
   refine ae.val rfl (bz rfl Bv) rfl ?_
   refine ae.val rfl (ah rfl) rfl ?_
   refine ae.nil ?_
   refine ax.block ?_
   refine nR.start (B:=aI) (α:=Int × Int) (fun k a=>gD (dH n) a1 k a.1 a.2=some r) (fun a=>[(3,(.d (.int .i64 a.1))),(10,(.d (.sl ((a1.Kids).map aH) false))),(11,(.d (.int .i64 ((a1.Kids).length:Int)))),(12,(.d (.int .i64 a.2)))]) (fun a=>[]) ?_ ?_ n ⟨⟨x7,0⟩,_,_,S5,.refl _ _,.refl _,(aa.r rfl (aa.r rfl (aa.r rfl (aa.r rfl aa.nil)))),H6.sl [] rfl rfl,h⟩
   ·
    intro a h; simp [gD] at h
   intro k19 a S15 H16 h
   obtain ⟨x17,x18⟩:=a
   replace h:gD (dH n) a1 (k19 + 1) x17 x18=some r:=h
   replace H16:Has aI S15 []:=H16
   unfold gD at h
   refine ax.seq ?_
   refine ax.region E.obj rfl ?_
   refine ae.val rfl (ay rfl rfl bQ) rfl ?_
   refine ae.nil ?_
   refine ax.seq ?_
   refine ax.cond rfl (fun hb20=>?_) (fun hb20=>?_)
   ·
    replace h:=dK hb20 h
    refine ax.skip ?_
    refine ax.seq ?_
    refine ax.block ?_
    refine ax.seq ?_
    refine ax.region E.obj rfl ?_
    obtain ⟨z21,hzz21,h⟩:=bind_some h
    refine ae.val rfl (df rfl rfl (dQ (enc:=aH) hzz21 nz nD ((aF.len _).trans eO.symm))) rfl ?_
    refine ae.val rfl (bD rfl (aF.jO jf eO)) rfl ?_
    refine ae.alloc H16 rfl wM jV rfl rfl (fun b22 S23 H24=>?_)
    refine ae.store H24 (i:=0) rfl rfl rfl rfl (aF.bu _) rfl eO rfl nD rfl rfl rfl (fun S25 H26=>?_)
    refine ae.nil ?_
    refine ax.region E.obj rfl ?_
    refine ae.val rfl (ah rfl) rfl ?_
    refine ae.val rfl (av H26 (i:=0) rfl rfl (bf jf eO rfl)) rfl ?_
    refine ae.less (Less.agg' (d:=aH z21) (ak.eq rfl (ak.eq rfl (ak.eq rfl (ak.eq rfl (ak.eq rfl (ak.eq rfl .nil)))))) ((aF.eq _).trans rfl)) ?_
    obtain ⟨z27,hzz27,h⟩:=bind_some h
    refine ae.ret rfl (aA rfl rfl) (ih _ _ hzz27 _ _ (aD.eq .nil)) rfl ?_
    refine ae.val rfl (ay rfl rfl cu) rfl ?_
    refine ae.val rfl (aj rfl) rfl ?_
    refine ae.nil ?_
    refine ax.region E.obj rfl ?_
    refine ae.val rfl (ay rfl rfl cu) rfl ?_
    refine ae.val rfl (ah rfl) rfl ?_
    refine ae.nil ?_
    exact ⟨⟨(IntKind.wrap .i64 (x17 + z27)),(IntKind.wrap .i64 (x18 + 1))⟩,_,_,S25,.refl _ _,.refl _,(aa.r rfl (aa.r rfl (aa.r rfl (aa.r rfl aa.nil)))),H26.sl [] rfl rfl,h⟩
   replace h:=dJ hb20 h
   refine ax.exit ?_
   refine ax.seq ?_
   refine ax.region E.obj rfl ?_
   refine ae.val rfl (ah rfl) rfl ?_
   refine ae.val rfl (aj rfl) rfl ?_
   refine ae.nil ?_
   have hr:=Option.some.inj h
   subst hr
   exact ax.ret ⟨_,rfl,rfl,fE (aD.eq .nil)⟩
  refine ax.seq ?_
  refine ax.region E.obj rfl ?_
  refine ae.val rfl (ai rfl j3 mg rfl) rfl ?_
  refine ae.val rfl (av H4 (i:=0) rfl rfl (aC ji rfl)) rfl ?_
  refine ae.val rfl (ay rfl rfl dS) rfl ?_
  refine ae.nil ?_
  refine ax.cond rfl (fun hb28=>?_) (fun hb28=>?_)
  ·
   replace h:=dK hb28 h
   refine ax.region E.obj rfl ?_
   refine ae.val rfl (aj rfl) rfl ?_
   refine ae.nil ?_
   exact ⟨1,_,_,S3,.refl _ _,.refl _,(aa.r rfl (aa.r rfl aa.nil)),H4.sl [0] rfl rfl,h⟩
  replace h:=dJ hb28 h
  refine ax.skip ?_
  exact ⟨0,_,_,S3,.refl _ _,.refl _,(aa.r rfl (aa.r rfl aa.nil)),H4.sl [0] rfl rfl,h⟩
set_option maxRecDepth 20000 in
set_option maxHeartbeats 4000000 in
theorem ma (n:Nat) (a1:dO) (r:Bool) (h:iQ n a1=some r):bU R cfg.P 6 [(iN a1)] (.d (.bool r)):=by
 unfold iQ at h
 refine bU.of_wp E.obj.toObjOk (C:=cfg) Tryd.func6 rfl Nq rfl ?_
 have H0:Has aI aI []:=Has.pure
 refine ax.seq ?_
 refine ax.region E.obj rfl ?_
 refine ae.box H0 rfl rfl rfl (dO.bu _) rfl (fun b2 S3 H4=>?_)
 refine ae.val rfl (aj rfl) rfl ?_
 refine ae.nil ?_
 refine ax.seq ?_
 refine ax.seq ?_
 refine ax.region E.obj rfl ?_
 refine ae.val rfl (ai rfl kP su rfl) rfl ?_
 refine ae.val rfl (av H4 (i:=0) rfl rfl (aC tX rfl)) rfl ?_
 obtain ⟨z5,hzz5,h⟩:=bind_some h
 refine ae.ret rfl (aA rfl rfl) (yF E _ _ _ hzz5 _ _ (aD.eq .nil)) rfl ?_
 refine ae.val rfl (fP rfl) rfl ?_
 refine ae.val rfl (ah rfl) rfl ?_
 refine ae.bL 5 16 (.d (.bool ((!z5) || (decide (((a1.Comps).length:Int) < 1))))) ?_ ?_
 ·
  rcases Bool.eq_false_or_eq_true ((!z5)) with hB6 | hB6
  ·
   refine ae.bool hB6 ?_
   refine ae.no rfl rfl ?_
   refine ae.no rfl rfl ?_
   refine ae.no rfl rfl ?_
   refine ae.no rfl rfl ?_
   refine ae.val rfl (az (b:=true) rfl rfl) rfl ?_
   exact ae.nil ⟨_,rfl,(aa.put (aa.push rfl (aa.push rfl (aa.push rfl (aa.push rfl (aa.put (.refl _) (Less.eq (by rw [hB6]))))))) (Less.eq (by rw [hB6]; rw [Bool.true_or])))⟩
  refine ae.bool hB6 ?_
  refine ae.val rfl (ai rfl jv qz rfl) rfl ?_
  refine ae.val rfl (av H4 (i:=0) rfl rfl (aC ug rfl)) rfl ?_
  refine ae.val rfl (bz rfl CG) rfl ?_
  refine ae.val rfl (ay rfl rfl bQ) rfl ?_
  refine ae.val rfl (az (b:=false) rfl rfl) rfl ?_
  exact ae.nil ⟨_,rfl,(aa.put (aa.push rfl (aa.push rfl (aa.push rfl (aa.push rfl (aa.put (.refl _) (Less.eq (by rw [hB6]))))))) (Less.eq (by rw [hB6]; rw [Bool.false_or])))⟩
 refine ae.val rfl (ah rfl) rfl ?_
 refine ae.bL 5 22 (.d (.bool (((!z5) || (decide (((a1.Comps).length:Int) < 1))) || (decide (16 < ((a1.Comps).length:Int)))))) ?_ ?_
 ·
  rcases Bool.eq_false_or_eq_true (((!z5) || (decide (((a1.Comps).length:Int) < 1)))) with hB7 | hB7
  ·
   refine ae.bool hB7 ?_
   refine ae.no rfl rfl ?_
   refine ae.no rfl rfl ?_
   refine ae.no rfl rfl ?_
   refine ae.no rfl rfl ?_
   refine ae.val rfl (az (b:=true) rfl rfl) rfl ?_
   exact ae.nil ⟨_,rfl,(aa.put (aa.push rfl (aa.push rfl (aa.push rfl (aa.push rfl (aa.put (.refl _) (Less.eq (by rw [hB7]))))))) (Less.eq (by rw [hB7]; rw [Bool.true_or])))⟩
  refine ae.bool hB7 ?_
  refine ae.val rfl (ai rfl jv qz rfl) rfl ?_
  refine ae.val rfl (av H4 (i:=0) rfl rfl (aC ug rfl)) rfl ?_
  refine ae.val rfl (bz rfl CG) rfl ?_
  refine ae.val rfl (ay rfl rfl jb) rfl ?_
  refine ae.val rfl (az (b:=false) rfl rfl) rfl ?_
  exact ae.nil ⟨_,rfl,(aa.put (aa.push rfl (aa.push rfl (aa.push rfl (aa.push rfl (aa.put (.refl _) (Less.eq (by rw [hB7]))))))) (Less.eq (by rw [hB7]; rw [Bool.false_or])))⟩
 refine ae.val rfl (ah rfl) rfl ?_
 refine ae.bL 4 27 (.d (.bool ((((!z5) || (decide (((a1.Comps).length:Int) < 1))) || (decide (16 < ((a1.Comps).length:Int)))) || (decide (a1.Cache < 0))))) ?_ ?_
 ·
  rcases Bool.eq_false_or_eq_true ((((!z5) || (decide (((a1.Comps).length:Int) < 1))) || (decide (16 < ((a1.Comps).length:Int))))) with hB8 | hB8
  ·
   refine ae.bool hB8 ?_
   refine ae.no rfl rfl ?_
   refine ae.no rfl rfl ?_
   refine ae.no rfl rfl ?_
   refine ae.val rfl (az (b:=true) rfl rfl) rfl ?_
   exact ae.nil ⟨_,rfl,(aa.put (aa.push rfl (aa.push rfl (aa.push rfl (aa.put (.refl _) (Less.eq (by rw [hB8])))))) (Less.eq (by rw [hB8]; rw [Bool.true_or])))⟩
  refine ae.bool hB8 ?_
  refine ae.val rfl (ai rfl Gt mg rfl) rfl ?_
  refine ae.val rfl (av H4 (i:=0) rfl rfl (aC ji rfl)) rfl ?_
  refine ae.val rfl (ay rfl rfl bQ) rfl ?_
  refine ae.val rfl (az (b:=false) rfl rfl) rfl ?_
  exact ae.nil ⟨_,rfl,(aa.put (aa.push rfl (aa.push rfl (aa.push rfl (aa.put (.refl _) (Less.eq (by rw [hB8])))))) (Less.eq (by rw [hB8]; rw [Bool.false_or])))⟩
 refine ae.val rfl (ah rfl) rfl ?_
 refine ae.bL 4 32 (.d (.bool (((((!z5) || (decide (((a1.Comps).length:Int) < 1))) || (decide (16 < ((a1.Comps).length:Int)))) || (decide (a1.Cache < 0))) || (decide (8 < a1.Cache))))) ?_ ?_
 ·
  rcases Bool.eq_false_or_eq_true (((((!z5) || (decide (((a1.Comps).length:Int) < 1))) || (decide (16 < ((a1.Comps).length:Int)))) || (decide (a1.Cache < 0)))) with hB9 | hB9
  ·
   refine ae.bool hB9 ?_
   refine ae.no rfl rfl ?_
   refine ae.no rfl rfl ?_
   refine ae.no rfl rfl ?_
   refine ae.val rfl (az (b:=true) rfl rfl) rfl ?_
   exact ae.nil ⟨_,rfl,(aa.put (aa.push rfl (aa.push rfl (aa.push rfl (aa.put (.refl _) (Less.eq (by rw [hB9])))))) (Less.eq (by rw [hB9]; rw [Bool.true_or])))⟩
  refine ae.bool hB9 ?_
  refine ae.val rfl (ai rfl Gt mg rfl) rfl ?_
  refine ae.val rfl (av H4 (i:=0) rfl rfl (aC ji rfl)) rfl ?_
  refine ae.val rfl (ay rfl rfl jb) rfl ?_
  refine ae.val rfl (az (b:=false) rfl rfl) rfl ?_
  exact ae.nil ⟨_,rfl,(aa.put (aa.push rfl (aa.push rfl (aa.push rfl (aa.put (.refl _) (Less.eq (by rw [hB9])))))) (Less.eq (by rw [hB9]; rw [Bool.false_or])))⟩
 refine ae.nil ?_
 refine ax.cond rfl (fun hb10=>?_) (fun hb10=>?_)
 ·
  replace h:=dK hb10 h
  refine ax.seq ?_
  refine ax.region E.obj rfl ?_
  refine ae.val rfl (aj rfl) rfl ?_
  refine ae.nil ?_
  have hr:=Option.some.inj h
  subst hr
  exact ax.ret ⟨_,rfl,rfl,fE (aD.eq .nil)⟩
 replace h:=dJ hb10 h
 refine ax.skip ?_
 refine ax.seq ?_
 refine ax.seq ?_
 refine ax.region E.obj rfl ?_
 refine ae.val rfl (ai rfl jv qz rfl) rfl ?_
 refine ae.val rfl (av H4 (i:=0) rfl rfl (aC ug rfl)) rfl ?_
 refine ae.val rfl (bz rfl CG) rfl ?_
 refine ae.val rfl (ah rfl) rfl ?_
 refine ae.nil ?_
 refine ax.block ?_
 refine nR.start (B:=aI) (α:=Int) (fun k a=>fA n a1 k a=some r) (fun a=>[(1,(.ptr b2 0 0)),(34,(.d (.sl ((a1.Comps).map aM) false))),(35,(.d (.int .i64 ((a1.Comps).length:Int)))),(36,(.d (.int .i64 a)))]) (fun a=>[.box b2 [(.d (.sl ((a1.Records).map aB) false)),(.d (.sl ((a1.Comps).map aM) false)),(.d (.int .i64 a1.Cache))]]) ?_ ?_ n ⟨0,_,_,S3,.refl _ _,.refl _,(aa.r rfl (aa.r rfl (aa.r rfl (aa.r rfl aa.nil)))),H4.sl [0] rfl rfl,h⟩
 ·
  intro a h; simp [fA] at h
 intro k19 x18 S16 H17 h
 replace h:fA n a1 (k19 + 1) x18=some r:=h
 replace H17:Has aI S16 [.box b2 [(.d (.sl ((a1.Records).map aB) false)),(.d (.sl ((a1.Comps).map aM) false)),(.d (.int .i64 a1.Cache))]]:=H17
 unfold fA at h
 refine ax.seq ?_
 refine ax.region E.obj rfl ?_
 refine ae.val rfl (ay rfl rfl bQ) rfl ?_
 refine ae.nil ?_
 refine ax.seq ?_
 refine ax.cond rfl (fun hb20=>?_) (fun hb20=>?_)
 ·
  replace h:=dK hb20 h
  refine ax.skip ?_
  refine ax.seq ?_
  refine ax.block ?_
  refine ax.seq ?_
  refine ax.region E.obj rfl ?_
  obtain ⟨z21,hzz21,h⟩:=bind_some h
  refine ae.val rfl (df rfl rfl (dQ (enc:=aM) hzz21 uF tY ((aG.len _).trans kT.symm))) rfl ?_
  refine ae.val rfl (bD rfl (aG.jO yI kT)) rfl ?_
  refine ae.alloc H17 rfl Jk rG rfl rfl (fun b22 S23 H24=>?_)
  refine ae.store H24 (i:=0) rfl rfl rfl rfl (aG.bu _) rfl kT rfl tY rfl rfl rfl (fun S25 H26=>?_)
  refine ae.nil ?_
  refine ax.seq ?_
  refine ax.region E.obj rfl ?_
  refine ae.val rfl (av H26 (i:=0) rfl rfl (bf yI kT rfl)) rfl ?_
  refine ae.less (Less.agg' (d:=aM z21) (ak.eq rfl (ak.eq rfl (ak.eq rfl (ak.eq rfl (ak.eq rfl (ak.eq rfl (ak.eq rfl (ak.eq rfl .nil)))))))) ((aG.eq _).trans rfl)) ?_
  obtain ⟨z27,hzz27,h⟩:=bind_some h
  refine ae.ret rfl (aA rfl rfl) (zb E _ _ _ hzz27 _ _ (aD.eq .nil)) rfl ?_
  refine ae.val rfl (fP rfl) rfl ?_
  refine ae.nil ?_
  refine ax.cond rfl (fun hb28=>?_) (fun hb28=>?_)
  ·
   replace h:=dK hb28 h
   refine ax.seq ?_
   refine ax.region E.obj rfl ?_
   refine ae.val rfl (aj rfl) rfl ?_
   refine ae.nil ?_
   have hr:=Option.some.inj h
   subst hr
   exact ax.ret ⟨_,rfl,rfl,fE (aD.eq .nil)⟩
  replace h:=dJ hb28 h
  refine ax.skip ?_
  refine ax.region E.obj rfl ?_
  refine ae.val rfl (ay rfl rfl cu) rfl ?_
  refine ae.val rfl (ah rfl) rfl ?_
  refine ae.nil ?_
  exact ⟨(IntKind.wrap .i64 (x18 + 1)),_,_,S25,.refl _ _,.refl _,(aa.r rfl (aa.r rfl (aa.r rfl (aa.r rfl aa.nil)))),H26.sl [1] rfl rfl,h⟩
 replace h:=dJ hb20 h
 refine ax.exit ?_
 refine ax.seq ?_
 refine ax.seq ?_
 refine ax.region E.obj rfl ?_
 refine ae.val rfl (ai rfl kP su rfl) rfl ?_
 refine ae.val rfl (av H17 (i:=0) rfl rfl (aC tX rfl)) rfl ?_
 refine ae.val rfl (bz rfl uL) rfl ?_
 refine ae.val rfl (ah rfl) rfl ?_
 refine ae.nil ?_
 refine ax.block ?_
 refine nR.start (B:=aI) (α:=Int) (fun k a=>dz n a1 k a=some r) (fun a=>[(1,(.ptr b2 0 0)),(45,(.d (.sl ((a1.Records).map aB) false))),(46,(.d (.int .i64 ((a1.Records).length:Int)))),(47,(.d (.int .i64 a)))]) (fun a=>[.box b2 [(.d (.sl ((a1.Records).map aB) false)),(.d (.sl ((a1.Comps).map aM) false)),(.d (.int .i64 a1.Cache))]]) ?_ ?_ n ⟨0,_,_,S16,.refl _ _,.refl _,(aa.r rfl (aa.r rfl (aa.r rfl (aa.r rfl aa.nil)))),H17.sl [0] rfl rfl,h⟩
 ·
  intro a h; simp [dz] at h
 intro k37 x36 S34 H35 h
 replace h:dz n a1 (k37 + 1) x36=some r:=h
 replace H35:Has aI S34 [.box b2 [(.d (.sl ((a1.Records).map aB) false)),(.d (.sl ((a1.Comps).map aM) false)),(.d (.int .i64 a1.Cache))]]:=H35
 unfold dz at h
 refine ax.seq ?_
 refine ax.region E.obj rfl ?_
 refine ae.val rfl (ay rfl rfl bQ) rfl ?_
 refine ae.nil ?_
 refine ax.seq ?_
 refine ax.cond rfl (fun hb38=>?_) (fun hb38=>?_)
 ·
  replace h:=dK hb38 h
  refine ax.skip ?_
  refine ax.seq ?_
  refine ax.block ?_
  refine ax.seq ?_
  refine ax.region E.obj rfl ?_
  refine ae.val rfl (ah rfl) rfl ?_
  obtain ⟨z39,hzz39,h⟩:=bind_some h
  refine ae.val rfl (df rfl rfl (dQ (enc:=aB) hzz39 pO oL ((au.len _).trans kM.symm))) rfl ?_
  refine ae.val rfl (bD rfl (au.jO Da kM)) rfl ?_
  refine ae.alloc H35 rfl Ki vN rfl rfl (fun b40 S41 H42=>?_)
  refine ae.val rfl (aj rfl) rfl ?_
  refine ae.store H42 (i:=0) rfl rfl rfl rfl (au.bu _) rfl kM rfl oL rfl rfl rfl (fun S43 H44=>?_)
  refine ae.nil ?_
  refine ax.seq ?_
  refine ax.seq ?_
  refine ax.region E.obj rfl ?_
  refine ae.val rfl (ai rfl tK mg rfl) rfl ?_
  refine ae.val rfl (av H44 (i:=0) rfl rfl (aC ji rfl)) rfl ?_
  refine ae.val rfl (ay rfl rfl bQ) rfl ?_
  refine ae.val rfl (ah rfl) rfl ?_
  refine ae.bL 7 62 (.d (.bool ((decide (z39.aG < 0)) || (decide (((a1.Comps).length:Int) ≤ z39.aG))))) ?_ ?_
  ·
   rcases Bool.eq_false_or_eq_true ((decide (z39.aG < 0))) with hB45 | hB45
   ·
    refine ae.bool hB45 ?_
    refine ae.no rfl rfl ?_
    refine ae.no rfl rfl ?_
    refine ae.no rfl rfl ?_
    refine ae.no rfl rfl ?_
    refine ae.no rfl rfl ?_
    refine ae.no rfl rfl ?_
    refine ae.val rfl (az (b:=true) rfl rfl) rfl ?_
    exact ae.nil ⟨_,rfl,(aa.put (aa.push rfl (aa.push rfl (aa.push rfl (aa.push rfl (aa.push rfl (aa.push rfl (aa.put (.refl _) (Less.eq (by rw [hB45]))))))))) (Less.eq (by rw [hB45]; rw [Bool.true_or])))⟩
   refine ae.bool hB45 ?_
   refine ae.val rfl (ai rfl tK mg rfl) rfl ?_
   refine ae.val rfl (av H44 (i:=0) rfl rfl (aC ji rfl)) rfl ?_
   refine ae.val rfl (ai rfl jv qz rfl) rfl ?_
   refine ae.val rfl (av H44 (i:=1) rfl rfl (aC ug rfl)) rfl ?_
   refine ae.val rfl (bz rfl CG) rfl ?_
   refine ae.val rfl (ay rfl rfl gM) rfl ?_
   refine ae.val rfl (az (b:=false) rfl rfl) rfl ?_
   exact ae.nil ⟨_,rfl,(aa.put (aa.push rfl (aa.push rfl (aa.push rfl (aa.push rfl (aa.push rfl (aa.push rfl (aa.put (.refl _) (Less.eq (by rw [hB45]))))))))) (Less.eq (by rw [hB45]; rw [Bool.false_or])))⟩
  refine ae.val rfl (ah rfl) rfl ?_
  obtain ⟨z47,hzz47,h⟩:=bind_some h
  refine ae.bL 5 68 (.d (.bool z47)) ?_ ?_
  ·
   rcases Bool.eq_false_or_eq_true (((decide (z39.aG < 0)) || (decide (((a1.Comps).length:Int) ≤ z39.aG)))) with hB46 | hB46
   ·
    refine ae.bool hB46 ?_
    refine ae.no rfl rfl ?_
    refine ae.no rfl rfl ?_
    refine ae.no rfl rfl ?_
    refine ae.no rfl rfl ?_
    refine ae.val rfl (az (b:=true) rfl rfl) rfl ?_
    replace hzz47:=dK hB46 hzz47
    cases hzz47
    exact ae.nil ⟨_,rfl,(aa.put (aa.push rfl (aa.push rfl (aa.push rfl (aa.push rfl (aa.put (.refl _) (Less.eq (by rw [hB46]))))))) (.refl _))⟩
   refine ae.bool hB46 ?_
   replace hzz47:=dJ hB46 hzz47
   refine ae.val rfl (ai rfl u6 Ff rfl) rfl ?_
   refine ae.val rfl (av H44 (i:=0) rfl rfl (bf KP JP rfl)) rfl ?_
   refine ae.less (Less.agg' (d:=mR z39.aJ) (ak.eq rfl (ak.eq rfl (ak.eq rfl .nil))) ((aJ.eq _).trans rfl)) ?_
   obtain ⟨z48,hzz48,hzz47⟩:=bind_some hzz47
   refine ae.ret rfl (aA rfl rfl) (yS E _ _ _ hzz48 _ _ (aD.eq .nil)) rfl ?_
   refine ae.val rfl (fP rfl) rfl ?_
   refine ae.val rfl (az (b:=false) rfl rfl) rfl ?_
   cases hzz47
   exact ae.nil ⟨_,rfl,(aa.put (aa.push rfl (aa.push rfl (aa.push rfl (aa.push rfl (aa.put (.refl _) (Less.eq (by rw [hB46]))))))) (.refl _))⟩
  refine ae.val rfl (ah rfl) rfl ?_
  obtain ⟨z50,hzz50,h⟩:=bind_some h
  refine ae.bL 6 75 (.d (.bool z50)) ?_ ?_
  ·
   rcases Bool.eq_false_or_eq_true (z47) with hB49 | hB49
   ·
    refine ae.bool hB49 ?_
    refine ae.no rfl rfl ?_
    refine ae.no rfl rfl ?_
    refine ae.no rfl rfl ?_
    refine ae.no rfl rfl ?_
    refine ae.no rfl rfl ?_
    refine ae.val rfl (az (b:=true) rfl rfl) rfl ?_
    replace hzz50:=dK hB49 hzz50
    cases hzz50
    exact ae.nil ⟨_,rfl,(aa.put (aa.push rfl (aa.push rfl (aa.push rfl (aa.push rfl (aa.push rfl (aa.put (.refl _) (Less.eq (by rw [hB49])))))))) (.refl _))⟩
   refine ae.bool hB49 ?_
   replace hzz50:=dJ hB49 hzz50
   refine ae.val rfl (av H44 (i:=1) rfl rfl (bf sF nC rfl)) rfl ?_
   refine ae.less (Less.agg' (d:=iN a1) (ak.eq rfl (ak.eq rfl (ak.eq rfl .nil))) ((dO.eq _).trans rfl)) ?_
   refine ae.val rfl (ai rfl u6 Ff rfl) rfl ?_
   refine ae.val rfl (av H44 (i:=0) rfl rfl (bf KP JP rfl)) rfl ?_
   refine ae.less (Less.agg' (d:=mR z39.aJ) (ak.eq rfl (ak.eq rfl (ak.eq rfl .nil))) ((aJ.eq _).trans rfl)) ?_
   obtain ⟨z51,hzz51,hzz50⟩:=bind_some hzz50
   refine ae.ret rfl (aA rfl rfl) (yY E _ _ _ _ hzz51 _ _ (aD.eq (aD.eq .nil))) rfl ?_
   refine ae.val rfl (fP rfl) rfl ?_
   refine ae.val rfl (az (b:=false) rfl rfl) rfl ?_
   cases hzz50
   exact ae.nil ⟨_,rfl,(aa.put (aa.push rfl (aa.push rfl (aa.push rfl (aa.push rfl (aa.push rfl (aa.put (.refl _) (Less.eq (by rw [hB49])))))))) (.refl _))⟩
  refine ae.nil ?_
  refine ax.cond rfl (fun hb52=>?_) (fun hb52=>?_)
  ·
   replace h:=dK hb52 h
   refine ax.seq ?_
   refine ax.region E.obj rfl ?_
   refine ae.val rfl (aj rfl) rfl ?_
   refine ae.nil ?_
   have hr:=Option.some.inj h
   subst hr
   exact ax.ret ⟨_,rfl,rfl,fE (aD.eq .nil)⟩
  replace h:=dJ hb52 h
  refine ax.skip ?_
  refine ax.seq ?_
  refine ax.region E.obj rfl ?_
  refine ae.val rfl (av H44 (i:=1) rfl rfl (bf sF nC rfl)) rfl ?_
  refine ae.less (Less.agg' (d:=iN a1) (ak.eq rfl (ak.eq rfl (ak.eq rfl .nil))) ((dO.eq _).trans rfl)) ?_
  refine ae.val rfl (ah rfl) rfl ?_
  obtain ⟨z53,hzz53,h⟩:=bind_some h
  refine ae.ret rfl (aA rfl rfl) (j6 E _ _ _ _ hzz53 _ _ (aD.eq (aD.eq .nil))) rfl ?_
  refine ae.val rfl (ah rfl) rfl ?_
  obtain ⟨z55,hzz55,h⟩:=bind_some h
  refine ae.bL 10 89 (.d (.bool z55)) ?_ ?_
  ·
   rcases Bool.eq_false_or_eq_true (z53) with hB54 | hB54
   ·
    refine ae.bool hB54 ?_
    replace hzz55:=dK hB54 hzz55
    refine ae.val rfl (ai rfl jv qz rfl) rfl ?_
    refine ae.val rfl (av H44 (i:=1) rfl rfl (aC ug rfl)) rfl ?_
    refine ae.val rfl (ai rfl tK mg rfl) rfl ?_
    refine ae.val rfl (av H44 (i:=0) rfl rfl (aC ji rfl)) rfl ?_
    obtain ⟨z56,hzz56,hzz55⟩:=bind_some hzz55
    refine ae.val rfl (df rfl rfl (dQ (enc:=aM) hzz56 uF tY ((aG.len _).trans kT.symm))) rfl ?_
    refine ae.val rfl (jB rfl yg F3 rfl) rfl ?_
    refine ae.val rfl (bD rfl (by rw [aG.cells]; exact lH jf eO rfl)) rfl ?_
    refine ae.less (Less.eq (congrArg AV.d ((aF.eq _).trans rfl))) ?_
    obtain ⟨z57,hzz57,hzz55⟩:=bind_some hzz55
    refine ae.ret rfl (aA rfl rfl) (sQ E _ _ _ hzz57 _ _ (aD.eq .nil)) rfl ?_
    refine ae.val rfl (ay rfl rfl jA) rfl ?_
    refine ae.val rfl (az (b:=true) rfl rfl) rfl ?_
    cases hzz55
    exact ae.nil ⟨_,rfl,(aa.put (aa.push rfl (aa.push rfl (aa.push rfl (aa.push rfl (aa.push rfl (aa.push rfl (aa.push rfl (aa.push rfl (aa.push rfl (aa.put (.refl _) (Less.eq (by rw [hB54])))))))))))) (.refl _))⟩
   refine ae.bool hB54 ?_
   refine ae.no rfl rfl ?_
   refine ae.no rfl rfl ?_
   refine ae.no rfl rfl ?_
   refine ae.no rfl rfl ?_
   refine ae.no rfl rfl ?_
   refine ae.no rfl rfl ?_
   refine ae.no rfl rfl ?_
   refine ae.no rfl rfl ?_
   refine ae.no rfl rfl ?_
   refine ae.val rfl (az (b:=false) rfl rfl) rfl ?_
   replace hzz55:=dJ hB54 hzz55
   cases hzz55
   exact ae.nil ⟨_,rfl,(aa.put (aa.push rfl (aa.push rfl (aa.push rfl (aa.push rfl (aa.push rfl (aa.push rfl (aa.push rfl (aa.push rfl (aa.push rfl (aa.put (.refl _) (Less.eq (by rw [hB54])))))))))))) (.refl _))⟩
  refine ae.nil ?_
  refine ax.cond rfl (fun hb58=>?_) (fun hb58=>?_)
  ·
   replace h:=dK hb58 h
   refine ax.seq ?_
   refine ax.region E.obj rfl ?_
   refine ae.val rfl (aj rfl) rfl ?_
   refine ae.nil ?_
   have hr:=Option.some.inj h
   subst hr
   exact ax.ret ⟨_,rfl,rfl,fE (aD.eq .nil)⟩
  replace h:=dJ hb58 h
  refine ax.skip ?_
  refine ax.region E.obj rfl ?_
  refine ae.val rfl (ay rfl rfl cu) rfl ?_
  refine ae.val rfl (ah rfl) rfl ?_
  refine ae.nil ?_
  exact ⟨(IntKind.wrap .i64 (x36 + 1)),_,_,S43,.refl _ _,.refl _,(aa.r rfl (aa.r rfl (aa.r rfl (aa.r rfl aa.nil)))),H44.sl [1] rfl rfl,h⟩
 replace h:=dJ hb38 h
 refine ax.exit ?_
 refine ax.seq ?_
 refine ax.region E.obj rfl ?_
 refine ae.val rfl (aj rfl) rfl ?_
 refine ae.nil ?_
 have hr:=Option.some.inj h
 subst hr
 exact ax.ret ⟨_,rfl,rfl,fE (aD.eq .nil)⟩
theorem jM (n:Nat) (a1:(List au)) (r:(List au)) (h:dP n a1=some r):lT R cfg.P 21 [(.sl ((a1).map aB) false)] (fun v l=>l=[.row 8 v ((r).map aB)]):=by
 unfold dP at h
 refine lT.of_wp (C:=iM) Tryd.func21 rfl MH rfl (fun S0 wf0=>?_)
 have H0:Has S0 S0 []:=Has.start wf0
 refine ax.seq ?_
 refine ax.region (dI E) rfl ?_
 refine ae.val rfl (aj rfl) rfl ?_
 refine ae.nil ?_
 refine ax.seq ?_
 refine ax.seq ?_
 refine ax.region (dI E) rfl ?_
 refine ae.val rfl (ah rfl) rfl ?_
 refine ae.yc rfl rfl rfl Kq rfl (fun bb hbb=>?_)
 refine ae.nil ?_
 refine ax.cond rfl (fun hb=>?_) (fun hb=>?_)
 ·
  have e:=map_nil (hbb hb)
  subst e
  have hr:=(lU h).2
  subst hr
  refine ax.seq ?_
  refine ax.region (dI E) rfl ?_
  refine ae.val rfl (aj rfl) rfl ?_
  refine ae.nil ?_
  exact ax.ret ⟨_,rfl,rfl,_,_,.refl _,rfl,H0.IV 8⟩
 ·
  refine ax.skip ?_
  refine ax.seq ?_
  refine ax.region (dI E) rfl ?_
  refine ae.val rfl (l9 Ie pO Da) rfl ?_
  refine ae.val rfl (ah rfl) rfl ?_
  have H1:=H0.DV 8
  refine ae.nU (xs:=([]:(List au)).map aB) (ys:=(a1).map aB) (zs:=(r).map aB) H1 rfl rfl rfl (i:=0) rfl kM rfl xq GK pO (eD (enc:=aB) h) J6 rfl (bK (enc:=aB) (fun z=>(au.len z).trans kM.symm) _) (qd (fun x=>au.flat x) _) rfl GV rfl (iJ h) (fun v2 S2 H2=>?_)
  refine ae.val rfl (aj rfl) rfl ?_
  refine ae.nil ?_
  exact ax.ret ⟨_,rfl,rfl,_,_,.refl _,rfl,H2⟩
theorem lL (n:Nat) (a1:(List Seg)) (r:(List Seg)) (h:fH n a1=some r):bU R cfg.P 22 [(.sl ((a1).map bC) false)] (.d (.sl ((r).map bC) false)):=by
 unfold fH at h
 refine bU.of_wp E.obj.toObjOk (C:=cfg) Tryd.func22 rfl LU rfl ?_
 have H0:Has aI aI []:=Has.pure
 refine ax.seq ?_
 refine ax.region E.obj rfl ?_
 refine ae.val rfl (aj rfl) rfl ?_
 refine ae.nil ?_
 refine ax.seq ?_
 refine ax.seq ?_
 refine ax.region E.obj rfl ?_
 refine ae.val rfl (ah rfl) rfl ?_
 refine ae.yc rfl rfl rfl Ka rfl (fun bb hbb=>?_)
 refine ae.nil ?_
 refine ax.cond rfl (fun hb=>?_) (fun hb=>?_)
 ·
  have e:=map_nil (hbb hb)
  subst e
  have hr:=(lU h).2
  subst hr
  refine ax.seq ?_
  refine ax.region E.obj rfl ?_
  refine ae.val rfl (aj rfl) rfl ?_
  refine ae.nil ?_
  exact ax.ret ⟨_,rfl,rfl,fE (aD.fe rfl (.aQ false) .nil)⟩
 ·
  refine ax.skip ?_
  refine ax.seq ?_
  refine ax.region E.obj rfl ?_
  refine ae.val rfl (kr Il wW zm) rfl ?_
  refine ae.val rfl (ah rfl) rfl ?_
  have H1:=H0.tO (([]:(List Seg)).map bC)
  refine ae.append (xs:=([]:(List Seg)).map bC) (ys:=(a1).map bC) (zs:=(r).map bC) H1 rfl rfl rfl (i:=0) rfl rfl Il KV wW (eD (enc:=bC) h) Kn rfl (bK (enc:=bC) (fun z=>(Seg.len z).trans qc.symm) _) (bK (enc:=bC) (fun z=>(Seg.len z).trans qc.symm) _) J5 rfl (iJ h) (fun v2 S2 H2=>?_)
  refine ae.val rfl (aj rfl) rfl ?_
  refine ae.nil ?_
  exact ax.ret ⟨_,rfl,rfl,fE (aD.grow H2 (i:=0) rfl .nil)⟩
theorem kN (n:Nat) (a1:(List aG)) (r:(List aG)) (h:eY n a1=some r):lT R cfg.P 23 [(.sl ((a1).map aM) false)] (fun v l=>l=[.row 8 v ((r).map aM)]):=by
 unfold eY at h
 refine lT.of_wp (C:=zo) Tryd.func23 rfl Mt rfl (fun S0 wf0=>?_)
 have H0:Has S0 S0 []:=Has.start wf0
 refine ax.seq ?_
 refine ax.region (Eg E) rfl ?_
 refine ae.val rfl (aj rfl) rfl ?_
 refine ae.nil ?_
 refine ax.seq ?_
 refine ax.seq ?_
 refine ax.region (Eg E) rfl ?_
 refine ae.val rfl (ah rfl) rfl ?_
 refine ae.yc rfl rfl rfl Kb rfl (fun bb hbb=>?_)
 refine ae.nil ?_
 refine ax.cond rfl (fun hb=>?_) (fun hb=>?_)
 ·
  have e:=map_nil (hbb hb)
  subst e
  have hr:=(lU h).2
  subst hr
  refine ax.seq ?_
  refine ax.region (Eg E) rfl ?_
  refine ae.val rfl (aj rfl) rfl ?_
  refine ae.nil ?_
  exact ax.ret ⟨_,rfl,rfl,_,_,.refl _,rfl,H0.IV 8⟩
 ·
  refine ax.skip ?_
  refine ax.seq ?_
  refine ax.region (Eg E) rfl ?_
  refine ae.val rfl (l9 Iw uF yI) rfl ?_
  refine ae.val rfl (ah rfl) rfl ?_
  have H1:=H0.DV 8
  refine ae.nU (xs:=([]:(List aG)).map aM) (ys:=(a1).map aM) (zs:=(r).map aM) H1 rfl rfl rfl (i:=0) rfl kT rfl Jt JL uF (eD (enc:=aM) h) Ig rfl (bK (enc:=aM) (fun z=>(aG.len z).trans kT.symm) _) (qd (fun x=>aG.flat x) _) rfl JW rfl (iJ h) (fun v2 S2 H2=>?_)
  refine ae.val rfl (aj rfl) rfl ?_
  refine ae.nil ?_
  exact ax.ret ⟨_,rfl,rfl,_,_,.refl _,rfl,H2⟩
theorem kU (n:Nat) (a1:(List Attr)) (r:(List Attr)) (h:eX n a1=some r):bU R cfg.P 44 [(.sl ((a1).map aU) false)] (.d (.sl ((r).map aU) false)):=by
 unfold eX at h
 refine bU.of_wp E.obj.toObjOk (C:=cfg) Tryd.func44 rfl Mk rfl ?_
 have H0:Has aI aI []:=Has.pure
 refine ax.seq ?_
 refine ax.region E.obj rfl ?_
 refine ae.val rfl (aj rfl) rfl ?_
 refine ae.nil ?_
 refine ax.seq ?_
 refine ax.seq ?_
 refine ax.region E.obj rfl ?_
 refine ae.val rfl (ah rfl) rfl ?_
 refine ae.yc rfl rfl rfl KR rfl (fun bb hbb=>?_)
 refine ae.nil ?_
 refine ax.cond rfl (fun hb=>?_) (fun hb=>?_)
 ·
  have e:=map_nil (hbb hb)
  subst e
  have hr:=(lU h).2
  subst hr
  refine ax.seq ?_
  refine ax.region E.obj rfl ?_
  refine ae.val rfl (aj rfl) rfl ?_
  refine ae.nil ?_
  exact ax.ret ⟨_,rfl,rfl,fE (aD.fe rfl (.aQ false) .nil)⟩
 ·
  refine ax.skip ?_
  refine ax.seq ?_
  refine ax.region E.obj rfl ?_
  refine ae.val rfl (kr Ju Je Kh) rfl ?_
  refine ae.val rfl (ah rfl) rfl ?_
  have H1:=H0.tO (([]:(List Attr)).map aU)
  refine ae.append (xs:=([]:(List Attr)).map aU) (ys:=(a1).map aU) (zs:=(r).map aU) H1 rfl rfl rfl (i:=0) rfl rfl Ju LP Je (eD (enc:=aU) h) Lh rfl (bK (enc:=aU) (fun z=>(Attr.len z).trans Jg.symm) _) (bK (enc:=aU) (fun z=>(Attr.len z).trans Jg.symm) _) Mo rfl (iJ h) (fun v2 S2 H2=>?_)
  refine ae.val rfl (aj rfl) rfl ?_
  refine ae.nil ?_
  exact ax.ret ⟨_,rfl,rfl,fE (aD.grow H2 (i:=0) rfl .nil)⟩
theorem lh (n:Nat) (a1:(List aF)) (r:(List aF)) (h:fF n a1=some r):lT R cfg.P 45 [(.sl ((a1).map aH) false)] (fun v l=>l=[.row 6 v ((r).map aH)]):=by
 unfold fF at h
 refine lT.of_wp (C:=wE) Tryd.func45 rfl MZ rfl (fun S0 wf0=>?_)
 have H0:Has S0 S0 []:=Has.start wf0
 refine ax.seq ?_
 refine ax.region (og E) rfl ?_
 refine ae.val rfl (aj rfl) rfl ?_
 refine ae.nil ?_
 refine ax.seq ?_
 refine ax.seq ?_
 refine ax.region (og E) rfl ?_
 refine ae.val rfl (ah rfl) rfl ?_
 refine ae.yc rfl rfl rfl KL rfl (fun bb hbb=>?_)
 refine ae.nil ?_
 refine ax.cond rfl (fun hb=>?_) (fun hb=>?_)
 ·
  have e:=map_nil (hbb hb)
  subst e
  have hr:=(lU h).2
  subst hr
  refine ax.seq ?_
  refine ax.region (og E) rfl ?_
  refine ae.val rfl (aj rfl) rfl ?_
  refine ae.nil ?_
  exact ax.ret ⟨_,rfl,rfl,_,_,.refl _,rfl,H0.IV 6⟩
 ·
  refine ax.skip ?_
  refine ax.seq ?_
  refine ax.region (og E) rfl ?_
  refine ae.val rfl (l9 IL nz jf) rfl ?_
  refine ae.val rfl (ah rfl) rfl ?_
  have H1:=H0.DV 6
  refine ae.nU (xs:=([]:(List aF)).map aH) (ys:=(a1).map aH) (zs:=(r).map aH) H1 rfl rfl rfl (i:=0) rfl eO rfl JZ JU nz (eD (enc:=aH) h) EP rfl (bK (enc:=aH) (fun z=>(aF.len z).trans eO.symm) _) (qd (fun x=>aF.flat x) _) rfl Jp rfl (iJ h) (fun v2 S2 H2=>?_)
  refine ae.val rfl (aj rfl) rfl ?_
  refine ae.nil ?_
  exact ax.ret ⟨_,rfl,rfl,_,_,.refl _,rfl,H2⟩
set_option maxRecDepth 20000 in
set_option maxHeartbeats 4000000 in
theorem pF:∀ (n:Nat) (a1:aF) (r:aF),fu n a1=some r→bU R cfg.P 24 [(aH a1)] (.d (aH r))
 | 0,a1,r,h=>by simp [fu] at h
 | n + 1,a1,r,h=>by
  have ih:=pF n
  unfold fu at h
  refine bU.of_wp (og E).toObjOk (C:=wE) Tryd.func24 rfl Lr rfl ?_
  have H0:Has aI aI []:=Has.pure
  refine ax.seq ?_
  refine ax.region (og E) rfl ?_
  refine ae.box H0 rfl rfl rfl (aF.bu _) rfl (fun b2 S3 H4=>?_)
  refine ae.alloc H4 rfl GU jV rfl rfl (fun b5 S6 H7=>?_)
  refine ae.nil ?_
  refine ax.seq ?_
  refine ax.region (og E) rfl ?_
  refine ae.val rfl (ai rfl De JY rfl) rfl ?_
  refine ae.val rfl (av H7 (i:=1) rfl rfl (aC Mv rfl)) rfl ?_
  obtain ⟨z8,hzz8,h⟩:=bind_some h
  refine ae.ret rfl (aA rfl rfl) (kU E _ _ _ hzz8 _ _ (aD.eq .nil)) rfl ?_
  refine ae.val rfl (ai rfl De JY rfl) rfl ?_
  refine ae.store H7 (i:=1) rfl rfl rfl rfl rfl rfl KE rfl KI rfl rfl rfl (fun S9 H10=>?_)
  refine ae.nil ?_
  refine ax.seq ?_
  refine ax.region (og E) rfl ?_
  refine ae.val rfl (ai rfl jN qO rfl) rfl ?_
  refine ae.val rfl (av H10 (i:=1) rfl rfl (aC xu rfl)) rfl ?_
  obtain ⟨z11,hzz11,h⟩:=bind_some h
  refine ae.yT H10 rfl (aA rfl rfl) (lh E n _ _ hzz11) (aD.eq .nil) rfl ?_
  rintro v12 S13 _ rfl H14
  refine ae.val rfl (ai rfl jN qO rfl) rfl ?_
  refine ae.store H14 (i:=2) rfl rfl rfl rfl (ko (H14.at (i:=0) rfl)).2 rfl DC (ko (H14.at (i:=0) rfl)).1 Dc rfl rfl rfl (fun S17 H18=>?_)
  refine ae.nil ?_
  refine ax.seq ?_
  refine ax.seq ?_
  refine ax.region (og E) rfl ?_
  refine ae.val rfl (ai rfl jN qO rfl) rfl ?_
  refine ae.val rfl (av H18 (i:=2) rfl rfl (aC xu rfl)) rfl ?_
  refine ae.val rfl (jc H18 (i:=0) rfl rfl Bv) rfl ?_
  refine ae.val rfl (ah rfl) rfl ?_
  refine ae.nil ?_
  refine ax.block ?_
  refine nR.start (B:=aI) (α:=(List aF) × Int) (fun k a=>eG (fu n) a1 z8 z11 k a.1 a.2=some r) (fun a=>[(1,(.ptr b2 0 0)),(2,(.ptr b5 0 0)),(14,v12),(15,(.d (.int .i64 ((z11).length:Int)))),(16,(.d (.int .i64 a.2)))]) (fun a=>[.row 6 v12 ((a.1).map aH),.box b5 [(.d (.int .i64 0)),(.d (.int .i64 0)),(.d (.str [])),(.d (.str [])),(.d .aQ),(.d .aQ)],.box b2 [(.d (.int .i64 a1.Kind)),(.d (.int .i64 a1.N)),(.d (.str a1.Tag)),(.d (.str a1.Text)),(.d (.sl ((z8).map aU) false)),v12]]) ?_ ?_ n ⟨⟨z11,0⟩,_,_,S17,.refl _ _,.refl _,(aa.r rfl (aa.r rfl (aa.r rfl (aa.r rfl (aa.r rfl aa.nil))))),H18.sl [0,1,2] rfl rfl,h⟩
  ·
   intro a h; simp [eG] at h
  intro k29 a S25 H26 h
  obtain ⟨x27,x28⟩:=a
  replace h:eG (fu n) a1 z8 z11 (k29 + 1) x27 x28=some r:=h
  replace H26:Has aI S25 [.row 6 v12 ((x27).map aH),.box b5 [(.d (.int .i64 0)),(.d (.int .i64 0)),(.d (.str [])),(.d (.str [])),(.d .aQ),(.d .aQ)],.box b2 [(.d (.int .i64 a1.Kind)),(.d (.int .i64 a1.N)),(.d (.str a1.Tag)),(.d (.str a1.Text)),(.d (.sl ((z8).map aU) false)),v12]]:=H26
  unfold eG at h
  refine ax.seq ?_
  refine ax.region (og E) rfl ?_
  refine ae.val rfl (ay rfl rfl bQ) rfl ?_
  refine ae.nil ?_
  refine ax.seq ?_
  refine ax.cond rfl (fun hb30=>?_) (fun hb30=>?_)
  ·
   replace h:=dK hb30 h
   refine ax.skip ?_
   refine ax.seq ?_
   refine ax.block ?_
   refine ax.seq ?_
   refine ax.region (og E) rfl ?_
   refine ae.val rfl (ah rfl) rfl ?_
   obtain ⟨z31,hzz31,h⟩:=bind_some h
   refine ae.iA (enc:=aH) H26 rfl (i:=0) rfl rfl rfl hzz31 nz nD ((aF.len _).trans eO.symm) rfl ?_
   refine ae.lQ H26 rfl (i:=0) rfl hzz31 rfl (aF.jO jf eO) rfl ?_
   refine ae.alloc H26 rfl GU jV rfl rfl (fun b32 S33 H34=>?_)
   refine ae.val rfl (aj rfl) rfl ?_
   refine ae.store H34 (i:=0) rfl rfl rfl rfl (aF.bu _) rfl eO rfl nD rfl rfl rfl (fun S35 H36=>?_)
   refine ae.nil ?_
   obtain ⟨z37,hzz37,h⟩:=bind_some h
   obtain ⟨z38,hzz38,h⟩:=bind_some h
   refine ax.Ct (og E) rO LB [(1,none),(2,none),(14,none),(15,none),(16,none)] (by kernel_rfl) 1 [6] (by decide) [some (.ptr b2 0 5),some v12,some (.d (.int .i64 x28)),some (.d (aH z31)),some (.d (aH z37)),some (jT v12 (Int.toNat x28) 0),none] ?_
   refine ⟨[6],[0,1,2,3,4,5],⟨by decide,by decide⟩,by kernel_rfl,?_,?_⟩
   ·
    refine .v rfl rfl rfl rfl (ai rfl jN qO rfl) ?_
    refine .v rfl rfl rfl rfl (av H36 (i:=3) rfl rfl (aC xu rfl)) ?_
    refine .v rfl rfl rfl rfl (ah rfl) ?_
    refine .cons rfl rfl rfl (.step ?_) ?_
    ·
     refine ae.val rfl (av H36 (i:=0) rfl rfl (bf jf eO rfl)) rfl ?_
     refine ae.less (Less.agg' (d:=aH z31) (ak.eq rfl (ak.eq rfl (ak.eq rfl (ak.eq rfl (ak.eq rfl (ak.eq rfl .nil)))))) ((aF.eq _).trans rfl)) ?_
     exact ae.nil ⟨_,_,rfl,fun _ ht=>by cases ht; exact ⟨rfl,.refl _⟩⟩
    refine .cons rfl rfl rfl (.step ?_) ?_
    ·
     refine ae.ret rfl (aA rfl rfl) (ih _ _ hzz37 _ _ (aD.eq .nil)) rfl ?_
     exact ae.nil ⟨_,_,rfl,fun _ ht=>by cases ht; exact ⟨rfl,.refl _⟩⟩
    refine .cons rfl rfl rfl (.step ?_) ?_
    ·
     refine ae.iA (enc:=aH) H36 rfl (i:=1) rfl rfl rfl hzz38 nz nD ((aF.len _).trans eO.symm) rfl ?_
     exact ae.nil ⟨_,_,rfl,fun _ ht=>by cases ht; exact ⟨rfl,.refl _⟩⟩
    exact .nil
   intro i hw41
   simp only [List.mem_cons,List.not_mem_nil,or_false] at hw41
   rcases hw41 with rfl
   refine ⟨_,_,rfl,rfl,.step ?_⟩
   refine ae.jF (enc:=aH) (z':=z37) (cv:=[(.int .i64 z37.Kind),(.int .i64 z37.N),(.str z37.Tag),(.str z37.Text),(.sl ((z37.bB).map aU) false),(.sl ((z37.Kids).map aH) false)]) H36 rfl (i:=1) rfl hzz38 rfl rfl (aF.bu _) (.refl _) eO rfl nD (by rw [aF.len]; rfl) (by rw [aF.cells,aF.cells]; rfl) (aF.flat _) (fun S42 H43=>?_)
   refine ae.nil ⟨_,.any,_,rfl,(fun _ ht=>by cases ht),_,(.q (.o (.o (.w .any .nil)))),(fun _ ht=>by cases ht),?_⟩
   refine ⟨rfl,[],by kernel_rfl,?_,_,rfl,?_⟩
   ·
    exact .nil
   refine ax.region (og E) rfl ?_
   refine ae.val rfl (ay rfl rfl cu) rfl ?_
   refine ae.val rfl (ah rfl) rfl ?_
   refine ae.nil ?_
   exact ⟨⟨(jJ x27 x28 z37),(IntKind.wrap .i64 (x28 + 1))⟩,_,_,S42,.refl _ _,.refl _,(aa.r rfl (aa.r rfl (aa.r rfl (aa.r rfl (aa.r rfl aa.nil))))),H43.sl [1,2,3] rfl rfl,h⟩
  replace h:=dJ hb30 h
  refine ax.exit ?_
  refine ax.seq ?_
  refine ax.region (og E) rfl ?_
  refine ae.val rfl (av H26 (i:=2) rfl rfl (bf jf eO rfl)) rfl ?_
  refine ae.store H26 (i:=1) rfl rfl rfl rfl (gV _) rfl eO (gW _) nD rfl rfl rfl (fun S44 H45=>?_)
  refine ae.nil ?_
  obtain ⟨SF1,HF1,hgF1⟩:=H45.freeze (og E).toObjOk (i:=0) (l':=[.box b5 [(.d (.int .i64 a1.Kind)),(.d (.int .i64 a1.N)),(.d (.str a1.Tag)),(.d (.str a1.Text)),(.d (.sl ((z8).map aU) false)),(.d (.sl ((x27).map aH) false))],.box b2 [(.d (.int .i64 a1.Kind)),(.d (.int .i64 a1.N)),(.d (.str a1.Tag)),(.d (.str a1.Text)),(.d (.sl ((z8).map aU) false)),(.d (.sl ((x27).map aH) false))]]) rfl (.box (.cons (.same _) (.cons (.same _) (.cons (.same _) (.cons (.same _) (.cons (.same _) (.cons .it .nil)))))) (.box (.cons (.same _) (.cons (.same _) (.cons (.same _) (.cons (.same _) (.cons (.same _) (.cons .it .nil)))))) .nil))
  refine ax.ghost (hgF1 _ _ [(1,(.ptr b2 0 0)),(2,(.ptr b5 0 0)),(14,(.d (.sl ((x27).map aH) false))),(15,(.d (.int .i64 ((z11).length:Int)))),(16,(.d (.int .i64 x28))),(17,(.d (.bool (decide (x28 < ((z11).length:Int))))))] (.cons rfl (.refl _) (.cons rfl (.refl _) (.it rfl (.cons rfl (.refl _) (.cons rfl (.refl _) (.cons rfl (.refl _) .nil))))))) ?_
  have hr:=Option.some.inj h
  subst hr
  exact ax.ret ⟨_,gq HF1 (i:=0) rfl rfl rfl (bf jf eO rfl),rfl,fE (aD.ou (d:=aH (aF.mk a1.Kind a1.N a1.Tag a1.Text z8 x27)) (ak.eq rfl (ak.eq rfl (ak.eq rfl (ak.eq rfl (ak.eq rfl (ak.eq rfl .nil)))))) ((aF.eq _).trans rfl))⟩
theorem oO (n:Nat) (a1:(List Int)) (r:(List Int)) (h:iw n a1=some r):bU R cfg.P 25 [(.sl ((a1).map (D.int .i64)) false)] (.d (.sl ((r).map (D.int .i64)) false)):=by
 unfold iw at h
 refine bU.of_wp E.obj.toObjOk (C:=cfg) Tryd.func25 rfl MC rfl ?_
 have H0:Has aI aI []:=Has.pure
 refine ax.seq ?_
 refine ax.region E.obj rfl ?_
 refine ae.val rfl (aj rfl) rfl ?_
 refine ae.nil ?_
 refine ax.seq ?_
 refine ax.seq ?_
 refine ax.region E.obj rfl ?_
 refine ae.val rfl (ah rfl) rfl ?_
 refine ae.yc rfl rfl rfl J7 rfl (fun bb hbb=>?_)
 refine ae.nil ?_
 refine ax.cond rfl (fun hb=>?_) (fun hb=>?_)
 ·
  have e:=map_nil (hbb hb)
  subst e
  have hr:=(lU h).2
  subst hr
  refine ax.seq ?_
  refine ax.region E.obj rfl ?_
  refine ae.val rfl (aj rfl) rfl ?_
  refine ae.nil ?_
  exact ax.ret ⟨_,rfl,rfl,fE (aD.fe rfl (.aQ false) .nil)⟩
 ·
  refine ax.skip ?_
  refine ax.seq ?_
  refine ax.region E.obj rfl ?_
  refine ae.val rfl (kr Dw ku ji) rfl ?_
  refine ae.val rfl (ah rfl) rfl ?_
  have H1:=H0.tO (([]:(List Int)).map (D.int .i64))
  refine ae.append (xs:=([]:(List Int)).map (D.int .i64)) (ys:=(a1).map (D.int .i64)) (zs:=(r).map (D.int .i64)) H1 rfl rfl rfl (i:=0) rfl rfl Dw JC ku (eD (enc:=(D.int .i64)) h) Kj rfl (bK (enc:=(D.int .i64)) (fun _=>pI.symm) _) (bK (enc:=(D.int .i64)) (fun _=>pI.symm) _) Lg rfl (iJ h) (fun v2 S2 H2=>?_)
  refine ae.val rfl (aj rfl) rfl ?_
  refine ae.nil ?_
  exact ax.ret ⟨_,rfl,rfl,fE (aD.grow H2 (i:=0) rfl .nil)⟩
theorem mh (n:Nat) (a1:(List On)) (r:(List On)) (h:fT n a1=some r):bU R cfg.P 26 [(.sl ((a1).map eH) false)] (.d (.sl ((r).map eH) false)):=by
 unfold fT at h
 refine bU.of_wp E.obj.toObjOk (C:=cfg) Tryd.func26 rfl MS rfl ?_
 have H0:Has aI aI []:=Has.pure
 refine ax.seq ?_
 refine ax.region E.obj rfl ?_
 refine ae.val rfl (aj rfl) rfl ?_
 refine ae.nil ?_
 refine ax.seq ?_
 refine ax.seq ?_
 refine ax.region E.obj rfl ?_
 refine ae.val rfl (ah rfl) rfl ?_
 refine ae.yc rfl rfl rfl Ky rfl (fun bb hbb=>?_)
 refine ae.nil ?_
 refine ax.cond rfl (fun hb=>?_) (fun hb=>?_)
 ·
  have e:=map_nil (hbb hb)
  subst e
  have hr:=(lU h).2
  subst hr
  refine ax.seq ?_
  refine ax.region E.obj rfl ?_
  refine ae.val rfl (aj rfl) rfl ?_
  refine ae.nil ?_
  exact ax.ret ⟨_,rfl,rfl,fE (aD.fe rfl (.aQ false) .nil)⟩
 ·
  refine ax.skip ?_
  refine ax.seq ?_
  refine ax.region E.obj rfl ?_
  refine ae.val rfl (kr Iy EK Ih) rfl ?_
  refine ae.val rfl (ah rfl) rfl ?_
  have H1:=H0.tO (([]:(List On)).map eH)
  refine ae.append (xs:=([]:(List On)).map eH) (ys:=(a1).map eH) (zs:=(r).map eH) H1 rfl rfl rfl (i:=0) rfl rfl Iy Kg EK (eD (enc:=eH) h) KH rfl (bK (enc:=eH) (fun z=>(On.len z).trans A9.symm) _) (bK (enc:=eH) (fun z=>(On.len z).trans A9.symm) _) Kw rfl (iJ h) (fun v2 S2 H2=>?_)
  refine ae.val rfl (aj rfl) rfl ?_
  refine ae.nil ?_
  exact ax.ret ⟨_,rfl,rfl,fE (aD.grow H2 (i:=0) rfl .nil)⟩
set_option maxRecDepth 20000 in
set_option maxHeartbeats 4000000 in
theorem yl (n:Nat) (a1:dO) (r:dO) (h:oq n a1=some r):lT R cfg.P 8 [(iN a1)] (fun v l=>∃ w0 w1,v=Ev.gP [w0,w1,.d (.int .i64 r.Cache)]∧l=[.row 8 w0 ((r.Records).map aB),.row 8 w1 ((r.Comps).map aM)]):=by
 unfold oq at h
 refine lT.of_wp (C:=mo) Tryd.func8 rfl NA rfl (fun S0 wf0=>?_)
 have H0:Has S0 S0 []:=Has.start wf0
 refine ax.seq ?_
 refine ax.region (fD E) rfl ?_
 refine ae.box H0 rfl rfl rfl (dO.bu _) rfl (fun b2 S3 H4=>?_)
 refine ae.alloc H4 rfl uW vL rfl rfl (fun b5 S6 H7=>?_)
 refine ae.nil ?_
 refine ax.seq ?_
 refine ax.region (fD E) rfl ?_
 refine ae.val rfl (ai rfl kP su rfl) rfl ?_
 refine ae.val rfl (av H7 (i:=1) rfl rfl (aC tX rfl)) rfl ?_
 obtain ⟨z8,hzz8,h⟩:=bind_some h
 refine ae.yT H7 rfl (aA rfl rfl) (jM E n _ _ hzz8) (aD.eq .nil) rfl ?_
 rintro v9 S10 _ rfl H11
 refine ae.val rfl (ai rfl kP su rfl) rfl ?_
 refine ae.store H11 (i:=2) rfl rfl rfl rfl (ko (H11.at (i:=0) rfl)).2 rfl Mm (ko (H11.at (i:=0) rfl)).1 MV rfl rfl rfl (fun S14 H15=>?_)
 refine ae.nil ?_
 refine ax.seq ?_
 refine ax.seq ?_
 refine ax.region (fD E) rfl ?_
 refine ae.val rfl (ai rfl kP su rfl) rfl ?_
 refine ae.val rfl (av H15 (i:=2) rfl rfl (aC tX rfl)) rfl ?_
 refine ae.val rfl (jc H15 (i:=0) rfl rfl uL) rfl ?_
 refine ae.val rfl (ah rfl) rfl ?_
 refine ae.nil ?_
 refine ax.block ?_
 refine nR.start (B:=S0) (α:=(List au) × Int) (fun k a=>gy n a1 z8 k a.1 a.2=some r) (fun a=>[(1,(.ptr b2 0 0)),(2,(.ptr b5 0 0)),(12,v9),(13,(.d (.int .i64 ((z8).length:Int)))),(14,(.d (.int .i64 a.2)))]) (fun a=>[.row 8 v9 ((a.1).map aB),.box b5 [(.d .aQ),(.d .aQ),(.d (.int .i64 0))],.box b2 [v9,(.d (.sl ((a1.Comps).map aM) false)),(.d (.int .i64 a1.Cache))]]) ?_ ?_ n ⟨⟨z8,0⟩,_,_,S14,.refl _ _,.refl _,(aa.r rfl (aa.r rfl (aa.r rfl (aa.r rfl (aa.r rfl aa.nil))))),H15.sl [0,1,2] rfl rfl,h⟩
 ·
  intro a h; simp [gy] at h
 intro k26 a S22 H23 h
 obtain ⟨x24,x25⟩:=a
 replace h:gy n a1 z8 (k26 + 1) x24 x25=some r:=h
 replace H23:Has S0 S22 [.row 8 v9 ((x24).map aB),.box b5 [(.d .aQ),(.d .aQ),(.d (.int .i64 0))],.box b2 [v9,(.d (.sl ((a1.Comps).map aM) false)),(.d (.int .i64 a1.Cache))]]:=H23
 unfold gy at h
 refine ax.seq ?_
 refine ax.region (fD E) rfl ?_
 refine ae.val rfl (ay rfl rfl bQ) rfl ?_
 refine ae.nil ?_
 refine ax.seq ?_
 refine ax.cond rfl (fun hb27=>?_) (fun hb27=>?_)
 ·
  replace h:=dK hb27 h
  refine ax.skip ?_
  refine ax.seq ?_
  refine ax.block ?_
  refine ax.seq ?_
  refine ax.region (fD E) rfl ?_
  refine ae.val rfl (ah rfl) rfl ?_
  obtain ⟨z28,hzz28,h⟩:=bind_some h
  refine ae.iA (enc:=aB) H23 rfl (i:=0) rfl rfl rfl hzz28 pO oL ((au.len _).trans kM.symm) rfl ?_
  refine ae.lQ H23 rfl (i:=0) rfl hzz28 rfl (au.jO Da kM) rfl ?_
  refine ae.alloc H23 rfl Jw vN rfl rfl (fun b29 S30 H31=>?_)
  refine ae.val rfl (aj rfl) rfl ?_
  refine ae.store H31 (i:=0) rfl rfl rfl rfl (au.bu _) rfl kM rfl oL rfl rfl rfl (fun S32 H33=>?_)
  refine ae.nil ?_
  obtain ⟨z34,hzz34,h⟩:=bind_some h
  obtain ⟨z35,hzz35,h⟩:=bind_some h
  refine ax.Ct (fD E) rO Lx [(1,none),(2,none),(12,none),(13,none),(14,none)] (by kernel_rfl) 1 [8] (by decide) [some (.ptr b2 0 0),some v9,some (.d (.int .i64 x25)),some (.ptr b29 0 2),some (.d (.sl ((z28.eT).map bC) false)),some (.d (.sl ((z34).map bC) false)),some (jT v9 (Int.toNat x25) 0),some (jT v9 (Int.toNat x25) 2),none] ?_
  refine ⟨[8],[0,1,2,3,4,5,6,7],⟨by decide,by decide⟩,by kernel_rfl,?_,?_⟩
  ·
   refine .v rfl rfl rfl rfl (ai rfl kP su rfl) ?_
   refine .v rfl rfl rfl rfl (av H33 (i:=3) rfl rfl (aC tX rfl)) ?_
   refine .v rfl rfl rfl rfl (ah rfl) ?_
   refine .v rfl rfl rfl rfl (ai rfl A8 Ii rfl) ?_
   refine .v rfl rfl rfl rfl (av H33 (i:=0) rfl rfl (aC Jl rfl)) ?_
   refine .cons rfl rfl rfl (.step ?_) ?_
   ·
    refine ae.ret rfl (aA rfl rfl) (lL E _ _ _ hzz34 _ _ (aD.eq .nil)) rfl ?_
    exact ae.nil ⟨_,_,rfl,fun _ ht=>by cases ht; exact ⟨rfl,.refl _⟩⟩
   refine .cons rfl rfl rfl (.step ?_) ?_
   ·
    refine ae.iA (enc:=aB) H33 rfl (i:=1) rfl rfl rfl hzz35 pO oL ((au.len _).trans kM.symm) rfl ?_
    exact ae.nil ⟨_,_,rfl,fun _ ht=>by cases ht; exact ⟨rfl,.refl _⟩⟩
   refine .cons rfl rfl rfl (.step ?_) ?_
   ·
    refine ae.jG H33 (i:=1) rfl hzz35 rfl rfl A8 Ii rfl rfl ?_
    exact ae.nil ⟨_,_,rfl,fun _ ht=>by cases ht; exact ⟨rfl,.refl _⟩⟩
   exact .nil
  intro i hw38
  simp only [List.mem_cons,List.not_mem_nil,or_false] at hw38
  rcases hw38 with rfl
  refine ⟨_,_,rfl,rfl,.step ?_⟩
  refine ae.jF (enc:=aB) (z':=(au.mk z35.Name z35.Parent z34 z35.aG z35.iK z35.aJ)) (cv:=[(.sl ((z34).map bC) false)]) H33 rfl (i:=1) rfl hzz35 rfl rfl rfl (.cons (.refl _) .nil) MI rfl ML (by rw [au.len]; rfl) (by rw [au.cells,au.cells]; rfl) (au.flat _) (fun S39 H40=>?_)
  refine ae.nil ⟨_,.any,_,rfl,(fun _ ht=>by cases ht),_,(.q (.q (.w .any .nil))),(fun _ ht=>by cases ht),?_⟩
  refine ⟨rfl,[],by kernel_rfl,?_,_,rfl,?_⟩
  ·
   exact .nil
  refine ax.region (fD E) rfl ?_
  refine ae.val rfl (ay rfl rfl cu) rfl ?_
  refine ae.val rfl (ah rfl) rfl ?_
  refine ae.nil ?_
  exact ⟨⟨(jJ x24 x25 (au.mk z35.Name z35.Parent z34 z35.aG z35.iK z35.aJ)),(IntKind.wrap .i64 (x25 + 1))⟩,_,_,S39,.refl _ _,.refl _,(aa.r rfl (aa.r rfl (aa.r rfl (aa.r rfl (aa.r rfl aa.nil))))),H40.sl [1,2,3] rfl rfl,h⟩
 replace h:=dJ hb27 h
 refine ax.exit ?_
 refine ax.seq ?_
 refine ax.region (fD E) rfl ?_
 refine ae.val rfl (ai rfl jv qz rfl) rfl ?_
 refine ae.val rfl (av H23 (i:=2) rfl rfl (aC ug rfl)) rfl ?_
 obtain ⟨z41,hzz41,h⟩:=bind_some h
 refine ae.yT H23 rfl (aA rfl rfl) (kN E n _ _ hzz41) (aD.eq .nil) rfl ?_
 rintro v42 S43 _ rfl H44
 refine ae.val rfl (ai rfl jv qz rfl) rfl ?_
 refine ae.store H44 (i:=3) rfl rfl rfl rfl (ko (H44.at (i:=0) rfl)).2 rfl IB (ko (H44.at (i:=0) rfl)).1 IP rfl rfl rfl (fun S47 H48=>?_)
 refine ae.nil ?_
 refine ax.seq ?_
 refine ax.seq ?_
 refine ax.region (fD E) rfl ?_
 refine ae.val rfl (ai rfl jv qz rfl) rfl ?_
 refine ae.val rfl (av H48 (i:=3) rfl rfl (aC ug rfl)) rfl ?_
 refine ae.val rfl (jc H48 (i:=0) rfl rfl CG) rfl ?_
 refine ae.val rfl (ah rfl) rfl ?_
 refine ae.nil ?_
 refine ax.block ?_
 refine nR.start (B:=S0) (α:=(List aG) × Int) (fun k a=>gG n a1 x24 z41 k a.1 a.2=some r) (fun a=>[(1,(.ptr b2 0 0)),(2,(.ptr b5 0 0)),(33,v42),(34,(.d (.int .i64 ((z41).length:Int)))),(35,(.d (.int .i64 a.2)))]) (fun a=>[.row 8 v42 ((a.1).map aM),.row 8 v9 ((x24).map aB),.box b5 [(.d .aQ),(.d .aQ),(.d (.int .i64 0))],.box b2 [v9,v42,(.d (.int .i64 a1.Cache))]]) ?_ ?_ n ⟨⟨z41,0⟩,_,_,S47,.refl _ _,.refl _,(aa.r rfl (aa.r rfl (aa.r rfl (aa.r rfl (aa.r rfl aa.nil))))),H48.sl [0,1,2,3] rfl rfl,h⟩
 ·
  intro a h; simp [gG] at h
 intro k59 a S55 H56 h
 obtain ⟨x57,x58⟩:=a
 replace h:gG n a1 x24 z41 (k59 + 1) x57 x58=some r:=h
 replace H56:Has S0 S55 [.row 8 v42 ((x57).map aM),.row 8 v9 ((x24).map aB),.box b5 [(.d .aQ),(.d .aQ),(.d (.int .i64 0))],.box b2 [v9,v42,(.d (.int .i64 a1.Cache))]]:=H56
 unfold gG at h
 refine ax.seq ?_
 refine ax.region (fD E) rfl ?_
 refine ae.val rfl (ay rfl rfl bQ) rfl ?_
 refine ae.nil ?_
 refine ax.seq ?_
 refine ax.cond rfl (fun hb60=>?_) (fun hb60=>?_)
 ·
  replace h:=dK hb60 h
  refine ax.skip ?_
  refine ax.seq ?_
  refine ax.block ?_
  refine ax.seq ?_
  refine ax.region (fD E) rfl ?_
  refine ae.val rfl (ah rfl) rfl ?_
  obtain ⟨z61,hzz61,h⟩:=bind_some h
  refine ae.iA (enc:=aM) H56 rfl (i:=0) rfl rfl rfl hzz61 uF tY ((aG.len _).trans kT.symm) rfl ?_
  refine ae.lQ H56 rfl (i:=0) rfl hzz61 rfl (aG.jO yI kT) rfl ?_
  refine ae.alloc H56 rfl Bl rG rfl rfl (fun b62 S63 H64=>?_)
  refine ae.val rfl (aj rfl) rfl ?_
  refine ae.store H64 (i:=0) rfl rfl rfl rfl (aG.bu _) rfl kT rfl tY rfl rfl rfl (fun S65 H66=>?_)
  refine ae.nil ?_
  obtain ⟨z67,hzz67,h⟩:=bind_some h
  obtain ⟨z68,hzz68,h⟩:=bind_some h
  obtain ⟨z69,hzz69,h⟩:=bind_some h
  obtain ⟨z70,hzz70,h⟩:=bind_some h
  refine ax.Ct (fD E) rO Ma [(1,none),(2,none),(33,none),(34,none),(35,none)] (by kernel_rfl) 1 [14] (by decide) [some (.ptr b2 0 1),some v42,some (.d (.int .i64 x58)),some (.ptr b62 0 0),some (.d (aH z61.aF)),some (.d (aH z67)),some (.ptr b62 0 6),some (.d (.sl ((z61.Init).map (D.int .i64)) false)),some (.d (.sl ((z68).map (D.int .i64)) false)),some (.ptr b62 0 7),some (.d (.sl ((z61.On).map eH) false)),some (.d (.sl ((z69).map eH) false)),some (.d (aM (aG.mk z67 z68 z69))),some (jT v42 (Int.toNat x58) 0),none] ?_
  refine ⟨[14],[0,1,2,3,4,5,6,7,8,9,10,11,12,13],⟨by decide,by decide⟩,by kernel_rfl,?_,?_⟩
  ·
   refine .v rfl rfl rfl rfl (ai rfl jv qz rfl) ?_
   refine .v rfl rfl rfl rfl (av H66 (i:=4) rfl rfl (aC ug rfl)) ?_
   refine .v rfl rfl rfl rfl (ah rfl) ?_
   refine .v rfl rfl rfl rfl (ai rfl yg F3 rfl) ?_
   refine .cons rfl rfl rfl (.step ?_) ?_
   ·
    refine ae.val rfl (av H66 (i:=0) rfl rfl (bf jf eO rfl)) rfl ?_
    refine ae.less (Less.agg' (d:=aH z61.aF) (ak.eq rfl (ak.eq rfl (ak.eq rfl (ak.eq rfl (ak.eq rfl (ak.eq rfl .nil)))))) ((aF.eq _).trans rfl)) ?_
    exact ae.nil ⟨_,_,rfl,fun _ ht=>by cases ht; exact ⟨rfl,.refl _⟩⟩
   refine .cons rfl rfl rfl (.step ?_) ?_
   ·
    refine ae.ret rfl (aA rfl rfl) (pF E _ _ _ hzz67 _ _ (aD.eq .nil)) rfl ?_
    exact ae.nil ⟨_,_,rfl,fun _ ht=>by cases ht; exact ⟨rfl,.refl _⟩⟩
   refine .v rfl rfl rfl rfl (ai rfl um lK rfl) ?_
   refine .v rfl rfl rfl rfl (av H66 (i:=0) rfl rfl (aC lX rfl)) ?_
   refine .cons rfl rfl rfl (.step ?_) ?_
   ·
    refine ae.ret rfl (aA rfl rfl) (oO E _ _ _ hzz68 _ _ (aD.eq .nil)) rfl ?_
    exact ae.nil ⟨_,_,rfl,fun _ ht=>by cases ht; exact ⟨rfl,.refl _⟩⟩
   refine .v rfl rfl rfl rfl (ai rfl yO Hw rfl) ?_
   refine .v rfl rfl rfl rfl (av H66 (i:=0) rfl rfl (aC IE rfl)) ?_
   refine .cons rfl rfl rfl (.step ?_) ?_
   ·
    refine ae.ret rfl (aA rfl rfl) (mh E _ _ _ hzz69 _ _ (aD.eq .nil)) rfl ?_
    exact ae.nil ⟨_,_,rfl,fun _ ht=>by cases ht; exact ⟨rfl,.refl _⟩⟩
   refine .cons rfl rfl rfl (.step ?_) ?_
   ·
    refine ae.val rfl (bA (cs:=[(.d (.int .i64 z67.Kind)),(.d (.int .i64 z67.N)),(.d (.str z67.Tag)),(.d (.str z67.Text)),(.d (.sl ((z67.bB).map aU) false)),(.d (.sl ((z67.Kids).map aH) false)),(.d (.sl ((z68).map (D.int .i64)) false)),(.d (.sl ((z69).map eH) false))]) rG rfl (ky) (bT rfl (iO (aF.bu _)) rfl rfl (bT rfl rfl rfl rfl (bT rfl rfl rfl rfl rfl)))) rfl ?_
    refine ae.less (Less.agg' (d:=aM (aG.mk z67 z68 z69)) (ak.eq rfl (ak.eq rfl (ak.eq rfl (ak.eq rfl (ak.eq rfl (ak.eq rfl (ak.eq rfl (ak.eq rfl .nil)))))))) ((aG.eq _).trans rfl)) ?_
    exact ae.nil ⟨_,_,rfl,fun _ ht=>by cases ht; exact ⟨rfl,.refl _⟩⟩
   refine .cons rfl rfl rfl (.step ?_) ?_
   ·
    refine ae.iA (enc:=aM) H66 rfl (i:=1) rfl rfl rfl hzz70 uF tY ((aG.len _).trans kT.symm) rfl ?_
    exact ae.nil ⟨_,_,rfl,fun _ ht=>by cases ht; exact ⟨rfl,.refl _⟩⟩
   exact .nil
  intro i hw73
  simp only [List.mem_cons,List.not_mem_nil,or_false] at hw73
  rcases hw73 with rfl
  refine ⟨_,_,rfl,rfl,.step ?_⟩
  refine ae.jF (enc:=aM) (z':=(aG.mk z67 z68 z69)) (cv:=[(.int .i64 (aG.mk z67 z68 z69).aF.Kind),(.int .i64 (aG.mk z67 z68 z69).aF.N),(.str (aG.mk z67 z68 z69).aF.Tag),(.str (aG.mk z67 z68 z69).aF.Text),(.sl (((aG.mk z67 z68 z69).aF.bB).map aU) false),(.sl (((aG.mk z67 z68 z69).aF.Kids).map aH) false),(.sl (((aG.mk z67 z68 z69).Init).map (D.int .i64)) false),(.sl (((aG.mk z67 z68 z69).On).map eH) false)]) H66 rfl (i:=1) rfl hzz70 rfl rfl (aG.bu _) (.refl _) kT rfl tY (by rw [aG.len]; rfl) (by rw [aG.cells,aG.cells]; rfl) (aG.flat _) (fun S74 H75=>?_)
  refine ae.nil ⟨_,.any,_,rfl,(fun _ ht=>by cases ht),_,(.q (.q (.q (.o (.o (.w .any .nil)))))),(fun _ ht=>by cases ht),?_⟩
  refine ⟨rfl,[],by kernel_rfl,?_,_,rfl,?_⟩
  ·
   exact .nil
  refine ax.region (fD E) rfl ?_
  refine ae.val rfl (ay rfl rfl cu) rfl ?_
  refine ae.val rfl (ah rfl) rfl ?_
  refine ae.nil ?_
  exact ⟨⟨(jJ x57 x58 (aG.mk z67 z68 z69)),(IntKind.wrap .i64 (x58 + 1))⟩,_,_,S74,.refl _ _,.refl _,(aa.r rfl (aa.r rfl (aa.r rfl (aa.r rfl (aa.r rfl aa.nil))))),H75.sl [1,2,3,4] rfl rfl,h⟩
 replace h:=dJ hb60 h
 refine ax.exit ?_
 refine ax.seq ?_
 refine ax.region (fD E) rfl ?_
 refine ae.val rfl (av H56 (i:=3) rfl rfl (bf sF nC rfl)) rfl ?_
 refine ae.store H56 (i:=2) rfl rfl rfl rfl (gV _) rfl nC (gW _) Bn rfl rfl rfl (fun S76 H77=>?_)
 refine ae.nil ?_
 have hr:=Option.some.inj h
 subst hr
 exact ax.ret ⟨_,gq H77 (i:=2) rfl rfl rfl (bf sF nC rfl),rfl,_,_,.refl _,⟨v9,v42,rfl,rfl⟩,H77.sl [1,0] rfl rfl⟩
end
end Pr
end Go.Ev

namespace Go.Ev
namespace Pr
set_option linter.unusedVariables false
set_option linter.unusedSimpArgs false
open Go.Proofs
section
variable {R:cZ} (E:JK R)
include E
set_option maxRecDepth 20000 in
set_option maxHeartbeats 4000000 in
theorem qU (n:Nat)  (r:(List au)) (h:mr n  = some r):lT R cfg.P 47 [] (fun v l=>l=[.row 8 v ((r).map aB)]):=by
 unfold mr at h
 refine lT.of_wp (C:=iM) Tryd.func47 rfl MP rfl (fun S0 wf0=>?_)
 have H0:Has S0 S0 []:=Has.start wf0
 refine ax.seq ?_
 refine ax.region (dI E) rfl ?_
 refine ae.val rfl (aj rfl) rfl ?_
 refine ae.nil ?_
 refine ax.seq ?_
 refine ax.region (dI E) rfl ?_
 refine ae.val rfl (bA (cs:=[(.d (.int .i64 0)),(.d (.str [115,104,111,112]))]) wU rfl (kE) (bT rfl rfl rfl rfl rfl)) rfl ?_
 refine ae.less (Less.agg' (d:=bC (Seg.mk 0 [115,104,111,112])) (ak.eq rfl (ak.eq rfl .nil)) ((Seg.eq _).trans rfl)) ?_
 refine ae.val rfl (aO (vs:=[(.d (bC (Seg.mk 0 [115,104,111,112])))]) (ds:=[(bC (Seg.mk 0 [115,104,111,112]))]) Be wW zm wU qc rfl (by decide) (.cons rfl (Seg.len _) .nil) rfl (by intro d hd; simp only [List.mem_cons,List.not_mem_nil,or_false] at hd; rcases hd with rfl <;> exact Seg.agg _) rfl) rfl ?_
 refine ae.val rfl (bA (cs:=[(.d (.str [115,104,111,112])),(.d (.int .i64 (-1))),(.d (.sl (([(Seg.mk 0 [115,104,111,112])]).map bC) true)),(.d (.int .i64 0)),(.d (.bool false)),(.d (.int .i64 0)),(.d (.int .i64 0)),(.d (.str []))]) vN rfl (jg) (bT rfl rfl rfl rfl (bT rfl rfl rfl rfl (bT rfl rfl rfl rfl rfl)))) rfl ?_
 refine ae.less (Less.agg' (d:=aB (au.mk [115,104,111,112] (-1) [(Seg.mk 0 [115,104,111,112])] 0 false (aJ.mk 0 0 []))) (ak.eq rfl (ak.eq rfl (ak.fe rfl (.iZ _ _) rfl rfl (ak.eq rfl (ak.eq rfl (ak.eq rfl (ak.eq rfl (ak.eq rfl .nil)))))))) ((au.eq _).trans rfl)) ?_
 refine ae.val rfl (bA (cs:=[(.d (.int .i64 1)),(.d (.str [105,100]))]) wU rfl (kE) (bT rfl rfl rfl rfl (bT rfl rfl rfl rfl rfl))) rfl ?_
 refine ae.less (Less.agg' (d:=bC (Seg.mk 1 [105,100])) (ak.eq rfl (ak.eq rfl .nil)) ((Seg.eq _).trans rfl)) ?_
 refine ae.val rfl (aO (vs:=[(.d (bC (Seg.mk 1 [105,100])))]) (ds:=[(bC (Seg.mk 1 [105,100]))]) Be wW zm wU qc rfl (by decide) (.cons rfl (Seg.len _) .nil) rfl (by intro d hd; simp only [List.mem_cons,List.not_mem_nil,or_false] at hd; rcases hd with rfl <;> exact Seg.agg _) rfl) rfl ?_
 refine ae.val rfl (bA (cs:=[(.d (.str [105,116,101,109])),(.d (.int .i64 0)),(.d (.sl (([(Seg.mk 1 [105,100])]).map bC) true)),(.d (.int .i64 0)),(.d (.bool false)),(.d (.int .i64 0)),(.d (.int .i64 0)),(.d (.str []))]) vN rfl (jg) (bT rfl rfl rfl rfl (bT rfl rfl rfl rfl (bT rfl rfl rfl rfl rfl)))) rfl ?_
 refine ae.less (Less.agg' (d:=aB (au.mk [105,116,101,109] 0 [(Seg.mk 1 [105,100])] 0 false (aJ.mk 0 0 []))) (ak.eq rfl (ak.eq rfl (ak.fe rfl (.iZ _ _) rfl rfl (ak.eq rfl (ak.eq rfl (ak.eq rfl (ak.eq rfl (ak.eq rfl .nil)))))))) ((au.eq _).trans rfl)) ?_
 refine ae.pY (enc:=aB) (xs:=[(au.mk [115,104,111,112] (-1) [(Seg.mk 0 [115,104,111,112])] 0 false (aJ.mk 0 0 [])),(au.mk [105,116,101,109] 0 [(Seg.mk 1 [105,100])] 0 false (aJ.mk 0 0 []))]) (vs:=[(.d (aB (au.mk [115,104,111,112] (-1) [(Seg.mk 0 [115,104,111,112])] 0 false (aJ.mk 0 0 [])))),(.d (aB (au.mk [105,116,101,109] 0 [(Seg.mk 1 [105,100])] 0 false (aJ.mk 0 0 []))))]) (cs:=[[(.d (.str (au.mk [115,104,111,112] (-1) [(Seg.mk 0 [115,104,111,112])] 0 false (aJ.mk 0 0 [])).Name)),(.d (.int .i64 (au.mk [115,104,111,112] (-1) [(Seg.mk 0 [115,104,111,112])] 0 false (aJ.mk 0 0 [])).Parent)),(.d (.sl (((au.mk [115,104,111,112] (-1) [(Seg.mk 0 [115,104,111,112])] 0 false (aJ.mk 0 0 [])).eT).map bC) false)),(.d (.int .i64 (au.mk [115,104,111,112] (-1) [(Seg.mk 0 [115,104,111,112])] 0 false (aJ.mk 0 0 [])).aG)),(.d (.bool (au.mk [115,104,111,112] (-1) [(Seg.mk 0 [115,104,111,112])] 0 false (aJ.mk 0 0 [])).iK)),(.d (.int .i64 (au.mk [115,104,111,112] (-1) [(Seg.mk 0 [115,104,111,112])] 0 false (aJ.mk 0 0 [])).aJ.Kind)),(.d (.int .i64 (au.mk [115,104,111,112] (-1) [(Seg.mk 0 [115,104,111,112])] 0 false (aJ.mk 0 0 [])).aJ.Flag)),(.d (.str (au.mk [115,104,111,112] (-1) [(Seg.mk 0 [115,104,111,112])] 0 false (aJ.mk 0 0 [])).aJ.To))],[(.d (.str (au.mk [105,116,101,109] 0 [(Seg.mk 1 [105,100])] 0 false (aJ.mk 0 0 [])).Name)),(.d (.int .i64 (au.mk [105,116,101,109] 0 [(Seg.mk 1 [105,100])] 0 false (aJ.mk 0 0 [])).Parent)),(.d (.sl (((au.mk [105,116,101,109] 0 [(Seg.mk 1 [105,100])] 0 false (aJ.mk 0 0 [])).eT).map bC) false)),(.d (.int .i64 (au.mk [105,116,101,109] 0 [(Seg.mk 1 [105,100])] 0 false (aJ.mk 0 0 [])).aG)),(.d (.bool (au.mk [105,116,101,109] 0 [(Seg.mk 1 [105,100])] 0 false (aJ.mk 0 0 [])).iK)),(.d (.int .i64 (au.mk [105,116,101,109] 0 [(Seg.mk 1 [105,100])] 0 false (aJ.mk 0 0 [])).aJ.Kind)),(.d (.int .i64 (au.mk [105,116,101,109] 0 [(Seg.mk 1 [105,100])] 0 false (aJ.mk 0 0 [])).aJ.Flag)),(.d (.str (au.mk [105,116,101,109] 0 [(Seg.mk 1 [105,100])] 0 false (aJ.mk 0 0 [])).aJ.To))]]) H0 rfl xq pO oL vN kM rfl (by decide) (.cons (iO (au.bu _)) rfl (.cons (iO (au.bu _)) rfl .nil)) rfl (.cons (by rw [au.cells]; exact .refl _) (.cons (by rw [au.cells]; exact .refl _) .nil)) (fun z=>au.len z) (fun x=>au.flat x) rfl rfl (fun v1 S2 H3=>?_)
 refine ae.val rfl (aj rfl) rfl ?_
 refine ae.nil ?_
 have hr:=Option.some.inj h
 subst hr
 exact ax.ret ⟨_,rfl,rfl,_,_,.refl _,rfl,H3.sl [0] rfl rfl⟩
set_option maxRecDepth 20000 in
set_option maxHeartbeats 4000000 in
theorem mi (n:Nat)  (r:dO) (h:jP n  = some r):lT R cfg.P 31 [] (fun v l=>∃ w0 w1,v=Ev.gP [w0,w1,.d (.int .i64 r.Cache)]∧l=[.row 8 w0 ((r.Records).map aB),.row 8 w1 ((r.Comps).map aM)]):=by
 unfold jP at h
 refine lT.of_wp (C:=mo) Tryd.func31 rfl Lu rfl (fun S0 wf0=>?_)
 have H0:Has S0 S0 []:=Has.start wf0
 refine ax.seq ?_
 refine ax.region (fD E) rfl ?_
 refine ae.alloc H0 rfl uW vL rfl rfl (fun b1 S2 H3=>?_)
 refine ae.nil ?_
 refine ax.seq ?_
 refine ax.region (fD E) rfl ?_
 refine ae.val rfl (bA (cs:=[(.d (.int .i64 3)),(.d (.int .i64 0)),(.d (.str [])),(.d (.str [])),(.d .aQ),(.d .aQ)]) jV rfl (gm) (bT rfl rfl rfl rfl rfl)) rfl ?_
 refine ae.less (Less.agg' (d:=aH (aF.mk 3 0 [] [] [] [])) (ak.eq rfl (ak.eq rfl (ak.eq rfl (ak.eq rfl (ak.fe rfl (.aQ false) rfl rfl (ak.fe rfl (.aQ false) rfl rfl .nil)))))) ((aF.eq _).trans rfl)) ?_
 refine ae.val rfl (bA (cs:=[(.d (.int .i64 7)),(.d (.int .i64 0)),(.d (.str [])),(.d (.str [])),(.d .aQ),(.d .aQ)]) jV rfl (gm) (bT rfl rfl rfl rfl rfl)) rfl ?_
 refine ae.less (Less.agg' (d:=aH (aF.mk 7 0 [] [] [] [])) (ak.eq rfl (ak.eq rfl (ak.eq rfl (ak.eq rfl (ak.fe rfl (.aQ false) rfl rfl (ak.fe rfl (.aQ false) rfl rfl .nil)))))) ((aF.eq _).trans rfl)) ?_
 refine ae.val rfl (aO (vs:=[(.d (aH (aF.mk 3 0 [] [] [] []))),(.d (aH (aF.mk 7 0 [] [] [] [])))]) (ds:=[(aH (aF.mk 3 0 [] [] [] [])),(aH (aF.mk 7 0 [] [] [] []))]) DL nz jf jV eO rfl (by decide) (.cons rfl (aF.len _) (.cons rfl (aF.len _) .nil)) rfl (by intro d hd; simp only [List.mem_cons,List.not_mem_nil,or_false] at hd; rcases hd with rfl | rfl <;> exact aF.agg _) rfl) rfl ?_
 refine ae.val rfl (bA (cs:=[(.d (.int .i64 1)),(.d (.int .i64 0)),(.d (.str [109,97,105,110])),(.d (.str [])),(.d .aQ),(.d (.sl (([(aF.mk 3 0 [] [] [] []),(aF.mk 7 0 [] [] [] [])]).map aH) true))]) jV rfl (gm) (bT rfl rfl rfl rfl (bT rfl rfl rfl rfl (bT rfl rfl rfl rfl rfl)))) rfl ?_
 refine ae.less (Less.agg' (d:=aH (aF.mk 1 0 [109,97,105,110] [] [] [(aF.mk 3 0 [] [] [] []),(aF.mk 7 0 [] [] [] [])])) (ak.eq rfl (ak.eq rfl (ak.eq rfl (ak.eq rfl (ak.fe rfl (.aQ false) rfl rfl (ak.fe rfl (.iZ _ _) rfl rfl .nil)))))) ((aF.eq _).trans rfl)) ?_
 refine ae.val rfl (aO (vs:=[(.d (.int .i64 1))]) (ds:=[(.int .i64 1)]) JB ku ji DU pI rfl (by decide) (.cons rfl rfl .nil) rfl (by intro d hd; simp only [List.mem_cons,List.not_mem_nil,or_false] at hd; rcases hd with rfl <;> rfl) rfl) rfl ?_
 refine ae.val rfl (bA (cs:=[(.d (.str [117,112])),(.d (.int .i64 0)),(.d (.int .i64 1))]) GJ rfl (vP) (bT rfl rfl rfl rfl (bT rfl rfl rfl rfl rfl))) rfl ?_
 refine ae.less (Less.agg' (d:=eH (On.mk [117,112] 0 1)) (ak.eq rfl (ak.eq rfl (ak.eq rfl .nil))) ((On.eq _).trans rfl)) ?_
 refine ae.val rfl (aO (vs:=[(.d (eH (On.mk [117,112] 0 1)))]) (ds:=[(eH (On.mk [117,112] 0 1))]) JS EK Ih GJ A9 rfl (by decide) (.cons rfl (On.len _) .nil) rfl (by intro d hd; simp only [List.mem_cons,List.not_mem_nil,or_false] at hd; rcases hd with rfl <;> exact On.agg _) rfl) rfl ?_
 refine ae.val rfl (bA (cs:=[(.d (.int .i64 (aF.mk 1 0 [109,97,105,110] [] [] [(aF.mk 3 0 [] [] [] []),(aF.mk 7 0 [] [] [] [])]).Kind)),(.d (.int .i64 (aF.mk 1 0 [109,97,105,110] [] [] [(aF.mk 3 0 [] [] [] []),(aF.mk 7 0 [] [] [] [])]).N)),(.d (.str (aF.mk 1 0 [109,97,105,110] [] [] [(aF.mk 3 0 [] [] [] []),(aF.mk 7 0 [] [] [] [])]).Tag)),(.d (.str (aF.mk 1 0 [109,97,105,110] [] [] [(aF.mk 3 0 [] [] [] []),(aF.mk 7 0 [] [] [] [])]).Text)),(.d (.sl (((aF.mk 1 0 [109,97,105,110] [] [] [(aF.mk 3 0 [] [] [] []),(aF.mk 7 0 [] [] [] [])]).bB).map aU) false)),(.d (.sl (((aF.mk 1 0 [109,97,105,110] [] [] [(aF.mk 3 0 [] [] [] []),(aF.mk 7 0 [] [] [] [])]).Kids).map aH) false)),(.d (.sl (([1]).map (D.int .i64)) true)),(.d (.sl (([(On.mk [117,112] 0 1)]).map eH) true))]) rG rfl (ky) (bT rfl (iO (aF.bu _)) rfl rfl (bT rfl rfl rfl rfl (bT rfl rfl rfl rfl rfl)))) rfl ?_
 refine ae.less (Less.agg' (d:=aM (aG.mk (aF.mk 1 0 [109,97,105,110] [] [] [(aF.mk 3 0 [] [] [] []),(aF.mk 7 0 [] [] [] [])]) [1] [(On.mk [117,112] 0 1)])) (ak.eq rfl (ak.eq rfl (ak.eq rfl (ak.eq rfl (ak.eq rfl (ak.eq rfl (ak.fe rfl (.iZ _ _) rfl rfl (ak.fe rfl (.iZ _ _) rfl rfl .nil)))))))) ((aG.eq _).trans rfl)) ?_
 refine ae.alloc H3 rfl Bl rG rfl rfl (fun b4 S5 H6=>?_)
 refine ae.store H6 (i:=0) rfl rfl rfl rfl (aG.bu _) rfl kT rfl tY rfl rfl rfl (fun S7 H8=>?_)
 refine ae.nil ?_
 refine ax.seq ?_
 refine ax.region (fD E) rfl ?_
 refine ae.val rfl (bA (cs:=[(.d (.int .i64 4)),(.d (.int .i64 0)),(.d (.str [])),(.d (.str [105,100])),(.d .aQ),(.d .aQ)]) jV rfl (gm) (bT rfl rfl rfl rfl (bT rfl rfl rfl rfl rfl))) rfl ?_
 refine ae.less (Less.agg' (d:=aH (aF.mk 4 0 [] [105,100] [] [])) (ak.eq rfl (ak.eq rfl (ak.eq rfl (ak.eq rfl (ak.fe rfl (.aQ false) rfl rfl (ak.fe rfl (.aQ false) rfl rfl .nil)))))) ((aF.eq _).trans rfl)) ?_
 refine ae.val rfl (aO (vs:=[(.d (aH (aF.mk 4 0 [] [105,100] [] [])))]) (ds:=[(aH (aF.mk 4 0 [] [105,100] [] []))]) DL nz jf jV eO rfl (by decide) (.cons rfl (aF.len _) .nil) rfl (by intro d hd; simp only [List.mem_cons,List.not_mem_nil,or_false] at hd; rcases hd with rfl <;> exact aF.agg _) rfl) rfl ?_
 refine ae.val rfl (bA (cs:=[(.d (.int .i64 1)),(.d (.int .i64 0)),(.d (.str [112])),(.d (.str [])),(.d .aQ),(.d (.sl (([(aF.mk 4 0 [] [105,100] [] [])]).map aH) true))]) jV rfl (gm) (bT rfl rfl rfl rfl (bT rfl rfl rfl rfl (bT rfl rfl rfl rfl rfl)))) rfl ?_
 refine ae.less (Less.agg' (d:=aH (aF.mk 1 0 [112] [] [] [(aF.mk 4 0 [] [105,100] [] [])])) (ak.eq rfl (ak.eq rfl (ak.eq rfl (ak.eq rfl (ak.fe rfl (.aQ false) rfl rfl (ak.fe rfl (.iZ _ _) rfl rfl .nil)))))) ((aF.eq _).trans rfl)) ?_
 refine ae.val rfl (bA (cs:=[(.d (.int .i64 (aF.mk 1 0 [112] [] [] [(aF.mk 4 0 [] [105,100] [] [])]).Kind)),(.d (.int .i64 (aF.mk 1 0 [112] [] [] [(aF.mk 4 0 [] [105,100] [] [])]).N)),(.d (.str (aF.mk 1 0 [112] [] [] [(aF.mk 4 0 [] [105,100] [] [])]).Tag)),(.d (.str (aF.mk 1 0 [112] [] [] [(aF.mk 4 0 [] [105,100] [] [])]).Text)),(.d (.sl (((aF.mk 1 0 [112] [] [] [(aF.mk 4 0 [] [105,100] [] [])]).bB).map aU) false)),(.d (.sl (((aF.mk 1 0 [112] [] [] [(aF.mk 4 0 [] [105,100] [] [])]).Kids).map aH) false)),(.d .aQ),(.d .aQ)]) rG rfl (ky) (bT rfl (iO (aF.bu _)) rfl rfl rfl)) rfl ?_
 refine ae.less (Less.agg' (d:=aM (aG.mk (aF.mk 1 0 [112] [] [] [(aF.mk 4 0 [] [105,100] [] [])]) [] [])) (ak.eq rfl (ak.eq rfl (ak.eq rfl (ak.eq rfl (ak.eq rfl (ak.eq rfl (ak.fe rfl (.aQ false) rfl rfl (ak.fe rfl (.aQ false) rfl rfl .nil)))))))) ((aG.eq _).trans rfl)) ?_
 refine ae.alloc H8 rfl Bl rG rfl rfl (fun b9 S10 H11=>?_)
 refine ae.store H11 (i:=0) rfl rfl rfl rfl (aG.bu _) rfl kT rfl tY rfl rfl rfl (fun S12 H13=>?_)
 refine ae.nil ?_
 refine ax.seq ?_
 refine ax.region (fD E) rfl ?_
 obtain ⟨z14,hzz14,h⟩:=bind_some h
 refine ae.yT H13 rfl (aA rfl rfl) (qU E n  _ hzz14) .nil rfl ?_
 rintro v15 S16 _ rfl H17
 refine ae.val rfl (aj rfl) rfl ?_
 refine ae.nil ?_
 refine ax.seq ?_
 refine ax.region (fD E) rfl ?_
 refine ae.val rfl (ah rfl) rfl ?_
 refine ae.val rfl (ah rfl) rfl ?_
 obtain ⟨z20,hzz20,h⟩:=bind_some h
 refine ae.iA (enc:=aB) H17 rfl (i:=0) rfl rfl rfl hzz20 pO oL ((au.len _).trans kM.symm) rfl ?_
 refine ae.jG H17 (i:=0) rfl hzz20 rfl rfl tK mg rfl rfl ?_
 refine ae.jF (enc:=aB) (z':=(au.mk z20.Name z20.Parent z20.eT 1 z20.iK z20.aJ)) (cv:=[(.int .i64 1)]) H17 rfl (i:=0) rfl hzz20 rfl rfl rfl (.cons (.refl _) .nil) pI rfl zi (by rw [au.len]; rfl) (by rw [au.cells,au.cells]; rfl) (au.flat _) (fun S21 H22=>?_)
 obtain ⟨z23,hzz23,h⟩:=bind_some h
 refine ae.iA (enc:=aB) H22 rfl (i:=0) rfl rfl rfl hzz23 pO oL ((au.len _).trans kM.symm) rfl ?_
 refine ae.jG H22 (i:=0) rfl hzz23 rfl rfl I8 KT rfl rfl ?_
 refine ae.jF (enc:=aB) (z':=(au.mk z23.Name z23.Parent z23.eT z23.aG true z23.aJ)) (cv:=[(.bool true)]) H22 rfl (i:=0) rfl hzz23 rfl rfl rfl (.cons (.refl _) .nil) LA rfl Mq (by rw [au.len]; rfl) (by rw [au.cells,au.cells]; rfl) (au.flat _) (fun S24 H25=>?_)
 refine ae.nil ?_
 refine ax.seq ?_
 refine ax.region (fD E) rfl ?_
 refine ae.val rfl (ah rfl) rfl ?_
 refine ae.val rfl (av H25 (i:=2) rfl rfl (bf yI kT rfl)) rfl ?_
 refine ae.less (Less.agg' (d:=aM (aG.mk (aF.mk 1 0 [109,97,105,110] [] [] [(aF.mk 3 0 [] [] [] []),(aF.mk 7 0 [] [] [] [])]) [1] [(On.mk [117,112] 0 1)])) (ak.eq rfl (ak.eq rfl (ak.eq rfl (ak.eq rfl (ak.eq rfl (ak.eq rfl (ak.eq rfl (ak.eq rfl .nil)))))))) ((aG.eq _).trans rfl)) ?_
 refine ae.val rfl (av H25 (i:=1) rfl rfl (bf yI kT rfl)) rfl ?_
 refine ae.less (Less.agg' (d:=aM (aG.mk (aF.mk 1 0 [112] [] [] [(aF.mk 4 0 [] [105,100] [] [])]) [] [])) (ak.eq rfl (ak.eq rfl (ak.eq rfl (ak.eq rfl (ak.eq rfl (ak.eq rfl (ak.eq rfl (ak.eq rfl .nil)))))))) ((aG.eq _).trans rfl)) ?_
 refine ae.pY (enc:=aM) (xs:=[(aG.mk (aF.mk 1 0 [109,97,105,110] [] [] [(aF.mk 3 0 [] [] [] []),(aF.mk 7 0 [] [] [] [])]) [1] [(On.mk [117,112] 0 1)]),(aG.mk (aF.mk 1 0 [112] [] [] [(aF.mk 4 0 [] [105,100] [] [])]) [] [])]) (vs:=[(.d (aM (aG.mk (aF.mk 1 0 [109,97,105,110] [] [] [(aF.mk 3 0 [] [] [] []),(aF.mk 7 0 [] [] [] [])]) [1] [(On.mk [117,112] 0 1)]))),(.d (aM (aG.mk (aF.mk 1 0 [112] [] [] [(aF.mk 4 0 [] [105,100] [] [])]) [] [])))]) (cs:=[[(.d (.int .i64 (aG.mk (aF.mk 1 0 [109,97,105,110] [] [] [(aF.mk 3 0 [] [] [] []),(aF.mk 7 0 [] [] [] [])]) [1] [(On.mk [117,112] 0 1)]).aF.Kind)),(.d (.int .i64 (aG.mk (aF.mk 1 0 [109,97,105,110] [] [] [(aF.mk 3 0 [] [] [] []),(aF.mk 7 0 [] [] [] [])]) [1] [(On.mk [117,112] 0 1)]).aF.N)),(.d (.str (aG.mk (aF.mk 1 0 [109,97,105,110] [] [] [(aF.mk 3 0 [] [] [] []),(aF.mk 7 0 [] [] [] [])]) [1] [(On.mk [117,112] 0 1)]).aF.Tag)),(.d (.str (aG.mk (aF.mk 1 0 [109,97,105,110] [] [] [(aF.mk 3 0 [] [] [] []),(aF.mk 7 0 [] [] [] [])]) [1] [(On.mk [117,112] 0 1)]).aF.Text)),(.d (.sl (((aG.mk (aF.mk 1 0 [109,97,105,110] [] [] [(aF.mk 3 0 [] [] [] []),(aF.mk 7 0 [] [] [] [])]) [1] [(On.mk [117,112] 0 1)]).aF.bB).map aU) false)),(.d (.sl (((aG.mk (aF.mk 1 0 [109,97,105,110] [] [] [(aF.mk 3 0 [] [] [] []),(aF.mk 7 0 [] [] [] [])]) [1] [(On.mk [117,112] 0 1)]).aF.Kids).map aH) false)),(.d (.sl (((aG.mk (aF.mk 1 0 [109,97,105,110] [] [] [(aF.mk 3 0 [] [] [] []),(aF.mk 7 0 [] [] [] [])]) [1] [(On.mk [117,112] 0 1)]).Init).map (D.int .i64)) false)),(.d (.sl (((aG.mk (aF.mk 1 0 [109,97,105,110] [] [] [(aF.mk 3 0 [] [] [] []),(aF.mk 7 0 [] [] [] [])]) [1] [(On.mk [117,112] 0 1)]).On).map eH) false))],[(.d (.int .i64 (aG.mk (aF.mk 1 0 [112] [] [] [(aF.mk 4 0 [] [105,100] [] [])]) [] []).aF.Kind)),(.d (.int .i64 (aG.mk (aF.mk 1 0 [112] [] [] [(aF.mk 4 0 [] [105,100] [] [])]) [] []).aF.N)),(.d (.str (aG.mk (aF.mk 1 0 [112] [] [] [(aF.mk 4 0 [] [105,100] [] [])]) [] []).aF.Tag)),(.d (.str (aG.mk (aF.mk 1 0 [112] [] [] [(aF.mk 4 0 [] [105,100] [] [])]) [] []).aF.Text)),(.d (.sl (((aG.mk (aF.mk 1 0 [112] [] [] [(aF.mk 4 0 [] [105,100] [] [])]) [] []).aF.bB).map aU) false)),(.d (.sl (((aG.mk (aF.mk 1 0 [112] [] [] [(aF.mk 4 0 [] [105,100] [] [])]) [] []).aF.Kids).map aH) false)),(.d (.sl (((aG.mk (aF.mk 1 0 [112] [] [] [(aF.mk 4 0 [] [105,100] [] [])]) [] []).Init).map (D.int .i64)) false)),(.d (.sl (((aG.mk (aF.mk 1 0 [112] [] [] [(aF.mk 4 0 [] [105,100] [] [])]) [] []).On).map eH) false))]]) H25 rfl D5 uF tY rG kT rfl (by decide) (.cons (iO (aG.bu _)) rfl (.cons (iO (aG.bu _)) rfl .nil)) rfl (.cons (by rw [aG.cells]; exact .refl _) (.cons (by rw [aG.cells]; exact .refl _) .nil)) (fun z=>aG.len z) (fun x=>aG.flat x) rfl rfl (fun v26 S27 H28=>?_)
 refine ae.val rfl (bA (cs:=[v15,v26,(.d (.int .i64 2))]) vL rfl (vD) (bT rfl (pV H28 (i:=1) rfl) rfl rfl (bT rfl (pV H28 (i:=0) rfl) rfl rfl (bT rfl rfl rfl rfl rfl)))) rfl ?_
 refine ae.store H28 (i:=4) rfl rfl rfl rfl (gV _) rfl nC (gW _) Bn rfl rfl rfl (fun S29 H30=>?_)
 refine ae.nil ?_
 have hr:=Option.some.inj h
 subst hr
 exact ax.ret ⟨_,gq H30 (i:=4) rfl rfl rfl (bf sF nC rfl),rfl,_,_,.refl _,⟨v15,v26,rfl,rfl⟩,H30.sl [1,0] rfl rfl⟩
set_option maxRecDepth 20000 in
set_option maxHeartbeats 4000000 in
theorem oP (n:Nat)  (r:Bool) (h:iy n  = some r):bU R cfg.P 11 [] (.d (.bool r)):=by
 unfold iy at h
 refine bU.of_wp (fD E).toObjOk (C:=mo) Tryd.func11 rfl ME rfl ?_
 have H0:Has aI aI []:=Has.pure
 refine ax.seq ?_
 refine ax.region (fD E) rfl ?_
 refine ae.val rfl (aj rfl) rfl ?_
 refine ae.nil ?_
 refine ax.seq ?_
 refine ax.region (fD E) rfl ?_
 obtain ⟨z1,hzz1,h⟩:=bind_some h
 refine ae.yT H0 rfl (aA rfl rfl) (mi E n  _ hzz1) .nil rfl ?_
 rintro _ S3 _ ⟨v7,v8,rfl,rfl⟩ H4
 obtain ⟨z9,hzz9,h⟩:=bind_some h
 refine ae.yT H4 rfl (aA rfl rfl) (mi E n  _ hzz9) .nil rfl ?_
 rintro _ S11 _ ⟨v15,v16,rfl,rfl⟩ H12
 refine ae.alloc H12 rfl uW vL rfl rfl (fun b17 S18 H19=>?_)
 refine ae.alloc H19 rfl uW vL rfl rfl (fun b20 S21 H22=>?_)
 refine ae.store H22 (i:=1) rfl rfl rfl rfl (gV _) rfl nC (gW _) Bn rfl rfl rfl (fun S23 H24=>?_)
 refine ae.store H24 (i:=0) rfl rfl rfl rfl (gV _) rfl nC (gW _) Bn rfl rfl rfl (fun S25 H26=>?_)
 refine ae.nil ?_
 refine ax.seq ?_
 refine ax.region (fD E) rfl ?_
 refine ae.val rfl (ai rfl jv qz rfl) rfl ?_
 refine ae.val rfl (av H26 (i:=0) rfl rfl (aC ug rfl)) rfl ?_
 obtain ⟨z27,hzz27,h⟩:=bind_some h
 refine ae.iA (enc:=aM) H26 rfl (i:=3) rfl rfl rfl hzz27 uF tY ((aG.len _).trans kT.symm) rfl ?_
 refine ae.jG H26 (i:=3) rfl hzz27 rfl rfl yg F3 rfl rfl ?_
 refine ae.jG H26 (i:=3) rfl hzz27 rfl rfl jN qO rfl rfl ?_
 refine ae.jF (enc:=aM) (z':=(aG.mk (aF.mk z27.aF.Kind z27.aF.N z27.aF.Tag z27.aF.Text z27.aF.bB []) z27.Init z27.On)) (cv:=[(.sl (([]).map aH) false)]) H26 rfl (i:=3) rfl hzz27 rfl rfl rfl (.cons JN .nil) DC rfl Dc (by rw [aG.len]; rfl) (by rw [aG.cells,aG.cells]; rfl) (aG.flat _) (fun S28 H29=>?_)
 refine ae.nil ?_
 refine ax.seq ?_
 refine ax.region (fD E) rfl ?_
 refine ae.val rfl (av H29 (i:=1) rfl rfl (bf sF nC rfl)) rfl ?_
 obtain ⟨z30,hzz30,h⟩:=bind_some h
 refine ae.Fx (fD E).toObjOk rfl (aA rfl rfl) (ma E n _ _ hzz30) rfl (.cons ((dO.eq z1) ▸ nu.agg (ds:=[(.sl ((z1.Records).map aB) false),(.sl ((z1.Comps).map aM) false),(.int .i64 z1.Cache)]) (.cons (nu.row H29 (i:=4) rfl) (.cons (nu.row H29 (i:=5) rfl) (.cons (.less (.refl _)) .nil))) rfl) .nil) rfl ?_
 refine ae.val rfl (ah rfl) rfl ?_
 obtain ⟨z32,hzz32,h⟩:=bind_some h
 refine ae.bL 4 16 (.d (.bool z32)) ?_ ?_
 ·
  rcases Bool.eq_false_or_eq_true (z30) with hB31 | hB31
  ·
   refine ae.bool hB31 ?_
   replace hzz32:=dK hB31 hzz32
   refine ae.val rfl (av H29 (i:=0) rfl rfl (bf sF nC rfl)) rfl ?_
   obtain ⟨z33,hzz33,hzz32⟩:=bind_some hzz32
   refine ae.Fx (fD E).toObjOk rfl (aA rfl rfl) (ma E n _ _ hzz33) rfl (.cons ((dO.eq (dO.mk z9.Records (jJ z9.Comps 0 (aG.mk (aF.mk z27.aF.Kind z27.aF.N z27.aF.Tag z27.aF.Text z27.aF.bB []) z27.Init z27.On)) z9.Cache)) ▸ nu.agg (ds:=[(.sl ((z9.Records).map aB) false),(.sl (((jJ z9.Comps 0 (aG.mk (aF.mk z27.aF.Kind z27.aF.N z27.aF.Tag z27.aF.Text z27.aF.bB []) z27.Init z27.On))).map aM) false),(.int .i64 z9.Cache)]) (.cons (nu.row H29 (i:=2) rfl) (.cons (nu.row H29 (i:=3) rfl) (.cons (.less (.refl _)) .nil))) rfl) .nil) rfl ?_
   refine ae.val rfl (fP rfl) rfl ?_
   refine ae.val rfl (az (b:=true) rfl rfl) rfl ?_
   cases hzz32
   exact ae.nil ⟨_,rfl,(aa.put (aa.push rfl (aa.push rfl (aa.push rfl (aa.put (.refl _) (Less.eq (by rw [hB31])))))) (.refl _))⟩
  refine ae.bool hB31 ?_
  refine ae.no rfl rfl ?_
  refine ae.no rfl rfl ?_
  refine ae.no rfl rfl ?_
  refine ae.val rfl (az (b:=false) rfl rfl) rfl ?_
  replace hzz32:=dJ hB31 hzz32
  cases hzz32
  exact ae.nil ⟨_,rfl,(aa.put (aa.push rfl (aa.push rfl (aa.push rfl (aa.put (.refl _) (Less.eq (by rw [hB31])))))) (.refl _))⟩
 refine ae.val rfl (ah rfl) rfl ?_
 obtain ⟨z35,hzz35,h⟩:=bind_some h
 refine ae.bL 3 20 (.d (.bool z35)) ?_ ?_
 ·
  rcases Bool.eq_false_or_eq_true (z32) with hB34 | hB34
  ·
   refine ae.bool hB34 ?_
   replace hzz35:=dK hB34 hzz35
   refine ae.val rfl (av H29 (i:=1) rfl rfl (bf sF nC rfl)) rfl ?_
   obtain ⟨z36,hzz36,hzz35⟩:=bind_some hzz35
   refine ae.Fx (fD E).toObjOk rfl (aA rfl rfl) (j6 E n _ _ _ hzz36) rfl (.cons ((dO.eq z1) ▸ nu.agg (ds:=[(.sl ((z1.Records).map aB) false),(.sl ((z1.Comps).map aM) false),(.int .i64 z1.Cache)]) (.cons (nu.row H29 (i:=4) rfl) (.cons (nu.row H29 (i:=5) rfl) (.cons (.less (.refl _)) .nil))) rfl) (.cons (.less (.refl _)) .nil)) rfl ?_
   refine ae.val rfl (az (b:=true) rfl rfl) rfl ?_
   cases hzz35
   exact ae.nil ⟨_,rfl,(aa.put (aa.push rfl (aa.push rfl (aa.put (.refl _) (Less.eq (by rw [hB34]))))) (.refl _))⟩
  refine ae.bool hB34 ?_
  refine ae.no rfl rfl ?_
  refine ae.no rfl rfl ?_
  refine ae.val rfl (az (b:=false) rfl rfl) rfl ?_
  replace hzz35:=dJ hB34 hzz35
  cases hzz35
  exact ae.nil ⟨_,rfl,(aa.put (aa.push rfl (aa.push rfl (aa.put (.refl _) (Less.eq (by rw [hB34]))))) (.refl _))⟩
 refine ae.val rfl (ah rfl) rfl ?_
 obtain ⟨z38,hzz38,h⟩:=bind_some h
 refine ae.bL 4 25 (.d (.bool z38)) ?_ ?_
 ·
  rcases Bool.eq_false_or_eq_true (z35) with hB37 | hB37
  ·
   refine ae.bool hB37 ?_
   replace hzz38:=dK hB37 hzz38
   refine ae.val rfl (av H29 (i:=1) rfl rfl (bf sF nC rfl)) rfl ?_
   obtain ⟨z39,hzz39,hzz38⟩:=bind_some hzz38
   refine ae.Fx (fD E).toObjOk rfl (aA rfl rfl) (j6 E n _ _ _ hzz39) rfl (.cons ((dO.eq z1) ▸ nu.agg (ds:=[(.sl ((z1.Records).map aB) false),(.sl ((z1.Comps).map aM) false),(.int .i64 z1.Cache)]) (.cons (nu.row H29 (i:=4) rfl) (.cons (nu.row H29 (i:=5) rfl) (.cons (.less (.refl _)) .nil))) rfl) (.cons (.less (.refl _)) .nil)) rfl ?_
   refine ae.val rfl (fP rfl) rfl ?_
   refine ae.val rfl (az (b:=true) rfl rfl) rfl ?_
   cases hzz38
   exact ae.nil ⟨_,rfl,(aa.put (aa.push rfl (aa.push rfl (aa.push rfl (aa.put (.refl _) (Less.eq (by rw [hB37])))))) (.refl _))⟩
  refine ae.bool hB37 ?_
  refine ae.no rfl rfl ?_
  refine ae.no rfl rfl ?_
  refine ae.no rfl rfl ?_
  refine ae.val rfl (az (b:=false) rfl rfl) rfl ?_
  replace hzz38:=dJ hB37 hzz38
  cases hzz38
  exact ae.nil ⟨_,rfl,(aa.put (aa.push rfl (aa.push rfl (aa.push rfl (aa.put (.refl _) (Less.eq (by rw [hB37])))))) (.refl _))⟩
 refine ae.val rfl (aj rfl) rfl ?_
 refine ae.nil ?_
 have hr:=Option.some.inj h
 subst hr
 exact ax.ret ⟨_,rfl,rfl,fE (aD.eq .nil)⟩
set_option maxRecDepth 20000 in
set_option maxHeartbeats 4000000 in
theorem wR (n:Nat) (a1:jS) (a2:Int) (a3:Bool) (r:Bool) (h:gK n a1 a2 a3=some r):bU R cfg.P 4 [(oD a1),(.int .i64 a2),(.bool a3)] (.d (.bool r)):=by
 unfold gK at h
 refine bU.of_wp (fD E).toObjOk (C:=mo) Tryd.func4 rfl Nh rfl ?_
 have H0:Has aI aI []:=Has.pure
 refine ax.seq ?_
 refine ax.region (fD E) rfl ?_
 refine ae.box H0 rfl rfl rfl (jS.bu _) rfl (fun b4 S5 H6=>?_)
 refine ae.val rfl (aj rfl) rfl ?_
 refine ae.nil ?_
 refine ax.seq ?_
 refine ax.region (fD E) rfl ?_
 refine ae.val rfl (av H6 (i:=0) rfl rfl (bf Lt Lf rfl)) rfl ?_
 refine ae.less (Less.agg' (d:=oD a1) (ak.eq rfl (ak.eq rfl (ak.eq rfl (ak.eq rfl (ak.eq rfl (ak.eq rfl (ak.eq rfl (ak.eq rfl (ak.eq rfl .nil))))))))) ((jS.eq _).trans rfl)) ?_
 obtain ⟨z7,hzz7,h⟩:=bind_some h
 refine ae.ret rfl (aA rfl rfl) (qG E _ _ _ hzz7 _ _ (aD.eq .nil)) rfl ?_
 refine ae.alloc H6 rfl uW vL rfl rfl (fun b8 S9 H10=>?_)
 refine ae.store H10 (i:=0) rfl rfl rfl rfl (dO.bu _) rfl nC rfl Bn rfl rfl rfl (fun S11 H12=>?_)
 refine ae.nil ?_
 refine ax.seq ?_
 refine ax.region (fD E) rfl ?_
 refine ae.val rfl (ah rfl) rfl ?_
 refine ae.val rfl (ai rfl kP su rfl) rfl ?_
 refine ae.val rfl (av H12 (i:=0) rfl rfl (aC tX rfl)) rfl ?_
 refine ae.val rfl (bz rfl uL) rfl ?_
 refine ae.val rfl (ay rfl rfl ig) rfl ?_
 obtain ⟨z13,hzz13,h⟩:=bind_some h
 refine ae.ret rfl (aA rfl rfl) (aN E _ _ _ _ _ hzz13 _ _ (aD.eq (aD.eq (aD.eq .nil)))) rfl ?_
 refine ae.val rfl (aj rfl) rfl ?_
 refine ae.nil ?_
 refine ax.seq ?_
 refine ax.region (fD E) rfl ?_
 refine ae.val rfl (av H12 (i:=0) rfl rfl (bf sF nC rfl)) rfl ?_
 refine ae.less (Less.agg' (d:=iN z7) (ak.eq rfl (ak.eq rfl (ak.eq rfl .nil))) ((dO.eq _).trans rfl)) ?_
 obtain ⟨z14,hzz14,h⟩:=bind_some h
 refine ae.yT H12 rfl (aA rfl rfl) (yl E n _ _ hzz14) (aD.eq .nil) rfl ?_
 rintro _ S16 _ ⟨v20,v21,rfl,rfl⟩ H17
 refine ae.alloc H17 rfl uW vL rfl rfl (fun b22 S23 H24=>?_)
 refine ae.store H24 (i:=0) rfl rfl rfl rfl (gV _) rfl nC (gW _) Bn rfl rfl rfl (fun S25 H26=>?_)
 refine ae.nil ?_
 refine ax.seq ?_
 refine ax.seq ?_
 refine ax.region (fD E) rfl ?_
 refine ae.val rfl (ai rfl kP su rfl) rfl ?_
 refine ae.val rfl (av H26 (i:=0) rfl rfl (aC tX rfl)) rfl ?_
 refine ae.val rfl (jc H26 (i:=1) rfl rfl uL) rfl ?_
 refine ae.val rfl (ai rfl kP su rfl) rfl ?_
 refine ae.val rfl (av H26 (i:=3) rfl rfl (aC tX rfl)) rfl ?_
 refine ae.val rfl (bz rfl uL) rfl ?_
 refine ae.val rfl (ay rfl rfl jA) rfl ?_
 refine ae.val rfl (ah rfl) rfl ?_
 refine ae.bL 8 36 (.d (.bool ((((z14.Records).length:Int) != ((z7.Records).length:Int)) || (((z14.Comps).length:Int) != ((z7.Comps).length:Int))))) ?_ ?_
 ·
  rcases Bool.eq_false_or_eq_true ((((z14.Records).length:Int) != ((z7.Records).length:Int))) with hB27 | hB27
  ·
   refine ae.bool hB27 ?_
   refine ae.no rfl rfl ?_
   refine ae.no rfl rfl ?_
   refine ae.no rfl rfl ?_
   refine ae.no rfl rfl ?_
   refine ae.no rfl rfl ?_
   refine ae.no rfl rfl ?_
   refine ae.no rfl rfl ?_
   refine ae.val rfl (az (b:=true) rfl rfl) rfl ?_
   exact ae.nil ⟨_,rfl,(aa.put (aa.push rfl (aa.push rfl (aa.push rfl (aa.push rfl (aa.push rfl (aa.push rfl (aa.push rfl (aa.put (.refl _) (Less.eq (by rw [hB27])))))))))) (Less.eq (by rw [hB27]; rw [Bool.true_or])))⟩
  refine ae.bool hB27 ?_
  refine ae.val rfl (ai rfl jv qz rfl) rfl ?_
  refine ae.val rfl (av H26 (i:=0) rfl rfl (aC ug rfl)) rfl ?_
  refine ae.val rfl (jc H26 (i:=2) rfl rfl CG) rfl ?_
  refine ae.val rfl (ai rfl jv qz rfl) rfl ?_
  refine ae.val rfl (av H26 (i:=3) rfl rfl (aC ug rfl)) rfl ?_
  refine ae.val rfl (bz rfl CG) rfl ?_
  refine ae.val rfl (ay rfl rfl jA) rfl ?_
  refine ae.val rfl (az (b:=false) rfl rfl) rfl ?_
  exact ae.nil ⟨_,rfl,(aa.put (aa.push rfl (aa.push rfl (aa.push rfl (aa.push rfl (aa.push rfl (aa.push rfl (aa.push rfl (aa.put (.refl _) (Less.eq (by rw [hB27])))))))))) (Less.eq (by rw [hB27]; rw [Bool.false_or])))⟩
 refine ae.nil ?_
 refine ax.cond rfl (fun hb28=>?_) (fun hb28=>?_)
 ·
  replace h:=dK hb28 h
  refine ax.seq ?_
  refine ax.region (fD E) rfl ?_
  refine ae.val rfl (aj rfl) rfl ?_
  refine ae.nil ?_
  have hr:=Option.some.inj h
  subst hr
  exact ax.ret ⟨_,rfl,rfl,fE (aD.eq .nil)⟩
 replace h:=dJ hb28 h
 refine ax.skip ?_
 refine ax.seq ?_
 refine ax.region (fD E) rfl ?_
 refine ae.val rfl (bA (cs:=[(.d (.int .i64 1)),(.d (.int .i64 0)),(.d (.str [112])),(.d (.str [])),(.d .aQ),(.d .aQ)]) jV rfl (gm) (bT rfl rfl rfl rfl (bT rfl rfl rfl rfl rfl))) rfl ?_
 refine ae.less (Less.agg' (d:=aH (aF.mk 1 0 [112] [] [] [])) (ak.eq rfl (ak.eq rfl (ak.eq rfl (ak.eq rfl (ak.fe rfl (.aQ false) rfl rfl (ak.fe rfl (.aQ false) rfl rfl .nil)))))) ((aF.eq _).trans rfl)) ?_
 refine ae.val rfl (bA (cs:=[(.d (.int .i64 (aF.mk 1 0 [112] [] [] []).Kind)),(.d (.int .i64 (aF.mk 1 0 [112] [] [] []).N)),(.d (.str (aF.mk 1 0 [112] [] [] []).Tag)),(.d (.str (aF.mk 1 0 [112] [] [] []).Text)),(.d (.sl (((aF.mk 1 0 [112] [] [] []).bB).map aU) false)),(.d (.sl (((aF.mk 1 0 [112] [] [] []).Kids).map aH) false)),(.d .aQ),(.d .aQ)]) rG rfl (ky) (bT rfl (iO (aF.bu _)) rfl rfl rfl)) rfl ?_
 refine ae.less (Less.agg' (d:=aM (aG.mk (aF.mk 1 0 [112] [] [] []) [] [])) (ak.eq rfl (ak.eq rfl (ak.eq rfl (ak.eq rfl (ak.eq rfl (ak.eq rfl (ak.fe rfl (.aQ false) rfl rfl (ak.fe rfl (.aQ false) rfl rfl .nil)))))))) ((aG.eq _).trans rfl)) ?_
 refine ae.alloc H26 rfl Bl rG rfl rfl (fun b29 S30 H31=>?_)
 refine ae.store H31 (i:=0) rfl rfl rfl rfl (aG.bu _) rfl kT rfl tY rfl rfl rfl (fun S32 H33=>?_)
 refine ae.nil ?_
 refine ax.join (B:=aI) (α:=(List aF)) (fun a=>dw n z7 z13 z14 a=some r) (fun a=>[(7,(.ptr b8 0 0)),(8,(.d (.int .i64 z13))),(9,(.ptr b22 0 0)),(10,(.ptr b29 0 0))]) (fun a=>[.box b29 [(.d (.int .i64 (aG.mk (aF.mk 1 0 [112] [] [] []) [] []).aF.Kind)),(.d (.int .i64 (aG.mk (aF.mk 1 0 [112] [] [] []) [] []).aF.N)),(.d (.str (aG.mk (aF.mk 1 0 [112] [] [] []) [] []).aF.Tag)),(.d (.str (aG.mk (aF.mk 1 0 [112] [] [] []) [] []).aF.Text)),(.d (.sl (((aG.mk (aF.mk 1 0 [112] [] [] []) [] []).aF.bB).map aU) false)),(.d (.sl ((a).map aH) false)),(.d (.sl (((aG.mk (aF.mk 1 0 [112] [] [] []) [] []).Init).map (D.int .i64)) false)),(.d (.sl (((aG.mk (aF.mk 1 0 [112] [] [] []) [] []).On).map eH) false))],.box b22 [v20,v21,(.d (.int .i64 z14.Cache))],.row 8 v20 ((z14.Records).map aB),.row 8 v21 ((z14.Comps).map aM),.box b8 [(.d (.sl ((z7.Records).map aB) false)),(.d (.sl ((z7.Comps).map aM) false)),(.d (.int .i64 z7.Cache))]]) ?_ ?_
 ·
  intro x36 S34 H35 h
  replace h:dw n z7 z13 z14 x36=some r:=h
  replace H35:Has aI S34 [.box b29 [(.d (.int .i64 (aG.mk (aF.mk 1 0 [112] [] [] []) [] []).aF.Kind)),(.d (.int .i64 (aG.mk (aF.mk 1 0 [112] [] [] []) [] []).aF.N)),(.d (.str (aG.mk (aF.mk 1 0 [112] [] [] []) [] []).aF.Tag)),(.d (.str (aG.mk (aF.mk 1 0 [112] [] [] []) [] []).aF.Text)),(.d (.sl (((aG.mk (aF.mk 1 0 [112] [] [] []) [] []).aF.bB).map aU) false)),(.d (.sl ((x36).map aH) false)),(.d (.sl (((aG.mk (aF.mk 1 0 [112] [] [] []) [] []).Init).map (D.int .i64)) false)),(.d (.sl (((aG.mk (aF.mk 1 0 [112] [] [] []) [] []).On).map eH) false))],.box b22 [v20,v21,(.d (.int .i64 z14.Cache))],.row 8 v20 ((z14.Records).map aB),.row 8 v21 ((z14.Comps).map aM),.box b8 [(.d (.sl ((z7.Records).map aB) false)),(.d (.sl ((z7.Comps).map aM) false)),(.d (.int .i64 z7.Cache))]]:=H35
  unfold dw at h
  refine ax.seq ?_
  refine ax.region (fD E) rfl ?_
  refine ae.val rfl (ai rfl kP su rfl) rfl ?_
  refine ae.val rfl (av H35 (i:=1) rfl rfl (aC tX rfl)) rfl ?_
  refine ae.val rfl (ah rfl) rfl ?_
  refine ae.val rfl (ai rfl jv qz rfl) rfl ?_
  refine ae.val rfl (av H35 (i:=1) rfl rfl (aC ug rfl)) rfl ?_
  refine ae.val rfl (jc H35 (i:=3) rfl rfl CG) rfl ?_
  obtain ⟨z38,hzz38,h⟩:=bind_some h
  refine ae.iA (enc:=aB) H35 rfl (i:=2) rfl rfl rfl hzz38 pO oL ((au.len _).trans kM.symm) rfl ?_
  refine ae.jG H35 (i:=2) rfl hzz38 rfl rfl tK mg rfl rfl ?_
  refine ae.jF (enc:=aB) (z':=(au.mk z38.Name z38.Parent z38.eT ((z14.Comps).length:Int) z38.iK z38.aJ)) (cv:=[(.int .i64 ((z14.Comps).length:Int))]) H35 rfl (i:=2) rfl hzz38 rfl rfl rfl (.cons (.refl _) .nil) pI rfl zi (by rw [au.len]; rfl) (by rw [au.cells,au.cells]; rfl) (au.flat _) (fun S39 H40=>?_)
  refine ae.nil ?_
  refine ax.seq ?_
  refine ax.region (fD E) rfl ?_
  refine ae.val rfl (ai rfl jv qz rfl) rfl ?_
  refine ae.val rfl (av H40 (i:=1) rfl rfl (aC ug rfl)) rfl ?_
  refine ae.val rfl (av H40 (i:=0) rfl rfl (bf yI kT rfl)) rfl ?_
  refine ae.less (Less.agg' (d:=aM (aG.mk (aF.mk ((aG.mk (aF.mk 1 0 [112] [] [] []) [] []).aF.Kind) ((aG.mk (aF.mk 1 0 [112] [] [] []) [] []).aF.N) ((aG.mk (aF.mk 1 0 [112] [] [] []) [] []).aF.Tag) ((aG.mk (aF.mk 1 0 [112] [] [] []) [] []).aF.Text) ((aG.mk (aF.mk 1 0 [112] [] [] []) [] []).aF.bB) x36) ((aG.mk (aF.mk 1 0 [112] [] [] []) [] []).Init) ((aG.mk (aF.mk 1 0 [112] [] [] []) [] []).On))) (ak.eq rfl (ak.eq rfl (ak.eq rfl (ak.eq rfl (ak.eq rfl (ak.eq rfl (ak.eq rfl (ak.eq rfl .nil)))))))) ((aG.eq _).trans rfl)) ?_
  refine ae.pY (enc:=aM) (xs:=[(aG.mk (aF.mk ((aG.mk (aF.mk 1 0 [112] [] [] []) [] []).aF.Kind) ((aG.mk (aF.mk 1 0 [112] [] [] []) [] []).aF.N) ((aG.mk (aF.mk 1 0 [112] [] [] []) [] []).aF.Tag) ((aG.mk (aF.mk 1 0 [112] [] [] []) [] []).aF.Text) ((aG.mk (aF.mk 1 0 [112] [] [] []) [] []).aF.bB) x36) ((aG.mk (aF.mk 1 0 [112] [] [] []) [] []).Init) ((aG.mk (aF.mk 1 0 [112] [] [] []) [] []).On))]) (vs:=[(.d (aM (aG.mk (aF.mk ((aG.mk (aF.mk 1 0 [112] [] [] []) [] []).aF.Kind) ((aG.mk (aF.mk 1 0 [112] [] [] []) [] []).aF.N) ((aG.mk (aF.mk 1 0 [112] [] [] []) [] []).aF.Tag) ((aG.mk (aF.mk 1 0 [112] [] [] []) [] []).aF.Text) ((aG.mk (aF.mk 1 0 [112] [] [] []) [] []).aF.bB) x36) ((aG.mk (aF.mk 1 0 [112] [] [] []) [] []).Init) ((aG.mk (aF.mk 1 0 [112] [] [] []) [] []).On))))]) (cs:=[[(.d (.int .i64 (aG.mk (aF.mk ((aG.mk (aF.mk 1 0 [112] [] [] []) [] []).aF.Kind) ((aG.mk (aF.mk 1 0 [112] [] [] []) [] []).aF.N) ((aG.mk (aF.mk 1 0 [112] [] [] []) [] []).aF.Tag) ((aG.mk (aF.mk 1 0 [112] [] [] []) [] []).aF.Text) ((aG.mk (aF.mk 1 0 [112] [] [] []) [] []).aF.bB) x36) ((aG.mk (aF.mk 1 0 [112] [] [] []) [] []).Init) ((aG.mk (aF.mk 1 0 [112] [] [] []) [] []).On)).aF.Kind)),(.d (.int .i64 (aG.mk (aF.mk ((aG.mk (aF.mk 1 0 [112] [] [] []) [] []).aF.Kind) ((aG.mk (aF.mk 1 0 [112] [] [] []) [] []).aF.N) ((aG.mk (aF.mk 1 0 [112] [] [] []) [] []).aF.Tag) ((aG.mk (aF.mk 1 0 [112] [] [] []) [] []).aF.Text) ((aG.mk (aF.mk 1 0 [112] [] [] []) [] []).aF.bB) x36) ((aG.mk (aF.mk 1 0 [112] [] [] []) [] []).Init) ((aG.mk (aF.mk 1 0 [112] [] [] []) [] []).On)).aF.N)),(.d (.str (aG.mk (aF.mk ((aG.mk (aF.mk 1 0 [112] [] [] []) [] []).aF.Kind) ((aG.mk (aF.mk 1 0 [112] [] [] []) [] []).aF.N) ((aG.mk (aF.mk 1 0 [112] [] [] []) [] []).aF.Tag) ((aG.mk (aF.mk 1 0 [112] [] [] []) [] []).aF.Text) ((aG.mk (aF.mk 1 0 [112] [] [] []) [] []).aF.bB) x36) ((aG.mk (aF.mk 1 0 [112] [] [] []) [] []).Init) ((aG.mk (aF.mk 1 0 [112] [] [] []) [] []).On)).aF.Tag)),(.d (.str (aG.mk (aF.mk ((aG.mk (aF.mk 1 0 [112] [] [] []) [] []).aF.Kind) ((aG.mk (aF.mk 1 0 [112] [] [] []) [] []).aF.N) ((aG.mk (aF.mk 1 0 [112] [] [] []) [] []).aF.Tag) ((aG.mk (aF.mk 1 0 [112] [] [] []) [] []).aF.Text) ((aG.mk (aF.mk 1 0 [112] [] [] []) [] []).aF.bB) x36) ((aG.mk (aF.mk 1 0 [112] [] [] []) [] []).Init) ((aG.mk (aF.mk 1 0 [112] [] [] []) [] []).On)).aF.Text)),(.d (.sl (((aG.mk (aF.mk ((aG.mk (aF.mk 1 0 [112] [] [] []) [] []).aF.Kind) ((aG.mk (aF.mk 1 0 [112] [] [] []) [] []).aF.N) ((aG.mk (aF.mk 1 0 [112] [] [] []) [] []).aF.Tag) ((aG.mk (aF.mk 1 0 [112] [] [] []) [] []).aF.Text) ((aG.mk (aF.mk 1 0 [112] [] [] []) [] []).aF.bB) x36) ((aG.mk (aF.mk 1 0 [112] [] [] []) [] []).Init) ((aG.mk (aF.mk 1 0 [112] [] [] []) [] []).On)).aF.bB).map aU) false)),(.d (.sl (((aG.mk (aF.mk ((aG.mk (aF.mk 1 0 [112] [] [] []) [] []).aF.Kind) ((aG.mk (aF.mk 1 0 [112] [] [] []) [] []).aF.N) ((aG.mk (aF.mk 1 0 [112] [] [] []) [] []).aF.Tag) ((aG.mk (aF.mk 1 0 [112] [] [] []) [] []).aF.Text) ((aG.mk (aF.mk 1 0 [112] [] [] []) [] []).aF.bB) x36) ((aG.mk (aF.mk 1 0 [112] [] [] []) [] []).Init) ((aG.mk (aF.mk 1 0 [112] [] [] []) [] []).On)).aF.Kids).map aH) false)),(.d (.sl (((aG.mk (aF.mk ((aG.mk (aF.mk 1 0 [112] [] [] []) [] []).aF.Kind) ((aG.mk (aF.mk 1 0 [112] [] [] []) [] []).aF.N) ((aG.mk (aF.mk 1 0 [112] [] [] []) [] []).aF.Tag) ((aG.mk (aF.mk 1 0 [112] [] [] []) [] []).aF.Text) ((aG.mk (aF.mk 1 0 [112] [] [] []) [] []).aF.bB) x36) ((aG.mk (aF.mk 1 0 [112] [] [] []) [] []).Init) ((aG.mk (aF.mk 1 0 [112] [] [] []) [] []).On)).Init).map (D.int .i64)) false)),(.d (.sl (((aG.mk (aF.mk ((aG.mk (aF.mk 1 0 [112] [] [] []) [] []).aF.Kind) ((aG.mk (aF.mk 1 0 [112] [] [] []) [] []).aF.N) ((aG.mk (aF.mk 1 0 [112] [] [] []) [] []).aF.Tag) ((aG.mk (aF.mk 1 0 [112] [] [] []) [] []).aF.Text) ((aG.mk (aF.mk 1 0 [112] [] [] []) [] []).aF.bB) x36) ((aG.mk (aF.mk 1 0 [112] [] [] []) [] []).Init) ((aG.mk (aF.mk 1 0 [112] [] [] []) [] []).On)).On).map eH) false))]]) H40 rfl D5 uF tY rG kT rfl (by decide) (.cons (iO (aG.bu _)) rfl .nil) rfl (.cons (by rw [aG.cells]; exact .refl _) .nil) (fun z=>aG.len z) (fun x=>aG.flat x) rfl rfl (fun v41 S42 H43=>?_)
  obtain ⟨SF1,HF1,hgF1⟩:=H43.freeze (fD E).toObjOk (i:=0) (l':=[.box b29 [(.d (.int .i64 (aG.mk (aF.mk 1 0 [112] [] [] []) [] []).aF.Kind)),(.d (.int .i64 (aG.mk (aF.mk 1 0 [112] [] [] []) [] []).aF.N)),(.d (.str (aG.mk (aF.mk 1 0 [112] [] [] []) [] []).aF.Tag)),(.d (.str (aG.mk (aF.mk 1 0 [112] [] [] []) [] []).aF.Text)),(.d (.sl (((aG.mk (aF.mk 1 0 [112] [] [] []) [] []).aF.bB).map aU) false)),(.d (.sl ((x36).map aH) false)),(.d (.sl (((aG.mk (aF.mk 1 0 [112] [] [] []) [] []).Init).map (D.int .i64)) false)),(.d (.sl (((aG.mk (aF.mk 1 0 [112] [] [] []) [] []).On).map eH) false))],.box b22 [v20,v21,(.d (.int .i64 z14.Cache))],.row 8 v20 (((jJ z14.Records z13 (au.mk z38.Name z38.Parent z38.eT ((z14.Comps).length:Int) z38.iK z38.aJ))).map aB),.row 8 v21 ((z14.Comps).map aM),.box b8 [(.d (.sl ((z7.Records).map aB) false)),(.d (.sl ((z7.Comps).map aM) false)),(.d (.int .i64 z7.Cache))]]) rfl (.same (.same (.same (.same (.same .nil)))))
  refine ae.ghost (hgF1 _ _ [(7,(.ptr b8 0 0)),(8,(.d (.int .i64 z13))),(9,(.ptr b22 0 0)),(10,(.ptr b29 0 0)),(45,(.ptr b22 0 0)),(46,v20),(47,(.d (.int .i64 z13))),(48,(.ptr b22 0 1)),(49,v21),(50,(.d (.int .i64 ((z14.Comps).length:Int)))),(51,(jT v20 (Int.toNat z13) 0)),(52,(jT v20 (Int.toNat z13) 3)),(53,(.ptr b22 0 1)),(54,v21),(55,(.d (aM (aG.mk (aF.mk ((aG.mk (aF.mk 1 0 [112] [] [] []) [] []).aF.Kind) ((aG.mk (aF.mk 1 0 [112] [] [] []) [] []).aF.N) ((aG.mk (aF.mk 1 0 [112] [] [] []) [] []).aF.Tag) ((aG.mk (aF.mk 1 0 [112] [] [] []) [] []).aF.Text) ((aG.mk (aF.mk 1 0 [112] [] [] []) [] []).aF.bB) x36) ((aG.mk (aF.mk 1 0 [112] [] [] []) [] []).Init) ((aG.mk (aF.mk 1 0 [112] [] [] []) [] []).On))))),(56,(.d (.sl (([(aG.mk (aF.mk ((aG.mk (aF.mk 1 0 [112] [] [] []) [] []).aF.Kind) ((aG.mk (aF.mk 1 0 [112] [] [] []) [] []).aF.N) ((aG.mk (aF.mk 1 0 [112] [] [] []) [] []).aF.Tag) ((aG.mk (aF.mk 1 0 [112] [] [] []) [] []).aF.Text) ((aG.mk (aF.mk 1 0 [112] [] [] []) [] []).aF.bB) x36) ((aG.mk (aF.mk 1 0 [112] [] [] []) [] []).Init) ((aG.mk (aF.mk 1 0 [112] [] [] []) [] []).On))]).map aM) false)))] (.cons rfl (.refl _) (.cons rfl (.refl _) (.cons rfl (.refl _) (.cons rfl (.refl _) (.cons rfl (.refl _) (.cons rfl (.refl _) (.cons rfl (.refl _) (.cons rfl (.refl _) (.cons rfl (.refl _) (.cons rfl (.refl _) (.cons rfl (.refl _) (.cons rfl (.refl _) (.cons rfl (.refl _) (.cons rfl (.refl _) (.cons rfl (.refl _) (.it rfl .nil))))))))))))))))) ?_
  obtain ⟨z44,hzz44,h⟩:=bind_some h
  refine ae.nU (xs:=(z14.Comps).map aM) (ys:=([(aG.mk (aF.mk ((aG.mk (aF.mk 1 0 [112] [] [] []) [] []).aF.Kind) ((aG.mk (aF.mk 1 0 [112] [] [] []) [] []).aF.N) ((aG.mk (aF.mk 1 0 [112] [] [] []) [] []).aF.Tag) ((aG.mk (aF.mk 1 0 [112] [] [] []) [] []).aF.Text) ((aG.mk (aF.mk 1 0 [112] [] [] []) [] []).aF.bB) x36) ((aG.mk (aF.mk 1 0 [112] [] [] []) [] []).Init) ((aG.mk (aF.mk 1 0 [112] [] [] []) [] []).On))]).map aM) (zs:=(z44).map aM) HF1 rfl rfl rfl (i:=3) rfl kT rfl D5 Jb uF (eD hzz44) Ig rfl (bK (enc:=aM) (fun z=>(aG.len z).trans kT.symm) _) (qd (fun x=>aG.flat x) _) rfl I6 rfl (iJ hzz44) (fun v45 S46 H47=>?_)
  refine ae.val rfl (ai rfl jv qz rfl) rfl ?_
  refine ae.store H47 (i:=1) rfl rfl rfl rfl (ko (H47.at (i:=3) rfl)).2 rfl IB (ko (H47.at (i:=3) rfl)).1 IP rfl rfl rfl (fun S48 H49=>?_)
  refine ae.nil ?_
  refine ax.join (B:=aI) (α:=Bool) (fun a=>dY a=some r) (fun a=>[(6,(.d (.bool a)))]) (fun a=>[]) ?_ ?_
  ·
   intro x52 S50 H51 h
   replace h:dY x52=some r:=h
   replace H51:Has aI S50 []:=H51
   unfold dY at h
   have hr:=Option.some.inj h
   subst hr
   exact ax.ret ⟨_,rfl,rfl,fE (aD.eq .nil)⟩
  obtain ⟨z54,hzz54,h⟩:=bind_some h
  obtain ⟨z55,hzz55,h⟩:=bind_some h
  rcases (Bool.eq_false_or_eq_true ((z54 == (!z55)))).symm with hb56 | hb56
  ·
   replace h:=dJ hb56 h
   refine ax.qL (fD E) rO KX [(6,some 10)] (by kernel_rfl) [] (by decide) [some (Ev.gP [v20,v45,(.d (.int .i64 z14.Cache))]),some (.d (.bool z54)),some (.d (iN z7)),some (.d (.int .i64 z13)),some (.d (.bool z55)),some (.d (.bool (!z55))),some (.d (.bool (z54 == (!z55)))),some (.d (.bool false)),some (.tup []),some (.d (.bool false)),some (.d (.bool false))] ?_
   refine ⟨[0,1,2,3,4,5,6,7,8,9,10],by kernel_rfl,?_,_,rfl,?_⟩
   ·
    refine .v rfl rfl rfl rfl (av H49 (i:=1) rfl rfl (bf sF nC rfl)) ?_
    refine .cons rfl rfl rfl (.step ?_) ?_
    ·
     refine ae.Fx (fD E).toObjOk rfl (aA rfl rfl) (ma E n _ _ hzz54) rfl (.cons ((dO.eq (dO.mk (jJ z14.Records z13 (au.mk z38.Name z38.Parent z38.eT ((z14.Comps).length:Int) z38.iK z38.aJ)) z44 z14.Cache)) ▸ nu.agg (ds:=[(.sl (((jJ z14.Records z13 (au.mk z38.Name z38.Parent z38.eT ((z14.Comps).length:Int) z38.iK z38.aJ))).map aB) false),(.sl ((z44).map aM) false),(.int .i64 z14.Cache)]) (.cons (nu.row H49 (i:=2) rfl) (.cons (nu.row H49 (i:=3) rfl) (.cons (.less (.refl _)) .nil))) rfl) .nil) rfl ?_
     exact ae.nil ⟨_,_,rfl,fun _ ht=>by cases ht; exact ⟨rfl,.refl _⟩⟩
    refine .cons rfl rfl rfl (.step ?_) ?_
    ·
     refine ae.val rfl (av H49 (i:=4) rfl rfl (bf sF nC rfl)) rfl ?_
     refine ae.less (Less.agg' (d:=iN z7) (ak.eq rfl (ak.eq rfl (ak.eq rfl .nil))) ((dO.eq _).trans rfl)) ?_
     exact ae.nil ⟨_,_,rfl,fun _ ht=>by cases ht; exact ⟨rfl,.refl _⟩⟩
    refine .v rfl rfl rfl rfl (ah rfl) ?_
    refine .cons rfl rfl rfl (.step ?_) ?_
    ·
     refine ae.ret rfl (aA rfl rfl) (j6 E _ _ _ _ hzz55 _ _ (aD.eq (aD.eq .nil))) rfl ?_
     exact ae.nil ⟨_,_,rfl,fun _ ht=>by cases ht; exact ⟨rfl,.refl _⟩⟩
    refine .v rfl rfl rfl rfl (fP rfl) ?_
    refine .v rfl rfl rfl rfl (ay rfl rfl (zZ M6)) ?_
    refine .cons rfl rfl rfl (.val rfl (ah rfl) (.eq (by rw [hb56]))) ?_
    refine .cons rfl rfl rfl (.no rfl (.refl _)) ?_
    refine .v rfl rfl rfl rfl (az (b:=false) rfl rfl) ?_
    refine .v rfl rfl rfl rfl (aj rfl) ?_
    exact .nil
   exact ⟨false,_,_,S48,.refl _ _,.refl _,(aa.r rfl aa.nil),H49.sl [] rfl rfl,h⟩
  replace h:=dK hb56 h
  obtain ⟨z57,hzz57,h⟩:=bind_some h
  refine ax.qL (fD E) rO KX [(6,some 10)] (by kernel_rfl) [] (by decide) [some (Ev.gP [v20,v45,(.d (.int .i64 z14.Cache))]),some (.d (.bool z54)),some (.d (iN z7)),some (.d (.int .i64 z13)),some (.d (.bool z55)),some (.d (.bool (!z55))),some (.d (.bool (z54 == (!z55)))),some (.d (.bool true)),some (.d (.bool z57)),some (.d (.bool z57)),some (.d (.bool z57))] ?_
  refine ⟨[0,1,2,3,4,5,6,7,8,9,10],by kernel_rfl,?_,_,rfl,?_⟩
  ·
   refine .v rfl rfl rfl rfl (av H49 (i:=1) rfl rfl (bf sF nC rfl)) ?_
   refine .cons rfl rfl rfl (.step ?_) ?_
   ·
    refine ae.Fx (fD E).toObjOk rfl (aA rfl rfl) (ma E n _ _ hzz54) rfl (.cons ((dO.eq (dO.mk (jJ z14.Records z13 (au.mk z38.Name z38.Parent z38.eT ((z14.Comps).length:Int) z38.iK z38.aJ)) z44 z14.Cache)) ▸ nu.agg (ds:=[(.sl (((jJ z14.Records z13 (au.mk z38.Name z38.Parent z38.eT ((z14.Comps).length:Int) z38.iK z38.aJ))).map aB) false),(.sl ((z44).map aM) false),(.int .i64 z14.Cache)]) (.cons (nu.row H49 (i:=2) rfl) (.cons (nu.row H49 (i:=3) rfl) (.cons (.less (.refl _)) .nil))) rfl) .nil) rfl ?_
    exact ae.nil ⟨_,_,rfl,fun _ ht=>by cases ht; exact ⟨rfl,.refl _⟩⟩
   refine .cons rfl rfl rfl (.step ?_) ?_
   ·
    refine ae.val rfl (av H49 (i:=4) rfl rfl (bf sF nC rfl)) rfl ?_
    refine ae.less (Less.agg' (d:=iN z7) (ak.eq rfl (ak.eq rfl (ak.eq rfl .nil))) ((dO.eq _).trans rfl)) ?_
    exact ae.nil ⟨_,_,rfl,fun _ ht=>by cases ht; exact ⟨rfl,.refl _⟩⟩
   refine .v rfl rfl rfl rfl (ah rfl) ?_
   refine .cons rfl rfl rfl (.step ?_) ?_
   ·
    refine ae.ret rfl (aA rfl rfl) (j6 E _ _ _ _ hzz55 _ _ (aD.eq (aD.eq .nil))) rfl ?_
    exact ae.nil ⟨_,_,rfl,fun _ ht=>by cases ht; exact ⟨rfl,.refl _⟩⟩
   refine .v rfl rfl rfl rfl (fP rfl) ?_
   refine .v rfl rfl rfl rfl (ay rfl rfl (zZ M6)) ?_
   refine .cons rfl rfl rfl (.val rfl (ah rfl) (.eq (by rw [hb56]))) ?_
   refine .cons rfl rfl rfl (.step ?_) ?_
   ·
    refine ae.ret rfl (aA rfl rfl) (oP E _  _ hzz57 _ _ .nil) rfl ?_
    exact ae.nil ⟨_,_,rfl,fun _ ht=>by cases ht; exact ⟨rfl,.refl _⟩⟩
   refine .v rfl rfl rfl rfl (az (b:=true) rfl rfl) ?_
   refine .v rfl rfl rfl rfl (aj rfl) ?_
   exact .nil
  exact ⟨z57,_,_,S48,.refl _ _,.refl _,(aa.r rfl aa.nil),H49.sl [] rfl rfl,h⟩
 refine ax.seq ?_
 refine ax.region (fD E) rfl ?_
 refine ae.val rfl (ah rfl) rfl ?_
 refine ae.nil ?_
 refine ax.cond rfl (fun hb58=>?_) (fun hb58=>?_)
 ·
  replace h:=dK hb58 h
  refine ax.region (fD E) rfl ?_
  refine ae.val rfl (bA (cs:=[(.d (.int .i64 7)),(.d (.int .i64 0)),(.d (.str [])),(.d (.str [])),(.d .aQ),(.d .aQ)]) jV rfl (gm) (bT rfl rfl rfl rfl rfl)) rfl ?_
  refine ae.less (Less.agg' (d:=aH (aF.mk 7 0 [] [] [] [])) (ak.eq rfl (ak.eq rfl (ak.eq rfl (ak.eq rfl (ak.fe rfl (.aQ false) rfl rfl (ak.fe rfl (.aQ false) rfl rfl .nil)))))) ((aF.eq _).trans rfl)) ?_
  refine ae.val rfl (bA (cs:=[(.d (.int .i64 7)),(.d (.int .i64 0)),(.d (.str [])),(.d (.str [])),(.d .aQ),(.d .aQ)]) jV rfl (gm) (bT rfl rfl rfl rfl rfl)) rfl ?_
  refine ae.less (Less.agg' (d:=aH (aF.mk 7 0 [] [] [] [])) (ak.eq rfl (ak.eq rfl (ak.eq rfl (ak.eq rfl (ak.fe rfl (.aQ false) rfl rfl (ak.fe rfl (.aQ false) rfl rfl .nil)))))) ((aF.eq _).trans rfl)) ?_
  refine ae.val rfl (aO (vs:=[(.d (aH (aF.mk 7 0 [] [] [] []))),(.d (aH (aF.mk 7 0 [] [] [] [])))]) (ds:=[(aH (aF.mk 7 0 [] [] [] [])),(aH (aF.mk 7 0 [] [] [] []))]) DL nz jf jV eO rfl (by decide) (.cons rfl (aF.len _) (.cons rfl (aF.len _) .nil)) rfl (by intro d hd; simp only [List.mem_cons,List.not_mem_nil,or_false] at hd; rcases hd with rfl | rfl <;> exact aF.agg _) rfl) rfl ?_
  refine ae.val rfl (ai rfl yg F3 rfl) rfl ?_
  refine ae.val rfl (ai rfl jN qO rfl) rfl ?_
  refine ae.store H33 (i:=0) rfl rfl rfl rfl rfl rfl DC rfl Dc rfl rfl rfl (fun S59 H60=>?_)
  refine ae.nil ?_
  obtain ⟨S61,hw62,H63⟩:=H60.AQ (i:=0) (cs':=[(.d (.int .i64 (aG.mk (aF.mk 1 0 [112] [] [] []) [] []).aF.Kind)),(.d (.int .i64 (aG.mk (aF.mk 1 0 [112] [] [] []) [] []).aF.N)),(.d (.str (aG.mk (aF.mk 1 0 [112] [] [] []) [] []).aF.Tag)),(.d (.str (aG.mk (aF.mk 1 0 [112] [] [] []) [] []).aF.Text)),(.d (.sl (((aG.mk (aF.mk 1 0 [112] [] [] []) [] []).aF.bB).map aU) false)),(.d (.sl (([(aF.mk 7 0 [] [] [] []),(aF.mk 7 0 [] [] [] [])]).map aH) false)),(.d (.sl (((aG.mk (aF.mk 1 0 [112] [] [] []) [] []).Init).map (D.int .i64)) false)),(.d (.sl (((aG.mk (aF.mk 1 0 [112] [] [] []) [] []).On).map eH) false))]) rfl (.cons (.refl _) (.cons (.refl _) (.cons (.refl _) (.cons (.refl _) (.cons (.refl _) (.cons Fq (.cons (.refl _) (.cons (.refl _) .nil))))))))
  exact ⟨[(aF.mk 7 0 [] [] [] []),(aF.mk 7 0 [] [] [] [])],_,_,S61,.refl _ _,hw62,(aa.r rfl (aa.r rfl (aa.r rfl (aa.r rfl aa.nil)))),H63.sl [0,1,2,3,4] rfl rfl,h⟩
 replace h:=dJ hb58 h
 refine ax.skip ?_
 exact ⟨(aG.mk (aF.mk 1 0 [112] [] [] []) [] []).aF.Kids,_,_,S32,.refl _ _,.refl _,(aa.r rfl (aa.r rfl (aa.r rfl (aa.r rfl aa.nil)))),H33.sl [0,1,2,3,4] rfl rfl,h⟩
end
end Pr
end Go.Ev

namespace Go.Ev
namespace Pr
set_option linter.unusedVariables false
set_option linter.unusedSimpArgs false
theorem lD {n:Int} (h0:-9223372036854775808 ≤ n) (h1:n ≤ 9223372036854775807):IntKind.wrap .i64 n=n:=Go.IntWalk.i64_in n ⟨h0,h1⟩
theorem gY {α:Type} (l:List α) (i:Nat):idx l (i:Int)=l[i]?:=by
 unfold idx
 rw [if_pos (by omega)]
 simp
theorem jw {α:Type} {l done rest:List α} {z:α} (h:l=done ++ z :: rest):idx l (done.length:Int)=some z:=by
 rw [gY,h]; simp
theorem kS {α:Type} (l:List α) {i:Int} (h0:0 ≤ i) (h1:i < l.length):∃ x,idx l i=some x∧x ∈ l∧l[i.toNat]? = some x:=by
 obtain ⟨j,rfl⟩:=Int.eq_ofNat_of_zero_le h0
 have hj:j < l.length:=by omega
 exact ⟨l[j],by rw [gY]; exact List.getElem?_eq_getElem hj,List.getElem_mem hj,by simp [hj]⟩
theorem iH {α:Type} {nb:Nat} {l ys:List α} (h:(l.length + ys.length) * nb ≤ bound):app nb l ys=some (l ++ ys):=by
 unfold app; rw [if_pos h]
theorem uK {k:IntKind} {a b:Int} (h:b ≠ 0):Eb k a b=some (a.tmod b):=by
 unfold Eb; rw [if_neg h]
theorem bnd:bound=70368744177664:=rfl
end Pr
end Go.Ev

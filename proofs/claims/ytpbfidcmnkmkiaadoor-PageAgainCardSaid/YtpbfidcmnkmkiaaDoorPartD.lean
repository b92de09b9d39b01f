import Derived.Test.YtpbfidcmnkmkiaaDoorPartC
import Derived.IntWalk
import Derived.Shelf.Strconv.Itoa3
import Derived.Lib.AppendIntMem
namespace Go.Ev
namespace Pr
set_option linter.unusedVariables false
set_option linter.unusedSimpArgs false
open Go.Proofs
section
variable {R:bA} (E:Eg R)
include E
set_option maxRecDepth 20000 in
set_option maxHeartbeats 4000000 in
theorem kW (n:Nat) (a1:dI) (r:aQ) (h:dV n a1=some r):dB R cfg.P 12 [(iD a1)] (.d (aD r)):=by
 unfold dV at h
 refine dB.of_wp E.obj.toObjOk (C:=cfg) Tryd.func12 rfl FQ rfl ?_
 have H0:Has aL aL []:=Has.pure
 refine ay.seq ?_
 refine ay.region E.obj rfl ?_
 refine ae.box H0 rfl rfl rfl (dI.bJ _) rfl (fun b2 S3 H4=>?_)
 refine ae.alloc H4 rfl uJ iF rfl rfl (fun b5 S6 H7=>?_)
 refine ae.nil ?_
 refine ay.seq ?_
 refine ay.region E.obj rfl ?_
 refine ae.val rfl (aM (vs:=[(.d (.str [100,105,118])),(.d (.str [112])),(.d (.str [108,105])),(.d (.str [98]))]) (ds:=[(.str [100,105,118]),(.str [112]),(.str [108,105]),(.str [98])]) DD yN lM FD Bp rfl (by decide) (.cons rfl rfl (.cons rfl rfl (.cons rfl rfl (.cons rfl rfl .nil)))) rfl (by intro d hd; simp only [List.mem_cons,List.not_mem_nil,or_false] at hd; rcases hd with rfl | rfl | rfl | rfl <;> rfl) rfl) rfl ?_
 refine ae.val rfl (aj rfl) rfl ?_
 refine ae.nil ?_
 refine ay.seq ?_
 refine ay.region E.obj rfl ?_
 refine ae.val rfl (aM (vs:=[(.d (.str [105,100])),(.d (.str [112,97])),(.d (.str [112,98])),(.d (.str [108,97,115,116]))]) (ds:=[(.str [105,100]),(.str [112,97]),(.str [112,98]),(.str [108,97,115,116])]) DD yN lM FD Bp rfl (by decide) (.cons rfl rfl (.cons rfl rfl (.cons rfl rfl (.cons rfl rfl .nil)))) rfl (by intro d hd; simp only [List.mem_cons,List.not_mem_nil,or_false] at hd; rcases hd with rfl | rfl | rfl | rfl <;> rfl) rfl) rfl ?_
 refine ae.val rfl (aj rfl) rfl ?_
 refine ae.nil ?_
 refine ay.seq ?_
 refine ay.region E.obj rfl ?_
 obtain ⟨z8,hzz8,h⟩:=bind_some h
 refine ae.ret rfl (aB rfl rfl) (ni E _  _ hzz8 _ _ .nil) rfl ?_
 refine ae.val rfl (aj rfl) rfl ?_
 refine ae.nil ?_
 refine ay.seq ?_
 refine ay.region E.obj rfl ?_
 refine ae.val rfl (bH (cs:=[(.d (.int .i64 1)),(.d (.int .i64 0)),(.d (.str [109,97,105,110])),(.d (.str [])),(.d .aT),(.d .aT)]) iF rfl (cZ) (cO rfl rfl rfl rfl (cO rfl rfl rfl rfl rfl))) rfl ?_
 refine ae.less (Less.agg' (d:=bU (bu.mk 1 0 [109,97,105,110] [] [])) (ai.eq rfl (ai.eq rfl (ai.eq rfl (ai.eq rfl (ai.cK rfl (.aT false) rfl rfl (ai.eq rfl .nil)))))) ((bu.eq _).trans rfl)) ?_
 refine ae.val rfl (aM (vs:=[(.d (bU (bu.mk 1 0 [109,97,105,110] [] [])))]) (ds:=[(bU (bu.mk 1 0 [109,97,105,110] [] []))]) uk nO fU iF dP rfl (by decide) (.cons rfl (bu.len _) .nil) rfl (by intro d hd; simp only [List.mem_cons,List.not_mem_nil,or_false] at hd; rcases hd with rfl <;> exact bu.agg _) rfl) rfl ?_
 refine ae.val rfl (aj rfl) rfl ?_
 refine ae.nil ?_
 refine ay.seq ?_
 refine ay.region E.obj rfl ?_
 refine ae.val rfl (aM (vs:=[(.d (.int .i64 (-1)))]) (ds:=[(.int .i64 (-1))]) lq jw kC Cm oK rfl (by decide) (.cons rfl rfl .nil) rfl (by intro d hd; simp only [List.mem_cons,List.not_mem_nil,or_false] at hd; rcases hd with rfl <;> rfl) rfl) rfl ?_
 refine ae.val rfl (aj rfl) rfl ?_
 refine ae.nil ?_
 refine ay.seq ?_
 refine ay.seq ?_
 refine ay.region E.obj rfl ?_
 refine ae.val rfl (aj rfl) rfl ?_
 refine ae.nil ?_
 refine ay.block ?_
 have H97:=H7.sW (([(bu.mk 1 0 [109,97,105,110] [] [])]).map bU)
 have H98:=H97.sW (([(-1)]).map (D.int .i64))
 refine mH.start (B:=aL) (α:=(List bu) × AV × (List Int) × AV × Int) (fun k a=>aN n a1 z8 k a.1 a.2.2.1 a.2.2.2.2=some r) (fun a=>[(1,(.ptr b2 0 0)),(2,(.ptr b5 0 0)),(3,(.d (.sl ((([[100,105,118],[112],[108,105],[98]]:List Str)).map D.str) true))),(4,(.d (.sl ((([[105,100],[112,97],[112,98],[108,97,115,116]]:List Str)).map D.str) true))),(5,(.d (.sl ((z8).map D.str) false))),(6,a.2.1),(7,a.2.2.2.1),(8,(.d (.int .i64 a.2.2.2.2)))]) (fun a=>[.box b5 [(.d (.int .i64 0)),(.d (.int .i64 0)),(.d (.str [])),(.d (.str [])),(.d .aT),(.d .aT)],.box b2 [(.d (.sl ((a1.Under).map (D.int .i64)) false)),(.d (.sl ((a1.Kinds).map (D.int .i64)) false)),(.d (.sl ((a1.Ns).map (D.int .i64)) false)),(.d (.sl ((a1.Texts).map (D.int .i64)) false))],.grow a.2.1 ((a.1).map bU),.grow a.2.2.2.1 ((a.2.2.1).map (D.int .i64))]) ?_ ?_ n ⟨⟨[(bu.mk 1 0 [109,97,105,110] [] [])],(.d (.sl (([(bu.mk 1 0 [109,97,105,110] [] [])]).map bU) true)),[(-1)],(.d (.sl (([(-1)]).map (D.int .i64)) true)),0⟩,_,_,S6,.refl _ _,.refl _,(aa.r rfl (aa.r rfl (aa.r rfl (aa.r rfl (aa.r rfl (aa.r rfl (aa.r rfl (aa.r rfl aa.nil)))))))),H98.sl [2,3,1,0] rfl rfl,h⟩
 ·
  intro a h; simp [aN] at h
 intro k25 a S18 H19 h
 obtain ⟨x20,v21,x22,v23,x24⟩:=a
 replace h:aN n a1 z8 (k25 + 1) x20 x22 x24=some r:=h
 replace H19:Has aL S18 [.box b5 [(.d (.int .i64 0)),(.d (.int .i64 0)),(.d (.str [])),(.d (.str [])),(.d .aT),(.d .aT)],.box b2 [(.d (.sl ((a1.Under).map (D.int .i64)) false)),(.d (.sl ((a1.Kinds).map (D.int .i64)) false)),(.d (.sl ((a1.Ns).map (D.int .i64)) false)),(.d (.sl ((a1.Texts).map (D.int .i64)) false))],.grow v21 ((x20).map bU),.grow v23 ((x22).map (D.int .i64))]:=H19
 unfold aN at h
 refine ay.seq ?_
 refine ay.seq ?_
 refine ay.region E.obj rfl ?_
 refine ae.val rfl (ah rfl) rfl ?_
 refine ae.val rfl (ak rfl Bf wK rfl) rfl ?_
 refine ae.val rfl (au H19 (i:=1) rfl rfl (aF vV rfl)) rfl ?_
 refine ae.val rfl (bq rfl Ci) rfl ?_
 refine ae.val rfl (av rfl rfl dF) rfl ?_
 refine ae.val rfl (ah rfl) rfl ?_
 refine ae.bG 3 27 (.d (.bool ((decide (x24 < ((a1.Under).length:Int))) && (decide (x24 < 11))))) ?_ ?_
 ·
  rcases Bool.eq_false_or_eq_true ((decide (x24 < ((a1.Under).length:Int)))) with hB26 | hB26
  ·
   refine ae.bool hB26 ?_
   refine ae.val rfl (ah rfl) rfl ?_
   refine ae.val rfl (av rfl rfl dF) rfl ?_
   refine ae.val rfl (az (b:=true) rfl rfl) rfl ?_
   exact ae.nil ⟨_,rfl,(aa.put (aa.push rfl (aa.push rfl (aa.put (.refl _) (Less.eq (by rw [hB26]))))) (Less.eq (by rw [hB26]; rw [Bool.true_and])))⟩
  refine ae.bool hB26 ?_
  refine ae.no rfl rfl ?_
  refine ae.no rfl rfl ?_
  refine ae.val rfl (az (b:=false) rfl rfl) rfl ?_
  exact ae.nil ⟨_,rfl,(aa.put (aa.push rfl (aa.push rfl (aa.put (.refl _) (Less.eq (by rw [hB26]))))) (Less.eq (by rw [hB26]; rw [Bool.false_and])))⟩
 refine ae.nil ?_
 refine ay.cond rfl (fun hb27=>?_) (fun hb27=>?_)
 ·
  replace h:=di hb27 h
  refine ay.skip ?_
  refine ay.seq ?_
  refine ay.block ?_
  refine ay.seq ?_
  refine ay.region E.obj rfl ?_
  refine ae.val rfl (ak rfl Bf wK rfl) rfl ?_
  refine ae.val rfl (au H19 (i:=1) rfl rfl (aF vV rfl)) rfl ?_
  refine ae.val rfl (ah rfl) rfl ?_
  obtain ⟨z28,hzz28,h⟩:=bind_some h
  refine ae.val rfl (bR rfl rfl (df (enc:=(D.int .i64)) hzz28 jw D5 (((fun _=>rfl) _).trans oK.symm))) rfl ?_
  refine ae.val rfl (aX rfl (eO kC rfl)) rfl ?_
  refine ae.val rfl (ah rfl) rfl ?_
  refine ae.val rfl (Ap H19 (i:=2) rfl rfl AO) rfl ?_
  refine ae.val rfl (av rfl rfl iO) rfl ?_
  obtain ⟨z29,hzz29,h⟩:=bind_some h
  refine ae.ret rfl (aB rfl rfl) (bD E _ _ _ _ _ hzz29 _ _ (aG.eq (aG.eq (aG.eq .nil)))) rfl ?_
  refine ae.val rfl (aj rfl) rfl ?_
  refine ae.nil ?_
  refine ay.join (B:=aL) (α:=Int) (fun a=>bC n a1 z8 x20 x22 x24 (aN n a1 z8 k25) a=some r) (fun a=>[(1,(.ptr b2 0 0)),(2,(.ptr b5 0 0)),(3,(.d (.sl ((([[100,105,118],[112],[108,105],[98]]:List Str)).map D.str) true))),(4,(.d (.sl ((([[105,100],[112,97],[112,98],[108,97,115,116]]:List Str)).map D.str) true))),(5,(.d (.sl ((z8).map D.str) false))),(6,v21),(7,v23),(8,(.d (.int .i64 x24))),(9,(.d (.int .i64 a)))]) (fun a=>[.box b5 [(.d (.int .i64 0)),(.d (.int .i64 0)),(.d (.str [])),(.d (.str [])),(.d .aT),(.d .aT)],.box b2 [(.d (.sl ((a1.Under).map (D.int .i64)) false)),(.d (.sl ((a1.Kinds).map (D.int .i64)) false)),(.d (.sl ((a1.Ns).map (D.int .i64)) false)),(.d (.sl ((a1.Texts).map (D.int .i64)) false))],.grow v21 ((x20).map bU),.grow v23 ((x22).map (D.int .i64))]) ?_ ?_
  ·
   intro x32 S30 H31 h
   replace h:bC n a1 z8 x20 x22 x24 (aN n a1 z8 k25) x32=some r:=h
   replace H31:Has aL S30 [.box b5 [(.d (.int .i64 0)),(.d (.int .i64 0)),(.d (.str [])),(.d (.str [])),(.d .aT),(.d .aT)],.box b2 [(.d (.sl ((a1.Under).map (D.int .i64)) false)),(.d (.sl ((a1.Kinds).map (D.int .i64)) false)),(.d (.sl ((a1.Ns).map (D.int .i64)) false)),(.d (.sl ((a1.Texts).map (D.int .i64)) false))],.grow v21 ((x20).map bU),.grow v23 ((x22).map (D.int .i64))]:=H31
   unfold bC at h
   refine ay.seq ?_
   obtain ⟨z34,hzz34,h⟩:=bind_some h
   obtain ⟨z35,hzz35,h⟩:=bind_some h
   obtain ⟨z36,hzz36,h⟩:=bind_some h
   obtain ⟨z37,hzz37,h⟩:=bind_some h
   refine ay.nW E.obj tJ Gv [(1,none),(2,none),(3,none),(4,none),(5,none),(6,none),(7,none),(8,none),(9,none),(11,some 11)] (by kernel_rfl) [11,12] (by decide) [some (.ptr b2 0 1),some (.d (.sl ((a1.Kinds).map (D.int .i64)) false)),some (.d (.int .i64 x24)),some (.d (.int .i64 z34)),some (.d (.int .i64 z35)),some (.ptr b2 0 2),some (.d (.sl ((a1.Ns).map (D.int .i64)) false)),some (.d (.int .i64 x24)),some (.d (.int .i64 z36)),some (.d (.int .i64 z37)),some (.d (bU (bu.mk z35 z37 [] [] []))),none,none] ?_
   refine ⟨[0,1,2,3,4,5,6,7,8,9,10],by kernel_rfl,?_,_,_,rfl,rfl,.step ?_⟩
   ·
    refine .v rfl rfl rfl rfl (ak rfl BZ wK rfl) ?_
    refine .v rfl rfl rfl rfl (au H31 (i:=1) rfl rfl (aF vV rfl)) ?_
    refine .v rfl rfl rfl rfl (ah rfl) ?_
    refine .cons rfl rfl rfl (.step ?_) ?_
    ·
     refine ae.ret rfl (aB rfl rfl) (eU E _ _ _ _ hzz34 _ _ (aG.eq (aG.eq .nil))) rfl ?_
     exact ae.nil ⟨_,_,rfl,fun _ ht=>by cases ht; exact ⟨rfl,.refl _⟩⟩
    refine .cons rfl rfl rfl (.step ?_) ?_
    ·
     refine ae.ret rfl (aB rfl rfl) (bD E _ _ _ _ _ hzz35 _ _ (aG.eq (aG.eq (aG.eq .nil)))) rfl ?_
     exact ae.nil ⟨_,_,rfl,fun _ ht=>by cases ht; exact ⟨rfl,.refl _⟩⟩
    refine .v rfl rfl rfl rfl (ak rfl BB wK rfl) ?_
    refine .v rfl rfl rfl rfl (au H31 (i:=1) rfl rfl (aF vV rfl)) ?_
    refine .v rfl rfl rfl rfl (ah rfl) ?_
    refine .cons rfl rfl rfl (.step ?_) ?_
    ·
     refine ae.ret rfl (aB rfl rfl) (eU E _ _ _ _ hzz36 _ _ (aG.eq (aG.eq .nil))) rfl ?_
     exact ae.nil ⟨_,_,rfl,fun _ ht=>by cases ht; exact ⟨rfl,.refl _⟩⟩
    refine .cons rfl rfl rfl (.step ?_) ?_
    ·
     refine ae.ret rfl (aB rfl rfl) (bD E _ _ _ _ _ hzz37 _ _ (aG.eq (aG.eq (aG.eq .nil)))) rfl ?_
     exact ae.nil ⟨_,_,rfl,fun _ ht=>by cases ht; exact ⟨rfl,.refl _⟩⟩
    refine .cons rfl rfl rfl (.step ?_) ?_
    ·
     refine ae.val rfl (bH (cs:=[(.d (.int .i64 z35)),(.d (.int .i64 z37)),(.d (.str [])),(.d (.str [])),(.d .aT),(.d .aT)]) iF rfl (cZ) (cO rfl rfl rfl rfl (cO rfl rfl rfl rfl rfl))) rfl ?_
     refine ae.less (Less.agg' (d:=bU (bu.mk z35 z37 [] [] [])) (ai.eq rfl (ai.eq rfl (ai.eq rfl (ai.eq rfl (ai.cK rfl (.aT false) rfl rfl (ai.eq rfl .nil)))))) ((bu.eq _).trans rfl)) ?_
     exact ae.nil ⟨_,_,rfl,fun _ ht=>by cases ht; exact ⟨rfl,.refl _⟩⟩
    exact .nil
   refine ae.alloc H31 rfl uJ iF rfl rfl (fun b43 S44 H45=>?_)
   refine ae.nil ⟨_,_,_,rfl,(fun _ ht=>by cases ht; rfl),_,(.q (.q (.o (.o (.o (.w (.ptr b43 0 0) (.n .nil))))))),(fun _ ht=>by cases ht; exact ⟨_,rfl,.refl _⟩),?_⟩
   refine ⟨[0,1,2,3,4,5,6,7,8,9,10],by kernel_rfl,?_,_,_,rfl,rfl,.step ?_⟩
   ·
    refine .v rfl rfl rfl rfl (ak rfl BZ wK rfl) ?_
    refine .v rfl rfl rfl rfl (au H45 (i:=2) rfl rfl (aF vV rfl)) ?_
    refine .v rfl rfl rfl rfl (ah rfl) ?_
    refine .cons rfl rfl rfl (.step ?_) ?_
    ·
     refine ae.ret rfl (aB rfl rfl) (eU E _ _ _ _ hzz34 _ _ (aG.eq (aG.eq .nil))) rfl ?_
     exact ae.nil ⟨_,_,rfl,fun _ ht=>by cases ht; exact ⟨rfl,.refl _⟩⟩
    refine .cons rfl rfl rfl (.step ?_) ?_
    ·
     refine ae.ret rfl (aB rfl rfl) (bD E _ _ _ _ _ hzz35 _ _ (aG.eq (aG.eq (aG.eq .nil)))) rfl ?_
     exact ae.nil ⟨_,_,rfl,fun _ ht=>by cases ht; exact ⟨rfl,.refl _⟩⟩
    refine .v rfl rfl rfl rfl (ak rfl BB wK rfl) ?_
    refine .v rfl rfl rfl rfl (au H45 (i:=2) rfl rfl (aF vV rfl)) ?_
    refine .v rfl rfl rfl rfl (ah rfl) ?_
    refine .cons rfl rfl rfl (.step ?_) ?_
    ·
     refine ae.ret rfl (aB rfl rfl) (eU E _ _ _ _ hzz36 _ _ (aG.eq (aG.eq .nil))) rfl ?_
     exact ae.nil ⟨_,_,rfl,fun _ ht=>by cases ht; exact ⟨rfl,.refl _⟩⟩
    refine .cons rfl rfl rfl (.step ?_) ?_
    ·
     refine ae.ret rfl (aB rfl rfl) (bD E _ _ _ _ _ hzz37 _ _ (aG.eq (aG.eq (aG.eq .nil)))) rfl ?_
     exact ae.nil ⟨_,_,rfl,fun _ ht=>by cases ht; exact ⟨rfl,.refl _⟩⟩
    refine .cons rfl rfl rfl (.step ?_) ?_
    ·
     refine ae.val rfl (bH (cs:=[(.d (.int .i64 z35)),(.d (.int .i64 z37)),(.d (.str [])),(.d (.str [])),(.d .aT),(.d .aT)]) iF rfl (cZ) (cO rfl rfl rfl rfl (cO rfl rfl rfl rfl rfl))) rfl ?_
     refine ae.less (Less.agg' (d:=bU (bu.mk z35 z37 [] [] [])) (ai.eq rfl (ai.eq rfl (ai.eq rfl (ai.eq rfl (ai.cK rfl (.aT false) rfl rfl (ai.eq rfl .nil)))))) ((bu.eq _).trans rfl)) ?_
     exact ae.nil ⟨_,_,rfl,fun _ ht=>by cases ht; exact ⟨rfl,.refl _⟩⟩
    exact .nil
   refine ae.store H45 (i:=0) rfl rfl rfl rfl (bu.bJ _) rfl dP rfl oI rfl rfl rfl (fun S46 H47=>?_)
   refine ae.nil ⟨_,.any,_,rfl,(fun _ ht=>by cases ht),_,(.q (.q (.q (.w .any .nil)))),(fun _ ht=>by cases ht),?_⟩
   refine ⟨[],by kernel_rfl,?_,_,rfl,?_⟩
   ·
    exact .nil
   refine ay.seq ?_
   refine ay.region E.obj rfl ?_
   refine ae.val rfl (ak rfl Dt wK rfl) rfl ?_
   refine ae.val rfl (au H47 (i:=2) rfl rfl (aF vV rfl)) rfl ?_
   refine ae.val rfl (ah rfl) rfl ?_
   obtain ⟨z48,hzz48,h⟩:=bind_some h
   refine ae.ret rfl (aB rfl rfl) (eU E _ _ _ _ hzz48 _ _ (aG.eq (aG.eq .nil))) rfl ?_
   refine ae.val rfl (aj rfl) rfl ?_
   refine ae.nil ?_
   refine ay.join (B:=aL) (α:=Str × Str × (List Attr)) (fun a=>bf x20 x22 x24 (aN n a1 z8 k25) x32 z35 z37 a.1 a.2.1 a.2.2=some r) (fun a=>[(1,(.ptr b2 0 0)),(2,(.ptr b5 0 0)),(3,(.d (.sl ((([[100,105,118],[112],[108,105],[98]]:List Str)).map D.str) true))),(4,(.d (.sl ((([[105,100],[112,97],[112,98],[108,97,115,116]]:List Str)).map D.str) true))),(5,(.d (.sl ((z8).map D.str) false))),(6,v21),(7,v23),(8,(.d (.int .i64 x24))),(9,(.d (.int .i64 x32))),(11,(.ptr b43 0 0))]) (fun a=>[.box b43 [(.d (.int .i64 (bu.mk z35 z37 [] [] []).Kind)),(.d (.int .i64 (bu.mk z35 z37 [] [] []).N)),(.d (.str a.1)),(.d (.str a.2.1)),(.d (.sl ((a.2.2).map aA) false)),(.d .aT)],.box b5 [(.d (.int .i64 0)),(.d (.int .i64 0)),(.d (.str [])),(.d (.str [])),(.d .aT),(.d .aT)],.box b2 [(.d (.sl ((a1.Under).map (D.int .i64)) false)),(.d (.sl ((a1.Kinds).map (D.int .i64)) false)),(.d (.sl ((a1.Ns).map (D.int .i64)) false)),(.d (.sl ((a1.Texts).map (D.int .i64)) false))],.grow v21 ((x20).map bU),.grow v23 ((x22).map (D.int .i64))]) ?_ ?_
   ·
    intro a S49 H50 h
    obtain ⟨x51,x52,x53⟩:=a
    replace h:bf x20 x22 x24 (aN n a1 z8 k25) x32 z35 z37 x51 x52 x53=some r:=h
    replace H50:Has aL S49 [.box b43 [(.d (.int .i64 (bu.mk z35 z37 [] [] []).Kind)),(.d (.int .i64 (bu.mk z35 z37 [] [] []).N)),(.d (.str x51)),(.d (.str x52)),(.d (.sl ((x53).map aA) false)),(.d .aT)],.box b5 [(.d (.int .i64 0)),(.d (.int .i64 0)),(.d (.str [])),(.d (.str [])),(.d .aT),(.d .aT)],.box b2 [(.d (.sl ((a1.Under).map (D.int .i64)) false)),(.d (.sl ((a1.Kinds).map (D.int .i64)) false)),(.d (.sl ((a1.Ns).map (D.int .i64)) false)),(.d (.sl ((a1.Texts).map (D.int .i64)) false))],.grow v21 ((x20).map bU),.grow v23 ((x22).map (D.int .i64))]:=H50
    unfold bf at h
    refine ay.region E.obj rfl ?_
    refine ae.val rfl (ah rfl) rfl ?_
    refine ae.val rfl (au H50 (i:=0) rfl rfl (aV fU dP rfl)) rfl ?_
    refine ae.less (Less.agg' (d:=bU (bu.mk ((bu.mk z35 z37 [] [] []).Kind) ((bu.mk z35 z37 [] [] []).N) x51 x52 x53)) (ai.eq rfl (ai.eq rfl (ai.eq rfl (ai.eq rfl (ai.eq rfl (ai.eq rfl .nil)))))) ((bu.eq _).trans rfl)) ?_
    refine ae.val rfl (aM (vs:=[(.d (bU (bu.mk ((bu.mk z35 z37 [] [] []).Kind) ((bu.mk z35 z37 [] [] []).N) x51 x52 x53)))]) (ds:=[(bU (bu.mk ((bu.mk z35 z37 [] [] []).Kind) ((bu.mk z35 z37 [] [] []).N) x51 x52 x53))]) uk nO fU iF dP rfl (by decide) (.cons rfl (bu.len _) .nil) rfl (by intro d hd; simp only [List.mem_cons,List.not_mem_nil,or_false] at hd; rcases hd with rfl <;> exact bu.agg _) rfl) rfl ?_
    obtain ⟨z55,hzz55,h⟩:=bind_some h
    refine ae.append (xs:=(x20).map bU) (ys:=([(bu.mk ((bu.mk z35 z37 [] [] []).Kind) ((bu.mk z35 z37 [] [] []).N) x51 x52 x53)]).map bU) (zs:=(z55).map bU) H50 rfl rfl rfl (i:=3) rfl rfl uk EA nO (fe hzz55) Ei rfl (bP (enc:=bU) (fun z=>(bu.len z).trans dP.symm) _) (bP (enc:=bU) (fun z=>(bu.len z).trans dP.symm) _) Ea rfl (ji hzz55) (fun v56 S57 H58=>?_)
    refine ae.val rfl (ah rfl) rfl ?_
    refine ae.val rfl (ah rfl) rfl ?_
    refine ae.val rfl (aM (vs:=[(.d (.int .i64 x32))]) (ds:=[(.int .i64 x32)]) lq jw kC Cm oK rfl (by decide) (.cons rfl rfl .nil) rfl (by intro d hd; simp only [List.mem_cons,List.not_mem_nil,or_false] at hd; rcases hd with rfl <;> rfl) rfl) rfl ?_
    obtain ⟨z59,hzz59,h⟩:=bind_some h
    refine ae.append (xs:=(x22).map (D.int .i64)) (ys:=([x32]).map (D.int .i64)) (zs:=(z59).map (D.int .i64)) H58 rfl rfl rfl (i:=4) rfl rfl lq yH jw (fe hzz59) DZ rfl (bP (enc:=(D.int .i64)) (fun _=>oK.symm) _) (bP (enc:=(D.int .i64)) (fun _=>oK.symm) _) Dn rfl (ji hzz59) (fun v60 S61 H62=>?_)
    refine ae.val rfl (aj rfl) rfl ?_
    refine ae.val rfl (aj rfl) rfl ?_
    refine ae.nil ?_
    refine ay.region E.obj rfl ?_
    refine ae.val rfl (ah rfl) rfl ?_
    refine ae.val rfl (av rfl rfl cu) rfl ?_
    refine ae.val rfl (aj rfl) rfl ?_
    refine ae.nil ?_
    exact ⟨⟨z55,v56,z59,v60,(IntKind.wrap .i64 (x24 + 1))⟩,_,_,S61,.refl _ _,.refl _,(aa.r rfl (aa.r rfl (aa.r rfl (aa.r rfl (aa.r rfl (aa.r rfl (aa.r rfl (aa.r rfl aa.nil)))))))),H62.sl [1,2,3,4] rfl rfl,h⟩
   refine ay.seq ?_
   refine ay.region E.obj rfl ?_
   refine ae.val rfl (ak rfl gL qb rfl) rfl ?_
   refine ae.val rfl (au H47 (i:=0) rfl rfl (aF kC rfl)) rfl ?_
   refine ae.nil ?_
   refine ay.block ?_
   refine ay.seq ?_
   refine ay.region E.obj rfl ?_
   refine ae.val rfl (av rfl rfl bI) rfl ?_
   refine ae.val rfl (aj rfl) rfl ?_
   refine ae.nil ?_
   refine ay.cond rfl (fun hb63=>?_) (fun hb63=>?_)
   ·
    replace h:=di hb63 h
    refine ay.seq ?_
    refine ay.region E.obj rfl ?_
    refine ae.val rfl (ah rfl) rfl ?_
    refine ae.val rfl (ah rfl) rfl ?_
    refine ae.val rfl (ah rfl) rfl ?_
    refine ae.val rfl (bq rfl CP) rfl ?_
    refine ae.val rfl (av rfl rfl iO) rfl ?_
    obtain ⟨z64,hzz64,h⟩:=bind_some h
    refine ae.ret rfl (aB rfl rfl) (bD E _ _ _ _ _ hzz64 _ _ (aG.eq (aG.eq (aG.eq .nil)))) rfl ?_
    obtain ⟨z65,hzz65,h⟩:=bind_some h
    refine ae.val rfl (bR rfl rfl (df (enc:=D.str) hzz65 yN Df (((fun _=>rfl) _).trans Bp.symm))) rfl ?_
    refine ae.val rfl (aX rfl (eO lM rfl)) rfl ?_
    refine ae.val rfl (ak rfl oZ mD rfl) rfl ?_
    refine ae.store H47 (i:=0) rfl rfl rfl rfl rfl rfl Bp rfl Df rfl rfl rfl (fun S66 H67=>?_)
    refine ae.nil ?_
    refine ay.seq ?_
    refine ay.region E.obj rfl ?_
    refine ae.val rfl (ah rfl) rfl ?_
    refine ae.val rfl (av rfl rfl Ce) rfl ?_
    refine ae.val rfl (av rfl rfl bI) rfl ?_
    refine ae.nil ?_
    refine ay.cond rfl (fun hb68=>?_) (fun hb68=>?_)
    ·
     replace h:=di hb68 h
     refine ay.region E.obj rfl ?_
     refine ae.val rfl (ah rfl) rfl ?_
     refine ae.val rfl (ah rfl) rfl ?_
     obtain ⟨z69,hzz69,h⟩:=bind_some h
     refine ae.val rfl (av rfl rfl (Ah hzz69)) rfl ?_
     refine ae.val rfl (ah rfl) rfl ?_
     refine ae.val rfl (bq rfl CP) rfl ?_
     refine ae.val rfl (av rfl rfl iO) rfl ?_
     obtain ⟨z70,hzz70,h⟩:=bind_some h
     refine ae.ret rfl (aB rfl rfl) (bD E _ _ _ _ _ hzz70 _ _ (aG.eq (aG.eq (aG.eq .nil)))) rfl ?_
     obtain ⟨z71,hzz71,h⟩:=bind_some h
     refine ae.val rfl (bR rfl rfl (df (enc:=D.str) hzz71 yN Df (((fun _=>rfl) _).trans Bp.symm))) rfl ?_
     refine ae.val rfl (aX rfl (eO lM rfl)) rfl ?_
     refine ae.val rfl (bH (cs:=[(.d (.str [120])),(.d (.str z71))]) Dq rfl (sK) (cO rfl rfl rfl rfl (cO rfl rfl rfl rfl rfl))) rfl ?_
     refine ae.less (Less.agg' (d:=aA (Attr.mk [120] z71)) (ai.eq rfl (ai.eq rfl .nil)) ((Attr.eq _).trans rfl)) ?_
     refine ae.val rfl (aM (vs:=[(.d (aA (Attr.mk [120] z71)))]) (ds:=[(aA (Attr.mk [120] z71))]) DW xH BR Dq oN rfl (by decide) (.cons rfl (Attr.len _) .nil) rfl (by intro d hd; simp only [List.mem_cons,List.not_mem_nil,or_false] at hd; rcases hd with rfl <;> exact Attr.agg _) rfl) rfl ?_
     refine ae.val rfl (ak rfl yI xE rfl) rfl ?_
     refine ae.store H67 (i:=0) rfl rfl rfl rfl rfl rfl Fs rfl FR rfl rfl rfl (fun S72 H73=>?_)
     refine ae.nil ?_
     obtain ⟨S74,hw75,H76⟩:=H73.zS (i:=0) (cs':=[(.d (.int .i64 (bu.mk z35 z37 [] [] []).Kind)),(.d (.int .i64 (bu.mk z35 z37 [] [] []).N)),(.d (.str z65)),(.d (.str (bu.mk z35 z37 [] [] []).Text)),(.d (.sl (([(Attr.mk [120] z71)]).map aA) false)),(.d .aT)]) rfl (.cons (.refl _) (.cons (.refl _) (.cons (.refl _) (.cons (.refl _) (.cons Au (.cons (.refl _) .nil))))))
     exact ⟨⟨z65,(bu.mk z35 z37 [] [] []).Text,[(Attr.mk [120] z71)]⟩,_,_,S74,.refl _ _,hw75,(aa.r rfl (aa.r rfl (aa.r rfl (aa.r rfl (aa.r rfl (aa.r rfl (aa.r rfl (aa.r rfl (aa.r rfl (aa.r rfl aa.nil)))))))))),H76.sl [0,1,2,3,4] rfl rfl,h⟩
    replace h:=dm hb68 h
    refine ay.skip ?_
    exact ⟨⟨z65,(bu.mk z35 z37 [] [] []).Text,(bu.mk z35 z37 [] [] []).aI⟩,_,_,S66,.refl _ _,.refl _,(aa.r rfl (aa.r rfl (aa.r rfl (aa.r rfl (aa.r rfl (aa.r rfl (aa.r rfl (aa.r rfl (aa.r rfl (aa.r rfl aa.nil)))))))))),H67.sl [0,1,2,3,4] rfl rfl,h⟩
   replace h:=dm hb63 h
   refine ay.seq ?_
   refine ay.region E.obj rfl ?_
   refine ae.val rfl (av rfl rfl bI) rfl ?_
   refine ae.val rfl (aj rfl) rfl ?_
   refine ae.nil ?_
   refine ay.cond rfl (fun hb77=>?_) (fun hb77=>?_)
   ·
    replace h:=di hb77 h
    refine ay.region E.obj rfl ?_
    refine ae.val rfl (ah rfl) rfl ?_
    refine ae.val rfl (ah rfl) rfl ?_
    refine ae.val rfl (ah rfl) rfl ?_
    refine ae.val rfl (bq rfl CP) rfl ?_
    refine ae.val rfl (av rfl rfl iO) rfl ?_
    obtain ⟨z78,hzz78,h⟩:=bind_some h
    refine ae.ret rfl (aB rfl rfl) (bD E _ _ _ _ _ hzz78 _ _ (aG.eq (aG.eq (aG.eq .nil)))) rfl ?_
    obtain ⟨z79,hzz79,h⟩:=bind_some h
    refine ae.val rfl (bR rfl rfl (df (enc:=D.str) hzz79 yN Df (((fun _=>rfl) _).trans Bp.symm))) rfl ?_
    refine ae.val rfl (aX rfl (eO lM rfl)) rfl ?_
    refine ae.val rfl (ak rfl wz mD rfl) rfl ?_
    refine ae.store H47 (i:=0) rfl rfl rfl rfl rfl rfl Bp rfl Df rfl rfl rfl (fun S80 H81=>?_)
    refine ae.nil ?_
    exact ⟨⟨(bu.mk z35 z37 [] [] []).Tag,z79,(bu.mk z35 z37 [] [] []).aI⟩,_,_,S80,.refl _ _,.refl _,(aa.r rfl (aa.r rfl (aa.r rfl (aa.r rfl (aa.r rfl (aa.r rfl (aa.r rfl (aa.r rfl (aa.r rfl (aa.r rfl aa.nil)))))))))),H81.sl [0,1,2,3,4] rfl rfl,h⟩
   replace h:=dm hb77 h
   refine ay.seq ?_
   refine ay.region E.obj rfl ?_
   refine ae.val rfl (av rfl rfl bI) rfl ?_
   refine ae.val rfl (aj rfl) rfl ?_
   refine ae.nil ?_
   refine ay.cond rfl (fun hb82=>?_) (fun hb82=>?_)
   ·
    replace h:=di hb82 h
    refine ay.region E.obj rfl ?_
    refine ae.val rfl (ah rfl) rfl ?_
    refine ae.val rfl (ah rfl) rfl ?_
    refine ae.val rfl (ah rfl) rfl ?_
    refine ae.val rfl (bq rfl CP) rfl ?_
    refine ae.val rfl (av rfl rfl iO) rfl ?_
    obtain ⟨z83,hzz83,h⟩:=bind_some h
    refine ae.ret rfl (aB rfl rfl) (bD E _ _ _ _ _ hzz83 _ _ (aG.eq (aG.eq (aG.eq .nil)))) rfl ?_
    obtain ⟨z84,hzz84,h⟩:=bind_some h
    refine ae.val rfl (bR rfl rfl (df (enc:=D.str) hzz84 yN Df (((fun _=>rfl) _).trans Bp.symm))) rfl ?_
    refine ae.val rfl (aX rfl (eO lM rfl)) rfl ?_
    refine ae.val rfl (ak rfl wz mD rfl) rfl ?_
    refine ae.store H47 (i:=0) rfl rfl rfl rfl rfl rfl Bp rfl Df rfl rfl rfl (fun S85 H86=>?_)
    refine ae.nil ?_
    exact ⟨⟨(bu.mk z35 z37 [] [] []).Tag,z84,(bu.mk z35 z37 [] [] []).aI⟩,_,_,S85,.refl _ _,.refl _,(aa.r rfl (aa.r rfl (aa.r rfl (aa.r rfl (aa.r rfl (aa.r rfl (aa.r rfl (aa.r rfl (aa.r rfl (aa.r rfl aa.nil)))))))))),H86.sl [0,1,2,3,4] rfl rfl,h⟩
   replace h:=dm hb82 h
   refine ay.skip ?_
   exact ⟨⟨(bu.mk z35 z37 [] [] []).Tag,(bu.mk z35 z37 [] [] []).Text,(bu.mk z35 z37 [] [] []).aI⟩,_,_,S46,.refl _ _,.refl _,(aa.r rfl (aa.r rfl (aa.r rfl (aa.r rfl (aa.r rfl (aa.r rfl (aa.r rfl (aa.r rfl (aa.r rfl (aa.r rfl aa.nil)))))))))),H47.sl [0,1,2,3,4] rfl rfl,h⟩
  refine ay.seq ?_
  refine ay.region E.obj rfl ?_
  refine ae.val rfl (ah rfl) rfl ?_
  refine ae.val rfl (ah rfl) rfl ?_
  obtain ⟨z87,hzz87,h⟩:=bind_some h
  refine ae.val rfl (bR rfl rfl (wN (enc:=bU) H19 (i:=2) rfl hzz87 nO oI ((bu.len _).trans dP.symm))) rfl ?_
  refine ae.val rfl (gq rfl gL qb rfl) rfl ?_
  refine ae.val rfl (aX rfl (by rw [bu.cells]; exact eO kC rfl)) rfl ?_
  refine ae.val rfl (aj rfl) rfl ?_
  refine ae.nil ?_
  refine ay.seq ?_
  refine ay.region E.obj rfl ?_
  refine ae.val rfl (ah rfl) rfl ?_
  refine ae.val rfl (av rfl rfl jA) rfl ?_
  refine ae.val rfl (ah rfl) rfl ?_
  refine ae.bG 3 49 (.d (.bool ((z87.Kind != 1) && (z87.Kind != 5)))) ?_ ?_
  ·
   rcases Bool.eq_false_or_eq_true ((z87.Kind != 1)) with hB88 | hB88
   ·
    refine ae.bool hB88 ?_
    refine ae.val rfl (ah rfl) rfl ?_
    refine ae.val rfl (av rfl rfl jA) rfl ?_
    refine ae.val rfl (az (b:=true) rfl rfl) rfl ?_
    exact ae.nil ⟨_,rfl,(aa.put (aa.push rfl (aa.push rfl (aa.put (.refl _) (Less.eq (by rw [hB88]))))) (Less.eq (by rw [hB88]; rw [Bool.true_and])))⟩
   refine ae.bool hB88 ?_
   refine ae.no rfl rfl ?_
   refine ae.no rfl rfl ?_
   refine ae.val rfl (az (b:=false) rfl rfl) rfl ?_
   exact ae.nil ⟨_,rfl,(aa.put (aa.push rfl (aa.push rfl (aa.put (.refl _) (Less.eq (by rw [hB88]))))) (Less.eq (by rw [hB88]; rw [Bool.false_and])))⟩
  refine ae.val rfl (ah rfl) rfl ?_
  refine ae.bG 3 53 (.d (.bool (((z87.Kind != 1) && (z87.Kind != 5)) && (z87.Kind != 6)))) ?_ ?_
  ·
   rcases Bool.eq_false_or_eq_true (((z87.Kind != 1) && (z87.Kind != 5))) with hB89 | hB89
   ·
    refine ae.bool hB89 ?_
    refine ae.val rfl (ah rfl) rfl ?_
    refine ae.val rfl (av rfl rfl jA) rfl ?_
    refine ae.val rfl (az (b:=true) rfl rfl) rfl ?_
    exact ae.nil ⟨_,rfl,(aa.put (aa.push rfl (aa.push rfl (aa.put (.refl _) (Less.eq (by rw [hB89]))))) (Less.eq (by rw [hB89]; rw [Bool.true_and])))⟩
   refine ae.bool hB89 ?_
   refine ae.no rfl rfl ?_
   refine ae.no rfl rfl ?_
   refine ae.val rfl (az (b:=false) rfl rfl) rfl ?_
   exact ae.nil ⟨_,rfl,(aa.put (aa.push rfl (aa.push rfl (aa.put (.refl _) (Less.eq (by rw [hB89]))))) (Less.eq (by rw [hB89]; rw [Bool.false_and])))⟩
  refine ae.val rfl (ah rfl) rfl ?_
  obtain ⟨z91,hzz91,h⟩:=bind_some h
  refine ae.bG 5 59 (.d (.bool z91)) ?_ ?_
  ·
   rcases Bool.eq_false_or_eq_true ((((z87.Kind != 1) && (z87.Kind != 5)) && (z87.Kind != 6))) with hB90 | hB90
   ·
    refine ae.bool hB90 ?_
    refine ae.no rfl rfl ?_
    refine ae.no rfl rfl ?_
    refine ae.no rfl rfl ?_
    refine ae.no rfl rfl ?_
    refine ae.val rfl (az (b:=true) rfl rfl) rfl ?_
    replace hzz91:=di hB90 hzz91
    cases hzz91
    exact ae.nil ⟨_,rfl,(aa.put (aa.push rfl (aa.push rfl (aa.push rfl (aa.push rfl (aa.put (.refl _) (Less.eq (by rw [hB90]))))))) (.refl _))⟩
   refine ae.bool hB90 ?_
   replace hzz91:=dm hB90 hzz91
   refine ae.val rfl (ah rfl) rfl ?_
   refine ae.val rfl (ah rfl) rfl ?_
   obtain ⟨z92,hzz92,hzz91⟩:=bind_some hzz91
   refine ae.ret rfl (aB rfl rfl) (nK E _ _ _ _ hzz92 _ _ (aG.grow H19 (i:=3) rfl (aG.eq .nil))) rfl ?_
   refine ae.val rfl (av rfl rfl iW) rfl ?_
   refine ae.val rfl (az (b:=false) rfl rfl) rfl ?_
   cases hzz91
   exact ae.nil ⟨_,rfl,(aa.put (aa.push rfl (aa.push rfl (aa.push rfl (aa.push rfl (aa.put (.refl _) (Less.eq (by rw [hB90]))))))) (.refl _))⟩
  refine ae.nil ?_
  refine ay.cond rfl (fun hb93=>?_) (fun hb93=>?_)
  ·
   replace h:=di hb93 h
   refine ay.region E.obj rfl ?_
   refine ae.val rfl (aj rfl) rfl ?_
   refine ae.nil ?_
   exact ⟨0,_,_,S18,.refl _ _,.refl _,(aa.r rfl (aa.r rfl (aa.r rfl (aa.r rfl (aa.r rfl (aa.r rfl (aa.r rfl (aa.r rfl (aa.r rfl aa.nil))))))))),H19.sl [0,1,2,3] rfl rfl,h⟩
  replace h:=dm hb93 h
  refine ay.skip ?_
  exact ⟨z29,_,_,S18,.refl _ _,.refl _,(aa.r rfl (aa.r rfl (aa.r rfl (aa.r rfl (aa.r rfl (aa.r rfl (aa.r rfl (aa.r rfl (aa.r rfl aa.nil))))))))),H19.sl [0,1,2,3] rfl rfl,h⟩
 replace h:=dm hb27 h
 refine ay.exit ?_
 refine ay.seq ?_
 refine ay.region E.obj rfl ?_
 refine ae.val rfl (ah rfl) rfl ?_
 refine ae.val rfl (ah rfl) rfl ?_
 obtain ⟨z94,hzz94,h⟩:=bind_some h
 refine ae.ret rfl (aB rfl rfl) (jO E _ _ _ _ _ hzz94 _ _ (aG.grow H19 (i:=2) rfl (aG.grow H19 (i:=3) rfl (aG.eq .nil)))) rfl ?_
 refine ae.store H19 (i:=0) rfl rfl rfl rfl (aQ.bJ _) rfl dP rfl oI rfl rfl rfl (fun S95 H96=>?_)
 refine ae.nil ?_
 have hr:=Option.some.inj h
 subst hr
 exact ay.ret ⟨_,nP H96 (i:=0) rfl rfl rfl (aV fU dP rfl),rfl,gG (aG.pU (d:=aD z94) (ai.eq rfl (ai.eq rfl (ai.eq rfl (ai.eq rfl (ai.eq rfl (ai.eq rfl .nil)))))) ((aQ.eq _).trans rfl))⟩
set_option maxRecDepth 20000 in
set_option maxHeartbeats 4000000 in
theorem uy (n:Nat) (a1:dI) (a2:(List Int)) (a3:(List eu)) (a4:Int) (a5:Int) (r:Bool) (h:eX n a1 a2 a3 a4 a5=some r):dB R cfg.P 4 [(iD a1),(.sl ((a2).map (D.int .i64)) false),(.sl ((a3).map aH) false),(.int .i64 a4),(.int .i64 a5)] (.d (.bool r)):=by
 unfold eX at h
 refine dB.of_wp E.obj.toObjOk (C:=cfg) Tryd.func4 rfl Gj rfl ?_
 have H0:Has aL aL []:=Has.pure
 refine ay.seq ?_
 refine ay.region E.obj rfl ?_
 refine ae.box H0 rfl rfl rfl (dI.bJ _) rfl (fun b6 S7 H8=>?_)
 refine ae.val rfl (aj rfl) rfl ?_
 refine ae.nil ?_
 refine ay.seq ?_
 refine ay.region E.obj rfl ?_
 refine ae.val rfl (au H8 (i:=0) rfl rfl (aV Fa FE rfl)) rfl ?_
 refine ae.less (Less.agg' (d:=iD a1) (ai.eq rfl (ai.eq rfl (ai.eq rfl (ai.eq rfl .nil)))) ((dI.eq _).trans rfl)) ?_
 obtain ⟨z9,hzz9,h⟩:=bind_some h
 refine ae.ret rfl (aB rfl rfl) (kW E _ _ _ hzz9 _ _ (aG.eq .nil)) rfl ?_
 refine ae.alloc H8 rfl uJ iF rfl rfl (fun b10 S11 H12=>?_)
 refine ae.store H12 (i:=0) rfl rfl rfl rfl (aQ.bJ _) rfl dP rfl oI rfl rfl rfl (fun S13 H14=>?_)
 refine ae.nil ?_
 refine ay.seq ?_
 refine ay.region E.obj rfl ?_
 refine ae.val rfl (jg lq jw kC) rfl ?_
 refine ae.val rfl (ah rfl) rfl ?_
 refine ae.val rfl (ah rfl) rfl ?_
 refine ae.val rfl (bq rfl Ci) rfl ?_
 refine ae.val rfl (xA rfl rfl) rfl ?_
 obtain ⟨z15,hzz15,h⟩:=bind_some h
 refine ae.val rfl (oC rfl rfl jw Fe (fun z=>((fun _=>rfl) z).trans oK.symm) hzz15) rfl ?_
 have H16:=H14.sW (([]).map (D.int .i64))
 obtain ⟨z17,hzz17,h⟩:=bind_some h
 refine ae.append (xs:=([]).map (D.int .i64)) (ys:=(z15).map (D.int .i64)) (zs:=(z17).map (D.int .i64)) H16 rfl rfl rfl (i:=0) rfl rfl lq yH jw (fe hzz17) DZ rfl (bP (enc:=(D.int .i64)) (fun _=>oK.symm) _) (bP (enc:=(D.int .i64)) (fun _=>oK.symm) _) Dn rfl (ji hzz17) (fun v18 S19 H20=>?_)
 refine ae.val rfl (aj rfl) rfl ?_
 refine ae.nil ?_
 refine ay.seq ?_
 refine ay.region E.obj rfl ?_
 refine ae.val rfl (ah rfl) rfl ?_
 refine ae.val rfl (ah rfl) rfl ?_
 refine ae.val rfl (bq rfl Es) rfl ?_
 refine ae.val rfl (xA rfl rfl) rfl ?_
 obtain ⟨z21,hzz21,h⟩:=bind_some h
 refine ae.val rfl (oC rfl rfl Ez EO (fun z=>(eu.len z).trans zF.symm) hzz21) rfl ?_
 refine ae.val rfl (aj rfl) rfl ?_
 refine ae.nil ?_
 refine ay.seq ?_
 refine ay.region E.obj rfl ?_
 refine ae.val rfl (au H20 (i:=1) rfl rfl (aV fU dP rfl)) rfl ?_
 refine ae.less (Less.agg' (d:=aD z9) (ai.eq rfl (ai.eq rfl (ai.eq rfl (ai.eq rfl (ai.eq rfl (ai.eq rfl .nil)))))) ((aQ.eq _).trans rfl)) ?_
 refine ae.val rfl (ah rfl) rfl ?_
 refine ae.val rfl (ah rfl) rfl ?_
 obtain ⟨z22,hzz22,h⟩:=bind_some h
 refine ae.ret rfl (aB rfl rfl) (dO E _ _ _ _ _ hzz22 _ _ (aG.eq (aG.grow H20 (i:=0) rfl (aG.eq .nil)))) rfl ?_
 refine ae.val rfl (ah rfl) rfl ?_
 refine ae.val rfl (aS rfl rfl) rfl ?_
 refine ae.val rfl (aS rfl rfl) rfl ?_
 refine ae.alloc H20 rfl pE iw rfl rfl (fun b23 S24 H25=>?_)
 refine ae.store H25 (i:=0) rfl rfl rfl rfl (Tree.bJ _) rfl dL rfl iY rfl rfl rfl (fun S26 H27=>?_)
 refine ae.val rfl (aj rfl) rfl ?_
 refine ae.nil ?_
 refine ay.join (B:=aL) (α:=Tree × Nat × Int) (fun a=>dw n a4 a5 z9 z17 z21 z22 a.1 a.2.2=some r) (fun a=>[(3,(.d (.int .i64 a4))),(4,(.d (.int .i64 a5))),(11,(.ptr b10 0 0)),(12,v18),(13,(.d (.sl ((z21).map aH) false))),(14,(.ptr b23 0 0)),(15,(.d (.int .i64 z22.2))),(16,(.ptr a.2.1 0 0)),(17,(.d (.int .i64 a.2.2)))]) (fun a=>[.box b23 [(.d (.str z22.1.Tag)),(.d (.str z22.1.Key)),(.d (.str z22.1.Text)),(.d (.sl ((z22.1.aI).map aA) false)),(.d (.sl ((z22.1.Kids).map ax) false))],.grow v18 ((z17).map (D.int .i64)),.box b10 [(.d (.int .i64 z9.Kind)),(.d (.int .i64 z9.N)),(.d (.str z9.Tag)),(.d (.str z9.Text)),(.d (.sl ((z9.aI).map aA) false)),(.d (.sl ((z9.Kids).map aD) false))],.box a.2.1 [(.d (.str a.1.Tag)),(.d (.str a.1.Key)),(.d (.str a.1.Text)),(.d (.sl ((a.1.aI).map aA) false)),(.d (.sl ((a.1.Kids).map ax) false))]]) ?_ ?_
 ·
  intro a S28 H29 h
  obtain ⟨x30,b31,x32⟩:=a
  replace h:dw n a4 a5 z9 z17 z21 z22 x30 x32=some r:=h
  replace H29:Has aL S28 [.box b23 [(.d (.str z22.1.Tag)),(.d (.str z22.1.Key)),(.d (.str z22.1.Text)),(.d (.sl ((z22.1.aI).map aA) false)),(.d (.sl ((z22.1.Kids).map ax) false))],.grow v18 ((z17).map (D.int .i64)),.box b10 [(.d (.int .i64 z9.Kind)),(.d (.int .i64 z9.N)),(.d (.str z9.Tag)),(.d (.str z9.Text)),(.d (.sl ((z9.aI).map aA) false)),(.d (.sl ((z9.Kids).map aD) false))],.box b31 [(.d (.str x30.Tag)),(.d (.str x30.Key)),(.d (.str x30.Text)),(.d (.sl ((x30.aI).map aA) false)),(.d (.sl ((x30.Kids).map ax) false))]]:=H29
  unfold dw at h
  refine ay.seq ?_
  refine ay.region E.obj rfl ?_
  refine ae.val rfl (au H29 (i:=2) rfl rfl (aV fU dP rfl)) rfl ?_
  refine ae.less (Less.agg' (d:=aD z9) (ai.eq rfl (ai.eq rfl (ai.eq rfl (ai.eq rfl (ai.eq rfl (ai.eq rfl .nil)))))) ((aQ.eq _).trans rfl)) ?_
  refine ae.val rfl (ah rfl) rfl ?_
  refine ae.val rfl (ah rfl) rfl ?_
  obtain ⟨z34,hzz34,h⟩:=bind_some h
  refine ae.ret rfl (aB rfl rfl) (dO E _ _ _ _ _ hzz34 _ _ (aG.eq (aG.grow H29 (i:=1) rfl (aG.eq .nil)))) rfl ?_
  refine ae.val rfl (ah rfl) rfl ?_
  refine ae.val rfl (aS rfl rfl) rfl ?_
  refine ae.val rfl (aS rfl rfl) rfl ?_
  refine ae.alloc H29 rfl pE iw rfl rfl (fun b35 S36 H37=>?_)
  refine ae.store H37 (i:=0) rfl rfl rfl rfl (Tree.bJ _) rfl dL rfl iY rfl rfl rfl (fun S38 H39=>?_)
  refine ae.val rfl (aj rfl) rfl ?_
  refine ae.nil ?_
  refine ay.seq ?_
  refine ay.seq ?_
  refine ay.region E.obj rfl ?_
  refine ae.val rfl (ah rfl) rfl ?_
  refine ae.val rfl (av rfl rfl bI) rfl ?_
  refine ae.val rfl (ah rfl) rfl ?_
  obtain ⟨z41,hzz41,h⟩:=bind_some h
  refine ae.bG 9 76 (.d (.bool z41)) ?_ ?_
  ·
   rcases Bool.eq_false_or_eq_true ((z22.2 == 0)) with hB40 | hB40
   ·
    refine ae.bool hB40 ?_
    replace hzz41:=di hB40 hzz41
    refine ae.val rfl (ah rfl) rfl ?_
    refine ae.val rfl (av rfl rfl jA) rfl ?_
    refine ae.val rfl (ah rfl) rfl ?_
    obtain ⟨z43,hzz43,hzz41⟩:=bind_some hzz41
    refine ae.bG 5 75 (.d (.bool z43)) ?_ ?_
    ·
     rcases Bool.eq_false_or_eq_true ((x32 != 0)) with hB42 | hB42
     ·
      refine ae.bool hB42 ?_
      refine ae.no rfl rfl ?_
      refine ae.no rfl rfl ?_
      refine ae.no rfl rfl ?_
      refine ae.no rfl rfl ?_
      refine ae.val rfl (az (b:=true) rfl rfl) rfl ?_
      replace hzz43:=di hB42 hzz43
      cases hzz43
      exact ae.nil ⟨_,rfl,(aa.put (aa.push rfl (aa.push rfl (aa.push rfl (aa.push rfl (aa.put (.refl _) (Less.eq (by rw [hB42]))))))) (.refl _))⟩
     refine ae.bool hB42 ?_
     replace hzz43:=dm hB42 hzz43
     refine ae.val rfl (au H39 (i:=1) rfl rfl (aV il dL rfl)) rfl ?_
     refine ae.less (Less.agg' (d:=ax z22.1) (ai.eq rfl (ai.eq rfl (ai.eq rfl (ai.eq rfl (ai.eq rfl .nil))))) ((Tree.eq _).trans rfl)) ?_
     refine ae.val rfl (au H39 (i:=4) rfl rfl (aV il dL rfl)) rfl ?_
     refine ae.less (Less.agg' (d:=ax x30) (ai.eq rfl (ai.eq rfl (ai.eq rfl (ai.eq rfl (ai.eq rfl .nil))))) ((Tree.eq _).trans rfl)) ?_
     obtain ⟨z44,hzz44,hzz43⟩:=bind_some hzz43
     refine ae.ret rfl (aB rfl rfl) (fE E _ _ _ _ hzz44 _ _ (aG.eq (aG.eq .nil))) rfl ?_
     refine ae.val rfl (fG rfl) rfl ?_
     refine ae.val rfl (az (b:=false) rfl rfl) rfl ?_
     cases hzz43
     exact ae.nil ⟨_,rfl,(aa.put (aa.push rfl (aa.push rfl (aa.push rfl (aa.push rfl (aa.put (.refl _) (Less.eq (by rw [hB42]))))))) (.refl _))⟩
    refine ae.val rfl (az (b:=true) rfl rfl) rfl ?_
    cases hzz41
    exact ae.nil ⟨_,rfl,(aa.put (aa.push rfl (aa.push rfl (aa.push rfl (aa.push rfl (aa.put (.refl _) (Less.eq (by rw [hB40]))))))) (.refl _))⟩
   refine ae.bool hB40 ?_
   refine ae.no rfl rfl ?_
   refine ae.no rfl rfl ?_
   refine ae.no rfl rfl ?_
   refine ae.no rfl rfl ?_
   refine ae.no rfl rfl ?_
   refine ae.no rfl rfl ?_
   refine ae.no rfl rfl ?_
   refine ae.no rfl rfl ?_
   refine ae.val rfl (az (b:=false) rfl rfl) rfl ?_
   replace hzz41:=dm hB40 hzz41
   cases hzz41
   exact ae.nil ⟨_,rfl,(aa.put (aa.push rfl (aa.push rfl (aa.push rfl (aa.push rfl (aa.push rfl (aa.push rfl (aa.push rfl (aa.push rfl (aa.put (.refl _) (Less.eq (by rw [hB40]))))))))))) (.refl _))⟩
  refine ae.val rfl (ah rfl) rfl ?_
  refine ae.bG 4 81 (.d (.bool (z41 || (z22.2 != z34.2)))) ?_ ?_
  ·
   rcases Bool.eq_false_or_eq_true (z41) with hB45 | hB45
   ·
    refine ae.bool hB45 ?_
    refine ae.no rfl rfl ?_
    refine ae.no rfl rfl ?_
    refine ae.no rfl rfl ?_
    refine ae.val rfl (az (b:=true) rfl rfl) rfl ?_
    exact ae.nil ⟨_,rfl,(aa.put (aa.push rfl (aa.push rfl (aa.push rfl (aa.put (.refl _) (Less.eq (by rw [hB45])))))) (Less.eq (by rw [hB45]; rw [Bool.true_or])))⟩
   refine ae.bool hB45 ?_
   refine ae.val rfl (ah rfl) rfl ?_
   refine ae.val rfl (ah rfl) rfl ?_
   refine ae.val rfl (av rfl rfl jA) rfl ?_
   refine ae.val rfl (az (b:=false) rfl rfl) rfl ?_
   exact ae.nil ⟨_,rfl,(aa.put (aa.push rfl (aa.push rfl (aa.push rfl (aa.put (.refl _) (Less.eq (by rw [hB45])))))) (Less.eq (by rw [hB45]; rw [Bool.false_or])))⟩
  refine ae.val rfl (ah rfl) rfl ?_
  obtain ⟨z47,hzz47,h⟩:=bind_some h
  refine ae.bG 5 87 (.d (.bool z47)) ?_ ?_
  ·
   rcases Bool.eq_false_or_eq_true ((z41 || (z22.2 != z34.2))) with hB46 | hB46
   ·
    refine ae.bool hB46 ?_
    refine ae.no rfl rfl ?_
    refine ae.no rfl rfl ?_
    refine ae.no rfl rfl ?_
    refine ae.no rfl rfl ?_
    refine ae.val rfl (az (b:=true) rfl rfl) rfl ?_
    replace hzz47:=di hB46 hzz47
    cases hzz47
    exact ae.nil ⟨_,rfl,(aa.put (aa.push rfl (aa.push rfl (aa.push rfl (aa.push rfl (aa.put (.refl _) (Less.eq (by rw [hB46]))))))) (.refl _))⟩
   refine ae.bool hB46 ?_
   replace hzz47:=dm hB46 hzz47
   refine ae.val rfl (au H39 (i:=1) rfl rfl (aV il dL rfl)) rfl ?_
   refine ae.less (Less.agg' (d:=ax z22.1) (ai.eq rfl (ai.eq rfl (ai.eq rfl (ai.eq rfl (ai.eq rfl .nil))))) ((Tree.eq _).trans rfl)) ?_
   refine ae.val rfl (au H39 (i:=0) rfl rfl (aV il dL rfl)) rfl ?_
   refine ae.less (Less.agg' (d:=ax z34.1) (ai.eq rfl (ai.eq rfl (ai.eq rfl (ai.eq rfl (ai.eq rfl .nil))))) ((Tree.eq _).trans rfl)) ?_
   obtain ⟨z48,hzz48,hzz47⟩:=bind_some hzz47
   refine ae.ret rfl (aB rfl rfl) (fE E _ _ _ _ hzz48 _ _ (aG.eq (aG.eq .nil))) rfl ?_
   refine ae.val rfl (fG rfl) rfl ?_
   refine ae.val rfl (az (b:=false) rfl rfl) rfl ?_
   cases hzz47
   exact ae.nil ⟨_,rfl,(aa.put (aa.push rfl (aa.push rfl (aa.push rfl (aa.push rfl (aa.put (.refl _) (Less.eq (by rw [hB46]))))))) (.refl _))⟩
  refine ae.nil ?_
  refine ay.cond rfl (fun hb49=>?_) (fun hb49=>?_)
  ·
   replace h:=di hb49 h
   refine ay.seq ?_
   refine ay.region E.obj rfl ?_
   refine ae.val rfl (aj rfl) rfl ?_
   refine ae.nil ?_
   have hr:=Option.some.inj h
   subst hr
   exact ay.ret ⟨_,rfl,rfl,gG (aG.eq .nil)⟩
  replace h:=dm hb49 h
  refine ay.skip ?_
  refine ay.seq ?_
  refine ay.region E.obj rfl ?_
  refine ae.val rfl (ah rfl) rfl ?_
  obtain ⟨z50,hzz50,h⟩:=bind_some h
  refine ae.ret rfl (aB rfl rfl) (bD E _ _ _ _ _ hzz50 _ _ (aG.eq (aG.eq (aG.eq .nil)))) rfl ?_
  refine ae.val rfl (ah rfl) rfl ?_
  obtain ⟨z51,hzz51,h⟩:=bind_some h
  refine ae.ret rfl (aB rfl rfl) (bD E _ _ _ _ _ hzz51 _ _ (aG.eq (aG.eq (aG.eq .nil)))) rfl ?_
  refine ae.val rfl (aj rfl) rfl ?_
  refine ae.val rfl (aj rfl) rfl ?_
  refine ae.nil ?_
  refine ay.seq ?_
  refine ay.region E.obj rfl ?_
  refine ae.val rfl (bH (cs:=[(.d (.int .i64 1)),(.d (.int .i64 0)),(.d (.str [108,105])),(.d (.str [])),(.d .aT),(.d .aT)]) iF rfl (cZ) (cO rfl rfl rfl rfl (cO rfl rfl rfl rfl rfl))) rfl ?_
  refine ae.less (Less.agg' (d:=aD (aQ.mk 1 0 [108,105] [] [] [])) (ai.eq rfl (ai.eq rfl (ai.eq rfl (ai.eq rfl (ai.cK rfl (.aT false) rfl rfl (ai.cK rfl (.aT false) rfl rfl .nil)))))) ((aQ.eq _).trans rfl)) ?_
  refine ae.val rfl (aM (vs:=[(.d (aD (aQ.mk 1 0 [108,105] [] [] [])))]) (ds:=[(aD (aQ.mk 1 0 [108,105] [] [] []))]) uk nO fU iF dP rfl (by decide) (.cons rfl (aQ.len _) .nil) rfl (by intro d hd; simp only [List.mem_cons,List.not_mem_nil,or_false] at hd; rcases hd with rfl <;> exact aQ.agg _) rfl) rfl ?_
  refine ae.val rfl (bH (cs:=[(.d (.int .i64 6)),(.d (.int .i64 0)),(.d (.str [])),(.d (.str [])),(.d .aT),(.d (.sl (([(aQ.mk 1 0 [108,105] [] [] [])]).map aD) true))]) iF rfl (cZ) (cO rfl rfl rfl rfl (cO rfl rfl rfl rfl (cO rfl rfl rfl rfl rfl)))) rfl ?_
  refine ae.less (Less.agg' (d:=aD (aQ.mk 6 0 [] [] [] [(aQ.mk 1 0 [108,105] [] [] [])])) (ai.eq rfl (ai.eq rfl (ai.eq rfl (ai.eq rfl (ai.cK rfl (.aT false) rfl rfl (ai.cK rfl (.gp _ _) rfl rfl .nil)))))) ((aQ.eq _).trans rfl)) ?_
  refine ae.val rfl (bH (cs:=[(.d (.int .i64 3)),(.d (.int .i64 1)),(.d (.str [])),(.d (.str [])),(.d .aT),(.d .aT)]) iF rfl (cZ) (cO rfl rfl rfl rfl (cO rfl rfl rfl rfl rfl))) rfl ?_
  refine ae.less (Less.agg' (d:=aD (aQ.mk 3 1 [] [] [] [])) (ai.eq rfl (ai.eq rfl (ai.eq rfl (ai.eq rfl (ai.cK rfl (.aT false) rfl rfl (ai.cK rfl (.aT false) rfl rfl .nil)))))) ((aQ.eq _).trans rfl)) ?_
  refine ae.val rfl (aM (vs:=[(.d (aD (aQ.mk 3 1 [] [] [] [])))]) (ds:=[(aD (aQ.mk 3 1 [] [] [] []))]) uk nO fU iF dP rfl (by decide) (.cons rfl (aQ.len _) .nil) rfl (by intro d hd; simp only [List.mem_cons,List.not_mem_nil,or_false] at hd; rcases hd with rfl <;> exact aQ.agg _) rfl) rfl ?_
  refine ae.val rfl (bH (cs:=[(.d (.int .i64 5)),(.d (.int .i64 1)),(.d (.str [])),(.d (.str [])),(.d .aT),(.d (.sl (([(aQ.mk 3 1 [] [] [] [])]).map aD) true))]) iF rfl (cZ) (cO rfl rfl rfl rfl (cO rfl rfl rfl rfl (cO rfl rfl rfl rfl rfl)))) rfl ?_
  refine ae.less (Less.agg' (d:=aD (aQ.mk 5 1 [] [] [] [(aQ.mk 3 1 [] [] [] [])])) (ai.eq rfl (ai.eq rfl (ai.eq rfl (ai.eq rfl (ai.cK rfl (.aT false) rfl rfl (ai.cK rfl (.gp _ _) rfl rfl .nil)))))) ((aQ.eq _).trans rfl)) ?_
  refine ae.val rfl (aM (vs:=[(.d (aD (aQ.mk 6 0 [] [] [] [(aQ.mk 1 0 [108,105] [] [] [])]))),(.d (aD (aQ.mk 5 1 [] [] [] [(aQ.mk 3 1 [] [] [] [])])))]) (ds:=[(aD (aQ.mk 6 0 [] [] [] [(aQ.mk 1 0 [108,105] [] [] [])])),(aD (aQ.mk 5 1 [] [] [] [(aQ.mk 3 1 [] [] [] [])]))]) uk nO fU iF dP rfl (by decide) (.cons rfl (aQ.len _) (.cons rfl (aQ.len _) .nil)) rfl (by intro d hd; simp only [List.mem_cons,List.not_mem_nil,or_false] at hd; rcases hd with rfl | rfl <;> exact aQ.agg _) rfl) rfl ?_
  refine ae.val rfl (bH (cs:=[(.d (.int .i64 1)),(.d (.int .i64 0)),(.d (.str [111,108])),(.d (.str [])),(.d .aT),(.d (.sl (([(aQ.mk 6 0 [] [] [] [(aQ.mk 1 0 [108,105] [] [] [])]),(aQ.mk 5 1 [] [] [] [(aQ.mk 3 1 [] [] [] [])])]).map aD) true))]) iF rfl (cZ) (cO rfl rfl rfl rfl (cO rfl rfl rfl rfl (cO rfl rfl rfl rfl rfl)))) rfl ?_
  refine ae.less (Less.agg' (d:=aD (aQ.mk 1 0 [111,108] [] [] [(aQ.mk 6 0 [] [] [] [(aQ.mk 1 0 [108,105] [] [] [])]),(aQ.mk 5 1 [] [] [] [(aQ.mk 3 1 [] [] [] [])])])) (ai.eq rfl (ai.eq rfl (ai.eq rfl (ai.eq rfl (ai.cK rfl (.aT false) rfl rfl (ai.cK rfl (.gp _ _) rfl rfl .nil)))))) ((aQ.eq _).trans rfl)) ?_
  refine ae.alloc H39 rfl uJ iF rfl rfl (fun b52 S53 H54=>?_)
  refine ae.store H54 (i:=0) rfl rfl rfl rfl (aQ.bJ _) rfl dP rfl oI rfl rfl rfl (fun S55 H56=>?_)
  refine ae.nil ?_
  refine ay.seq ?_
  refine ay.region E.obj rfl ?_
  refine ae.val rfl (au H56 (i:=0) rfl rfl (aV fU dP rfl)) rfl ?_
  refine ae.less (Less.agg' (d:=aD (aQ.mk 1 0 [111,108] [] [] [(aQ.mk 6 0 [] [] [] [(aQ.mk 1 0 [108,105] [] [] [])]),(aQ.mk 5 1 [] [] [] [(aQ.mk 3 1 [] [] [] [])])])) (ai.eq rfl (ai.eq rfl (ai.eq rfl (ai.eq rfl (ai.eq rfl (ai.eq rfl .nil)))))) ((aQ.eq _).trans rfl)) ?_
  refine ae.val rfl (ah rfl) rfl ?_
  refine ae.val rfl (ah rfl) rfl ?_
  refine ae.val rfl (aM (vs:=[(.d (.int .i64 z50)),(.d (.int .i64 z51))]) (ds:=[(.int .i64 z50),(.int .i64 z51)]) lq jw kC Cm oK rfl (by decide) (.cons rfl rfl (.cons rfl rfl .nil)) rfl (by intro d hd; simp only [List.mem_cons,List.not_mem_nil,or_false] at hd; rcases hd with rfl | rfl <;> rfl) rfl) rfl ?_
  obtain ⟨z57,hzz57,h⟩:=bind_some h
  refine ae.ret rfl (aB rfl rfl) (dO E _ _ _ _ _ hzz57 _ _ (aG.eq (aG.cK rfl (.gp _ _) (aG.cK rfl (.aT false) .nil)))) rfl ?_
  refine ae.val rfl (ah rfl) rfl ?_
  refine ae.val rfl (aS rfl rfl) rfl ?_
  refine ae.val rfl (aS rfl rfl) rfl ?_
  refine ae.alloc H56 rfl pE iw rfl rfl (fun b58 S59 H60=>?_)
  refine ae.store H60 (i:=0) rfl rfl rfl rfl (Tree.bJ _) rfl dL rfl iY rfl rfl rfl (fun S61 H62=>?_)
  refine ae.val rfl (aj rfl) rfl ?_
  refine ae.nil ?_
  refine ay.seq ?_
  refine ay.region E.obj rfl ?_
  refine ae.val rfl (ah rfl) rfl ?_
  refine ae.val rfl (aj rfl) rfl ?_
  refine ae.nil ?_
  refine ay.join (B:=aL) (α:=Int) (fun a=>bQ n z50 z51 z57 a=some r) (fun a=>[(20,(.d (.int .i64 z50))),(21,(.d (.int .i64 z51))),(23,(.ptr b58 0 0)),(24,(.d (.int .i64 z57.2))),(25,(.d (.int .i64 a)))]) (fun a=>[.box b58 [(.d (.str z57.1.Tag)),(.d (.str z57.1.Key)),(.d (.str z57.1.Text)),(.d (.sl ((z57.1.aI).map aA) false)),(.d (.sl ((z57.1.Kids).map ax) false))]]) ?_ ?_
  ·
   intro x65 S63 H64 h
   replace h:bQ n z50 z51 z57 x65=some r:=h
   replace H64:Has aL S63 [.box b58 [(.d (.str z57.1.Tag)),(.d (.str z57.1.Key)),(.d (.str z57.1.Text)),(.d (.sl ((z57.1.aI).map aA) false)),(.d (.sl ((z57.1.Kids).map ax) false))]]:=H64
   unfold bQ at h
   refine ay.seq ?_
   refine ay.seq ?_
   refine ay.region E.obj rfl ?_
   refine ae.val rfl (ah rfl) rfl ?_
   refine ae.val rfl (av rfl rfl iW) rfl ?_
   refine ae.nil ?_
   refine ay.cond rfl (fun hb67=>?_) (fun hb67=>?_)
   ·
    replace h:=di hb67 h
    refine ay.seq ?_
    refine ay.region E.obj rfl ?_
    refine ae.val rfl (ah rfl) rfl ?_
    refine ae.val rfl (av rfl rfl bI) rfl ?_
    refine ae.val rfl (ah rfl) rfl ?_
    obtain ⟨z69,hzz69,h⟩:=bind_some h
    refine ae.bG 2 119 (.d (.bool z69)) ?_ ?_
    ·
     rcases Bool.eq_false_or_eq_true ((z57.2 == 6)) with hB68 | hB68
     ·
      refine ae.bool hB68 ?_
      replace hzz69:=di hB68 hzz69
      obtain ⟨z70,hzz70,hzz69⟩:=bind_some hzz69
      refine ae.ret rfl (aB rfl rfl) (ig E _  _ hzz70 _ _ .nil) rfl ?_
      refine ae.val rfl (az (b:=true) rfl rfl) rfl ?_
      cases hzz69
      exact ae.nil ⟨_,rfl,(aa.put (aa.push rfl (aa.put (.refl _) (Less.eq (by rw [hB68])))) (.refl _))⟩
     refine ae.bool hB68 ?_
     refine ae.no rfl rfl ?_
     refine ae.val rfl (az (b:=false) rfl rfl) rfl ?_
     replace hzz69:=dm hB68 hzz69
     cases hzz69
     exact ae.nil ⟨_,rfl,(aa.put (aa.push rfl (aa.put (.refl _) (Less.eq (by rw [hB68])))) (.refl _))⟩
    refine ae.val rfl (aj rfl) rfl ?_
    refine ae.nil ?_
    have hr:=Option.some.inj h
    subst hr
    exact ay.ret ⟨_,rfl,rfl,gG (aG.eq .nil)⟩
   replace h:=dm hb67 h
   refine ay.skip ?_
   refine ay.seq ?_
   refine ay.region E.obj rfl ?_
   refine ae.val rfl (ah rfl) rfl ?_
   refine ae.val rfl (av rfl rfl bI) rfl ?_
   refine ae.val rfl (ah rfl) rfl ?_
   refine ae.bG 6 128 (.d (.bool ((z57.2 == 0) && (((z57.1.Kids).length:Int) == x65)))) ?_ ?_
   ·
    rcases Bool.eq_false_or_eq_true ((z57.2 == 0)) with hB71 | hB71
    ·
     refine ae.bool hB71 ?_
     refine ae.val rfl (ak rfl iL pW rfl) rfl ?_
     refine ae.val rfl (au H64 (i:=0) rfl rfl (aF pX rfl)) rfl ?_
     refine ae.val rfl (bq rfl rF) rfl ?_
     refine ae.val rfl (ah rfl) rfl ?_
     refine ae.val rfl (av rfl rfl bI) rfl ?_
     refine ae.val rfl (az (b:=true) rfl rfl) rfl ?_
     exact ae.nil ⟨_,rfl,(aa.put (aa.push rfl (aa.push rfl (aa.push rfl (aa.push rfl (aa.push rfl (aa.put (.refl _) (Less.eq (by rw [hB71])))))))) (Less.eq (by rw [hB71]; rw [Bool.true_and])))⟩
    refine ae.bool hB71 ?_
    refine ae.no rfl rfl ?_
    refine ae.no rfl rfl ?_
    refine ae.no rfl rfl ?_
    refine ae.no rfl rfl ?_
    refine ae.no rfl rfl ?_
    refine ae.val rfl (az (b:=false) rfl rfl) rfl ?_
    exact ae.nil ⟨_,rfl,(aa.put (aa.push rfl (aa.push rfl (aa.push rfl (aa.push rfl (aa.push rfl (aa.put (.refl _) (Less.eq (by rw [hB71])))))))) (Less.eq (by rw [hB71]; rw [Bool.false_and])))⟩
   refine ae.val rfl (ah rfl) rfl ?_
   obtain ⟨z73,hzz73,h⟩:=bind_some h
   refine ae.bG 21 150 (.d (.bool z73)) ?_ ?_
   ·
    rcases Bool.eq_false_or_eq_true (((z57.2 == 0) && (((z57.1.Kids).length:Int) == x65))) with hB72 | hB72
    ·
     refine ae.bool hB72 ?_
     replace hzz73:=di hB72 hzz73
     refine ae.val rfl (ah rfl) rfl ?_
     refine ae.val rfl (av rfl rfl bI) rfl ?_
     refine ae.val rfl (ah rfl) rfl ?_
     obtain ⟨z75,hzz75,hzz73⟩:=bind_some hzz73
     refine ae.bG 17 149 (.d (.bool z75)) ?_ ?_
     ·
      rcases Bool.eq_false_or_eq_true ((z50 == 0)) with hB74 | hB74
      ·
       refine ae.bool hB74 ?_
       refine ae.no rfl rfl ?_
       refine ae.no rfl rfl ?_
       refine ae.no rfl rfl ?_
       refine ae.no rfl rfl ?_
       refine ae.no rfl rfl ?_
       refine ae.no rfl rfl ?_
       refine ae.no rfl rfl ?_
       refine ae.no rfl rfl ?_
       refine ae.no rfl rfl ?_
       refine ae.no rfl rfl ?_
       refine ae.no rfl rfl ?_
       refine ae.no rfl rfl ?_
       refine ae.no rfl rfl ?_
       refine ae.no rfl rfl ?_
       refine ae.no rfl rfl ?_
       refine ae.no rfl rfl ?_
       refine ae.val rfl (az (b:=true) rfl rfl) rfl ?_
       replace hzz75:=di hB74 hzz75
       cases hzz75
       exact ae.nil ⟨_,rfl,(aa.put (aa.push rfl (aa.push rfl (aa.push rfl (aa.push rfl (aa.push rfl (aa.push rfl (aa.push rfl (aa.push rfl (aa.push rfl (aa.push rfl (aa.push rfl (aa.push rfl (aa.push rfl (aa.push rfl (aa.push rfl (aa.push rfl (aa.put (.refl _) (Less.eq (by rw [hB74]))))))))))))))))))) (.refl _))⟩
      refine ae.bool hB74 ?_
      replace hzz75:=dm hB74 hzz75
      refine ae.val rfl (ak rfl iL pW rfl) rfl ?_
      refine ae.val rfl (au H64 (i:=0) rfl rfl (aF pX rfl)) rfl ?_
      refine ae.val rfl (ah rfl) rfl ?_
      refine ae.val rfl (av rfl rfl iO) rfl ?_
      obtain ⟨z76,hzz76,hzz75⟩:=bind_some hzz75
      refine ae.val rfl (bR rfl rfl (df (enc:=ax) hzz76 kD iY ((Tree.len _).trans dL.symm))) rfl ?_
      refine ae.val rfl (gq rfl lY mD rfl) rfl ?_
      refine ae.val rfl (aX rfl (by rw [Tree.cells]; exact eO lM rfl)) rfl ?_
      refine ae.val rfl (av rfl rfl gY) rfl ?_
      refine ae.val rfl (ah rfl) rfl ?_
      obtain ⟨z78,hzz78,hzz75⟩:=bind_some hzz75
      refine ae.bG 7 148 (.d (.bool z78)) ?_ ?_
      ·
       rcases Bool.eq_false_or_eq_true ((z76.Tag == [108,105])) with hB77 | hB77
       ·
        refine ae.bool hB77 ?_
        replace hzz78:=di hB77 hzz78
        refine ae.val rfl (ak rfl iL pW rfl) rfl ?_
        refine ae.val rfl (au H64 (i:=0) rfl rfl (aF pX rfl)) rfl ?_
        obtain ⟨z79,hzz79,hzz78⟩:=bind_some hzz78
        refine ae.val rfl (bR rfl rfl (df (enc:=ax) hzz79 kD iY ((Tree.len _).trans dL.symm))) rfl ?_
        refine ae.val rfl (gq rfl qj mD rfl) rfl ?_
        refine ae.val rfl (aX rfl (by rw [Tree.cells]; exact eO lM rfl)) rfl ?_
        refine ae.val rfl (av rfl rfl gY) rfl ?_
        refine ae.val rfl (az (b:=true) rfl rfl) rfl ?_
        cases hzz78
        exact ae.nil ⟨_,rfl,(aa.put (aa.push rfl (aa.push rfl (aa.push rfl (aa.push rfl (aa.push rfl (aa.push rfl (aa.put (.refl _) (Less.eq (by rw [hB77]))))))))) (.refl _))⟩
       refine ae.bool hB77 ?_
       refine ae.no rfl rfl ?_
       refine ae.no rfl rfl ?_
       refine ae.no rfl rfl ?_
       refine ae.no rfl rfl ?_
       refine ae.no rfl rfl ?_
       refine ae.no rfl rfl ?_
       refine ae.val rfl (az (b:=false) rfl rfl) rfl ?_
       replace hzz78:=dm hB77 hzz78
       cases hzz78
       exact ae.nil ⟨_,rfl,(aa.put (aa.push rfl (aa.push rfl (aa.push rfl (aa.push rfl (aa.push rfl (aa.push rfl (aa.put (.refl _) (Less.eq (by rw [hB77]))))))))) (.refl _))⟩
      refine ae.val rfl (az (b:=false) rfl rfl) rfl ?_
      cases hzz75
      exact ae.nil ⟨_,rfl,(aa.put (aa.push rfl (aa.push rfl (aa.push rfl (aa.push rfl (aa.push rfl (aa.push rfl (aa.push rfl (aa.push rfl (aa.push rfl (aa.push rfl (aa.put (.refl _) (Less.eq (by rw [hB74]))))))))))))) (.refl _))⟩
     refine ae.val rfl (az (b:=true) rfl rfl) rfl ?_
     cases hzz73
     exact ae.nil ⟨_,rfl,(aa.put (aa.push rfl (aa.push rfl (aa.push rfl (aa.push rfl (aa.put (.refl _) (Less.eq (by rw [hB72]))))))) (.refl _))⟩
    refine ae.bool hB72 ?_
    refine ae.no rfl rfl ?_
    refine ae.no rfl rfl ?_
    refine ae.no rfl rfl ?_
    refine ae.no rfl rfl ?_
    refine ae.no rfl rfl ?_
    refine ae.no rfl rfl ?_
    refine ae.no rfl rfl ?_
    refine ae.no rfl rfl ?_
    refine ae.no rfl rfl ?_
    refine ae.no rfl rfl ?_
    refine ae.no rfl rfl ?_
    refine ae.no rfl rfl ?_
    refine ae.no rfl rfl ?_
    refine ae.no rfl rfl ?_
    refine ae.no rfl rfl ?_
    refine ae.no rfl rfl ?_
    refine ae.no rfl rfl ?_
    refine ae.no rfl rfl ?_
    refine ae.no rfl rfl ?_
    refine ae.no rfl rfl ?_
    refine ae.val rfl (az (b:=false) rfl rfl) rfl ?_
    replace hzz73:=dm hB72 hzz73
    cases hzz73
    exact ae.nil ⟨_,rfl,(aa.put (aa.push rfl (aa.push rfl (aa.push rfl (aa.push rfl (aa.push rfl (aa.push rfl (aa.push rfl (aa.push rfl (aa.push rfl (aa.push rfl (aa.push rfl (aa.push rfl (aa.push rfl (aa.push rfl (aa.push rfl (aa.push rfl (aa.push rfl (aa.push rfl (aa.push rfl (aa.push rfl (aa.put (.refl _) (Less.eq (by rw [hB72]))))))))))))))))))))))) (.refl _))⟩
   refine ae.val rfl (ah rfl) rfl ?_
   obtain ⟨z81,hzz81,h⟩:=bind_some h
   refine ae.bG 13 164 (.d (.bool z81)) ?_ ?_
   ·
    rcases Bool.eq_false_or_eq_true (z73) with hB80 | hB80
    ·
     refine ae.bool hB80 ?_
     replace hzz81:=di hB80 hzz81
     refine ae.val rfl (ah rfl) rfl ?_
     refine ae.val rfl (av rfl rfl bI) rfl ?_
     refine ae.val rfl (ah rfl) rfl ?_
     obtain ⟨z83,hzz83,hzz81⟩:=bind_some hzz81
     refine ae.bG 9 163 (.d (.bool z83)) ?_ ?_
     ·
      rcases Bool.eq_false_or_eq_true ((z51 == 0)) with hB82 | hB82
      ·
       refine ae.bool hB82 ?_
       refine ae.no rfl rfl ?_
       refine ae.no rfl rfl ?_
       refine ae.no rfl rfl ?_
       refine ae.no rfl rfl ?_
       refine ae.no rfl rfl ?_
       refine ae.no rfl rfl ?_
       refine ae.no rfl rfl ?_
       refine ae.no rfl rfl ?_
       refine ae.val rfl (az (b:=true) rfl rfl) rfl ?_
       replace hzz83:=di hB82 hzz83
       cases hzz83
       exact ae.nil ⟨_,rfl,(aa.put (aa.push rfl (aa.push rfl (aa.push rfl (aa.push rfl (aa.push rfl (aa.push rfl (aa.push rfl (aa.push rfl (aa.put (.refl _) (Less.eq (by rw [hB82]))))))))))) (.refl _))⟩
      refine ae.bool hB82 ?_
      replace hzz83:=dm hB82 hzz83
      refine ae.val rfl (ak rfl iL pW rfl) rfl ?_
      refine ae.val rfl (au H64 (i:=0) rfl rfl (aF pX rfl)) rfl ?_
      refine ae.val rfl (ah rfl) rfl ?_
      refine ae.val rfl (av rfl rfl iO) rfl ?_
      obtain ⟨z84,hzz84,hzz83⟩:=bind_some hzz83
      refine ae.val rfl (bR rfl rfl (df (enc:=ax) hzz84 kD iY ((Tree.len _).trans dL.symm))) rfl ?_
      refine ae.val rfl (gq rfl lY mD rfl) rfl ?_
      refine ae.val rfl (aX rfl (by rw [Tree.cells]; exact eO lM rfl)) rfl ?_
      refine ae.val rfl (av rfl rfl gY) rfl ?_
      refine ae.val rfl (az (b:=false) rfl rfl) rfl ?_
      cases hzz83
      exact ae.nil ⟨_,rfl,(aa.put (aa.push rfl (aa.push rfl (aa.push rfl (aa.push rfl (aa.push rfl (aa.push rfl (aa.push rfl (aa.push rfl (aa.put (.refl _) (Less.eq (by rw [hB82]))))))))))) (.refl _))⟩
     refine ae.val rfl (az (b:=true) rfl rfl) rfl ?_
     cases hzz81
     exact ae.nil ⟨_,rfl,(aa.put (aa.push rfl (aa.push rfl (aa.push rfl (aa.push rfl (aa.put (.refl _) (Less.eq (by rw [hB80]))))))) (.refl _))⟩
    refine ae.bool hB80 ?_
    refine ae.no rfl rfl ?_
    refine ae.no rfl rfl ?_
    refine ae.no rfl rfl ?_
    refine ae.no rfl rfl ?_
    refine ae.no rfl rfl ?_
    refine ae.no rfl rfl ?_
    refine ae.no rfl rfl ?_
    refine ae.no rfl rfl ?_
    refine ae.no rfl rfl ?_
    refine ae.no rfl rfl ?_
    refine ae.no rfl rfl ?_
    refine ae.no rfl rfl ?_
    refine ae.val rfl (az (b:=false) rfl rfl) rfl ?_
    replace hzz81:=dm hB80 hzz81
    cases hzz81
    exact ae.nil ⟨_,rfl,(aa.put (aa.push rfl (aa.push rfl (aa.push rfl (aa.push rfl (aa.push rfl (aa.push rfl (aa.push rfl (aa.push rfl (aa.push rfl (aa.push rfl (aa.push rfl (aa.push rfl (aa.put (.refl _) (Less.eq (by rw [hB80]))))))))))))))) (.refl _))⟩
   refine ae.val rfl (ah rfl) rfl ?_
   obtain ⟨z86,hzz86,h⟩:=bind_some h
   refine ae.bG 2 167 (.d (.bool z86)) ?_ ?_
   ·
    rcases Bool.eq_false_or_eq_true (z81) with hB85 | hB85
    ·
     refine ae.bool hB85 ?_
     replace hzz86:=di hB85 hzz86
     obtain ⟨z87,hzz87,hzz86⟩:=bind_some hzz86
     refine ae.ret rfl (aB rfl rfl) (ig E _  _ hzz87 _ _ .nil) rfl ?_
     refine ae.val rfl (az (b:=true) rfl rfl) rfl ?_
     cases hzz86
     exact ae.nil ⟨_,rfl,(aa.put (aa.push rfl (aa.put (.refl _) (Less.eq (by rw [hB85])))) (.refl _))⟩
    refine ae.bool hB85 ?_
    refine ae.no rfl rfl ?_
    refine ae.val rfl (az (b:=false) rfl rfl) rfl ?_
    replace hzz86:=dm hB85 hzz86
    cases hzz86
    exact ae.nil ⟨_,rfl,(aa.put (aa.push rfl (aa.put (.refl _) (Less.eq (by rw [hB85])))) (.refl _))⟩
   refine ae.val rfl (aj rfl) rfl ?_
   refine ae.nil ?_
   have hr:=Option.some.inj h
   subst hr
   exact ay.ret ⟨_,rfl,rfl,gG (aG.eq .nil)⟩
  refine ay.seq ?_
  refine ay.region E.obj rfl ?_
  refine ae.val rfl (ah rfl) rfl ?_
  refine ae.val rfl (av rfl rfl jA) rfl ?_
  refine ae.nil ?_
  refine ay.cond rfl (fun hb88=>?_) (fun hb88=>?_)
  ·
   replace h:=di hb88 h
   refine ay.region E.obj rfl ?_
   refine ae.val rfl (ah rfl) rfl ?_
   refine ae.val rfl (av rfl rfl cu) rfl ?_
   refine ae.val rfl (aj rfl) rfl ?_
   refine ae.nil ?_
   exact ⟨(IntKind.wrap .i64 (z50 + 1)),_,_,S61,.refl _ _,.refl _,(aa.r rfl (aa.r rfl (aa.r rfl (aa.r rfl (aa.r rfl aa.nil))))),H62.sl [0] rfl rfl,h⟩
  replace h:=dm hb88 h
  refine ay.skip ?_
  exact ⟨z50,_,_,S61,.refl _ _,.refl _,(aa.r rfl (aa.r rfl (aa.r rfl (aa.r rfl (aa.r rfl aa.nil))))),H62.sl [0] rfl rfl,h⟩
 obtain ⟨z90,hzz90,h⟩:=bind_some h
 obtain ⟨z94,hzz94,h⟩:=bind_some h
 obtain ⟨z98,hzz98,h⟩:=bind_some h
 refine ay.Eo E.obj tJ Gw [(3,none),(4,none),(11,none),(12,none),(13,none),(14,none),(15,none),(16,some 11),(17,some 13)] (by kernel_rfl) 4 [3,5,11,12] (by decide) [some (.d (aD z9)),some (.d (.sl (([]).map (D.int .i64)) true)),some v18,none,some (.d (.sl (([5]).map (D.int .i64)) true)),none,some (.d (.sl ((z21).map aH) false)),none,none,none,none,none,none,none] ?_
 refine ⟨[3,11],[0,1,2,4,6],⟨by decide,by decide⟩,by kernel_rfl,?_,?_⟩
 ·
  refine .cons rfl rfl rfl (.step ?_) ?_
  ·
   refine ae.val rfl (au H27 (i:=2) rfl rfl (aV fU dP rfl)) rfl ?_
   refine ae.less (Less.agg' (d:=aD z9) (ai.eq rfl (ai.eq rfl (ai.eq rfl (ai.eq rfl (ai.eq rfl (ai.eq rfl .nil)))))) ((aQ.eq _).trans rfl)) ?_
   exact ae.nil ⟨_,_,rfl,fun _ ht=>by cases ht; exact ⟨rfl,.refl _⟩⟩
  refine .v rfl rfl rfl rfl (jg lq jw kC) ?_
  refine .v rfl rfl rfl rfl (ah rfl) ?_
  refine .v rfl rfl rfl rfl (aM (vs:=[(.d (.int .i64 5))]) (ds:=[(.int .i64 5)]) lq jw kC Cm oK rfl (by decide) (.cons rfl rfl .nil) rfl (by intro d hd; simp only [List.mem_cons,List.not_mem_nil,or_false] at hd; rcases hd with rfl <;> rfl) rfl) ?_
  refine .v rfl rfl rfl rfl (ah rfl) ?_
  exact .nil
 intro i hw104
 simp only [List.mem_cons,List.not_mem_nil,or_false] at hw104
 rcases hw104 with rfl | rfl
 ·
  refine ⟨_,_,rfl,rfl,.step ?_⟩
  have H105:=H27.sW (([]).map (D.int .i64))
  refine ae.append (xs:=([]).map (D.int .i64)) (ys:=(z17).map (D.int .i64)) (zs:=(z90).map (D.int .i64)) H105 rfl rfl rfl (i:=0) rfl (nz (H105.at (i:=2) rfl)).2.1 lq yH jw (fe hzz90) DZ rfl (bP (enc:=(D.int .i64)) (fun _=>oK.symm) _) (bP (enc:=(D.int .i64)) (fun _=>oK.symm) _) Dn rfl (ji hzz90) (fun v106 S107 H108=>?_)
  refine ae.nil ⟨_,_,_,rfl,(fun _ ht=>by cases ht; rfl),_,(.o (.o (.o (.w v106 (.o (.n (.o (.m (.n (.n (.n .nil))))))))))),(fun _ ht=>by cases ht; exact ⟨_,rfl,.refl _⟩),?_⟩
  refine ⟨[5,11],[0,4,6],⟨by decide,by decide⟩,by kernel_rfl,?_,?_⟩
  ·
   refine .cons rfl rfl rfl (.step ?_) ?_
   ·
    refine ae.val rfl (au H108 (i:=3) rfl rfl (aV fU dP rfl)) rfl ?_
    refine ae.less (Less.agg' (d:=aD z9) (ai.eq rfl (ai.eq rfl (ai.eq rfl (ai.eq rfl (ai.eq rfl (ai.eq rfl .nil)))))) ((aQ.eq _).trans rfl)) ?_
    exact ae.nil ⟨_,_,rfl,fun _ ht=>by cases ht; exact ⟨rfl,.refl _⟩⟩
   refine .v rfl rfl rfl rfl (aM (vs:=[(.d (.int .i64 5))]) (ds:=[(.int .i64 5)]) lq jw kC Cm oK rfl (by decide) (.cons rfl rfl .nil) rfl (by intro d hd; simp only [List.mem_cons,List.not_mem_nil,or_false] at hd; rcases hd with rfl <;> rfl) rfl) ?_
   refine .v rfl rfl rfl rfl (ah rfl) ?_
   exact .nil
  intro i hw109
  simp only [List.mem_cons,List.not_mem_nil,or_false] at hw109
  rcases hw109 with rfl | rfl
  ·
   refine ⟨_,_,rfl,rfl,.step ?_⟩
   refine ae.append (xs:=(z90).map (D.int .i64)) (ys:=([5]).map (D.int .i64)) (zs:=(z94).map (D.int .i64)) H108 rfl rfl rfl (i:=0) rfl rfl lq yH jw (fe hzz94) DZ rfl (bP (enc:=(D.int .i64)) (fun _=>oK.symm) _) (bP (enc:=(D.int .i64)) (fun _=>oK.symm) _) Dn rfl (ji hzz94) (fun v110 S111 H112=>?_)
   refine ae.nil ⟨_,_,_,rfl,(fun _ ht=>by cases ht; rfl),_,(.q (.o (.w v110 (.o (.w (.tup [(.d (ax z98.1)),(.d (.int .i64 z98.2))]) (.w (.tup [(.d (ax z98.1)),(.d (.int .i64 z98.2))]) (.w (.d (ax z98.1)) (.w (.d (.int .i64 z98.2)) (.n (.n (.n .nil))))))))))),(fun _ ht=>by cases ht; exact ⟨_,rfl,.refl _⟩),?_⟩
   refine ⟨[11],[0,6,7,8,9,10],⟨by decide,by decide⟩,by kernel_rfl,?_,?_⟩
   ·
    refine .cons rfl rfl rfl (.step ?_) ?_
    ·
     refine ae.val rfl (au H112 (i:=3) rfl rfl (aV fU dP rfl)) rfl ?_
     refine ae.less (Less.agg' (d:=aD z9) (ai.eq rfl (ai.eq rfl (ai.eq rfl (ai.eq rfl (ai.eq rfl (ai.eq rfl .nil)))))) ((aQ.eq _).trans rfl)) ?_
     exact ae.nil ⟨_,_,rfl,fun _ ht=>by cases ht; exact ⟨rfl,.refl _⟩⟩
    refine .v rfl rfl rfl rfl (ah rfl) ?_
    refine .cons rfl rfl rfl (.step ?_) ?_
    ·
     refine ae.ret rfl (aB rfl rfl) (dO E _ _ _ _ _ hzz98 _ _ (aG.eq (aG.grow H112 (i:=0) rfl (aG.eq .nil)))) rfl ?_
     exact ae.nil ⟨_,_,rfl,fun _ ht=>by cases ht; exact ⟨rfl,.refl _⟩⟩
    refine .v rfl rfl rfl rfl (ah rfl) ?_
    refine .v rfl rfl rfl rfl (aS rfl rfl) ?_
    refine .v rfl rfl rfl rfl (aS rfl rfl) ?_
    exact .nil
   intro i hw113
   simp only [List.mem_cons,List.not_mem_nil,or_false] at hw113
   rcases hw113 with rfl
   refine ⟨_,_,rfl,rfl,.step ?_⟩
   refine ae.alloc H112 rfl pE iw rfl rfl (fun b114 S115 H116=>?_)
   refine ae.nil ⟨_,_,_,rfl,(fun _ ht=>by cases ht; rfl),_,(.q (.q (.o (.o (.o (.w (.ptr b114 0 0) (.n (.n .nil)))))))),(fun _ ht=>by cases ht; exact ⟨_,rfl,.refl _⟩),?_⟩
   refine ⟨[12],[0,6,7,8,9,10],⟨by decide,by decide⟩,by kernel_rfl,?_,?_⟩
   ·
    refine .cons rfl rfl rfl (.step ?_) ?_
    ·
     refine ae.val rfl (au H116 (i:=4) rfl rfl (aV fU dP rfl)) rfl ?_
     refine ae.less (Less.agg' (d:=aD z9) (ai.eq rfl (ai.eq rfl (ai.eq rfl (ai.eq rfl (ai.eq rfl (ai.eq rfl .nil)))))) ((aQ.eq _).trans rfl)) ?_
     exact ae.nil ⟨_,_,rfl,fun _ ht=>by cases ht; exact ⟨rfl,.refl _⟩⟩
    refine .v rfl rfl rfl rfl (ah rfl) ?_
    refine .cons rfl rfl rfl (.step ?_) ?_
    ·
     refine ae.ret rfl (aB rfl rfl) (dO E _ _ _ _ _ hzz98 _ _ (aG.eq (aG.grow H116 (i:=1) rfl (aG.eq .nil)))) rfl ?_
     exact ae.nil ⟨_,_,rfl,fun _ ht=>by cases ht; exact ⟨rfl,.refl _⟩⟩
    refine .v rfl rfl rfl rfl (ah rfl) ?_
    refine .v rfl rfl rfl rfl (aS rfl rfl) ?_
    refine .v rfl rfl rfl rfl (aS rfl rfl) ?_
    exact .nil
   intro i hw117
   simp only [List.mem_cons,List.not_mem_nil,or_false] at hw117
   rcases hw117 with rfl
   refine ⟨_,_,rfl,rfl,.step ?_⟩
   refine ae.store H116 (i:=0) rfl rfl rfl rfl (Tree.bJ _) rfl dL rfl iY rfl rfl rfl (fun S118 H119=>?_)
   refine ae.nil ⟨_,.any,_,rfl,(fun _ ht=>by cases ht),_,(.q (.q (.q (.w .any (.w (.d (.int .i64 z98.2)) .nil))))),(fun _ ht=>by cases ht),?_⟩
   refine ⟨rfl,[10,13],by kernel_rfl,?_,_,rfl,?_⟩
   ·
    refine .v rfl rfl rfl rfl (aS rfl rfl) ?_
    refine .v rfl rfl rfl rfl (aj rfl) ?_
    exact .nil
   exact ⟨⟨z98.1,b114,z98.2⟩,_,_,S118,.refl _ _,.refl _,(aa.r rfl (aa.r rfl (aa.r rfl (aa.r rfl (aa.r rfl (aa.r rfl (aa.r rfl (aa.r rfl (aa.r rfl aa.nil))))))))),H119.sl [2,3,4,0] rfl rfl,h⟩
  refine ⟨_,_,rfl,rfl,.step ?_⟩
  refine ae.alloc H108 rfl pE iw rfl rfl (fun b120 S121 H122=>?_)
  refine ae.nil ⟨_,_,_,rfl,(fun _ ht=>by cases ht; rfl),_,(.q (.o (.n (.o (.m (.w (.ptr b120 0 0) (.n (.n .nil)))))))),(fun _ ht=>by cases ht; exact ⟨_,rfl,.refl _⟩),?_⟩
  refine ⟨[5],[0,4,6],⟨by decide,by decide⟩,by kernel_rfl,?_,?_⟩
  ·
   refine .cons rfl rfl rfl (.step ?_) ?_
   ·
    refine ae.val rfl (au H122 (i:=4) rfl rfl (aV fU dP rfl)) rfl ?_
    refine ae.less (Less.agg' (d:=aD z9) (ai.eq rfl (ai.eq rfl (ai.eq rfl (ai.eq rfl (ai.eq rfl (ai.eq rfl .nil)))))) ((aQ.eq _).trans rfl)) ?_
    exact ae.nil ⟨_,_,rfl,fun _ ht=>by cases ht; exact ⟨rfl,.refl _⟩⟩
   refine .v rfl rfl rfl rfl (aM (vs:=[(.d (.int .i64 5))]) (ds:=[(.int .i64 5)]) lq jw kC Cm oK rfl (by decide) (.cons rfl rfl .nil) rfl (by intro d hd; simp only [List.mem_cons,List.not_mem_nil,or_false] at hd; rcases hd with rfl <;> rfl) rfl) ?_
   refine .v rfl rfl rfl rfl (ah rfl) ?_
   exact .nil
  intro i hw123
  simp only [List.mem_cons,List.not_mem_nil,or_false] at hw123
  rcases hw123 with rfl
  refine ⟨_,_,rfl,rfl,.step ?_⟩
  refine ae.append (xs:=(z90).map (D.int .i64)) (ys:=([5]).map (D.int .i64)) (zs:=(z94).map (D.int .i64)) H122 rfl rfl rfl (i:=1) rfl rfl lq yH jw (fe hzz94) DZ rfl (bP (enc:=(D.int .i64)) (fun _=>oK.symm) _) (bP (enc:=(D.int .i64)) (fun _=>oK.symm) _) Dn rfl (ji hzz94) (fun v124 S125 H126=>?_)
  refine ae.nil ⟨_,_,_,rfl,(fun _ ht=>by cases ht; rfl),_,(.q (.o (.w v124 (.o (.w (.tup [(.d (ax z98.1)),(.d (.int .i64 z98.2))]) (.w (.tup [(.d (ax z98.1)),(.d (.int .i64 z98.2))]) (.w (.d (ax z98.1)) (.w (.d (.int .i64 z98.2)) (.o (.n (.n .nil))))))))))),(fun _ ht=>by cases ht; exact ⟨_,rfl,.refl _⟩),?_⟩
  refine ⟨[12],[0,6,7,8,9,10],⟨by decide,by decide⟩,by kernel_rfl,?_,?_⟩
  ·
   refine .cons rfl rfl rfl (.step ?_) ?_
   ·
    refine ae.val rfl (au H126 (i:=4) rfl rfl (aV fU dP rfl)) rfl ?_
    refine ae.less (Less.agg' (d:=aD z9) (ai.eq rfl (ai.eq rfl (ai.eq rfl (ai.eq rfl (ai.eq rfl (ai.eq rfl .nil)))))) ((aQ.eq _).trans rfl)) ?_
    exact ae.nil ⟨_,_,rfl,fun _ ht=>by cases ht; exact ⟨rfl,.refl _⟩⟩
   refine .v rfl rfl rfl rfl (ah rfl) ?_
   refine .cons rfl rfl rfl (.step ?_) ?_
   ·
    refine ae.ret rfl (aB rfl rfl) (dO E _ _ _ _ _ hzz98 _ _ (aG.eq (aG.grow H126 (i:=1) rfl (aG.eq .nil)))) rfl ?_
    exact ae.nil ⟨_,_,rfl,fun _ ht=>by cases ht; exact ⟨rfl,.refl _⟩⟩
   refine .v rfl rfl rfl rfl (ah rfl) ?_
   refine .v rfl rfl rfl rfl (aS rfl rfl) ?_
   refine .v rfl rfl rfl rfl (aS rfl rfl) ?_
   exact .nil
  intro i hw127
  simp only [List.mem_cons,List.not_mem_nil,or_false] at hw127
  rcases hw127 with rfl
  refine ⟨_,_,rfl,rfl,.step ?_⟩
  refine ae.store H126 (i:=0) rfl rfl rfl rfl (Tree.bJ _) rfl dL rfl iY rfl rfl rfl (fun S128 H129=>?_)
  refine ae.nil ⟨_,.any,_,rfl,(fun _ ht=>by cases ht),_,(.q (.q (.q (.w .any (.w (.d (.int .i64 z98.2)) .nil))))),(fun _ ht=>by cases ht),?_⟩
  refine ⟨rfl,[10,13],by kernel_rfl,?_,_,rfl,?_⟩
  ·
   refine .v rfl rfl rfl rfl (aS rfl rfl) ?_
   refine .v rfl rfl rfl rfl (aj rfl) ?_
   exact .nil
  exact ⟨⟨z98.1,b120,z98.2⟩,_,_,S128,.refl _ _,.refl _,(aa.r rfl (aa.r rfl (aa.r rfl (aa.r rfl (aa.r rfl (aa.r rfl (aa.r rfl (aa.r rfl (aa.r rfl aa.nil))))))))),H129.sl [2,3,4,0] rfl rfl,h⟩
 refine ⟨_,_,rfl,rfl,.step ?_⟩
 refine ae.alloc H27 rfl pE iw rfl rfl (fun b130 S131 H132=>?_)
 refine ae.nil ⟨_,_,_,rfl,(fun _ ht=>by cases ht; rfl),_,(.o (.o (.o (.n (.o (.n (.o (.m (.w (.ptr b130 0 0) (.n (.n .nil))))))))))),(fun _ ht=>by cases ht; exact ⟨_,rfl,.refl _⟩),?_⟩
 refine ⟨[3],[0,1,2,4,6],⟨by decide,by decide⟩,by kernel_rfl,?_,?_⟩
 ·
  refine .cons rfl rfl rfl (.step ?_) ?_
  ·
   refine ae.val rfl (au H132 (i:=3) rfl rfl (aV fU dP rfl)) rfl ?_
   refine ae.less (Less.agg' (d:=aD z9) (ai.eq rfl (ai.eq rfl (ai.eq rfl (ai.eq rfl (ai.eq rfl (ai.eq rfl .nil)))))) ((aQ.eq _).trans rfl)) ?_
   exact ae.nil ⟨_,_,rfl,fun _ ht=>by cases ht; exact ⟨rfl,.refl _⟩⟩
  refine .v rfl rfl rfl rfl (jg lq jw kC) ?_
  refine .v rfl rfl rfl rfl (ah rfl) ?_
  refine .v rfl rfl rfl rfl (aM (vs:=[(.d (.int .i64 5))]) (ds:=[(.int .i64 5)]) lq jw kC Cm oK rfl (by decide) (.cons rfl rfl .nil) rfl (by intro d hd; simp only [List.mem_cons,List.not_mem_nil,or_false] at hd; rcases hd with rfl <;> rfl) rfl) ?_
  refine .v rfl rfl rfl rfl (ah rfl) ?_
  exact .nil
 intro i hw133
 simp only [List.mem_cons,List.not_mem_nil,or_false] at hw133
 rcases hw133 with rfl
 refine ⟨_,_,rfl,rfl,.step ?_⟩
 have H134:=H132.sW (([]).map (D.int .i64))
 refine ae.append (xs:=([]).map (D.int .i64)) (ys:=(z17).map (D.int .i64)) (zs:=(z90).map (D.int .i64)) H134 rfl rfl rfl (i:=0) rfl (nz (H134.at (i:=3) rfl)).2.1 lq yH jw (fe hzz90) DZ rfl (bP (enc:=(D.int .i64)) (fun _=>oK.symm) _) (bP (enc:=(D.int .i64)) (fun _=>oK.symm) _) Dn rfl (ji hzz90) (fun v135 S136 H137=>?_)
 refine ae.nil ⟨_,_,_,rfl,(fun _ ht=>by cases ht; rfl),_,(.o (.o (.o (.w v135 (.o (.n (.o (.m (.o (.n (.n .nil))))))))))),(fun _ ht=>by cases ht; exact ⟨_,rfl,.refl _⟩),?_⟩
 refine ⟨[5],[0,4,6],⟨by decide,by decide⟩,by kernel_rfl,?_,?_⟩
 ·
  refine .cons rfl rfl rfl (.step ?_) ?_
  ·
   refine ae.val rfl (au H137 (i:=4) rfl rfl (aV fU dP rfl)) rfl ?_
   refine ae.less (Less.agg' (d:=aD z9) (ai.eq rfl (ai.eq rfl (ai.eq rfl (ai.eq rfl (ai.eq rfl (ai.eq rfl .nil)))))) ((aQ.eq _).trans rfl)) ?_
   exact ae.nil ⟨_,_,rfl,fun _ ht=>by cases ht; exact ⟨rfl,.refl _⟩⟩
  refine .v rfl rfl rfl rfl (aM (vs:=[(.d (.int .i64 5))]) (ds:=[(.int .i64 5)]) lq jw kC Cm oK rfl (by decide) (.cons rfl rfl .nil) rfl (by intro d hd; simp only [List.mem_cons,List.not_mem_nil,or_false] at hd; rcases hd with rfl <;> rfl) rfl) ?_
  refine .v rfl rfl rfl rfl (ah rfl) ?_
  exact .nil
 intro i hw138
 simp only [List.mem_cons,List.not_mem_nil,or_false] at hw138
 rcases hw138 with rfl
 refine ⟨_,_,rfl,rfl,.step ?_⟩
 refine ae.append (xs:=(z90).map (D.int .i64)) (ys:=([5]).map (D.int .i64)) (zs:=(z94).map (D.int .i64)) H137 rfl rfl rfl (i:=0) rfl rfl lq yH jw (fe hzz94) DZ rfl (bP (enc:=(D.int .i64)) (fun _=>oK.symm) _) (bP (enc:=(D.int .i64)) (fun _=>oK.symm) _) Dn rfl (ji hzz94) (fun v139 S140 H141=>?_)
 refine ae.nil ⟨_,_,_,rfl,(fun _ ht=>by cases ht; rfl),_,(.q (.o (.w v139 (.o (.w (.tup [(.d (ax z98.1)),(.d (.int .i64 z98.2))]) (.w (.tup [(.d (ax z98.1)),(.d (.int .i64 z98.2))]) (.w (.d (ax z98.1)) (.w (.d (.int .i64 z98.2)) (.o (.n (.n .nil))))))))))),(fun _ ht=>by cases ht; exact ⟨_,rfl,.refl _⟩),?_⟩
 refine ⟨[12],[0,6,7,8,9,10],⟨by decide,by decide⟩,by kernel_rfl,?_,?_⟩
 ·
  refine .cons rfl rfl rfl (.step ?_) ?_
  ·
   refine ae.val rfl (au H141 (i:=4) rfl rfl (aV fU dP rfl)) rfl ?_
   refine ae.less (Less.agg' (d:=aD z9) (ai.eq rfl (ai.eq rfl (ai.eq rfl (ai.eq rfl (ai.eq rfl (ai.eq rfl .nil)))))) ((aQ.eq _).trans rfl)) ?_
   exact ae.nil ⟨_,_,rfl,fun _ ht=>by cases ht; exact ⟨rfl,.refl _⟩⟩
  refine .v rfl rfl rfl rfl (ah rfl) ?_
  refine .cons rfl rfl rfl (.step ?_) ?_
  ·
   refine ae.ret rfl (aB rfl rfl) (dO E _ _ _ _ _ hzz98 _ _ (aG.eq (aG.grow H141 (i:=0) rfl (aG.eq .nil)))) rfl ?_
   exact ae.nil ⟨_,_,rfl,fun _ ht=>by cases ht; exact ⟨rfl,.refl _⟩⟩
  refine .v rfl rfl rfl rfl (ah rfl) ?_
  refine .v rfl rfl rfl rfl (aS rfl rfl) ?_
  refine .v rfl rfl rfl rfl (aS rfl rfl) ?_
  exact .nil
 intro i hw142
 simp only [List.mem_cons,List.not_mem_nil,or_false] at hw142
 rcases hw142 with rfl
 refine ⟨_,_,rfl,rfl,.step ?_⟩
 refine ae.store H141 (i:=1) rfl rfl rfl rfl (Tree.bJ _) rfl dL rfl iY rfl rfl rfl (fun S143 H144=>?_)
 refine ae.nil ⟨_,.any,_,rfl,(fun _ ht=>by cases ht),_,(.q (.q (.q (.w .any (.w (.d (.int .i64 z98.2)) .nil))))),(fun _ ht=>by cases ht),?_⟩
 refine ⟨rfl,[10,13],by kernel_rfl,?_,_,rfl,?_⟩
 ·
  refine .v rfl rfl rfl rfl (aS rfl rfl) ?_
  refine .v rfl rfl rfl rfl (aj rfl) ?_
  exact .nil
 exact ⟨⟨z98.1,b130,z98.2⟩,_,_,S143,.refl _ _,.refl _,(aa.r rfl (aa.r rfl (aa.r rfl (aa.r rfl (aa.r rfl (aa.r rfl (aa.r rfl (aa.r rfl (aa.r rfl aa.nil))))))))),H144.sl [2,3,4,1] rfl rfl,h⟩
end
end Pr
end Go.Ev

namespace Go.Ev
namespace Pr
set_option linter.unusedVariables false
set_option linter.unusedSimpArgs false
theorem nL {n:Int} (h0:-9223372036854775808 ≤ n) (h1:n ≤ 9223372036854775807):IntKind.wrap .i64 n=n:=Go.IntWalk.i64_in n ⟨h0,h1⟩
theorem iQ {α:Type} (l:List α) (i:Nat):idx l (i:Int)=l[i]?:=by
 unfold idx
 rw [if_pos (by omega)]
 simp
theorem jl {α:Type} {l done rest:List α} {z:α} (h:l=done ++ z :: rest):idx l (done.length:Int)=some z:=by
 rw [iQ,h]; simp
theorem qB {α:Type} (l:List α) {i:Int} (h0:0 ≤ i) (h1:i < l.length):∃ x,idx l i=some x∧x ∈ l∧l[i.toNat]? = some x:=by
 obtain ⟨j,rfl⟩:=Int.eq_ofNat_of_zero_le h0
 have hj:j < l.length:=by omega
 exact ⟨l[j],by rw [iQ]; exact List.getElem?_eq_getElem hj,List.getElem_mem hj,by simp [hj]⟩
theorem l8 {α:Type} {nb:Nat} {l ys:List α} (h:(l.length + ys.length) * nb ≤ bound):app nb l ys=some (l ++ ys):=by
 unfold app; rw [if_pos h]
theorem zy {k:IntKind} {a b:Int} (h:b ≠ 0):AP k a b=some (a.tmod b):=by
 unfold AP; rw [if_neg h]
theorem bnd:bound=70368744177664:=rfl
end Pr
end Go.Ev

namespace Go.Ev
namespace Pr
namespace S
set_option linter.unusedVariables false
set_option linter.unusedSimpArgs false
set_option linter.unusedSectionVars false
theorem gV (n:Nat) (a lo hi:Int) (h1:lo ≤ hi) (h2:-1000000000000 ≤ lo) (h3:hi ≤ 1000000000000000):∃ r,aY n a lo hi=some r∧lo ≤ r∧r ≤ hi:=by
 unfold aY
 rw [nL (n:=hi - lo) (by omega) (by omega),nL (by omega) (by omega),zy (by omega),Option.bind_some]
 have k1:=Int.tmod_lt_of_pos a (show 0 < hi - lo + 1 by omega)
 have k2:=Int.lt_tmod_of_pos a (show 0 < hi - lo + 1 by omega)
 unfold dD
 by_cases hz:a.tmod (hi - lo + 1) < 0
 ·
  rw [if_pos (by simpa using hz)]
  rw [nL (n:=a.tmod (hi - lo + 1) + hi) (by omega) (by omega),nL (n:=a.tmod (hi - lo + 1) + hi - lo) (by omega) (by omega),nL (n:=a.tmod (hi - lo + 1) + hi - lo + 1) (by omega) (by omega),nL (by omega) (by omega)]
  exact ⟨_,rfl,by omega,by omega⟩
 ·
  rw [if_neg (by simpa using hz),nL (by omega) (by omega)]
  exact ⟨_,rfl,by omega,by omega⟩
theorem wo (n:Nat) (l:List Int) (i:Int) (h:0 ≤ i):∃ r,dX n l i=some r:=by
 unfold dX
 by_cases h0:l.length=0
 ·
  rw [if_pos (by simp; exact List.eq_nil_of_length_eq_zero h0)]; exact ⟨_,rfl⟩
 ·
  rw [if_neg (by simp; intro q; exact h0 (by rw [q]; rfl)),zy (by omega),Option.bind_some]
  have hp:(0:Int) < (l.length:Int):=by omega
  obtain ⟨x,hx,_⟩:=qB l (i:=i.tmod l.length) (Int.tmod_nonneg _ h) (Int.tmod_lt_of_pos _ hp)
  exact ⟨x,by rw [hx]; rfl⟩
mutual
def iM:aQ→Nat
 | .mk _ _ _ _ _ ks=>1 + jH ks
def jH:List aQ→Nat
 | []=>0
 | t :: l=>iM t + jH l
end
mutual
def nM:aQ→Nat
 | .mk _ _ _ _ _ ks=>1 + mM ks
def mM:List aQ→Nat
 | []=>0
 | t :: l=>max (nM t) (mM l)
end
theorem eP (t:aQ):iM t=1 + jH t.Kids:=by cases t; rw [iM]; rfl
theorem vw (t:aQ):nM t=1 + mM t.Kids:=by cases t; rw [nM]; rfl
theorem nE:∀ (l:List aQ),l.length ≤ jH l
 | []=>Nat.le_refl _
 | x :: l=>by
  have:=nE l
  have:=eP x
  simp only [List.length_cons,jH]; omega
theorem vC:∀ {l:List aQ} {z:aQ},z ∈ l→iM z ≤ jH l
 | x :: l,z,h=>by
  rcases List.mem_cons.1 h with rfl | h
  ·
   simp only [jH]; omega
  ·
   have:=vC h
   simp only [jH]; omega
theorem jE {t z:aQ} (h:z ∈ t.Kids):iM z < iM t:=by
 have:=vC h
 have:=eP t; omega
def kJ:Str:=[111,117,116,108,101,116]
mutual
def pg (m:Int):aQ→Prop
 | .mk k n g x a ks=>(1 ≤ k∧k ≤ m)∧(k ≠ 1→k ≠ 5→k ≠ 6→ks=[])∧g ≠ kJ∧(0 ≤ n∧n ≤ 4)∧a.length ≤ 64∧Ej m ks
def Ej (m:Int):List aQ→Prop
 | []=>True
 | t :: l=>pg m t∧Ej m l
end
theorem zY {m:Int}:∀ {l:List aQ},Ej m l↔∀ z ∈ l,pg m z
 | []=>by simp [Ej]
 | t :: l=>by
  rw [Ej,zY (l:=l)]; simp
theorem yP {m:Int} (t:aQ):pg m t↔(1 ≤ t.Kind∧t.Kind ≤ m)∧(t.Kind ≠ 1→t.Kind ≠ 5→t.Kind ≠ 6→t.Kids=[])∧t.Tag ≠ kJ∧(0 ≤ t.N∧t.N ≤ 4)∧t.aI.length ≤ 64∧(∀ z ∈ t.Kids,pg m z):=by
 cases t
 rw [pg,zY]; rfl
theorem jZ (n:Nat) (self:aQ→Option (Int × Int)) (t:aQ) (hs:∀ z ∈ t.Kids,self z=some ((iM z:Int),(nM z:Int))) (hl:iM t < 1000000) (hD:∀ z ∈ t.Kids,nM z < 1000000):∀ (rest done:List aQ) (k a d:Nat),t.Kids=done ++ rest→rest.length < k→a + jH rest < 2000000→d < 1000000 →
  dS self t k (a:Int) (d:Int) (done.length:Int)=some (((a + jH rest:Nat):Int),((max d (mM rest) + 1:Nat):Int))
 | [],done,k + 1,a,d,h,hk,ha,hd=>by
  rw [dS,if_neg (by rw [h]; simp),nL (by omega) (by omega)]
  simp [jH,mM]
 | z :: rest,done,k + 1,a,d,h,hk,ha,hd=>by
  have hlen:done.length < t.Kids.length:=by rw [h]; simp
  have:=nE t.Kids
  have:=eP t
  have hz:z ∈ t.Kids:=by rw [h]; simp
  have hdz:=hD z hz
  simp only [jH] at ha
  rw [dS,if_pos (by rw [decide_eq_true_eq]; omega),jl h,Option.bind_some,hs z hz,Option.bind_some]
  have e:mO (d:Int) (nM z:Int)=((max d (nM z):Nat):Int):=by unfold mO; split <;> omega
  simp only [e]
  rw [nL (n:=(a:Int) + (iM z:Int)) (by omega) (by omega),nL (n:=(done.length:Int) + 1) (by omega) (by omega)]
  have:=jZ n self t hs hl hD rest (done ++ [z]) k (a + iM z) (max d (nM z)) (by simp [h]) (by simp at hk; omega) (by omega) (by omega)
  simp only [List.length_append,List.length_cons,List.length_nil,Nat.zero_add,Int.natCast_add,Int.cast_ofNat_Int] at this
  rw [this]
  simp only [jH,mM,Option.some.injEq,Prod.mk.injEq]
  refine ⟨by omega,by omega⟩
theorem zA:∀ (m:Nat) (t:aQ),iM t ≤ m→nM t ≤ iM t
 | 0,t,h=>by have:=eP t; omega
 | m + 1,t,h=>by
  rw [eP,vw]
  have:∀ (l:List aQ),(∀ z ∈ l,nM z ≤ iM z)→mM l ≤ jH l:=by
   intro l
   induction l with
   | nil=>intro _; exact Nat.le_refl _
   | cons z l ih =>
    intro hz
    have h1:=hz z (by simp)
    have h2:=ih (fun y hy=>hz y (by simp [hy]))
    simp only [mM,jH]; omega
  have:=this t.Kids (fun z hz=>zA m z (by have:=jE hz; omega))
  omega
theorem pz:∀ (m:Nat) (t:aQ),iM t ≤ m→m < 1000000→∀ n,m < n→fH n t=some ((iM t:Int),(nM t:Int))
 | 0,t,h,_,n,_=>by have:=eP t; omega
 | m + 1,t,h,hm,n + 1,hn=>by
  have hk:=eP t
  have hlen:=nE t.Kids
  rw [fH]
  have:=jZ n (fH n) t (fun z hz=>pz m z (by have:=jE hz; omega) (by omega) n (by omega)) (by omega) (fun z hz=>by
   have:=zA (iM z) z (Nat.le_refl _)
   have:=jE hz; omega) t.Kids [] n 1 0 rfl (by omega) (by omega) (by omega)
  simp only [List.length_nil,Int.natCast_zero,Int.ofNat_zero,Int.cast_ofNat_Int,Int.natCast_one,Int.ofNat_one] at this
  rw [this,eP,vw]
  simp only [Option.some.injEq,Prod.mk.injEq,true_and]
  omega
def DL (t:bu):Prop:=(1 ≤ t.Kind∧t.Kind ≤ 7)∧t.Tag ≠ kJ∧(0 ≤ t.N∧t.N ≤ 4)∧t.aI.length ≤ 64
def opens (t:bu):Prop:=t.Kind=1∨t.Kind=5∨t.Kind=6
structure Wd (nodes:List bu) (under:List Int) (lv:List Nat):Prop where
 lu:under.length=nodes.length
 ll:lv.length=nodes.length
 pos:0 < nodes.length
 le:nodes.length ≤ 13
 ok:∀ (j:Nat) (t:bu),nodes[j]? = some t→DL t
 root:under[0]? = some (-1)∧lv[0]? = some 1
 par:∀ (j:Nat),0 < j→j < nodes.length→∃ (p:Nat) (t:bu) (v:Nat),under[j]? = some (p:Int)∧p < j∧nodes[p]? = some t∧opens t∧lv[p]? = some v∧lv[j]? = some (v + 1)
 lim:∀ (j v:Nat),lv[j]? = some v→v ≤ 7∧1 ≤ v
section
variable {nodes:List bu} {under:List Int} {lv:List Nat}
theorem zJ (h:Wd nodes under lv):∀ (m j v:Nat),j ≤ m→lv[j]? = some v→∀ (k:Nat) (acc:Int),v + 1 < k→0 ≤ acc→acc + v ≤ 60→bN under k (j:Int) acc=some (acc + v)
 | m,0,v,_,hv,k + 2,acc,hk,h0,h1=>by
  have hr:=h.root
  rw [hr.2] at hv; cases hv
  rw [bN,if_pos (by simp; omega)]
  have:idx under ((0:Nat):Int)=some (-1):=by rw [iQ]; exact hr.1
  rw [this,Option.bind_some,nL (by omega) (by omega),bN,if_neg (by simp)]
  rfl
 | m + 1,j + 1,v,hj,hv,k + 1,acc,hk,h0,h1=>by
  have hjl:j + 1 < nodes.length:=by
   have:=(List.getElem?_eq_some_iff.1 hv).1
   rw [h.ll] at this; exact this
  obtain ⟨p,t,v',hu,hp,_,_,hvp,hvj⟩:=h.par (j + 1) (by omega) hjl
  rw [hv] at hvj; cases hvj
  have hl:=(h.lim (j + 1) (v' + 1) hv).1
  rw [bN,if_pos (by simp; omega)]
  have:idx under ((j + 1:Nat):Int)=some (p:Int):=by rw [iQ]; exact hu
  rw [this,Option.bind_some,nL (by omega) (by omega)]
  rw [zJ h m p v' (by omega) hvp k (acc + 1) (by omega) (by omega) (by omega)]
  congr 1
  push_cast; omega
 | m,0,v,_,hv,1,acc,hk,_,_=>by omega
theorem AZ (h:Wd nodes under lv) (n:Nat) (hn:20 < n) {j v:Nat} (hv:lv[j]? = some v):fO n under (j:Int)=some (v:Int):=by
 have hl:=(h.lim j v hv).1
 unfold fO
 rw [zJ h j j v (Nat.le_refl _) hv n 0 (by omega) (by omega) (by omega)]
 simp
def jr (under:List Int) (at_:Nat) (l:List Nat):List Nat:=l.filter fun j=>under[j]? == some (at_:Int)
def sU (nodes:List bu) (under:List Int):Nat→Nat→aQ
 | 0,_=>.mk 0 0 [] [] [] []
 | f + 1,j=>match nodes[j]? with
  | some t=>.mk t.Kind t.N t.Tag t.Text t.aI ((jr under j (List.range nodes.length)).map (sU nodes under f))
  | none=>.mk 0 0 [] [] [] []
theorem nI (h:Wd nodes under lv) {j i:Nat} {l:List Nat} (hi:i ∈ jr under j l):i < nodes.length∧j < i∧∃ v,lv[j]? = some v∧lv[i]? = some (v + 1)∧∃ t,nodes[j]? = some t∧opens t:=by
 obtain ⟨_,h2⟩:=List.mem_filter.1 hi
 have h2:=eq_of_beq h2
 have hil:i < nodes.length:=by rw [← h.lu]; exact (List.getElem?_eq_some_iff.1 h2).1
 cases i with
 | zero=>rw [h.root.1] at h2; cases h2
 | succ i =>
  obtain ⟨p,t,v,hu,hp,ht,htg,hvp,hvj⟩:=h.par (i + 1) (by omega) hil
  rw [hu] at h2
  have:p=j:=by have:=Option.some.inj h2; omega
  subst this
  exact ⟨hil,hp,v,hvp,hvj,t,ht,htg⟩
theorem yj (h:Wd nodes under lv):∀ (f g j:Nat),j < nodes.length→nodes.length ≤ j + f→nodes.length ≤ j + g→sU nodes under f j=sU nodes under g j
 | 0,g,j,hj,hf,_=>by omega
 | f + 1,0,j,hj,_,hg=>by omega
 | f + 1,g + 1,j,hj,hf,hg=>by
  rw [sU,sU]
  split
  ·
   congr 1
   apply List.map_congr_left
   intro i hi
   obtain ⟨h1,h2,_⟩:=nI h hi
   exact yj h f g i h1 (by omega) (by omega)
  ·
   rfl
def gt (nodes:List bu) (under:List Int) (j:Nat):aQ:=sU nodes under (nodes.length + 1) j
theorem zB (h:Wd nodes under lv) {j:Nat} {t:bu} (ht:nodes[j]? = some t):gt nodes under j=.mk t.Kind t.N t.Tag t.Text t.aI ((jr under j (List.range nodes.length)).map (gt nodes under)):=by
 unfold gt
 rw [sU]
 simp only [ht]
 congr 1
 apply List.map_congr_left
 intro i hi
 obtain ⟨h1,h2,_⟩:=nI h hi
 exact yj h _ _ i h1 (by omega) (by omega)
theorem qA (h:Wd nodes under lv) (self:List bu→List Int→Int→Option aQ) (j:Nat) (z:bu) (hs:∀ i,i < nodes.length→j < i→self nodes under (i:Int)=some (gt nodes under i)):∀ (m i k:Nat) (acc:List aQ),nodes.length=i + m→m < k→acc.length ≤ i →
  bB self nodes under (j:Int) z k acc (i:Int)=some (.mk z.Kind z.N z.Tag z.Text z.aI (acc ++ (jr under j (List.range' i m)).map (gt nodes under)))
 | 0,i,k + 1,acc,hm,_,_=>by
  rw [bB,if_neg (by rw [hm]; simp)]
  simp [jr]
 | m + 1,i,k + 1,acc,hm,hk,ha=>by
  have hle:=h.le
  have hil:i < under.length:=by rw [h.lu]; omega
  rw [bB,if_pos (by rw [hm]; simp; omega),iQ,List.getElem?_eq_getElem hil,Option.bind_some]
  rw [List.range'_succ]
  by_cases hu:under[i]=(j:Int)
  ·
   have hin:i ∈ jr under j [i]:=by simp [jr,hil,hu]
   obtain ⟨g1,g2,_⟩:=nI h hin
   rw [if_pos (by simpa using hu),hs i g1 g2,Option.bind_some,l8 (by rw [bnd]; simp; omega),Option.bind_some]
   unfold dn
   rw [nL (by omega) (by omega)]
   have:=qA h self j z hs m (i + 1) k (acc ++ [gt nodes under i]) (by omega) (by omega) (by simp; omega)
   push_cast at this
   rw [this]
   have:jr under j (i :: List.range' (i + 1) m)=i :: jr under j (List.range' (i + 1) m):=by
    unfold jr; rw [List.filter_cons,if_pos (by simp [hil,hu])]
   rw [this]; simp
  ·
   rw [if_neg (by simpa using hu)]
   unfold dn
   rw [nL (by omega) (by omega)]
   have:=qA h self j z hs m (i + 1) k acc (by omega) (by omega) (by omega)
   push_cast at this
   rw [this]
   have:jr under j (i :: List.range' (i + 1) m)=jr under j (List.range' (i + 1) m):=by
    unfold jr; rw [List.filter_cons,if_neg (by simp [hil,hu])]
   rw [this]
theorem zQ (h:Wd nodes under lv):∀ (n j:Nat),j < nodes.length→2 * nodes.length + 2 ≤ j + n→bz n nodes under (j:Int)=some (gt nodes under j)
 | 0,j,hj,hn=>by omega
 | n + 1,j,hj,hn=>by
  rw [bz,iQ,List.getElem?_eq_getElem hj,Option.bind_some]
  have:=qA h (bz n) j nodes[j] (fun i hi hji=>zQ h n i hi (by omega)) nodes.length 0 n [] (by omega) (by omega) (by simp)
  rw [show ((0:Nat):Int)=0 from rfl] at this
  rw [this,zB h (List.getElem?_eq_getElem hj),List.range_eq_range']
  rfl
theorem zx (h:Wd nodes under lv):∀ (m j v:Nat),nodes.length ≤ j + m→lv[j]? = some v→pg 7 (gt nodes under j)∧nM (gt nodes under j) + v ≤ 8
 | 0,j,v,hm,hv=>by
  have:=(List.getElem?_eq_some_iff.1 hv).1
  rw [h.ll] at this; omega
 | m + 1,j,v,hm,hv=>by
  have hj:j < nodes.length:=by rw [← h.ll]; exact (List.getElem?_eq_some_iff.1 hv).1
  have ht:=List.getElem?_eq_getElem hj
  have hv7:=h.lim j v hv
  rw [zB h ht]
  have hk:∀ i ∈ jr under j (List.range nodes.length),pg 7 (gt nodes under i)∧nM (gt nodes under i) + (v + 1) ≤ 8:=fun i hi=>by
   obtain ⟨g1,g2,v',g3,g4,_⟩:=nI h hi
   rw [hv] at g3; cases g3
   exact zx h m i (v + 1) (by omega) g4
  obtain ⟨a1,a2,a3,a4⟩:=h.ok j _ ht
  refine ⟨(yP _).2 ⟨a1,fun q1 q5 q6=>?_,a2,a3,a4,fun z hz=>?_⟩,?_⟩
  ·
   show List.map _ _=[]
   rw [List.map_eq_nil_iff]
   cases hq:jr under j (List.range nodes.length) with
   | nil=>rfl
   | cons i l =>
    obtain ⟨_,_,_,_,_,t,e1,e2⟩:=nI h (l:=List.range nodes.length) (i:=i) (j:=j) (by rw [hq]; simp)
    rw [ht] at e1; cases e1
    rcases e2 with e | e | e
    ·
     exact absurd e q1
    ·
     exact absurd e q5
    ·
     exact absurd e q6
  ·
   obtain ⟨i,hi,rfl⟩:=List.mem_map.1 hz
   exact (hk i hi).1
  ·
   rw [nM]
   have:∀ (l:List Nat),(∀ i ∈ l,nM (gt nodes under i) + (v + 1) ≤ 8)→mM (l.map (gt nodes under)) + (v + 1) ≤ 8:=by
    intro l
    induction l with
    | nil=>intro _; simp only [List.map_nil,mM]; omega
    | cons i l ih =>
     intro hl
     have h1:=hl i List.mem_cons_self
     have h2:=ih (fun i hi=>hl i (List.mem_cons_of_mem _ hi))
     simp only [List.map_cons,mM]; omega
   have:=this _ (fun i hi=>(hk i hi).2)
   omega
def iG (p:Nat→Bool) (f:Nat→Nat):List Nat→Nat
 | []=>0
 | i :: l=>(if p i then f i else 0) + iG p f l
theorem oF (f:Nat→aQ) (p:Nat→Bool):∀ (l:List Nat),jH ((l.filter p).map f)=iG p (fun i=>iM (f i)) l
 | []=>rfl
 | i :: l=>by
  rw [List.filter_cons,iG]
  by_cases h:p i=true
  ·
   rw [if_pos h,if_pos h,List.map_cons,jH,oF f p l]
  ·
   rw [if_neg h,if_neg h,oF f p l]; omega
theorem qV (f:Nat→Nat) (p q r:Nat→Bool):∀ (l:List Nat),(∀ i ∈ l,p i=(q i || r i)∧(q i && r i)=false)→iG p f l=iG q f l + iG r f l
 | [],_=>rfl
 | i :: l,h=>by
  obtain ⟨h1,h2⟩:=h i List.mem_cons_self
  have ih:=qV f p q r l (fun i hi=>h i (List.mem_cons_of_mem _ hi))
  rw [iG,iG,iG,h1,ih]
  cases hq:q i <;> cases hr:r i <;> simp_all <;> omega
theorem oM (f:Nat→Nat) (p:Nat→Bool):∀ (l:List Nat),(∀ i ∈ l,p i=false)→iG p f l=0
 | [],_=>rfl
 | i :: l,h=>by
  rw [iG,h i List.mem_cons_self,oM f p l (fun i hi=>h i (List.mem_cons_of_mem _ hi))]; simp
theorem ve (f:Nat→Nat) (p:Nat→Bool):∀ (l m:List Nat),iG p f (l ++ m)=iG p f l + iG p f m
 | [],m=>by simp [iG]
 | i :: l,m=>by rw [List.cons_append,iG,iG,ve f p l m]; omega
def ahead (under:List Int) (m:Nat) (j:Nat):Bool:=match under[j]? with
 | some u=>decide (u < (m:Int))
 | none=>false
theorem Bt (h:Wd nodes under lv):∀ (d m:Nat),m + d=nodes.length→iG (ahead under m) (fun i=>iM (gt nodes under i)) (List.range' m d)=d
 | 0,m,_=>rfl
 | d + 1,m,hm=>by
  have ih:=Bt h d (m + 1) (by omega)
  have hml:m < nodes.length:=by omega
  have hmu:m < under.length:=by rw [h.lu]; exact hml
  rw [List.range'_succ,iG]
  have hself:ahead under m m=true:=by
   unfold ahead
   cases m with
   | zero=>rw [h.root.1]; rfl
   | succ m =>
    obtain ⟨p,_,_,hu,hp,_⟩:=h.par (m + 1) (by omega) hml
    rw [hu]; simp; omega
  rw [if_pos hself,zB h (List.getElem?_eq_getElem hml),iM]
  unfold jr
  rw [oF]
  have hr:List.range nodes.length=List.range' 0 (m + 1) ++ List.range' (m + 1) d:=by
   have hq:=List.range'_append_1 (s:=0) (m:=m + 1) (n:=d)
   rw [Nat.zero_add] at hq
   rw [List.range_eq_range',hq]
   congr 1; omega
  rw [hr,ve,oM _ _ (List.range' 0 (m + 1)) (fun i hi=>?_)]
  ·
   have hsp:=qV (fun i=>iM (gt nodes under i)) (ahead under (m + 1)) (ahead under m) (fun j=>under[j]? == some (m:Int)) (List.range' (m + 1) d) (fun i hi=>?_)
   ·
    rw [hsp] at ih
    omega
   ·
    have hil:i < under.length:=by
     have:=List.mem_range'_1.1 hi
     rw [h.lu]; omega
    unfold ahead
    rw [List.getElem?_eq_getElem hil]
    generalize under[i]=u
    simp only
    rcases Int.lt_trichotomy u (m:Int) with q | q | q
    ·
     have q1:u < ((m + 1:Nat):Int):=by omega
     have q2:u ≠ (m:Int):=by omega
     simp only [q,q1,decide_true,Bool.true_or,Bool.true_and,true_and]
     simpa using q2
    ·
     subst q
     have q1:(m:Int) < ((m + 1:Nat):Int):=by omega
     have q2:¬ (m:Int) < (m:Int):=by omega
     simp only [q1,q2,decide_true,decide_false,Bool.false_or,Bool.false_and,and_true,beq_self_eq_true]
    ·
     have q1:¬ u < ((m + 1:Nat):Int):=by omega
     have q2:¬ u < (m:Int):=by omega
     have q3:u ≠ (m:Int):=by omega
     simp only [q1,q2,decide_false,Bool.false_or,Bool.false_and,and_true]
     symm; simpa using q3
  ·
   cases hc:under[i]? == some (m:Int) with
   | false=>rfl
   | true =>
    have him:=List.mem_range'_1.1 hi
    obtain ⟨_,q,_⟩:=nI h (l:=[i]) (i:=i) (j:=m) (by simp [jr,hc])
    omega
theorem DR (h:Wd nodes under lv):iM (gt nodes under 0)=nodes.length:=by
 obtain ⟨d,hd⟩:∃ d,nodes.length=d + 1:=⟨nodes.length - 1,by have:=h.pos; omega⟩
 have:=Bt h nodes.length 0 (by omega)
 rw [hd,List.range'_succ,iG] at this
 have h0:ahead under 0 0=true:=by unfold ahead; rw [h.root.1]; rfl
 rw [if_pos h0,oM _ _ _ (fun i hi=>?_)] at this
 ·
  rw [hd]; omega
 ·
  have hi':=List.mem_range'_1.1 hi
  obtain ⟨p,_,_,hu,_⟩:=h.par i (by omega) (by omega)
  unfold ahead
  rw [hu]; simp
end
def words:List Str:=[[97],[98],[105,116,101,109],[120,32,121],[37],[97,47,98],[46,46],[122],[49],[108,105,115,116],[255],[63,61,38]]
def Da:List Str:=[[100,105,118],[112],[108,105],[98]]
def Dk:List Str:=[[105,100],[112,97],[112,98],[108,97,115,116]]
theorem Dw:(words.length:Int)=12:=rfl
theorem xw:∀ s ∈ Da,s ≠ kJ:=by decide
section
variable {nodes:List bu} {under:List Int} {lv:List Nat}
theorem getElem?_push {α:Type} (l:List α) (x:α) (j:Nat):(l ++ [x])[j]? = if j < l.length then l[j]? else if j=l.length then some x else none:=by
 by_cases h:j < l.length
 ·
  rw [if_pos h,List.getElem?_append_left h]
 ·
  rw [if_neg h,List.getElem?_append_right (by omega)]
  by_cases h2:j=l.length
  ·
   rw [if_pos h2,h2]; simp
  ·
   rw [if_neg h2]
   have:∃ k,j - l.length=k + 1:=⟨j - l.length - 1,by omega⟩
   obtain ⟨k,hk⟩:=this
   rw [hk]; rfl
theorem iR {α:Type} {l:List α} {x y:α} {j:Nat} (h:l[j]? = some y):(l ++ [x])[j]? = some y:=by
 rw [List.getElem?_append_left (List.getElem?_eq_some_iff.1 h).1]; exact h
theorem Cy (h:Wd nodes under lv) (hl:nodes.length ≤ 12) {t:bu} (ht:DL t) {p v:Nat} {tp:bu} (hp:nodes[p]? = some tp) (htp:opens tp) (hv:lv[p]? = some v) (h6:v ≤ 6):Wd (nodes ++ [t]) (under ++ [(p:Int)]) (lv ++ [v + 1]) where
 lu:=by simp [h.lu]
 ll:=by simp [h.ll]
 pos:=by simp
 le:=by simp; omega
 ok:=fun j u hu=>by
  rw [getElem?_push] at hu
  split at hu
  ·
   exact h.ok j u hu
  ·
   split at hu
   ·
    cases hu; exact ht
   ·
    cases hu
 root:=⟨iR h.root.1,iR h.root.2⟩
 par:=fun j h0 hj=>by
  simp only [List.length_append,List.length_singleton] at hj
  by_cases hjl:j < nodes.length
  ·
   obtain ⟨q,tq,vq,h1,h2,h3,h4,h5,h6⟩:=h.par j h0 hjl
   exact ⟨q,tq,vq,iR h1,h2,iR h3,h4,iR h5,iR h6⟩
  ·
   have hj:j=nodes.length:=by omega
   subst hj
   have hpl:=(List.getElem?_eq_some_iff.1 hp).1
   refine ⟨p,tp,v,?_,hpl,iR hp,htp,iR hv,?_⟩
   ·
    rw [getElem?_push,h.lu,if_neg (by omega),if_pos rfl]
   ·
    rw [getElem?_push,h.ll,if_neg (by omega),if_pos rfl]
 lim:=fun j w hw=>by
  rw [getElem?_push] at hw
  split at hw
  ·
   exact h.lim j w hw
  ·
   split at hw
   ·
    cases hw; omega
   ·
    cases hw
def sF (nodes:List bu):Prop:=∃ t,nodes[0]? = some t∧t.Kind=1
theorem DJ (hl:nodes.length ≤ 12) (hu:under.length ≤ 12) {i:Nat} (hi:i ≤ 20) (again:List bu→List Int→Int→Option aQ) (p kd nn:Int) (tag text:Str) (ats:List Attr) :
  bf nodes under (i:Int) again p kd nn tag text ats=again (nodes ++ [⟨kd,nn,tag,text,ats⟩]) (under ++ [p]) ((i + 1:Nat):Int):=by
 unfold bf
 rw [l8 (by rw [bnd]; simp; omega),Option.bind_some,l8 (by rw [bnd]; simp; omega),Option.bind_some,nL (by omega) (by omega)]
 rfl
theorem DI (hl:nodes.length ≤ 12) (hu:under.length ≤ 12) (n:Nat) (k:dI) {i:Nat} (hi:i ≤ 20) (again:List bu→List Int→Int→Option aQ) (p:Int) :
  ∃ t,DL t∧bC n k words nodes under (i:Int) again p=again (nodes ++ [t]) (under ++ [p]) ((i + 1:Nat):Int):=by
 obtain ⟨r1,e1⟩:=wo n k.Kinds (i:Int) (by omega)
 obtain ⟨kd,k1,k2,k3⟩:=gV n r1 1 7 (by omega) (by omega) (by omega)
 obtain ⟨r2,e2⟩:=wo n k.Ns (i:Int) (by omega)
 obtain ⟨nn,n1,n2,n3⟩:=gV n r2 0 4 (by omega) (by omega) (by omega)
 obtain ⟨r3,e3⟩:=wo n k.Texts (i:Int) (by omega)
 have go:=fun (tag text:Str) (ats:List Attr)=>DJ hl hu hi again p kd nn tag text ats
 unfold bC
 rw [e1,Option.bind_some,k1,Option.bind_some,e2,Option.bind_some,n1,Option.bind_some,e3,Option.bind_some]
 simp only []
 have l4:IntKind.wrap .i64 ((([[100,105,118],[112],[108,105],[98]]:List Str).length:Int) - 1)=3:=by rw [nL (by simp) (by simp)]; rfl
 have l5:IntKind.wrap .i64 ((([[105,100],[112,97],[112,98],[108,97,115,116]]:List Str).length:Int) - 1)=3:=by rw [nL (by simp) (by simp)]; rfl
 have l12:IntKind.wrap .i64 ((words.length:Int) - 1)=11:=by rw [Dw,nL (by omega) (by omega)]; rfl
 by_cases c1:kd=1
 ·
  rw [if_pos (by simp [c1]),l4]
  obtain ⟨q,q1,q2,q3⟩:=gV n r3 0 3 (by omega) (by omega) (by omega)
  obtain ⟨tag,t1,t2,_⟩:=qB Da q2 (by show q < 4; omega)
  have t1':idx [[100,105,118],[112],[108,105],[98]] q=some tag:=t1
  rw [q1,Option.bind_some,t1',Option.bind_some]
  by_cases c3:(DC .i64 r3 3 == 3)=true
  ·
   rw [if_pos c3]
   obtain ⟨r4,e4⟩:∃ r4,BP .i64 r3 4=some r4:=⟨_,by unfold BP; rw [if_neg (by omega)]⟩
   obtain ⟨q',q1',q2',q3'⟩:=gV n r4 0 11 (by omega) (by omega) (by omega)
   obtain ⟨w,w1,_,_⟩:=qB words q2' (by rw [Dw]; omega)
   rw [e4,Option.bind_some,l12,q1',Option.bind_some,w1,Option.bind_some]
   exact ⟨_,⟨⟨k2,k3⟩,xw tag t2,⟨n2,n3⟩,by simp⟩,go _ _ _⟩
  ·
   rw [if_neg c3]
   exact ⟨_,⟨⟨k2,k3⟩,xw tag t2,⟨n2,n3⟩,by simp⟩,go _ _ _⟩
 ·
  rw [if_neg (by simp [c1])]
  by_cases c2:kd=2
  ·
   rw [if_pos (by simp [c2]),l12]
   obtain ⟨q,q1,q2,q3⟩:=gV n r3 0 11 (by omega) (by omega) (by omega)
   obtain ⟨w,w1,_,_⟩:=qB words q2 (by rw [Dw]; omega)
   rw [q1,Option.bind_some,w1,Option.bind_some]
   exact ⟨_,⟨⟨k2,k3⟩,by simp [kJ],⟨n2,n3⟩,by simp⟩,go _ _ _⟩
  ·
   rw [if_neg (by simp [c2])]
   by_cases c4:kd=4
   ·
    rw [if_pos (by simp [c4]),l5]
    obtain ⟨q,q1,q2,q3⟩:=gV n r3 0 3 (by omega) (by omega) (by omega)
    obtain ⟨w,w1,_,_⟩:=qB Dk q2 (by show q < 4; omega)
    have w1':idx [[105,100],[112,97],[112,98],[108,97,115,116]] q=some w:=w1
    rw [q1,Option.bind_some,w1',Option.bind_some]
    exact ⟨_,⟨⟨k2,k3⟩,by simp [kJ],⟨n2,n3⟩,by simp⟩,go _ _ _⟩
   ·
    rw [if_neg (by simp [c4])]
    exact ⟨_,⟨⟨k2,k3⟩,by simp [kJ],⟨n2,n3⟩,by simp⟩,go _ _ _⟩
theorem tC (n:Nat) (hn:100 < n) (k:dI):∀ (m i f:Nat) (nodes:List bu) (under:List Int) (lv:List Nat),Wd nodes under lv→sF nodes→nodes.length=i + 1→i + m=11→m < f →
  ∃ nodes' under' lv',Wd nodes' under' lv'∧sF nodes'∧aN n k words f nodes under (i:Int)=bz n nodes' under' 0
 | m,i,f + 1,nodes,under,lv,h,hr,hl,hm,hf=>by
  rw [aN]
  by_cases hc:i < k.Under.length∧i < 11
  ·
   obtain ⟨m,rfl⟩:∃ m',m=m' + 1:=⟨m - 1,by omega⟩
   rw [if_pos (by simp; omega),iQ,List.getElem?_eq_getElem hc.1,Option.bind_some]
   rw [nL (n:=(nodes.length:Int) - 1) (by omega) (by omega)]
   obtain ⟨q,q1,q2,q3⟩:=gV n k.Under[i] 0 ((nodes.length:Int) - 1) (by omega) (by omega) (by omega)
   obtain ⟨t,t1,t2,t3⟩:=qB nodes q2 (by omega)
   rw [q1,Option.bind_some,t1,Option.bind_some]
   have go:∀ (p:Nat) (tp:bu) (v:Nat),nodes[p]? = some tp→opens tp→lv[p]? = some v→v ≤ 6→∃ nodes' under' lv',Wd nodes' under' lv'∧sF nodes'∧bC n k words nodes under (i:Int) (aN n k words f) (p:Int)=bz n nodes' under' 0:=fun p tp v hp htp hv h6=>by
    obtain ⟨t',k1,k2⟩:=DI (nodes:=nodes) (under:=under) (i:=i) (by omega) (by rw [h.lu]; omega) n k (by omega) (aN n k words f) (p:Int)
    have hr':sF (nodes ++ [t']):=by
     obtain ⟨t0,h1,h2⟩:=hr
     exact ⟨t0,iR h1,h2⟩
    obtain ⟨n',u',l',g1,g2,g3⟩:=tC n hn k m (i + 1) f _ _ _ (Cy h (by omega) k1 hp htp hv h6) hr' (by simp; omega) (by omega) (by omega)
    exact ⟨n',u',l',g1,g2,by rw [k2,g3]⟩
   have root:∃ nodes' under' lv',Wd nodes' under' lv'∧sF nodes'∧bC n k words nodes under (i:Int) (aN n k words f) 0=bz n nodes' under' 0:=by
    obtain ⟨t0,h1,h2⟩:=hr
    exact go 0 t0 1 h1 (.inl h2) h.root.2 (by omega)
   have hqn:q=(q.toNat:Int):=by omega
   by_cases hb:(((t.Kind != 1) && (t.Kind != 5)) && (t.Kind != 6))=true
   ·
    rw [if_pos hb,Option.bind_some,if_pos rfl]
    exact root
   ·
    rw [if_neg hb]
    have ho:opens t:=by
     simp at hb
     unfold opens
     by_cases a:t.Kind=1
     ·
      exact .inl a
     ·
      by_cases b:t.Kind=5
      ·
       exact .inr (.inl b)
      ·
       exact .inr (.inr (hb a b))
    have hql:q.toNat < lv.length:=by rw [h.ll]; exact (List.getElem?_eq_some_iff.1 t3).1
    have hv:=List.getElem?_eq_getElem hql
    have hd:=AZ h n (by omega) hv
    rw [← hqn] at hd
    rw [hd,Option.bind_some,Option.bind_some]
    by_cases h5:5 < lv[q.toNat]
    ·
     rw [if_pos (by rw [decide_eq_true_eq]; omega)]
     exact root
    ·
     rw [if_neg (by rw [decide_eq_true_eq]; omega),hqn]
     exact go q.toNat t _ t3 ho hv (by omega)
  ·
   rw [if_neg (by simp; omega)]
   exact ⟨nodes,under,lv,h,hr,by cases bz n nodes under 0 <;> rfl⟩
end
theorem Cg (k:dI) (n:Nat) (hn:100 < n):∃ t,dV n k=some t∧pg 7 t∧iM t ≤ 13∧nM t ≤ 7∧t.Kind=1:=by
 have h0:Wd [⟨1,0,[109,97,105,110],[],[]⟩] [-1] [1]:=by
  refine ⟨rfl,rfl,by simp,by simp,fun j t ht=>?_,⟨rfl,rfl⟩,fun j h1 h2=>?_,fun j v hv=>?_⟩
  ·
   cases j with
   | zero=>simp at ht; subst ht; exact ⟨⟨by simp,by simp⟩,by simp [kJ],⟨by simp,by simp⟩,by simp⟩
   | succ j=>simp at ht
  ·
   simp at h2; omega
  ·
   cases j with
   | zero=>simp at hv; subst hv; omega
   | succ j=>simp at hv
 obtain ⟨nodes,under,lv,h,hr,he⟩:=tC n hn k 11 0 n _ _ _ h0 ⟨_,rfl,rfl⟩ rfl rfl (by omega)
 have hle:=h.le
 have hg:=zx h nodes.length 0 1 (by omega) h.root.2
 have hc:=DR h
 obtain ⟨t0,r1,r2⟩:=hr
 refine ⟨gt nodes under 0,?_,hg.1,by rw [hc]; exact hle,by omega,by rw [zB h r1]; exact r2⟩
 unfold dV gH
 rw [Option.bind_some]
 have:=zQ h n 0 h.pos (by omega)
 rw [show ((0:Nat):Int)=0 from rfl] at this he
 rw [← this,← he]
 rfl
end S
end Pr
end Go.Ev

namespace Go.Ev
namespace Pr
namespace T
set_option linter.unusedVariables false
set_option linter.unusedSimpArgs false
set_option linter.unusedSectionVars false
mutual
def lh:Tree→Nat
 | .mk _ _ _ _ ks=>1 + lN ks
def lN:List Tree→Nat
 | []=>0
 | t :: l=>lh t + lN l
end
mutual
def rE:Tree→Nat
 | .mk _ _ _ _ ks=>1 + sV ks
def sV:List Tree→Nat
 | []=>0
 | t :: l=>max (rE t) (sV l)
end
def xV (s:Str):Nat:=if s=[111,117,116,108,101,116] then 1 else 0
mutual
def zk:Tree→Nat
 | .mk g _ _ _ ks=>xV g + oJ ks
def oJ:List Tree→Nat
 | []=>0
 | t :: l=>zk t + oJ l
end
theorem jb (t:Tree):lh t=1 + lN t.Kids:=by cases t; rw [lh]; rfl
theorem Ao (t:Tree):rE t=1 + sV t.Kids:=by cases t; rw [rE]; rfl
theorem mZ:∀ (l:List Tree),l.length ≤ lN l
 | []=>Nat.le_refl _
 | x :: l=>by
  have:=mZ l
  have:=jb x
  simp only [List.length_cons,lN]; omega
theorem xc:∀ {l:List Tree} {z:Tree},z ∈ l→lh z ≤ lN l
 | x :: l,z,h=>by
  rcases List.mem_cons.1 h with rfl | h
  ·
   simp only [lN]; omega
  ·
   have:=xc h
   simp only [lN]; omega
theorem Ak {t z:Tree} (h:z ∈ t.Kids):lh z < lh t:=by
 have:=xc h
 have:=jb t; omega
theorem rT:∀ (l:List Tree),sV l ≤ lN l∧∀ z ∈ l,rE z ≤ sV l
 | []=>⟨Nat.le_refl _,fun z h=>by cases h⟩
 | x :: l=>by
  obtain ⟨h1,h2⟩:=rT l
  have hx:rE x ≤ lh x:=by
   cases x with
   | mk a b c d ks =>
    have:=(rT ks).1
    rw [rE,lh]; omega
  refine ⟨by simp only [sV,lN]; omega,fun z h=>?_⟩
  rcases List.mem_cons.1 h with rfl | h
  ·
   simp only [sV]; omega
  ·
   have:=h2 z h
   simp only [sV]; omega
theorem zU {t:Tree} {m:Nat} {α:Type} {f:Nat→Tree→Option α} {g:Tree→α} (ht:lh t ≤ m + 1) (ih:∀ z,lh z ≤ m→∀ n,m < n→f n z=some (g z)) {n:Nat} (hn:m < n):∀ z ∈ t.Kids,f n z=some (g z) :=
 fun z hz=>ih z (by have:=Ak hz; omega) n hn
theorem jZ (self:Tree→Option Int) (t:Tree) (hs:∀ z ∈ t.Kids,self z=some (lh z:Int)) (hb:lN t.Kids < 1000000000):∀ (rest done:List Tree) (k:Nat) (acc:Int),t.Kids=done ++ rest→rest.length < k→0 ≤ acc→acc + lN rest < 2000000000 →
  dJ self t k acc (done.length:Int)=some (acc + lN rest)
 | [],done,k + 1,acc,hk,_,h0,h1=>by
  rw [dJ,if_neg (by rw [hk]; simp)]
  simp [lN]
 | z :: rest,done,k + 1,acc,hk,hl,h0,h1=>by
  have hlen:=mZ t.Kids
  have hkl:t.Kids.length=done.length + rest.length + 1:=by rw [hk]; simp; omega
  have hz:z ∈ t.Kids:=by rw [hk]; simp
  simp only [lN] at h1
  rw [dJ,if_pos (by rw [decide_eq_true_eq,hkl]; omega),jl hk,Option.bind_some,hs z hz,Option.bind_some]
  rw [nL (by omega) (by omega),nL (by omega) (by omega)]
  have:=jZ self t hs hb rest (done ++ [z]) k (acc + lh z) (by rw [hk]; simp) (by simp at hl; omega) (by omega) (by omega)
  rw [List.length_append,List.length_singleton] at this
  push_cast at this
  rw [this,lN]
  congr 1
  push_cast; omega
theorem pz:∀ (m:Nat) (t:Tree),lh t ≤ m→m < 1000000000→∀ n,m < n→eG n t=some (lh t:Int)
 | 0,t,h,_,n,_=>by rw [jb] at h; omega
 | m + 1,t,h,hm,n + 1,hn=>by
  have hs:=zU (f:=eG) (g:=fun z=>(lh z:Int)) h (fun z hz n hn=>pz m z hz (by omega) n hn) (show m < n by omega)
  have hk:=jb t
  have hlen:=mZ t.Kids
  rw [eG]
  have:=jZ (eG n) t hs (by omega) t.Kids [] n 1 rfl (by omega) (by omega) (by omega)
  simp only [List.length_nil] at this
  rw [show ((0:Nat):Int)=0 from rfl] at this
  rw [this,hk]; push_cast; rfl
theorem vF (self:Tree→Option Int) (t:Tree) (hs:∀ z ∈ t.Kids,self z=some (rE z:Int)) (hb:lN t.Kids < 1000000000):∀ (rest done:List Tree) (k:Nat) (acc:Nat),t.Kids=done ++ rest→rest.length < k→acc < 1000000000 →
  dR self t k (acc:Int) (done.length:Int)=some ((max acc (sV rest) + 1:Nat):Int)
 | [],done,k + 1,acc,hk,_,h1=>by
  rw [dR,if_neg (by rw [hk]; simp),nL (by omega) (by omega)]
  simp [sV]
 | z :: rest,done,k + 1,acc,hk,hl,h1=>by
  have hlen:=mZ t.Kids
  have hkl:t.Kids.length=done.length + rest.length + 1:=by rw [hk]; simp; omega
  have hz:z ∈ t.Kids:=by rw [hk]; simp
  have hd:=(rT t.Kids).2 z hz
  have hd2:=(rT t.Kids).1
  rw [dR,if_pos (by rw [decide_eq_true_eq,hkl]; omega),jl hk,Option.bind_some,hs z hz,Option.bind_some]
  rw [nL (by omega) (by omega)]
  have hm:mO (acc:Int) (rE z:Int)=((max acc (rE z):Nat):Int):=by
   unfold mO; split <;> omega
  have:=vF self t hs hb rest (done ++ [z]) k (max acc (rE z)) (by rw [hk]; simp) (by simp at hl; omega) (by omega)
  rw [List.length_append,List.length_singleton] at this
  rw [hm]
  push_cast at this ⊢
  rw [this,sV]
  congr 1
  omega
theorem zL:∀ (m:Nat) (t:Tree),lh t ≤ m→m < 1000000000→∀ n,m < n→fu n t=some (rE t:Int)
 | 0,t,h,_,n,_=>by rw [jb] at h; omega
 | m + 1,t,h,hm,n + 1,hn=>by
  have hs:=zU (f:=fu) (g:=fun z=>(rE z:Int)) h (fun z hz n hn=>zL m z hz (by omega) n hn) (show m < n by omega)
  have hk:=jb t
  have hlen:=mZ t.Kids
  rw [fu]
  have:=vF (fu n) t hs (by omega) t.Kids [] n 0 rfl (by omega) (by omega)
  simp only [List.length_nil] at this
  rw [show ((0:Nat):Int)=0 from rfl] at this
  rw [this,Ao]; congr 1; push_cast; omega
def gF:Tree→Nat
 | .mk _ _ _ ats ks=>1 + ats.length + lsz ks
  where lsz:List Tree→Nat
 | []=>0
 | t :: l=>gF t + lsz l
theorem jB (t:Tree):gF t=1 + t.aI.length + gF.lsz t.Kids:=by cases t; rw [gF]; rfl
theorem zI:∀ {l:List Tree} {z:Tree},z ∈ l→gF z ≤ gF.lsz l
 | x :: l,z,h=>by
  rcases List.mem_cons.1 h with rfl | h
  ·
   simp only [gF.lsz]; omega
  ·
   have:=zI h
   simp only [gF.lsz]; omega
theorem wC:∀ (l:List Tree),l.length ≤ gF.lsz l
 | []=>Nat.zero_le _
 | x :: l=>by
  have:=wC l
  have:=jB x
  simp only [List.length_cons,gF.lsz]; omega
theorem sw {t z:Tree} (h:z ∈ t.Kids):gF z < gF t:=by
 have:=zI h
 have:=jB t; omega
def pV:List Attr→List Attr→Bool
 | [],[]=>true
 | a :: l,b :: m=>Attr.beq a b && pV l m
 | _,_=>false
def l7:Tree→Tree→Bool
 | .mk a b c d e,.mk a' b' c' d' e'=>(a == a') && (b == b') && (c == c') && pV d d' && lbeq e e'
  where lbeq:List Tree→List Tree→Bool
 | [],[]=>true
 | x :: l,y :: m=>l7 x y && lbeq l m
 | _,_=>false
theorem xC:∀ {a b:List Attr},pV a b=true→a.length=b.length
 | [],[],_=>rfl
 | x :: l,y :: m,h=>by
  simp only [pV,Bool.and_eq_true] at h
  simp [xC h.2]
 | [],_ :: _,h=>by cases h
 | _ :: _,[],h=>by cases h
theorem yl:∀ {a b:List Tree},l7.lbeq a b=true→a.length=b.length
 | [],[],_=>rfl
 | x :: l,y :: m,h=>by
  simp only [l7.lbeq,Bool.and_eq_true] at h
  simp [yl h.2]
 | [],_ :: _,h=>by cases h
 | _ :: _,[],h=>by cases h
theorem Cq {a b:List Attr} (h:a.length ≠ b.length):pV a b=false:=by
 cases hq:pV a b
 ·
  rfl
 ·
  exact absurd (xC hq) h
theorem Cz {a b:List Tree} (h:a.length ≠ b.length):l7.lbeq a b=false:=by
 cases hq:l7.lbeq a b
 ·
  rfl
 ·
  exact absurd (yl hq) h
theorem CL (a b:Tree):l7 a b=((a.Tag == b.Tag) && (a.Key == b.Key) && (a.Text == b.Text) && pV a.aI b.aI && l7.lbeq a.Kids b.Kids):=by cases a; cases b; rw [l7]; rfl
theorem sZ (l m:List Attr) (hb:l.length < 1000000000):∀ (r s d e:List Attr) (k:Nat),l=d ++ r→m=e ++ s→d.length=e.length→r.length=s.length→r.length < k →
  aW l m k (d.length:Int)=some (pV r s)
 | [],[],d,e,k + 1,hl,hm,_,_,_=>by
  rw [aW,if_neg (by rw [hl]; simp)]; rfl
 | z :: r,y :: s,d,e,k + 1,hl,hm,hd,hr,hk=>by
  have hkl:l.length=d.length + r.length + 1:=by rw [hl]; simp; omega
  rw [aW,if_pos (by rw [decide_eq_true_eq,hkl]; omega),jl hl,Option.bind_some,hd,jl hm,Option.bind_some]
  cases hq:Attr.beq z y
  ·
   simp [pV,hq]
  ·
   simp only [Bool.not_true,Bool.false_eq_true,if_false]
   rw [nL (by omega) (by omega)]
   have:=sZ l m hb r s (d ++ [z]) (e ++ [y]) k (by rw [hl]; simp) (by rw [hm]; simp) (by simp [hd]) (by simpa using hr) (by simp at hk; omega)
   rw [List.length_append,List.length_singleton,hd] at this
   push_cast at this
   rw [this]; simp [pV,hq]
 | [],_ :: _,d,e,k + 1,_,_,_,hr,_=>by simp at hr
 | _ :: _,[],d,e,k + 1,_,_,_,hr,_=>by simp at hr
theorem A9 (n:Nat) (l m:List Attr) (hb:l.length < 1000000000) (hn:l.length < n):dA n l m=some (pV l m):=by
 unfold dA
 by_cases h:l.length=m.length
 ·
  rw [if_neg (by simp [h])]
  exact sZ l m hb l m [] [] n rfl rfl rfl h hn
 ·
  rw [if_pos (by simp; omega),Cq h]
theorem sS (f:Tree→Tree→Option Bool) (a b:Tree) (hf:∀ x ∈ a.Kids,∀ y,f x y=some (l7 x y)) (hb:a.Kids.length < 1000000000):∀ (r s d e:List Tree) (k:Nat),a.Kids=d ++ r→b.Kids=e ++ s→d.length=e.length→r.length=s.length→r.length < k →
  bS f a b k (d.length:Int)=some (l7.lbeq r s)
 | [],[],d,e,k + 1,hl,hm,_,_,_=>by
  rw [bS,if_neg (by rw [hl]; simp)]; rfl
 | z :: r,y :: s,d,e,k + 1,hl,hm,hd,hr,hk=>by
  have hkl:a.Kids.length=d.length + r.length + 1:=by rw [hl]; simp; omega
  rw [bS,if_pos (by rw [decide_eq_true_eq,hkl]; omega),jl hl,Option.bind_some,hd,jl hm,Option.bind_some,hf z (by rw [hl]; simp),Option.bind_some]
  cases hq:l7 z y
  ·
   simp [l7.lbeq,hq]
  ·
   simp only [Bool.not_true,Bool.false_eq_true,if_false]
   rw [nL (by omega) (by omega)]
   have:=sS f a b hf hb r s (d ++ [z]) (e ++ [y]) k (by rw [hl]; simp) (by rw [hm]; simp) (by simp [hd]) (by simpa using hr) (by simp at hk; omega)
   rw [List.length_append,List.length_singleton,hd] at this
   push_cast at this
   rw [this]; simp [l7.lbeq,hq]
 | [],_ :: _,d,e,k + 1,_,_,_,hr,_=>by simp at hr
 | _ :: _,[],d,e,k + 1,_,_,_,hr,_=>by simp at hr
theorem xe:∀ (m:Nat) (t u:Tree),gF t ≤ m→m < 1000000→∀ n,m < n→bE n t u=some (l7 t u)
 | 0,t,u,h,_,n,_=>by rw [jB] at h; omega
 | m + 1,t,u,h,hm,n + 1,hn=>by
  have hk:=jB t
  have hlen:=wC t.Kids
  have hf:∀ x ∈ t.Kids,∀ y,bE n x y=some (l7 x y):=fun x hx y=>xe m x y (by have:=sw hx; omega) (by omega) n (by omega)
  rw [bE,CL]
  cases h1:(t.Tag == u.Tag) <;> cases h2:(t.Key == u.Key) <;> cases h3:(t.Text == u.Text) <;> simp only [Bool.not_true,Bool.not_false,Bool.or_self,Bool.or_true,Bool.true_or,Bool.or_false,if_true,Option.bind_some,Bool.false_eq_true,if_false,Bool.and_false,Bool.false_and,Bool.and_self,Bool.true_and]
  rw [A9 n _ _ (by omega) (by omega),Option.bind_some,Option.bind_some]
  cases h4:pV t.aI u.aI
  ·
   simp
  ·
   simp only [Bool.not_true,Bool.false_or,Bool.true_and]
   by_cases hl:t.Kids.length=u.Kids.length
   ·
    rw [if_neg (by simp [hl])]
    have:=sS (bE n) t u hf (by omega) t.Kids u.Kids [] [] n rfl rfl rfl hl (by omega)
    simp only [List.length_nil] at this
    rw [show ((0:Nat):Int)=0 from rfl] at this
    rw [this]
   ·
    rw [if_pos (by simp; omega),Cz hl]
theorem AU (a:Attr):Attr.beq a a=true:=by simp [Attr.beq]
theorem vz:∀ (l:List Attr),pV l l=true
 | []=>rfl
 | a :: l=>by simp [pV,AU,vz l]
theorem vg:∀ (t:Tree),l7 t t=true
 | .mk a b c d e=>by
  rw [l7,vz]
  have:=go e
  simp [this]
  where go:∀ (l:List Tree),l7.lbeq l l=true
 | []=>rfl
 | x :: l=>by rw [l7.lbeq,vg x,go l]; rfl
end T
end Pr
end Go.Ev

namespace Go.Ev
namespace Pr
set_option linter.unusedVariables false
set_option linter.unusedSimpArgs false
def Dv:Str:=[111,117,116,108,101,116]
def mJ (st:List Int) (i:Int):Option Int:=if 0 ≤ i∧i < st.length then some (st.getD i.toNat 0) else none
def Ab (ps:List eu) (name:Str):Option Str:=(ps.find? (fun q=>q.Name == name)).map (·.Value)
def keyed (i:Nat) (x:Tree):Tree:=if x.Tag=[] then Tree.mk x.Tag x.Key x.Text x.aI x.Kids else Tree.mk x.Tag (qN (i:Int)) x.Text x.aI x.Kids
def gZ (k:Nat→Option (List Tree × Nat)):Nat→Nat→Nat→Option (List Tree × Nat)
 | 0,i,s=>some ([],s)
 | m + 1,i,s=>match k s with
  | none=>none
  | some (l,s')=>match gZ k m (i + 1) s' with
   | none=>none
   | some (r,s'')=>some (l.map (keyed i) ++ r,s'')
mutual
def rowP (st:List Int) (ps:List eu):aQ→Nat→Option (List Tree × Nat)
 | .mk kind N tag text attrs kids,s =>
  if s + 1 ≤ 1000 then
   if kind=1 then match dG st ps kids (s + 1) with
    | none=>none
    | some (l,s')=>some ([Tree.mk tag [] [] attrs l],s')
   else if kind=2 then some ([Tree.mk [] [] text [] []],s + 1)
   else if kind=3 then match mJ st N with
    | none=>none
    | some x=>some ([Tree.mk [] [] (qN x) [] []],s + 1)
   else if kind=4 then match Ab ps text with
    | none=>none
    | some v=>some ([Tree.mk [] [] v [] []],s + 1)
   else if kind=5 then match mJ st N with
    | none=>none
    | some x=>if x=0 then some ([],s + 1) else dG st ps kids (s + 1)
   else if kind=6 then match mJ st N with
    | none=>none
    | some x=>if x ≤ 24 then gZ (fun s=>dG st ps kids s) x.toNat 0 (s + 1) else none
   else if kind=7 then some ([Tree.mk Dv [] [] [] []],s + 1)
   else none
  else none
def dG (st:List Int) (ps:List eu):List aQ→Nat→Option (List Tree × Nat)
 | [],s=>some ([],s)
 | t :: l,s=>match rowP st ps t s with
  | none=>none
  | some (a,s')=>match dG st ps l s' with
   | none=>none
   | some (b,s'')=>some (a ++ b,s'')
end
theorem rU (st:List Int) (ps:List eu) (t:aQ) (s:Nat):rowP st ps t s =
  if s + 1 ≤ 1000 then
   if t.Kind=1 then match dG st ps t.Kids (s + 1) with
    | none=>none
    | some (l,s')=>some ([Tree.mk t.Tag [] [] t.aI l],s')
   else if t.Kind=2 then some ([Tree.mk [] [] t.Text [] []],s + 1)
   else if t.Kind=3 then match mJ st t.N with
    | none=>none
    | some x=>some ([Tree.mk [] [] (qN x) [] []],s + 1)
   else if t.Kind=4 then match Ab ps t.Text with
    | none=>none
    | some v=>some ([Tree.mk [] [] v [] []],s + 1)
   else if t.Kind=5 then match mJ st t.N with
    | none=>none
    | some x=>if x=0 then some ([],s + 1) else dG st ps t.Kids (s + 1)
   else if t.Kind=6 then match mJ st t.N with
    | none=>none
    | some x=>if x ≤ 24 then gZ (fun s=>dG st ps t.Kids s) x.toNat 0 (s + 1) else none
   else if t.Kind=7 then some ([Tree.mk Dv [] [] [] []],s + 1)
   else none
  else none:=by cases t; rw [rowP]; rfl
def Told (s:Nat) (o:Option (List Tree × Nat)):Prop:=∀ l s',o=some (l,s')→l.length + s ≤ s'∧s' ≤ 1000
theorem uS (k:Nat→Option (List Tree × Nat)) (hk:∀ s:Nat,s ≤ 1000→Told s (k s)):∀ (m i s:Nat),s ≤ 1000→Told s (gZ k m i s)
 | 0,i,s,hs,l,s',h=>by simp only [gZ,Option.some.injEq,Prod.mk.injEq] at h; obtain ⟨rfl,rfl⟩:=h; simp; omega
 | m + 1,i,s,hs,l,s',h=>by
  rw [gZ] at h
  split at h
  ·
   cases h
  ·
   rename_i a s1 h1
   obtain ⟨g1,g2⟩:=hk s hs a s1 h1
   split at h
   ·
    cases h
   ·
    rename_i b s2 h2
    obtain ⟨g3,g4⟩:=uS k hk m (i + 1) s1 g2 b s2 h2
    simp only [Option.some.injEq,Prod.mk.injEq] at h
    obtain ⟨rfl,rfl⟩:=h
    simp; omega
theorem lJ (st:List Int) (ps:List eu):∀ (l:List aQ) (s:Nat),(∀ z ∈ l,∀ s:Nat,s ≤ 1000→Told s (rowP st ps z s))→s ≤ 1000→Told s (dG st ps l s)
 | [],s,_,hs,a,s',h=>by simp only [dG,Option.some.injEq,Prod.mk.injEq] at h; obtain ⟨rfl,rfl⟩:=h; simp; omega
 | t :: l,s,hz,hs,a,s',h=>by
  rw [dG] at h
  split at h
  ·
   cases h
  ·
   rename_i b s1 h1
   obtain ⟨g1,g2⟩:=hz t List.mem_cons_self s hs b s1 h1
   split at h
   ·
    cases h
   ·
    rename_i c s2 h2
    obtain ⟨g3,g4⟩:=lJ st ps l s1 (fun z hm=>hz z (List.mem_cons_of_mem _ hm)) g2 c s2 h2
    simp only [Option.some.injEq,Prod.mk.injEq] at h
    obtain ⟨rfl,rfl⟩:=h
    simp; omega
theorem pK (st:List Int) (ps:List eu):∀ (m:Nat) (t:aQ),S.iM t ≤ m→∀ s,s ≤ 1000→Told s (rowP st ps t s)
 | 0,t,hm,s,hs=>by have:=S.eP t; omega
 | m + 1,t,hm,s,hs=>by
  have hz:∀ z ∈ t.Kids,∀ s:Nat,s ≤ 1000→Told s (rowP st ps z s):=fun z hzm s hs=>pK st ps m z (by have:=S.jE hzm; omega) s hs
  intro l s' h
  rw [rU] at h
  split at h
  ·
   rename_i h1000
   split at h
   ·
    split at h
    ·
     cases h
    ·
     rename_i a s1 h1
     obtain ⟨g1,g2⟩:=lJ st ps t.Kids (s + 1) hz h1000 a s1 h1
     simp only [Option.some.injEq,Prod.mk.injEq] at h
     obtain ⟨rfl,rfl⟩:=h
     simp; omega
   ·
    split at h
    ·
     simp only [Option.some.injEq,Prod.mk.injEq] at h; obtain ⟨rfl,rfl⟩:=h; simp; omega
    ·
     split at h
     ·
      split at h
      ·
       cases h
      ·
       simp only [Option.some.injEq,Prod.mk.injEq] at h; obtain ⟨rfl,rfl⟩:=h; simp; omega
     ·
      split at h
      ·
       split at h
       ·
        cases h
       ·
        simp only [Option.some.injEq,Prod.mk.injEq] at h; obtain ⟨rfl,rfl⟩:=h; simp; omega
      ·
       split at h
       ·
        split at h
        ·
         cases h
        ·
         split at h
         ·
          simp only [Option.some.injEq,Prod.mk.injEq] at h; obtain ⟨rfl,rfl⟩:=h; simp; omega
         ·
          obtain ⟨g1,g2⟩:=lJ st ps t.Kids (s + 1) hz h1000 l s' h
          exact ⟨by omega,g2⟩
       ·
        split at h
        ·
         split at h
         ·
          cases h
         ·
          split at h
          ·
           obtain ⟨g1,g2⟩:=uS _ (fun s hs=>lJ st ps t.Kids s hz hs) _ 0 (s + 1) h1000 l s' h
           exact ⟨by omega,g2⟩
          ·
           cases h
        ·
         split at h
         ·
          simp only [Option.some.injEq,Prod.mk.injEq] at h; obtain ⟨rfl,rfl⟩:=h; simp; omega
         ·
          cases h
  ·
   cases h
theorem lT (n:Nat) (b:Bool) (s:Str) (i:Int):gT n b s i=some (if b=true then some () else none):=by
 cases b <;> rfl
def conv (st:List Int) (ps:List eu) (o:Option (List Tree × Nat)):Option (List Tree × aC):=match o with
 | none=>none
 | some (l,s)=>some (l,aC.mk st ps (s:Int))
theorem qC (n:Nat) (st:List Int) (ps:List eu) (s i:Int):eT n (aC.mk st ps s) i=some (mJ st i):=by
 unfold eT mJ
 rw [lT,Option.bind_some]
 by_cases h:0 ≤ i∧i < st.length
 ·
  have hb:(decide (0 ≤ i) && decide (i < ((aC.mk st ps s).state.length:Int)))=true:=by
   simp only [Bool.and_eq_true,decide_eq_true_eq]; exact h
  rw [hb,if_pos rfl,if_pos h]
  obtain ⟨j,rfl⟩:=Int.eq_ofNat_of_zero_le h.1
  have hj:j < st.length:=by omega
  show (idx st ((j:Nat):Int)).bind _=_
  rw [iQ,List.getElem?_eq_getElem hj]
  simp [List.getD_eq_getElem?_getD,hj]
 ·
  have hb:(decide (0 ≤ i) && decide (i < ((aC.mk st ps s).state.length:Int)))=false:=by
   rw [Bool.eq_false_iff]; simp only [ne_eq,Bool.and_eq_true,decide_eq_true_eq]; exact h
  rw [hb,if_neg (by simp),if_neg h]; rfl
theorem Bn (n:Nat) (st:List Int) (ps:List eu) (s:Int) (name:Str) (hl:ps.length < n) (hl2:ps.length ≤ 1000000):gJ n (aC.mk st ps s) name=some (Ab ps name):=by
 have key:∀ (rest done:List eu) (k:Nat),ps=done ++ rest→rest.length < k→cB n (aC.mk st ps s) name k (done.length:Int)=some (Ab rest name):=by
  intro rest
  induction rest with
  | nil =>
   intro done k e hk
   cases k with
   | zero=>omega
   | succ k =>
    rw [cB,if_neg (by rw [decide_eq_true_eq]; show ¬ ((done.length:Int) < (ps.length:Int)); rw [e]; simp),lT]; rfl
  | cons q rest ih =>
   intro done k e hk
   cases k with
   | zero=>omega
   | succ k =>
    have hlen:ps.length=done.length + rest.length + 1:=by rw [e]; simp; omega
    rw [cB,if_pos (by rw [decide_eq_true_eq]; show (done.length:Int) < (ps.length:Int); omega),show (aC.mk st ps s).params=ps from rfl,jl e,Option.bind_some]
    unfold Ab at ih ⊢
    rw [List.find?_cons]
    cases hq:(q.Name == name) with
    | true=>rw [if_pos rfl]; rfl
    | false =>
     have hw:IntKind.wrap .i64 ((done.length:Int) + 1)=(((done ++ [q]).length:Nat):Int):=by rw [nL (by omega) (by omega)]; simp
     rw [if_neg (by simp),hw]
     exact ih (done ++ [q]) k (by rw [e]; simp) (by simp at hk; omega)
 unfold gJ
 exact key ps [] n rfl hl
section
variable {st:List Int} {ps:List eu}
theorem Bw (prow:aC→aQ→Option (Option (List Tree × aC))) (l:List aQ) (hl:l.length ≤ 1000000):∀ (rest done:List aQ) (k s:Nat) (acc:List Tree),l=done ++ rest→rest.length < k→(∀ z ∈ rest,∀ s:Nat,s ≤ 1000→prow (aC.mk st ps (s:Int)) z=some (conv st ps (rowP st ps z s))∧Told s (rowP st ps z s))→s ≤ 1000→acc.length ≤ s →
  bY prow l k st ps (s:Int) acc (done.length:Int)=some (match dG st ps rest s with | none=>none | some (b,s')=>some (acc ++ b,aC.mk st ps (s':Int)))
 | [],done,k + 1,s,acc,h,hk,hz,hs,ha=>by
  rw [bY,if_neg (by rw [decide_eq_true_eq,h]; simp)]
  simp [dG]
 | t :: rest,done,k + 1,s,acc,h,hk,hz,hs,ha=>by
  have hlen:l.length=done.length + rest.length + 1:=by rw [h]; simp; omega
  have hw:IntKind.wrap .i64 ((done.length:Int) + 1)=(((done ++ [t]).length:Nat):Int):=by rw [nL (by omega) (by omega)]; simp
  obtain ⟨z1,z2⟩:=hz t List.mem_cons_self s hs
  rw [bY,if_pos (by rw [decide_eq_true_eq]; omega),jl h,Option.bind_some,z1,Option.bind_some,dG]
  cases hr:rowP st ps t s with
  | none=>rfl
  | some p =>
   obtain ⟨a,s1⟩:=p
   obtain ⟨g1,g2⟩:=z2 a s1 hr
   simp only [conv,qQ]
   rw [l8 (by rw [bnd]; omega),Option.bind_some,hw,Bw prow l hl rest (done ++ [t]) k s1 (acc ++ a) (by rw [h]; simp) (by simp at hk; omega) (fun z hm=>hz z (List.mem_cons_of_mem _ hm)) g2 (by simp; omega)]
   cases dG st ps rest s1 with
   | none=>rfl
   | some p=>simp
theorem CQ (prow:aC→aQ→Option (Option (List Tree × aC))) (l:List aQ) (n s:Nat) (hl:l.length ≤ 1000000) (hn:l.length < n) (hz:∀ z ∈ l,∀ s:Nat,s ≤ 1000→prow (aC.mk st ps (s:Int)) z=some (conv st ps (rowP st ps z s))∧Told s (rowP st ps z s)) (hs:s ≤ 1000) :
  dM prow n (aC.mk st ps (s:Int)) l=some (conv st ps (dG st ps l s)):=by
 unfold dM
 rw [show bY prow l n (aC.mk st ps (s:Int)).state (aC.mk st ps (s:Int)).params (aC.mk st ps (s:Int)).steps [] 0=_ from Bw prow l hl l [] n s [] rfl hn hz hs (by simp)]
 unfold conv
 cases dG st ps l s with
 | none=>rfl
 | some p=>simp
theorem zD (n:Nat) {x:Int} (h0:-9223372036854775808 ≤ x) (h1:x ≤ 9223372036854775807):strconv_Itoa n x=some (qN x):=by unfold strconv_Itoa; rw [if_pos ⟨h0,h1⟩]
theorem zw (n i:Nat) (hi:i ≤ 1000) (again:List Int→List eu→Int→List Tree→Int→Option (Option (List Tree × aC))) (s':Nat) (l:List Tree) (hl:l.length ≤ 1000):∀ (rest done:List Tree) (k:Nat) (acc:List Tree),l=done ++ rest→rest.length < k→acc.length + rest.length ≤ 100000 →
  bF n (i:Int) again (l,aC.mk st ps (s':Int)) k acc (done.length:Int)=again st ps (s':Int) (acc ++ rest.map (keyed i)) (((i + 1:Nat)):Int)
 | [],done,k + 1,acc,h,hk,ha=>by
  rw [bF,if_neg (by rw [decide_eq_true_eq]; show ¬ ((done.length:Int) < (l.length:Int)); rw [h]; simp),nL (by omega) (by omega)]
  simp
 | z :: rest,done,k + 1,acc,h,hk,ha=>by
  have hlen:l.length=done.length + rest.length + 1:=by rw [h]; simp; omega
  have hw:IntKind.wrap .i64 ((done.length:Int) + 1)=(((done ++ [z]).length:Nat):Int):=by rw [nL (by omega) (by omega)]; simp
  simp only [List.length_cons] at ha
  rw [bF,if_pos (by rw [decide_eq_true_eq]; show (done.length:Int) < (l.length:Int); omega),show idx (l,aC.mk st ps (s':Int)).1 (done.length:Int)=some z from jl h,Option.bind_some]
  have step:∀ key:Str,dN acc (done.length:Int) (bF n (i:Int) again (l,aC.mk st ps (s':Int)) k) z key=again st ps (s':Int) (acc ++ Tree.mk z.Tag key z.Text z.aI z.Kids :: rest.map (keyed i)) (((i + 1:Nat)):Int):=fun key=>by
   unfold dN
   rw [l8 (by rw [bnd]; simp; omega),Option.bind_some,hw,zw n i hi again s' l hl rest (done ++ [z]) k _ (by rw [h]; simp) (by simp at hk; omega) (by simp; omega)]
   simp
  rw [List.map_cons,keyed]
  by_cases ht:z.Tag=[]
  ·
   rw [if_neg (by simp [ht]),if_pos ht,step]
  ·
   rw [if_pos (by simpa using ht),if_neg ht,zD n (by omega) (by omega),Option.bind_some,step]
theorem xI (n:Nat) (hn:1001 < n) (prow:aC→aQ→Option (Option (List Tree × aC))) (t:aQ) (x:Int) (hx:x ≤ 24) (hk:∀ s:Nat,s ≤ 1000→dM prow n (aC.mk st ps (s:Int)) t.Kids=some (conv st ps (dG st ps t.Kids s))∧Told s (dG st ps t.Kids s)):∀ (m i k s:Nat) (acc:List Tree),i + m=x.toNat→m < k→s ≤ 1000→acc.length ≤ s →
  aZ n prow t x k st ps (s:Int) acc (i:Int)=some (match gZ (fun s=>dG st ps t.Kids s) m i s with | none=>none | some (b,s')=>some (acc ++ b,aC.mk st ps (s':Int)))
 | 0,i,k + 1,s,acc,hi,hk',hs,ha=>by
  have hmx:(mO x 0)=(x.toNat:Int):=by unfold mO; split <;> omega
  rw [aZ,if_neg (by rw [decide_eq_true_eq,hmx]; omega)]
  simp [gZ]
 | m + 1,i,k + 1,s,acc,hi,hk',hs,ha=>by
  have hmx:(mO x 0)=(x.toNat:Int):=by unfold mO; split <;> omega
  obtain ⟨q1,q2⟩:=hk s hs
  rw [aZ,if_pos (by rw [decide_eq_true_eq,hmx]; omega),q1,Option.bind_some,gZ]
  cases hr:dG st ps t.Kids s with
  | none=>rfl
  | some p =>
   obtain ⟨a,s1⟩:=p
   obtain ⟨g1,g2⟩:=q2 a s1 hr
   simp only [conv,qQ]
   have:=zw (st:=st) (ps:=ps) n i (by omega) (aZ n prow t x k) s1 a (by omega) a [] n acc rfl (by omega) (by omega)
   rw [show bF n (i:Int) (aZ n prow t x k) (a,aC.mk st ps (s1:Int)) n acc 0=_ from this,xI n hn prow t x hx hk m (i + 1) k s1 _ (by omega) (by omega) g2 (by simp; omega)]
   cases gZ (fun s=>dG st ps t.Kids s) m (i + 1) s1 with
   | none=>rfl
   | some p=>simp
theorem CK (n:Nat) (hn:1001 < n) (prow:aC→aQ→Option (Option (List Tree × aC))) (t:aQ) (hk:∀ s:Nat,s ≤ 1000→dM prow n (aC.mk st ps (s:Int)) t.Kids=some (conv st ps (dG st ps t.Kids s))∧Told s (dG st ps t.Kids s)) (s:Nat) (hs:s ≤ 1000) :
  ic prow n (aC.mk st ps (s:Int)) t=some (conv st ps (match mJ st t.N with
    | none=>none
    | some x=>if x ≤ 24 then gZ (fun s=>dG st ps t.Kids s) x.toNat 0 s else none)):=by
 unfold ic
 rw [qC,Option.bind_some]
 cases hx:mJ st t.N with
 | none=>rfl
 | some x =>
  simp only [qQ]
  rw [lT,Option.bind_some]
  by_cases h24:x ≤ 24
  ·
   rw [if_pos (by simpa using h24),if_pos h24]
   simp only []
   have:=xI (st:=st) (ps:=ps) n hn prow t x h24 hk x.toNat 0 n s [] (by omega) (by omega) hs (by simp)
   rw [show aZ n prow t x n (aC.mk st ps (s:Int)).state (aC.mk st ps (s:Int)).params (aC.mk st ps (s:Int)).steps [] 0=_ from this]
   unfold conv
   cases gZ (fun s=>dG st ps t.Kids s) x.toNat 0 s with
   | none=>rfl
   | some p=>simp
  ·
   rw [if_neg (by simpa using h24),if_neg h24]; rfl
theorem Bz (o:Option (List Tree × Nat)):(some (conv st ps o)).bind (fun z=>qQ z (fun x=>some (some (x.1,x.2))))=some (conv st ps o):=by cases o <;> rfl
def Cu (st:List Int):Prop:=st.length ≤ 1000000∧∀ x ∈ st,-9223372036854775808 ≤ x∧x ≤ 9223372036854775807
theorem Cj {st:List Int} {i x:Int} (h:mJ st i=some x):x ∈ st:=by
 unfold mJ at h
 split at h
 ·
  rename_i hc
  cases h
  have hj:i.toNat < st.length:=by omega
  rw [List.getD_eq_getElem?_getD,List.getElem?_eq_getElem hj]
  exact List.getElem_mem hj
 ·
  cases h
theorem BJ (hst:Cu st) (hps:ps.length ≤ 1000):∀ (m:Nat) (t:aQ),S.iM t ≤ m→m ≤ 100000→S.pg 7 t→∀ n,m + 1100 < n→∀ s:Nat,s ≤ 1000→bM n (aC.mk st ps (s:Int)) t=some (conv st ps (rowP st ps t s))
 | 0,t,hm,_,_,n,hn,s,hs=>by have:=S.eP t; omega
 | m + 1,t,hm,hm2,hg,n + 1,hn,s,hs=>by
  have hgi:=(S.yP t).1 hg
  have hlen:t.Kids.length ≤ m:=by have:=S.eP t; have:=S.nE t.Kids; omega
  have hz:∀ z ∈ t.Kids,∀ s:Nat,s ≤ 1000→bM n (aC.mk st ps (s:Int)) z=some (conv st ps (rowP st ps z s))∧Told s (rowP st ps z s):=fun z hzm s hs=>by
   have:=S.jE hzm
   exact ⟨BJ hst hps m z (by omega) (by omega) (hgi.2.2.2.2.2 z hzm) n (by omega) s hs,pK st ps m z (by omega) s hs⟩
  have hkids:∀ s:Nat,s ≤ 1000→dM (bM n) n (aC.mk st ps (s:Int)) t.Kids=some (conv st ps (dG st ps t.Kids s)):=fun s hs=>CQ (bM n) t.Kids n s (by omega) (by omega) hz hs
  have htold:∀ s,s ≤ 1000→Told s (dG st ps t.Kids s):=fun s hs=>lJ st ps t.Kids s (fun z hzm s hs=>(hz z hzm s hs).2) hs
  have hw:IntKind.wrap .i64 ((aC.mk st ps (s:Int)).steps + 1)=((s + 1:Nat):Int):=by
   show IntKind.wrap .i64 ((s:Int) + 1)=_
   rw [nL (by omega) (by omega)]; push_cast; rfl
  rw [bM,rU,hw,lT,Option.bind_some]
  by_cases h1000:s + 1 ≤ 1000
  ·
   have hd:decide (((s + 1:Nat):Int) ≤ 1000)=true:=by rw [decide_eq_true_eq]; omega
   rw [hd,if_pos rfl,if_pos h1000]
   simp only [qQ]
   by_cases c1:t.Kind=1
   ·
    rw [if_pos (by simpa using c1),if_pos c1,l8 (by rw [bnd]; have:=hgi.2.2.2.2.1; simp; omega),Option.bind_some,hkids (s + 1) h1000,Option.bind_some]
    cases dG st ps t.Kids (s + 1) with
    | none=>rfl
    | some p=>simp [conv]
   ·
    rw [if_neg (by simpa using c1),if_neg c1]
    by_cases c2:t.Kind=2
    ·
     rw [if_pos (by simpa using c2),if_pos c2]; rfl
    ·
     rw [if_neg (by simpa using c2),if_neg c2]
     by_cases c3:t.Kind=3
     ·
      rw [if_pos (by simpa using c3),if_pos c3,qC,Option.bind_some]
      cases hx:mJ st t.N with
      | none=>rfl
      | some x =>
       have:=hst.2 x (Cj hx)
       simp only []
       rw [zD n this.1 this.2]; rfl
     ·
      rw [if_neg (by simpa using c3),if_neg c3]
      by_cases c4:t.Kind=4
      ·
       rw [if_pos (by simpa using c4),if_pos c4,Bn n st ps _ _ (by omega) (by omega),Option.bind_some]
       cases Ab ps t.Text <;> rfl
      ·
       rw [if_neg (by simpa using c4),if_neg c4]
       by_cases c5:t.Kind=5
       ·
        rw [if_pos (by simpa using c5),if_pos c5,qC,Option.bind_some]
        cases hx:mJ st t.N with
        | none=>rfl
        | some x =>
         simp only []
         by_cases hx0:x=0
         ·
          rw [if_pos (by simpa using hx0),if_pos hx0]; rfl
         ·
          rw [if_neg (by simpa using hx0),if_neg hx0,hkids (s + 1) h1000,Option.bind_some]
          cases dG st ps t.Kids (s + 1) <;> rfl
       ·
        rw [if_neg (by simpa using c5),if_neg c5]
        by_cases c6:t.Kind=6
        ·
         rw [if_pos (by simpa using c6),if_pos c6,CK n (by omega) (bM n) t (fun s hs=>⟨hkids s hs,htold s hs⟩) (s + 1) h1000,Option.bind_some]
         exact Bz _
        ·
         rw [if_neg (by simpa using c6),if_neg c6,lT,Option.bind_some]
         by_cases c7:t.Kind=7
         ·
          rw [if_pos (by simpa using c7),if_pos c7]; rfl
         ·
          rw [if_neg (by simpa using c7),if_neg c7]; rfl
  ·
   have hd:decide (((s + 1:Nat):Int) ≤ 1000)=false:=by rw [decide_eq_false_iff_not]; omega
   rw [hd,if_neg (by simp),if_neg h1000]; rfl
end
end Pr
end Go.Ev

namespace Go.Ev
namespace Pr
set_option linter.unusedVariables false
set_option linter.unusedSimpArgs false
theorem DU (n:Nat) (s:Str) (h:s.length ≤ 16):∃ r,jP n s [97,98,99,100,101,102,103,104,105,106,107,108,109,110,111,112,113,114,115,116,117,118,119,120,121,122,48,49,50,51,52,53,54,55,56,57]=some r:=by
 refine ⟨Lib.trimS s [97,98,99,100,101,102,103,104,105,106,107,108,109,110,111,112,113,114,115,116,117,118,119,120,121,122,48,49,50,51,52,53,54,55,56,57],?_⟩
 unfold jP
 rw [if_pos ⟨by rw [bnd]; omega,by decide,by decide⟩]
theorem xZ (l:List Attr) (p:Attr→Option Bool) (hp:∀ y,∃ b,p y=some b) (hl:l.length < 1000000):∀ (m i k:Nat),i + m=l.length→m < k→∃ r,aP l p k (i:Int)=some r
 | 0,i,k + 1,hi,hk=>by
  rw [aP,if_neg (by rw [decide_eq_true_eq]; omega)]
  exact ⟨_,rfl⟩
 | m + 1,i,k + 1,hi,hk=>by
  have hw:IntKind.wrap .i64 ((i:Int) + 1)=((i + 1:Nat):Int):=by rw [nL (by omega) (by omega)]; push_cast; rfl
  rw [aP,if_pos (by rw [decide_eq_true_eq]; omega),iQ,List.getElem?_eq_getElem (by omega),Option.bind_some]
  obtain ⟨b,hb⟩:=hp l[i]
  rw [hb,Option.bind_some,hw]
  cases b with
  | true=>exact ⟨_,rfl⟩
  | false=>exact xZ l p hp hl m (i + 1) k (by omega) (by omega)
theorem uN (n:Nat) (t:Tree) (hl:t.aI.length < 1000000) (hn:t.aI.length < n):∀ (m i k:Nat),i + m=t.aI.length→m < k→∃ b,bV n t k (i:Int)=some b
 | 0,i,k + 1,hi,hk=>by
  rw [bV,if_neg (by rw [decide_eq_true_eq]; omega)]
  exact ⟨_,rfl⟩
 | m + 1,i,k + 1,hi,hk=>by
  have hw:IntKind.wrap .i64 ((i:Int) + 1)=((i + 1:Nat):Int):=by rw [nL (by omega) (by omega)]; push_cast; rfl
  have hc:cut t.aI 0 (i:Int)=some (t.aI.take i):=by unfold cut; rw [if_pos ⟨by omega,by omega,by omega⟩]; simp
  rw [bV,if_pos (by rw [decide_eq_true_eq]; omega),iQ,List.getElem?_eq_getElem (by omega),Option.bind_some,hc,hw]
  have fin:∀ x:Bool,∃ b,(if x=true then some false else bV n t k ((i + 1:Nat):Int))=some b:=fun x=>by
   cases x with
   | true=>exact ⟨_,rfl⟩
   | false=>exact uN n t hl hn m (i + 1) k (by omega) (by omega)
  split
  ·
   exact fin true
  ·
   obtain ⟨r,hr⟩:=xZ (t.aI.take i) (fun y=>fC n y t.aI[i]) (fun y=>⟨_,rfl⟩) (by simp; omega) (t.aI.take i).length 0 n (by omega) (by simp; omega)
   have:bX n (t.aI.take i) (fun y31=>fC n y31 t.aI[i])=some r:=hr
   unfold bT
   simp only [Option.bind_some,this]
   exact fin _
theorem BC (n:Nat) (t:Tree) (hl:t.aI.length < 1000000) (hn:t.aI.length < n):∃ b,iA n t=some b:=by
 unfold iA
 have fin:∀ x:Bool,∃ b,(if (((x || (!(t.Text == []))) || (decide (24 < ((t.Kids).length:Int)))) || (decide (64 < ((t.Key).length:Int))))=true then (some false) else (bV n t n (0)))=some b:=fun x=>by
  split
  ·
   exact ⟨_,rfl⟩
  ·
   exact uN n t hl hn t.aI.length 0 n (by omega) hn
 split
 ·
  exact fin true
 ·
  rename_i h
  obtain ⟨r,hr⟩:=DU n t.Tag (by rw [decide_eq_true_eq] at h; omega)
  rw [hr]
  exact fin _
theorem tZ (self:Tree→Option Bool) (t:Tree) (hl:t.Kids.length < 1000000) (hs:∀ z ∈ t.Kids,∃ b,self z=some b):∀ (m i k:Nat),i + m=t.Kids.length→m < k→∃ b,dK self t k (i:Int)=some b
 | 0,i,k + 1,hi,hk=>by
  rw [dK,if_neg (by rw [decide_eq_true_eq]; omega)]
  exact ⟨_,rfl⟩
 | m + 1,i,k + 1,hi,hk=>by
  have hw:IntKind.wrap .i64 ((i:Int) + 1)=((i + 1:Nat):Int):=by rw [nL (by omega) (by omega)]; push_cast; rfl
  have hlt:i < t.Kids.length:=by omega
  rw [dK,if_pos (by rw [decide_eq_true_eq]; omega),iQ,List.getElem?_eq_getElem hlt,Option.bind_some,hw]
  obtain ⟨b,hb⟩:=hs t.Kids[i] (List.getElem_mem hlt)
  rw [hb,Option.bind_some]
  cases b with
  | false=>exact ⟨_,rfl⟩
  | true=>exact tZ self t hl hs m (i + 1) k (by omega) (by omega)
theorem vE:∀ (m:Nat) (t:Tree),T.gF t ≤ m→m < 1000000→∀ n,m < n→∃ b,eZ n t=some b
 | 0,t,hm,_,n,_=>by have:=T.jB t; omega
 | m + 1,t,hm,hm2,n + 1,hn=>by
  have h1:=T.jB t
  have h2:=T.wC t.Kids
  rw [eZ]
  split
  ·
   exact ⟨_,rfl⟩
  ·
   obtain ⟨b,hb⟩:=BC n t (by omega) (by omega)
   rw [hb,Option.bind_some]
   cases b with
   | false=>exact ⟨_,rfl⟩
   | true=>exact tZ (eZ n) t (by omega) (fun z hz=>vE m z (by have:=T.sw hz; omega) (by omega) n (by omega)) t.Kids.length 0 n (by omega) (by omega)
theorem BI:∀ (m:Nat) (t:Tree),T.gF t ≤ m→T.lh t ≤ T.gF t
 | 0,t,hm=>by have:=T.jB t; omega
 | m + 1,t,hm=>by
  have hl:∀ (l:List Tree),(∀ z ∈ l,T.lh z ≤ T.gF z)→T.lN l ≤ T.gF.lsz l:=by
   intro l
   induction l with
   | nil=>intro _; exact Nat.le_refl _
   | cons x l ih =>
    intro hz
    have:=hz x List.mem_cons_self
    have:=ih (fun z h=>hz z (List.mem_cons_of_mem _ h))
    simp only [T.lN,T.gF.lsz]; omega
  have:=hl t.Kids (fun z hz=>BI m z (by have:=T.sw hz; omega))
  rw [T.jB,T.jb]; omega
theorem Ai (t:Tree) {m n:Nat} (h:T.gF t ≤ m) (hm:m < 1000000) (hn:m < n):∃ b,gM n t=some b∧(b=true→T.lh t ≤ 60):=by
 unfold gM
 obtain ⟨b,hb⟩:=vE m t h hm n hn
 have hc:=BI m t h
 rw [hb,Option.bind_some]
 cases b with
 | false=>exact ⟨false,rfl,by simp⟩
 | true =>
  rw [if_pos rfl,T.pz m t (by omega) (by omega) n hn,Option.bind_some,Option.bind_some]
  by_cases c:(T.lh t:Int) ≤ 60
  ·
   rw [if_pos (by simpa using c),T.zL m t (by omega) (by omega) n hn]
   exact ⟨_,rfl,fun _=>by omega⟩
  ·
   rw [if_neg (by simpa using c)]
   exact ⟨false,rfl,by simp⟩
theorem zN (a b:List Tree):T.gF.lsz (a ++ b)=T.gF.lsz a + T.gF.lsz b:=by
 induction a with
 | nil=>simp [T.gF.lsz]
 | cons x a ih=>simp only [List.cons_append,T.gF.lsz,ih]; omega
theorem xn (a b:List Tree):T.oJ (a ++ b)=T.oJ a + T.oJ b:=by
 induction a with
 | nil=>simp [T.oJ]
 | cons x a ih=>simp only [List.cons_append,T.oJ,ih]; omega
theorem yY (i:Nat) (x:Tree):T.gF (keyed i x)=T.gF x∧T.zk (keyed i x)=T.zk x:=by
 unfold keyed
 cases x
 split <;> simp [T.gF,T.zk,Tree.Tag,Tree.Text,Tree.aI,Tree.Kids]
theorem vD (i:Nat) (l:List Tree):T.gF.lsz (l.map (keyed i))=T.gF.lsz l∧T.oJ (l.map (keyed i))=T.oJ l:=by
 induction l with
 | nil=>exact ⟨rfl,rfl⟩
 | cons x l ih =>
  have:=yY i x
  simp only [List.map_cons,T.gF.lsz,T.oJ]; omega
mutual
def BX:aQ→Nat
 | .mk k _ _ _ _ ks=>(if k=7 then 1 else 0) + rJ ks
def rJ:List aQ→Nat
 | []=>0
 | t :: l=>BX t + rJ l
end
theorem xS (t:aQ):BX t=(if t.Kind=7 then 1 else 0) + rJ t.Kids:=by cases t; rw [BX]; rfl
mutual
def rG (b:Bool):aQ→Prop
 | .mk k _ _ _ _ ks=>¬ (k=7∧b=true)∧xz (b || k == 5 || k == 6) ks
def xz (b:Bool):List aQ→Prop
 | []=>True
 | t :: l=>rG b t∧xz b l
end
theorem u6 {b:Bool}:∀ {l:List aQ},xz b l↔∀ z ∈ l,rG b z
 | []=>by simp [xz]
 | t :: l=>by rw [xz,u6 (l:=l)]; simp
theorem tF {b:Bool} (t:aQ):rG b t↔¬ (t.Kind=7∧b=true)∧∀ z ∈ t.Kids,rG (b || t.Kind == 5 || t.Kind == 6) z:=by
 cases t
 rw [rG,u6]; rfl
theorem vP:∀ (m:Nat) (t:aQ),S.iM t ≤ m→rG true t→BX t=0
 | 0,t,hm,_=>by have:=S.eP t; omega
 | m + 1,t,hm,h=>by
  have h':=(tF t).1 h
  have hl:∀ (l:List aQ),(∀ z ∈ l,BX z=0)→rJ l=0:=by
   intro l
   induction l with
   | nil=>intro _; rfl
   | cons x l ih =>
    intro hz
    have:=hz x List.mem_cons_self
    have:=ih (fun z h=>hz z (List.mem_cons_of_mem _ h))
    simp only [rJ]; omega
  have:=hl t.Kids (fun z hz=>vP m z (by have:=S.jE hz; omega) (by have:=h'.2 z hz; simpa using this))
  rw [xS,this,if_neg (by intro h; exact h'.1 ⟨h,rfl⟩)]
def Big (s:Nat) (o:Option (List Tree × Nat)):Prop:=∀ l s',o=some (l,s')→T.gF.lsz l + 65 * s ≤ 65 * s'
def Cr (c:Nat) (o:Option (List Tree × Nat)):Prop:=∀ l s',o=some (l,s')→T.oJ l=c
theorem yD (st:List Int) (ps:List eu):∀ (l:List aQ) (s:Nat),(∀ z ∈ l,∀ s:Nat,Big s (rowP st ps z s))→Big s (dG st ps l s)
 | [],s,_,a,s',h=>by simp only [dG,Option.some.injEq,Prod.mk.injEq] at h; obtain ⟨rfl,rfl⟩:=h; simp [T.gF.lsz]
 | t :: l,s,hz,a,s',h=>by
  rw [dG] at h
  split at h
  ·
   cases h
  ·
   rename_i b s1 h1
   have g1:=hz t List.mem_cons_self s b s1 h1
   split at h
   ·
    cases h
   ·
    rename_i c s2 h2
    have g3:=yD st ps l s1 (fun z hm=>hz z (List.mem_cons_of_mem _ hm)) c s2 h2
    simp only [Option.some.injEq,Prod.mk.injEq] at h
    obtain ⟨rfl,rfl⟩:=h
    rw [zN]; omega
theorem yC (k:Nat→Option (List Tree × Nat)) (hk:∀ s:Nat,Big s (k s)):∀ (m i s:Nat),Big s (gZ k m i s)
 | 0,i,s,l,s',h=>by simp only [gZ,Option.some.injEq,Prod.mk.injEq] at h; obtain ⟨rfl,rfl⟩:=h; simp [T.gF.lsz]
 | m + 1,i,s,l,s',h=>by
  rw [gZ] at h
  split at h
  ·
   cases h
  ·
   rename_i a s1 h1
   have g1:=hk s a s1 h1
   split at h
   ·
    cases h
   ·
    rename_i b s2 h2
    have g3:=yC k hk m (i + 1) s1 b s2 h2
    simp only [Option.some.injEq,Prod.mk.injEq] at h
    obtain ⟨rfl,rfl⟩:=h
    rw [zN,(vD i a).1]; omega
theorem xQ (st:List Int) (ps:List eu):∀ (l:List aQ) (s:Nat),(∀ z ∈ l,∀ s:Nat,Cr (BX z) (rowP st ps z s))→Cr (rJ l) (dG st ps l s)
 | [],s,_,a,s',h=>by simp only [dG,Option.some.injEq,Prod.mk.injEq] at h; obtain ⟨rfl,rfl⟩:=h; rfl
 | t :: l,s,hz,a,s',h=>by
  rw [dG] at h
  split at h
  ·
   cases h
  ·
   rename_i b s1 h1
   have g1:=hz t List.mem_cons_self s b s1 h1
   split at h
   ·
    cases h
   ·
    rename_i c s2 h2
    have g3:=xQ st ps l s1 (fun z hm=>hz z (List.mem_cons_of_mem _ hm)) c s2 h2
    simp only [Option.some.injEq,Prod.mk.injEq] at h
    obtain ⟨rfl,rfl⟩:=h
    rw [xn,rJ]; omega
theorem yu (k:Nat→Option (List Tree × Nat)) (hk:∀ s:Nat,Cr 0 (k s)):∀ (m i s:Nat),Cr 0 (gZ k m i s)
 | 0,i,s,l,s',h=>by simp only [gZ,Option.some.injEq,Prod.mk.injEq] at h; obtain ⟨rfl,rfl⟩:=h; rfl
 | m + 1,i,s,l,s',h=>by
  rw [gZ] at h
  split at h
  ·
   cases h
  ·
   rename_i a s1 h1
   have g1:=hk s a s1 h1
   split at h
   ·
    cases h
   ·
    rename_i b s2 h2
    have g3:=yu k hk m (i + 1) s1 b s2 h2
    simp only [Option.some.injEq,Prod.mk.injEq] at h
    obtain ⟨rfl,rfl⟩:=h
    rw [xn,(vD i a).2]; omega
theorem wS (st:List Int) (ps:List eu):∀ (m:Nat) (t:aQ),S.iM t ≤ m→S.pg 7 t→∀ s:Nat,Big s (rowP st ps t s)∧(∀ b,rG b t→Cr (BX t) (rowP st ps t s))
 | 0,t,hm,_,s=>by have:=S.eP t; omega
 | m + 1,t,hm,hg,s=>by
  have hgi:=(S.yP t).1 hg
  have hz:∀ z ∈ t.Kids,∀ s:Nat,Big s (rowP st ps z s)∧(∀ b,rG b z→Cr (BX z) (rowP st ps z s)):=fun z hzm s=>wS st ps m z (by have:=S.jE hzm; omega) (hgi.2.2.2.2.2 z hzm) s
  have hkb:∀ s:Nat,Big s (dG st ps t.Kids s):=fun s=>yD st ps t.Kids s (fun z hzm s=>(hz z hzm s).1)
  have hks:∀ b,rG b t→∀ s:Nat,Cr (rJ t.Kids) (dG st ps t.Kids s):=fun b hb s=>xQ st ps t.Kids s (fun z hzm s=>(hz z hzm s).2 _ (((tF t).1 hb).2 z hzm))
  have h0:∀ b,rG b t→(t.Kind=5∨t.Kind=6)→rJ t.Kids=0:=fun b hb h56=>by
   have hb2:=((tF t).1 hb).2
   have e:(b || t.Kind == 5 || t.Kind == 6)=true:=by rcases h56 with h | h <;> simp [h]
   rw [e] at hb2
   have hl:∀ (l:List aQ),(∀ z ∈ l,BX z=0)→rJ l=0:=by
    intro l
    induction l with
    | nil=>intro _; rfl
    | cons x l ih =>
     intro hz
     have:=hz x List.mem_cons_self
     have:=ih (fun z h=>hz z (List.mem_cons_of_mem _ h))
     simp only [rJ]; omega
   exact hl t.Kids (fun z hz=>vP (S.iM z) z (Nat.le_refl _) (hb2 z hz))
  have hk0:t.Kind ≠ 1→t.Kind ≠ 5→t.Kind ≠ 6→rJ t.Kids=0:=fun a b c=>by rw [hgi.2.1 a b c]; rfl
  have hpk:=xS t
  have hatt:=hgi.2.2.2.2.1
  rw [rU]
  by_cases c:s + 1 ≤ 1000
  ·
   rw [if_pos c]
   by_cases c1:t.Kind=1
   ·
    rw [if_pos c1]
    rw [if_neg (by omega)] at hpk
    constructor
    ·
     intro l s' h
     split at h
     ·
      cases h
     ·
      rename_i a s1 h1
      have:=hkb (s + 1) a s1 h1
      simp only [Option.some.injEq,Prod.mk.injEq] at h
      obtain ⟨rfl,rfl⟩:=h
      simp only [T.gF.lsz,T.gF]; omega
    ·
     intro b hb l s' h
     split at h
     ·
      cases h
     ·
      rename_i a s1 h1
      have:=hks b hb (s + 1) a s1 h1
      simp only [Option.some.injEq,Prod.mk.injEq] at h
      obtain ⟨rfl,rfl⟩:=h
      have ho:T.xV t.Tag=0:=by unfold T.xV; exact if_neg hgi.2.2.1
      simp only [T.oJ,T.zk,ho]; omega
   ·
    rw [if_neg c1]
    have leaf:∀ x:Str,t.Kind ≠ 7→t.Kind ≠ 5→t.Kind ≠ 6→Big s (some ([Tree.mk [] [] x [] []],s + 1))∧(∀ b,rG b t→Cr (BX t) (some ([Tree.mk [] [] x [] []],s + 1))):=fun x h7 h5 h6=>by
     rw [if_neg h7,hk0 c1 h5 h6] at hpk
     refine ⟨fun l s' h=>?_,fun b hb l s' h=>?_⟩
     ·
      simp only [Option.some.injEq,Prod.mk.injEq] at h; obtain ⟨rfl,rfl⟩:=h; simp [T.gF.lsz,T.gF]; omega
     ·
      simp only [Option.some.injEq,Prod.mk.injEq] at h; obtain ⟨rfl,rfl⟩:=h; rw [hpk]; simp [T.oJ,T.zk,T.xV]
    have non:Big s none∧(∀ b,rG b t→Cr (BX t) none):=⟨fun _ _ h=>(by cases h),fun _ _ _ _ h=>(by cases h)⟩
    by_cases c2:t.Kind=2
    ·
     rw [if_pos c2]; exact leaf _ (by omega) (by omega) (by omega)
    ·
     rw [if_neg c2]
     by_cases c3:t.Kind=3
     ·
      rw [if_pos c3]
      split
      ·
       exact non
      ·
       exact leaf _ (by omega) (by omega) (by omega)
     ·
      rw [if_neg c3]
      by_cases c4:t.Kind=4
      ·
       rw [if_pos c4]
       split
       ·
        exact non
       ·
        exact leaf _ (by omega) (by omega) (by omega)
      ·
       rw [if_neg c4]
       by_cases c5:t.Kind=5
       ·
        rw [if_pos c5]
        rw [if_neg (by omega)] at hpk
        split
        ·
         exact non
        ·
         split
         ·
          refine ⟨fun l s' h=>?_,fun b hb l s' h=>?_⟩
          ·
           simp only [Option.some.injEq,Prod.mk.injEq] at h; obtain ⟨rfl,rfl⟩:=h; simp [T.gF.lsz]; omega
          ·
           have:=h0 b hb (Or.inl c5)
           simp only [Option.some.injEq,Prod.mk.injEq] at h; obtain ⟨rfl,rfl⟩:=h; simp only [T.oJ]; omega
         ·
          refine ⟨fun l s' h=>?_,fun b hb l s' h=>?_⟩
          ·
           have:=hkb (s + 1) l s' h; omega
          ·
           have:=hks b hb (s + 1) l s' h; omega
       ·
        rw [if_neg c5]
        by_cases c6:t.Kind=6
        ·
         rw [if_pos c6]
         rw [if_neg (by omega)] at hpk
         split
         ·
          exact non
         ·
          split
          ·
           refine ⟨fun l s' h=>?_,fun b hb l s' h=>?_⟩
           ·
            have:=yC _ hkb _ 0 (s + 1) l s' h; omega
           ·
            have h00:=h0 b hb (Or.inr c6)
            have:=yu _ (fun s=>by have:=hks b hb s; rw [h00] at this; exact this) _ 0 (s + 1) l s' h; omega
          ·
           exact non
        ·
         rw [if_neg c6]
         by_cases c7:t.Kind=7
         ·
          rw [if_pos c7]
          rw [if_pos c7,hk0 c1 c5 c6] at hpk
          refine ⟨fun l s' h=>?_,fun b hb l s' h=>?_⟩
          ·
           simp only [Option.some.injEq,Prod.mk.injEq] at h; obtain ⟨rfl,rfl⟩:=h; simp [T.gF.lsz,T.gF]; omega
          ·
           simp only [Option.some.injEq,Prod.mk.injEq] at h; obtain ⟨rfl,rfl⟩:=h; rw [hpk]; simp [T.oJ,T.zk,T.xV,Dv]
         ·
          rw [if_neg c7]; exact non
  ·
   rw [if_neg c]
   exact ⟨fun _ _ h=>(by cases h),fun _ _ _ _ h=>(by cases h)⟩
end Pr
end Go.Ev

namespace Go.Ev
namespace Pr
end Pr
end Go.Ev

namespace Go.Ev
namespace Pr
set_option linter.unusedVariables false
set_option linter.unusedSimpArgs false
def ym:Tree:=Tree.mk [] [] [] [] []
def zi (n:Nat) (o:Option (List Tree × Nat)):Tree × Int:=match o with
 | some ([z],_)=>if z.Tag ≠ []∧gM n z=some true then (z,0) else (ym,6)
 | _=>(ym,6)
theorem qy {st:List Int} {ps:List eu} (hst:Cu st) (hps:ps.length ≤ 1000) {t:aQ} (hc:S.iM t ≤ 1000) (hg:S.pg 7 t) {n:Nat} (hn:65010 < n):eB n t st ps=some (zi n (rowP st ps t 0)):=by
 have h:=BJ hst hps 1000 t hc (by omega) hg n (by omega) 0 (by omega)
 have hb:=(wS st ps 1000 t hc hg 0).1
 have htold:=pK st ps 1000 t hc 0 (by omega)
 rw [show ((0:Nat):Int)=0 from rfl] at h
 unfold eB jo
 rw [h,Option.bind_some]
 cases hr:rowP st ps t 0 with
 | none=>rfl
 | some p =>
  obtain ⟨l,s'⟩:=p
  have hb:=hb l s' hr
  have ht:=htold l s' hr
  simp only [conv,qQ,zi]
  cases l with
  | nil=>rfl
  | cons z r =>
   cases r with
   | cons y r =>
    have e:((((z :: y :: r):List Tree).length:Int) == 1)=false:=by simp; omega
    simp only [e]
    rfl
   | nil =>
    have e:((([z]:List Tree).length:Int) == 1)=true:=rfl
    have ei:idx [z] 0=some z:=rfl
    simp only [e,ei,Option.bind_some,if_pos]
    by_cases htag:z.Tag=[]
    ·
     simp only [htag]
     rfl
    ·
     obtain ⟨b,hb1,_⟩:=Ai z (m:=65000) (n:=n) (by simp only [T.gF.lsz] at hb; omega) (by omega) (by omega)
     have e2:(!(z.Tag == []))=true:=by simpa using htag
     simp only [e2,if_pos,hb1,Option.bind_some]
     cases b with
     | true=>simp [lT,htag,Bv]
     | false=>simp [lT,htag,Bv,ym]
end Pr
end Go.Ev

namespace Go.Ev
namespace Pr
set_option linter.unusedVariables false
set_option linter.unusedSimpArgs false
theorem zC {α:Type} (l:List α) (k:Nat):cut l 0 (Ae ((l.length:Nat):Int) (k:Int))=some (l.take k):=by
 have e:Ae ((l.length:Nat):Int) (k:Int)=((min l.length k:Nat):Int):=by unfold Ae; split <;> omega
 unfold cut
 rw [e,if_pos ⟨by omega,by omega,by omega⟩]
 simp [List.take_eq_take_iff,Nat.min_comm]
theorem Ar {st:List Int} (k:Nat) (hk:k ≤ 1000) (h:∀ y ∈ st,(Lit.int .i64 y).wf=true):Cu (st.take k):=by
 refine ⟨by simp; omega,fun x hx=>?_⟩
 have:=h x (List.mem_of_mem_take hx)
 simp [Lit.wf] at this
 have e1:IntKind.min .i64 = -9223372036854775808:=rfl
 have e2:IntKind.max .i64=9223372036854775807:=rfl
 omega
theorem zo (n:Nat) (o:Option (List Tree × Nat)):zi n o=(ym,6)∨∃ z s',o=some ([z],s')∧z.Tag ≠ []∧gM n z=some true∧zi n o=(z,0):=by
 unfold zi
 split
 ·
  rename_i z s'
  split
  ·
   rename_i h
   exact .inr ⟨z,s',rfl,h.1,h.2,rfl⟩
  ·
   exact .inl rfl
 ·
  exact .inl rfl
end Pr
end Go.Ev

namespace Go.Ev
namespace Pr
set_option linter.unusedVariables false
set_option linter.unusedSimpArgs false
theorem qD {st:List Int} (y:Int) {i x:Int} (h:mJ st i=some x):mJ (st ++ [y]) i=some x:=by
 unfold mJ at h ⊢
 split at h
 ·
  rename_i hc
  rw [if_pos ⟨hc.1,by simp; omega⟩,← h]
  have hj:i.toNat < st.length:=by omega
  simp [List.getD_eq_getElem?_getD,List.getElem?_append_left hj]
 ·
  cases h
def More (a b:Option (List Tree × Nat)):Prop:=∀ r,a=some r→b=some r
theorem uU (st st':List Int) (ps:List eu):∀ (l:List aQ) (s:Nat),(∀ z ∈ l,∀ s:Nat,More (rowP st ps z s) (rowP st' ps z s))→More (dG st ps l s) (dG st' ps l s)
 | [],s,_=>fun r h=>by rw [dG] at h ⊢; exact h
 | t :: l,s,hz=>fun r h=>by
  rw [dG] at h ⊢
  split at h
  ·
   cases h
  ·
   rename_i a s1 h1
   rw [hz t List.mem_cons_self s _ h1]
   split at h
   ·
    cases h
   ·
    rename_i b s2 h2
    have:=uU st st' ps l s1 (fun z hm=>hz z (List.mem_cons_of_mem _ hm)) _ h2
    simp only [this]; exact h
theorem uZ (k k':Nat→Option (List Tree × Nat)) (hk:∀ s:Nat,More (k s) (k' s)):∀ (m i s:Nat),More (gZ k m i s) (gZ k' m i s)
 | 0,i,s=>fun r h=>by rw [gZ] at h ⊢; exact h
 | m + 1,i,s=>fun r h=>by
  rw [gZ] at h ⊢
  split at h
  ·
   cases h
  ·
   rename_i a s1 h1
   rw [hk s _ h1]
   split at h
   ·
    cases h
   ·
    rename_i b s2 h2
    have:=uZ k k' hk m (i + 1) s1 _ h2
    simp only [this]; exact h
theorem wY (st:List Int) (y:Int) (ps:List eu):∀ (m:Nat) (t:aQ),S.iM t ≤ m→∀ s:Nat,More (rowP st ps t s) (rowP (st ++ [y]) ps t s)
 | 0,t,hm,s=>by have:=S.eP t; omega
 | m + 1,t,hm,s=>fun r h=>by
  have hk:∀ s:Nat,More (dG st ps t.Kids s) (dG (st ++ [y]) ps t.Kids s):=fun s=>uU st (st ++ [y]) ps t.Kids s (fun z hz s=>wY st y ps m z (by have:=S.jE hz; omega) s)
  rw [rU] at h ⊢
  split at h
  ·
   rename_i c; rw [if_pos c]
   split at h
   ·
    rename_i c1; rw [if_pos c1]
    split at h
    ·
     cases h
    ·
     rename_i a s1 h1
     rw [hk _ _ h1]; exact h
   ·
    rename_i c1; rw [if_neg c1]
    split at h
    ·
     rename_i c2; rw [if_pos c2]; exact h
    ·
     rename_i c2; rw [if_neg c2]
     split at h
     ·
      rename_i c3; rw [if_pos c3]
      split at h
      ·
       cases h
      ·
       rename_i x hx; rw [qD y hx]; exact h
     ·
      rename_i c3; rw [if_neg c3]
      split at h
      ·
       rename_i c4; rw [if_pos c4]; exact h
      ·
       rename_i c4; rw [if_neg c4]
       split at h
       ·
        rename_i c5; rw [if_pos c5]
        split at h
        ·
         cases h
        ·
         rename_i x hx
         rw [qD y hx]
         split at h
         ·
          rename_i c0; simp only [c0,if_true]; exact h
         ·
          rename_i c0; simp only [c0,if_false]; exact hk _ _ h
       ·
        rename_i c5; rw [if_neg c5]
        split at h
        ·
         rename_i c6; rw [if_pos c6]
         split at h
         ·
          cases h
         ·
          rename_i x hx
          rw [qD y hx]
          split at h
          ·
           rename_i c0; simp only [c0,if_true]; exact uZ _ _ hk _ _ _ _ h
          ·
           cases h
        ·
         rename_i c6; rw [if_neg c6]; exact h
  ·
   cases h
def Bg (n:Nat) (a b:Int):Option Bool :=
 (eB n (aQ.mk 1 0 [111,108] [] [] [(aQ.mk 6 0 [] [] [] [(aQ.mk 1 0 [108,105] [] [] [])]),(aQ.mk 5 1 [] [] [] [(aQ.mk 3 1 [] [] [] [])])]) [a,b] []).bind fun z57=>(if (b != 0)=true then (bQ n a b z57 ((IntKind.wrap .i64 (a + 1)))) else (bQ n a b z57 (a)))
theorem BQ:((List.range 25).all fun (a:Nat)=>(List.range 19).all fun (b:Nat)=>Bg 100000 (a:Int) ((b:Int) - 9) == some true)=true:=by decide +kernel
theorem CE {a b:Int} (h1:0 ≤ a) (h2:a ≤ 24) (h3:-9 ≤ b) (h4:b ≤ 9):Bg 100000 a b=some true:=by
 have h:=BQ
 rw [List.all_eq_true] at h
 have h:=h a.toNat (by rw [List.mem_range]; omega)
 rw [List.all_eq_true] at h
 have h:=h (b + 9).toNat (by rw [List.mem_range]; omega)
 have e1:((a.toNat:Nat):Int)=a:=by omega
 have e2:(((b + 9).toNat:Nat):Int) - 9=b:=by omega
 rw [e1,e2] at h
 exact eq_of_beq h
theorem CJ (k:dI) (st:List Int) (ps:List eu) (x y:Int) (w0:True) (w1:st.length ≤ maxLen∧∀ y ∈ st,(Lit.int .i64 y).wf=true) (w2:ps.length ≤ maxLen∧∀ y ∈ ps,True) (w3:(Lit.int .i64 x).wf=true) (w4:(Lit.int .i64 y).wf=true):eX 100000 k st ps x y=some true:=by
 obtain ⟨t,ht,hg,hc,_,_⟩:=S.Cg k 100000 (by omega)
 unfold eX
 rw [ht,Option.bind_some,show ((5:Int))=((5:Nat):Int) from rfl,zC,Option.bind_some,l8 (by rw [bnd]; simp; omega),Option.bind_some,List.nil_append]
 rw [zC,Option.bind_some]
 have hst:=Ar 5 (by omega) w1.2
 have hl5:(st.take 5).length ≤ 5:=by simp; omega
 have hps:(ps.take 5).length ≤ 1000:=by simp; omega
 have hst2:Cu (st.take 5 ++ [5]):=by
  refine ⟨by simp; omega,fun x hx=>?_⟩
  rcases List.mem_append.1 hx with hx | hx
  ·
   exact hst.2 x hx
  ·
   rw [List.mem_singleton.1 hx]; omega
 rw [qy hst hps (by omega) hg (by omega),Option.bind_some,l8 (by rw [bnd]; simp; omega),Option.bind_some,List.nil_append,l8 (by rw [bnd]; simp; omega),Option.bind_some]
 rw [show (((5:Nat):Int))=(5:Int) from rfl,qy hst2 hps (by omega) hg (by omega),Option.bind_some]
 unfold dw
 rw [qy hst hps (by omega) hg (by omega),Option.bind_some]
 have hsame:∀ z:Tree,T.gF z ≤ 65000→bE 100000 z z=some true:=fun z hz=>by
  rw [T.xe 65000 z z hz (by omega) _ (by omega),T.vg]
 obtain ⟨a,ha,ha1,ha2⟩:=S.gV 100000 x 0 24 (by omega) (by omega) (by omega)
 obtain ⟨b,hb,hb1,hb2⟩:=S.gV 100000 y (-9) 9 (by omega) (by omega) (by omega)
 have htail:=CE ha1 ha2 hb1 hb2
 have htail2:((aY 100000 x 0 24).bind fun z50=>((aY 100000 y (-9) 9).bind fun z51=>Bg 100000 z50 z51))=some true:=by
  rw [ha,Option.bind_some,hb,Option.bind_some,htail]
 rcases zo 100000 (rowP (st.take 5) (ps.take 5) t 0) with e | ⟨z,s',h1,h2,h3,e⟩
 ·
  rw [e]
  simp only []
  rw [if_neg (by decide),hsame ym (by decide)]
  exact htail2
 ·
  have h1':=wY (st.take 5) 5 (ps.take 5) 1000 t (by omega) 0 _ h1
  have hbig:=(wS (st.take 5) (ps.take 5) 1000 t (by omega) hg 0).1 _ _ h1
  have htold:=pK (st.take 5) (ps.take 5) 1000 t (by omega) 0 (by omega) _ _ h1
  simp only [T.gF.lsz] at hbig
  have e':zi 100000 (rowP (st.take 5 ++ [5]) (ps.take 5) t 0)=(z,0):=by
   rw [h1']; unfold zi; simp only []; rw [if_pos ⟨h2,h3⟩]
  rw [e,e']
  simp only []
  rw [hsame z (by omega)]
  exact htail2
end Pr
end Go.Ev

namespace Go.Ev
noncomputable section
open Go.Shelf Go.RowKit Go.Proofs
set_option linter.unusedVariables false
set_option linter.unusedSimpArgs false
theorem wR:∀ (k u:Nat),u < 10 ^ k→Bh k u=if k=0 then [] else Lib.decDigits u
 | 0,u,h=>rfl
 | k + 1,u,h=>by
  rw [Bh,Lib.decDigits,if_neg (Nat.succ_ne_zero k)]
  by_cases hu:u < 10
  ·
   rw [if_pos hu,dif_pos hu]
  ·
   rw [if_neg hu,dif_neg hu]
   have hk:k ≠ 0:=fun q=>by subst q; simp at h; omega
   rw [wR k (u / 10) (by rw [Nat.pow_succ] at h; omega),if_neg hk]
theorem A8 {n:Int} (h0:-9223372036854775808 ≤ n) (h1:n ≤ 9223372036854775807):qN n=Lib.itoa n:=by
 unfold qN Lib.itoa
 rw [wR 20 _ (by omega),wR 20 _ (by omega),if_neg (show ¬ (20=0) by decide),if_neg (show ¬ (20=0) by decide)]
def mU:List D→Option AV
 | [.int .i64 x]=>if -9223372036854775808 ≤ x∧x ≤ 9223372036854775807 then some (.d (.str (qN x))) else none
 | _=>none
def Dz (g:Nat) (k:IntKind) (zs:List Int) (w:World) (fr:Nat→Nat→Prop):Prop:=(∃ el fz,w.heap[g]? = some (.cells (zs.map fun z=>Value.int k z).toArray el fz))∧∀ o,¬ fr g o
theorem EG (g:Nat) (k:IntKind) (zs:List Int):Br (Dz g k zs):=fun w w' fr fr' h _ hb=>by
 obtain ⟨⟨el,fz,h1⟩,h2⟩:=h
 have hlt:g < w.heap.size:=by
  rcases Nat.lt_or_ge g w.heap.size with q | q
  ·
   exact q
  ·
   rw [Array.getElem?_eq_none q] at h1; cases h1
 obtain ⟨a,b⟩:=hb g hlt h2
 exact ⟨⟨el,fz,a.trans h1⟩,b⟩
theorem ED {P:Program} {name:String} {g:Nat} {k:IntKind} {zs:List Int} {w:World} {fr:Nat→Nat→Prop} (hg:P.globalNamed name=some g) (h:Dz g k zs w fr):Lib.TabIs P w name k zs:=by
 obtain ⟨⟨el,fz,h1⟩,_⟩:=h
 unfold Lib.TabIs World.var?
 rw [hg]
 show (match w.heap[g]? with | some (.cells cs _ _)=>some cs | _=>none)=_
 rw [h1]
theorem EJ {P:Program} {name:String} {g:Nat} {k:IntKind} {zs:List Int} {w:World} (hg:P.globalNamed name=some g) (h:Lib.TabIs P w name k zs):Dz g k zs w (fun _ _=>False):=by
 unfold Lib.TabIs World.var? at h
 rw [hg] at h
 have h':(match w.heap[g]? with | some (.cells cs _ _)=>some cs | _=>none)=some (zs.map fun z=>Value.int k z).toArray:=h
 refine ⟨?_,fun o q=>q⟩
 cases hh:w.heap[g]? with
 | none=>rw [hh] at h'; cases h'
 | some o =>
  rw [hh] at h'
  cases o with
  | cells cs el fz=>simp only [Option.some.injEq] at h'; subst h'; exact ⟨el,fz,rfl⟩
  | _=>cases h'
theorem CW {R:bA} (hR:ObjOk R) {P:Program} {ρ:Ren} (L:LaysM.n171 P ρ)
  (hG:∀ w fr,R.G w fr→Lib.TabIs P w "internal/strconv.uint64pow10" .u64 Lib.pow10Tab):uj R P (ρ.f 171) (jq mU):=by
 refine qP hR (fun ds v h=>?_) ⟨_,L.f171,rfl,by show ¬ ("strconv.Itoa" = "runtime.NumGoroutine"); decide⟩ (fun ds v h w fr us hGw hfr hl hr=>?_)
 ·
  unfold mU at h
  split at h
  ·
   split at h
   ·
    simp only [Option.some.injEq] at h; subst h; rfl
   ·
    cases h
  ·
   cases h
 ·
  unfold mU at h
  split at h
  ·
   rename_i x
   split at h
   ·
    rename_i hc
    simp only [Option.some.injEq] at h; subst h
    match us,hl with
    | [u0],_ =>
    have a0:=(hr 0 _ _ rfl rfl).val rfl
    cases a0
    refine (Any.strconv_Itoa L x hc.1 hc.2 w (hG w fr hGw)).mono (fun e w' hp=>?_)
    obtain ⟨rfl,k,os,rfl⟩:=hp
    refine ⟨Lib.below_grow _ w (Nat.le_refl _) k os,_,rfl,fun cx S _=>.d _ _ ?_⟩
    rw [A8 hc.1 hc.2]
    exact zP _ cx.fr (Lib.itoa x)
   ·
    cases h
  ·
   cases h
theorem D6 {n:Nat} {x:Int} {r:List UInt8} (h:strconv_Itoa n x=some r):mU [.int .i64 x]=some (.d (.str r)):=by
 unfold strconv_Itoa at h
 unfold mU
 split at h
 ·
  rename_i hc; cases h
  simp only [hc,and_self,if_true]
 ·
  cases h
end
end Go.Ev

import Derived.Test.YtpbfidcmnkmkiaaDoorPartC
import Derived.IntWalk
import Derived.Shelf.Strconv.Itoa3
import Derived.Lib.AppendIntMem
namespace Go.Ev
namespace Pr
set_option linter.unusedVariables false
set_option linter.unusedSimpArgs false
open Go.Proofs
section
variable {R:bu} (E:EE R)
include E
set_option maxRecDepth 20000 in
set_option maxHeartbeats 4000000 in
theorem kZ (n:Nat) (a1:dI) (r:aS) (h:dY n a1=some r):cO R cfg.P 12 [(iG a1)] (.d (aF r)):=by
 unfold dY at h
 refine cO.of_wp E.obj.toObjOk (C:=cfg) Tryd.func12 rfl Fp rfl ?_
 have H0:Has aK aK []:=Has.pure
 refine av.seq ?_
 refine av.region E.obj rfl ?_
 refine ae.box H0 rfl rfl rfl (dI.bF _) rfl (fun b2 S3 H4=>?_)
 refine ae.alloc H4 rfl uP jX rfl rfl (fun b5 S6 H7=>?_)
 refine ae.nil ?_
 refine av.seq ?_
 refine av.region E.obj rfl ?_
 refine ae.val rfl (aQ (vs:=[(.d (.str [100,105,118])),(.d (.str [112])),(.d (.str [108,105])),(.d (.str [98]))]) (ds:=[(.str [100,105,118]),(.str [112]),(.str [108,105]),(.str [98])]) DT zy lZ Fv Bl rfl (by decide) (.cons rfl rfl (.cons rfl rfl (.cons rfl rfl (.cons rfl rfl .nil)))) rfl (by intro d hd; simp only [List.mem_cons,List.not_mem_nil,or_false] at hd; rcases hd with rfl | rfl | rfl | rfl <;> rfl) rfl) rfl ?_
 refine ae.val rfl (ai rfl) rfl ?_
 refine ae.nil ?_
 refine av.seq ?_
 refine av.region E.obj rfl ?_
 refine ae.val rfl (aQ (vs:=[(.d (.str [105,100])),(.d (.str [112,97])),(.d (.str [112,98])),(.d (.str [108,97,115,116]))]) (ds:=[(.str [105,100]),(.str [112,97]),(.str [112,98]),(.str [108,97,115,116])]) DT zy lZ Fv Bl rfl (by decide) (.cons rfl rfl (.cons rfl rfl (.cons rfl rfl (.cons rfl rfl .nil)))) rfl (by intro d hd; simp only [List.mem_cons,List.not_mem_nil,or_false] at hd; rcases hd with rfl | rfl | rfl | rfl <;> rfl) rfl) rfl ?_
 refine ae.val rfl (ai rfl) rfl ?_
 refine ae.nil ?_
 refine av.seq ?_
 refine av.region E.obj rfl ?_
 obtain ⟨z8,hzz8,h⟩:=bind_some h
 refine ae.ret rfl (az rfl rfl) (nG E _  _ hzz8 _ _ .nil) rfl ?_
 refine ae.val rfl (ai rfl) rfl ?_
 refine ae.nil ?_
 refine av.seq ?_
 refine av.region E.obj rfl ?_
 refine ae.val rfl (bR (cs:=[(.d (.int .i64 1)),(.d (.int .i64 0)),(.d (.str [109,97,105,110])),(.d (.str [])),(.d .aT),(.d .aT)]) jX rfl (fD) (dU rfl rfl rfl rfl (dU rfl rfl rfl rfl rfl))) rfl ?_
 refine ae.less (Less.agg' (d:=bT (bg.mk 1 0 [109,97,105,110] [] [])) (aj.eq rfl (aj.eq rfl (aj.eq rfl (aj.eq rfl (aj.dK rfl (.aT false) rfl rfl (aj.eq rfl .nil)))))) ((bg.eq _).trans rfl)) ?_
 refine ae.val rfl (aQ (vs:=[(.d (bT (bg.mk 1 0 [109,97,105,110] [] [])))]) (ds:=[(bT (bg.mk 1 0 [109,97,105,110] [] []))]) yo pX ic jX eF rfl (by decide) (.cons rfl (bg.len _) .nil) rfl (by intro d hd; simp only [List.mem_cons,List.not_mem_nil,or_false] at hd; rcases hd with rfl <;> exact bg.agg _) rfl) rfl ?_
 refine ae.val rfl (ai rfl) rfl ?_
 refine ae.nil ?_
 refine av.seq ?_
 refine av.region E.obj rfl ?_
 refine ae.val rfl (aQ (vs:=[(.d (.int .i64 (-1)))]) (ds:=[(.int .i64 (-1))]) yT qx mJ EO zk rfl (by decide) (.cons rfl rfl .nil) rfl (by intro d hd; simp only [List.mem_cons,List.not_mem_nil,or_false] at hd; rcases hd with rfl <;> rfl) rfl) rfl ?_
 refine ae.val rfl (ai rfl) rfl ?_
 refine ae.nil ?_
 refine av.seq ?_
 refine av.seq ?_
 refine av.region E.obj rfl ?_
 refine ae.val rfl (ai rfl) rfl ?_
 refine ae.nil ?_
 refine av.block ?_
 have H97:=H7.zg (([(bg.mk 1 0 [109,97,105,110] [] [])]).map bT)
 have H98:=H97.zg (([(-1)]).map (D.int .i64))
 refine mI.start (B:=aK) (α:=(List bg) × AV × (List Int) × AV × Int) (fun k a=>aM n a1 z8 k a.1 a.2.2.1 a.2.2.2.2=some r) (fun a=>[(1,(.ptr b2 0 0)),(2,(.ptr b5 0 0)),(3,(.d (.sl ((([[100,105,118],[112],[108,105],[98]]:List Str)).map D.str) true))),(4,(.d (.sl ((([[105,100],[112,97],[112,98],[108,97,115,116]]:List Str)).map D.str) true))),(5,(.d (.sl ((z8).map D.str) false))),(6,a.2.1),(7,a.2.2.2.1),(8,(.d (.int .i64 a.2.2.2.2)))]) (fun a=>[.box b5 [(.d (.int .i64 0)),(.d (.int .i64 0)),(.d (.str [])),(.d (.str [])),(.d .aT),(.d .aT)],.box b2 [(.d (.sl ((a1.Under).map (D.int .i64)) false)),(.d (.sl ((a1.Kinds).map (D.int .i64)) false)),(.d (.sl ((a1.Ns).map (D.int .i64)) false)),(.d (.sl ((a1.Texts).map (D.int .i64)) false))],.grow a.2.1 ((a.1).map bT),.grow a.2.2.2.1 ((a.2.2.1).map (D.int .i64))]) ?_ ?_ n ⟨⟨[(bg.mk 1 0 [109,97,105,110] [] [])],(.d (.sl (([(bg.mk 1 0 [109,97,105,110] [] [])]).map bT) true)),[(-1)],(.d (.sl (([(-1)]).map (D.int .i64)) true)),0⟩,_,_,S6,.refl _ _,.refl _,(aa.r rfl (aa.r rfl (aa.r rfl (aa.r rfl (aa.r rfl (aa.r rfl (aa.r rfl (aa.r rfl aa.nil)))))))),H98.sl [2,3,1,0] rfl rfl,h⟩
 ·
  intro a h; simp [aM] at h
 intro k25 a S18 H19 h
 obtain ⟨x20,v21,x22,v23,x24⟩:=a
 replace h:aM n a1 z8 (k25 + 1) x20 x22 x24=some r:=h
 replace H19:Has aK S18 [.box b5 [(.d (.int .i64 0)),(.d (.int .i64 0)),(.d (.str [])),(.d (.str [])),(.d .aT),(.d .aT)],.box b2 [(.d (.sl ((a1.Under).map (D.int .i64)) false)),(.d (.sl ((a1.Kinds).map (D.int .i64)) false)),(.d (.sl ((a1.Ns).map (D.int .i64)) false)),(.d (.sl ((a1.Texts).map (D.int .i64)) false))],.grow v21 ((x20).map bT),.grow v23 ((x22).map (D.int .i64))]:=H19
 unfold aM at h
 refine av.seq ?_
 refine av.seq ?_
 refine av.region E.obj rfl ?_
 refine ae.val rfl (ah rfl) rfl ?_
 refine ae.val rfl (ak rfl Cb wW rfl) rfl ?_
 refine ae.val rfl (au H19 (i:=1) rfl rfl (aD xc rfl)) rfl ?_
 refine ae.val rfl (aW rfl xq) rfl ?_
 refine ae.val rfl (ax rfl rfl di) rfl ?_
 refine ae.val rfl (ah rfl) rfl ?_
 refine ae.bO 3 27 (.d (.bool ((decide (x24 < ((a1.Under).length:Int))) && (decide (x24 < 11))))) ?_ ?_
 ·
  rcases Bool.eq_false_or_eq_true ((decide (x24 < ((a1.Under).length:Int)))) with hB26 | hB26
  ·
   refine ae.bool hB26 ?_
   refine ae.val rfl (ah rfl) rfl ?_
   refine ae.val rfl (ax rfl rfl di) rfl ?_
   refine ae.val rfl (aC (b:=true) rfl rfl) rfl ?_
   exact ae.nil ⟨_,rfl,(aa.put (aa.push rfl (aa.push rfl (aa.put (.refl _) (Less.eq (by rw [hB26]))))) (Less.eq (by rw [hB26]; rw [Bool.true_and])))⟩
  refine ae.bool hB26 ?_
  refine ae.no rfl rfl ?_
  refine ae.no rfl rfl ?_
  refine ae.val rfl (aC (b:=false) rfl rfl) rfl ?_
  exact ae.nil ⟨_,rfl,(aa.put (aa.push rfl (aa.push rfl (aa.put (.refl _) (Less.eq (by rw [hB26]))))) (Less.eq (by rw [hB26]; rw [Bool.false_and])))⟩
 refine ae.nil ?_
 refine av.cond rfl (fun hb27=>?_) (fun hb27=>?_)
 ·
  replace h:=dw hb27 h
  refine av.skip ?_
  refine av.seq ?_
  refine av.block ?_
  refine av.seq ?_
  refine av.region E.obj rfl ?_
  refine ae.val rfl (ak rfl Cb wW rfl) rfl ?_
  refine ae.val rfl (au H19 (i:=1) rfl rfl (aD xc rfl)) rfl ?_
  refine ae.val rfl (ah rfl) rfl ?_
  obtain ⟨z28,hzz28,h⟩:=bind_some h
  refine ae.val rfl (bP rfl rfl (cZ (enc:=(D.int .i64)) hzz28 qx Ef (((fun _=>rfl) _).trans zk.symm))) rfl ?_
  refine ae.val rfl (bf rfl (fV mJ rfl)) rfl ?_
  refine ae.val rfl (ah rfl) rfl ?_
  refine ae.val rfl (nR H19 (i:=2) rfl rfl zu) rfl ?_
  refine ae.val rfl (ax rfl rfl kz) rfl ?_
  obtain ⟨z29,hzz29,h⟩:=bind_some h
  refine ae.ret rfl (az rfl rfl) (bN E _ _ _ _ _ hzz29 _ _ (aG.eq (aG.eq (aG.eq .nil)))) rfl ?_
  refine ae.val rfl (ai rfl) rfl ?_
  refine ae.nil ?_
  refine av.join (B:=aK) (α:=Int) (fun a=>bA n a1 z8 x20 x22 x24 (aM n a1 z8 k25) a=some r) (fun a=>[(1,(.ptr b2 0 0)),(2,(.ptr b5 0 0)),(3,(.d (.sl ((([[100,105,118],[112],[108,105],[98]]:List Str)).map D.str) true))),(4,(.d (.sl ((([[105,100],[112,97],[112,98],[108,97,115,116]]:List Str)).map D.str) true))),(5,(.d (.sl ((z8).map D.str) false))),(6,v21),(7,v23),(8,(.d (.int .i64 x24))),(9,(.d (.int .i64 a)))]) (fun a=>[.box b5 [(.d (.int .i64 0)),(.d (.int .i64 0)),(.d (.str [])),(.d (.str [])),(.d .aT),(.d .aT)],.box b2 [(.d (.sl ((a1.Under).map (D.int .i64)) false)),(.d (.sl ((a1.Kinds).map (D.int .i64)) false)),(.d (.sl ((a1.Ns).map (D.int .i64)) false)),(.d (.sl ((a1.Texts).map (D.int .i64)) false))],.grow v21 ((x20).map bT),.grow v23 ((x22).map (D.int .i64))]) ?_ ?_
  ·
   intro x32 S30 H31 h
   replace h:bA n a1 z8 x20 x22 x24 (aM n a1 z8 k25) x32=some r:=h
   replace H31:Has aK S30 [.box b5 [(.d (.int .i64 0)),(.d (.int .i64 0)),(.d (.str [])),(.d (.str [])),(.d .aT),(.d .aT)],.box b2 [(.d (.sl ((a1.Under).map (D.int .i64)) false)),(.d (.sl ((a1.Kinds).map (D.int .i64)) false)),(.d (.sl ((a1.Ns).map (D.int .i64)) false)),(.d (.sl ((a1.Texts).map (D.int .i64)) false))],.grow v21 ((x20).map bT),.grow v23 ((x22).map (D.int .i64))]:=H31
   unfold bA at h
   refine av.seq ?_
   obtain ⟨z34,hzz34,h⟩:=bind_some h
   obtain ⟨z35,hzz35,h⟩:=bind_some h
   obtain ⟨z36,hzz36,h⟩:=bind_some h
   obtain ⟨z37,hzz37,h⟩:=bind_some h
   refine av.kQ E.obj pO GK [(1,none),(2,none),(3,none),(4,none),(5,none),(6,none),(7,none),(8,none),(9,none),(11,some 11)] (by kernel_rfl) [11,12] (by decide) [some (.ptr b2 0 1),some (.d (.sl ((a1.Kinds).map (D.int .i64)) false)),some (.d (.int .i64 x24)),some (.d (.int .i64 z34)),some (.d (.int .i64 z35)),some (.ptr b2 0 2),some (.d (.sl ((a1.Ns).map (D.int .i64)) false)),some (.d (.int .i64 x24)),some (.d (.int .i64 z36)),some (.d (.int .i64 z37)),some (.d (bT (bg.mk z35 z37 [] [] []))),none,none] ?_
   refine ⟨[0,1,2,3,4,5,6,7,8,9,10],by kernel_rfl,?_,_,_,rfl,rfl,.step ?_⟩
   ·
    refine .v rfl rfl rfl rfl (ak rfl BR wW rfl) ?_
    refine .v rfl rfl rfl rfl (au H31 (i:=1) rfl rfl (aD xc rfl)) ?_
    refine .v rfl rfl rfl rfl (ah rfl) ?_
    refine .cons rfl rfl rfl (.step ?_) ?_
    ·
     refine ae.ret rfl (az rfl rfl) (eZ E _ _ _ _ hzz34 _ _ (aG.eq (aG.eq .nil))) rfl ?_
     exact ae.nil ⟨_,_,rfl,fun _ ht=>by cases ht; exact ⟨rfl,.refl _⟩⟩
    refine .cons rfl rfl rfl (.step ?_) ?_
    ·
     refine ae.ret rfl (az rfl rfl) (bN E _ _ _ _ _ hzz35 _ _ (aG.eq (aG.eq (aG.eq .nil)))) rfl ?_
     exact ae.nil ⟨_,_,rfl,fun _ ht=>by cases ht; exact ⟨rfl,.refl _⟩⟩
    refine .v rfl rfl rfl rfl (ak rfl Bt wW rfl) ?_
    refine .v rfl rfl rfl rfl (au H31 (i:=1) rfl rfl (aD xc rfl)) ?_
    refine .v rfl rfl rfl rfl (ah rfl) ?_
    refine .cons rfl rfl rfl (.step ?_) ?_
    ·
     refine ae.ret rfl (az rfl rfl) (eZ E _ _ _ _ hzz36 _ _ (aG.eq (aG.eq .nil))) rfl ?_
     exact ae.nil ⟨_,_,rfl,fun _ ht=>by cases ht; exact ⟨rfl,.refl _⟩⟩
    refine .cons rfl rfl rfl (.step ?_) ?_
    ·
     refine ae.ret rfl (az rfl rfl) (bN E _ _ _ _ _ hzz37 _ _ (aG.eq (aG.eq (aG.eq .nil)))) rfl ?_
     exact ae.nil ⟨_,_,rfl,fun _ ht=>by cases ht; exact ⟨rfl,.refl _⟩⟩
    refine .cons rfl rfl rfl (.step ?_) ?_
    ·
     refine ae.val rfl (bR (cs:=[(.d (.int .i64 z35)),(.d (.int .i64 z37)),(.d (.str [])),(.d (.str [])),(.d .aT),(.d .aT)]) jX rfl (fD) (dU rfl rfl rfl rfl (dU rfl rfl rfl rfl rfl))) rfl ?_
     refine ae.less (Less.agg' (d:=bT (bg.mk z35 z37 [] [] [])) (aj.eq rfl (aj.eq rfl (aj.eq rfl (aj.eq rfl (aj.dK rfl (.aT false) rfl rfl (aj.eq rfl .nil)))))) ((bg.eq _).trans rfl)) ?_
     exact ae.nil ⟨_,_,rfl,fun _ ht=>by cases ht; exact ⟨rfl,.refl _⟩⟩
    exact .nil
   refine ae.alloc H31 rfl uP jX rfl rfl (fun b43 S44 H45=>?_)
   refine ae.nil ⟨_,_,_,rfl,(fun _ ht=>by cases ht; rfl),_,(.q (.q (.o (.o (.o (.w (.ptr b43 0 0) (.n .nil))))))),(fun _ ht=>by cases ht; exact ⟨_,rfl,.refl _⟩),?_⟩
   refine ⟨[0,1,2,3,4,5,6,7,8,9,10],by kernel_rfl,?_,_,_,rfl,rfl,.step ?_⟩
   ·
    refine .v rfl rfl rfl rfl (ak rfl BR wW rfl) ?_
    refine .v rfl rfl rfl rfl (au H45 (i:=2) rfl rfl (aD xc rfl)) ?_
    refine .v rfl rfl rfl rfl (ah rfl) ?_
    refine .cons rfl rfl rfl (.step ?_) ?_
    ·
     refine ae.ret rfl (az rfl rfl) (eZ E _ _ _ _ hzz34 _ _ (aG.eq (aG.eq .nil))) rfl ?_
     exact ae.nil ⟨_,_,rfl,fun _ ht=>by cases ht; exact ⟨rfl,.refl _⟩⟩
    refine .cons rfl rfl rfl (.step ?_) ?_
    ·
     refine ae.ret rfl (az rfl rfl) (bN E _ _ _ _ _ hzz35 _ _ (aG.eq (aG.eq (aG.eq .nil)))) rfl ?_
     exact ae.nil ⟨_,_,rfl,fun _ ht=>by cases ht; exact ⟨rfl,.refl _⟩⟩
    refine .v rfl rfl rfl rfl (ak rfl Bt wW rfl) ?_
    refine .v rfl rfl rfl rfl (au H45 (i:=2) rfl rfl (aD xc rfl)) ?_
    refine .v rfl rfl rfl rfl (ah rfl) ?_
    refine .cons rfl rfl rfl (.step ?_) ?_
    ·
     refine ae.ret rfl (az rfl rfl) (eZ E _ _ _ _ hzz36 _ _ (aG.eq (aG.eq .nil))) rfl ?_
     exact ae.nil ⟨_,_,rfl,fun _ ht=>by cases ht; exact ⟨rfl,.refl _⟩⟩
    refine .cons rfl rfl rfl (.step ?_) ?_
    ·
     refine ae.ret rfl (az rfl rfl) (bN E _ _ _ _ _ hzz37 _ _ (aG.eq (aG.eq (aG.eq .nil)))) rfl ?_
     exact ae.nil ⟨_,_,rfl,fun _ ht=>by cases ht; exact ⟨rfl,.refl _⟩⟩
    refine .cons rfl rfl rfl (.step ?_) ?_
    ·
     refine ae.val rfl (bR (cs:=[(.d (.int .i64 z35)),(.d (.int .i64 z37)),(.d (.str [])),(.d (.str [])),(.d .aT),(.d .aT)]) jX rfl (fD) (dU rfl rfl rfl rfl (dU rfl rfl rfl rfl rfl))) rfl ?_
     refine ae.less (Less.agg' (d:=bT (bg.mk z35 z37 [] [] [])) (aj.eq rfl (aj.eq rfl (aj.eq rfl (aj.eq rfl (aj.dK rfl (.aT false) rfl rfl (aj.eq rfl .nil)))))) ((bg.eq _).trans rfl)) ?_
     exact ae.nil ⟨_,_,rfl,fun _ ht=>by cases ht; exact ⟨rfl,.refl _⟩⟩
    exact .nil
   refine ae.store H45 (i:=0) rfl rfl rfl rfl (bg.bF _) rfl eF rfl nW rfl rfl rfl (fun S46 H47=>?_)
   refine ae.nil ⟨_,.any,_,rfl,(fun _ ht=>by cases ht),_,(.q (.q (.q (.w .any .nil)))),(fun _ ht=>by cases ht),?_⟩
   refine ⟨[],by kernel_rfl,?_,_,rfl,?_⟩
   ·
    exact .nil
   refine av.seq ?_
   refine av.region E.obj rfl ?_
   refine ae.val rfl (ak rfl DF wW rfl) rfl ?_
   refine ae.val rfl (au H47 (i:=2) rfl rfl (aD xc rfl)) rfl ?_
   refine ae.val rfl (ah rfl) rfl ?_
   obtain ⟨z48,hzz48,h⟩:=bind_some h
   refine ae.ret rfl (az rfl rfl) (eZ E _ _ _ _ hzz48 _ _ (aG.eq (aG.eq .nil))) rfl ?_
   refine ae.val rfl (ai rfl) rfl ?_
   refine ae.nil ?_
   refine av.join (B:=aK) (α:=Str × Str × (List Attr)) (fun a=>aY x20 x22 x24 (aM n a1 z8 k25) x32 z35 z37 a.1 a.2.1 a.2.2=some r) (fun a=>[(1,(.ptr b2 0 0)),(2,(.ptr b5 0 0)),(3,(.d (.sl ((([[100,105,118],[112],[108,105],[98]]:List Str)).map D.str) true))),(4,(.d (.sl ((([[105,100],[112,97],[112,98],[108,97,115,116]]:List Str)).map D.str) true))),(5,(.d (.sl ((z8).map D.str) false))),(6,v21),(7,v23),(8,(.d (.int .i64 x24))),(9,(.d (.int .i64 x32))),(11,(.ptr b43 0 0))]) (fun a=>[.box b43 [(.d (.int .i64 (bg.mk z35 z37 [] [] []).Kind)),(.d (.int .i64 (bg.mk z35 z37 [] [] []).N)),(.d (.str a.1)),(.d (.str a.2.1)),(.d (.sl ((a.2.2).map aA) false)),(.d .aT)],.box b5 [(.d (.int .i64 0)),(.d (.int .i64 0)),(.d (.str [])),(.d (.str [])),(.d .aT),(.d .aT)],.box b2 [(.d (.sl ((a1.Under).map (D.int .i64)) false)),(.d (.sl ((a1.Kinds).map (D.int .i64)) false)),(.d (.sl ((a1.Ns).map (D.int .i64)) false)),(.d (.sl ((a1.Texts).map (D.int .i64)) false))],.grow v21 ((x20).map bT),.grow v23 ((x22).map (D.int .i64))]) ?_ ?_
   ·
    intro a S49 H50 h
    obtain ⟨x51,x52,x53⟩:=a
    replace h:aY x20 x22 x24 (aM n a1 z8 k25) x32 z35 z37 x51 x52 x53=some r:=h
    replace H50:Has aK S49 [.box b43 [(.d (.int .i64 (bg.mk z35 z37 [] [] []).Kind)),(.d (.int .i64 (bg.mk z35 z37 [] [] []).N)),(.d (.str x51)),(.d (.str x52)),(.d (.sl ((x53).map aA) false)),(.d .aT)],.box b5 [(.d (.int .i64 0)),(.d (.int .i64 0)),(.d (.str [])),(.d (.str [])),(.d .aT),(.d .aT)],.box b2 [(.d (.sl ((a1.Under).map (D.int .i64)) false)),(.d (.sl ((a1.Kinds).map (D.int .i64)) false)),(.d (.sl ((a1.Ns).map (D.int .i64)) false)),(.d (.sl ((a1.Texts).map (D.int .i64)) false))],.grow v21 ((x20).map bT),.grow v23 ((x22).map (D.int .i64))]:=H50
    unfold aY at h
    refine av.region E.obj rfl ?_
    refine ae.val rfl (ah rfl) rfl ?_
    refine ae.val rfl (au H50 (i:=0) rfl rfl (aU ic eF rfl)) rfl ?_
    refine ae.less (Less.agg' (d:=bT (bg.mk ((bg.mk z35 z37 [] [] []).Kind) ((bg.mk z35 z37 [] [] []).N) x51 x52 x53)) (aj.eq rfl (aj.eq rfl (aj.eq rfl (aj.eq rfl (aj.eq rfl (aj.eq rfl .nil)))))) ((bg.eq _).trans rfl)) ?_
    refine ae.val rfl (aQ (vs:=[(.d (bT (bg.mk ((bg.mk z35 z37 [] [] []).Kind) ((bg.mk z35 z37 [] [] []).N) x51 x52 x53)))]) (ds:=[(bT (bg.mk ((bg.mk z35 z37 [] [] []).Kind) ((bg.mk z35 z37 [] [] []).N) x51 x52 x53))]) yo pX ic jX eF rfl (by decide) (.cons rfl (bg.len _) .nil) rfl (by intro d hd; simp only [List.mem_cons,List.not_mem_nil,or_false] at hd; rcases hd with rfl <;> exact bg.agg _) rfl) rfl ?_
    obtain ⟨z55,hzz55,h⟩:=bind_some h
    refine ae.append (xs:=(x20).map bT) (ys:=([(bg.mk ((bg.mk z35 z37 [] [] []).Kind) ((bg.mk z35 z37 [] [] []).N) x51 x52 x53)]).map bT) (zs:=(z55).map bT) H50 rfl rfl rfl (i:=3) rfl rfl yo Em pX (iL hzz55) ED rfl (dM (enc:=bT) (fun z=>(bg.len z).trans eF.symm) _) (dM (enc:=bT) (fun z=>(bg.len z).trans eF.symm) _) Eh rfl (nL hzz55) (fun v56 S57 H58=>?_)
    refine ae.val rfl (ah rfl) rfl ?_
    refine ae.val rfl (ah rfl) rfl ?_
    refine ae.val rfl (aQ (vs:=[(.d (.int .i64 x32))]) (ds:=[(.int .i64 x32)]) yT qx mJ EO zk rfl (by decide) (.cons rfl rfl .nil) rfl (by intro d hd; simp only [List.mem_cons,List.not_mem_nil,or_false] at hd; rcases hd with rfl <;> rfl) rfl) rfl ?_
    obtain ⟨z59,hzz59,h⟩:=bind_some h
    refine ae.append (xs:=(x22).map (D.int .i64)) (ys:=([x32]).map (D.int .i64)) (zs:=(z59).map (D.int .i64)) H58 rfl rfl rfl (i:=4) rfl rfl yT EC qx (iL hzz59) Gq rfl (dM (enc:=(D.int .i64)) (fun _=>zk.symm) _) (dM (enc:=(D.int .i64)) (fun _=>zk.symm) _) Gr rfl (nL hzz59) (fun v60 S61 H62=>?_)
    refine ae.val rfl (ai rfl) rfl ?_
    refine ae.val rfl (ai rfl) rfl ?_
    refine ae.nil ?_
    refine av.region E.obj rfl ?_
    refine ae.val rfl (ah rfl) rfl ?_
    refine ae.val rfl (ax rfl rfl bS) rfl ?_
    refine ae.val rfl (ai rfl) rfl ?_
    refine ae.nil ?_
    exact ⟨⟨z55,v56,z59,v60,(IntKind.wrap .i64 (x24 + 1))⟩,_,_,S61,.refl _ _,.refl _,(aa.r rfl (aa.r rfl (aa.r rfl (aa.r rfl (aa.r rfl (aa.r rfl (aa.r rfl (aa.r rfl aa.nil)))))))),H62.sl [1,2,3,4] rfl rfl,h⟩
   refine av.seq ?_
   refine av.region E.obj rfl ?_
   refine ae.val rfl (ak rfl gH pR rfl) rfl ?_
   refine ae.val rfl (au H47 (i:=0) rfl rfl (aD mJ rfl)) rfl ?_
   refine ae.nil ?_
   refine av.block ?_
   refine av.seq ?_
   refine av.region E.obj rfl ?_
   refine ae.val rfl (ax rfl rfl bG) rfl ?_
   refine ae.val rfl (ai rfl) rfl ?_
   refine ae.nil ?_
   refine av.cond rfl (fun hb63=>?_) (fun hb63=>?_)
   ·
    replace h:=dw hb63 h
    refine av.seq ?_
    refine av.region E.obj rfl ?_
    refine ae.val rfl (ah rfl) rfl ?_
    refine ae.val rfl (ah rfl) rfl ?_
    refine ae.val rfl (ah rfl) rfl ?_
    refine ae.val rfl (aW rfl C8) rfl ?_
    refine ae.val rfl (ax rfl rfl kz) rfl ?_
    obtain ⟨z64,hzz64,h⟩:=bind_some h
    refine ae.ret rfl (az rfl rfl) (bN E _ _ _ _ _ hzz64 _ _ (aG.eq (aG.eq (aG.eq .nil)))) rfl ?_
    obtain ⟨z65,hzz65,h⟩:=bind_some h
    refine ae.val rfl (bP rfl rfl (cZ (enc:=D.str) hzz65 zy Dh (((fun _=>rfl) _).trans Bl.symm))) rfl ?_
    refine ae.val rfl (bf rfl (fV lZ rfl)) rfl ?_
    refine ae.val rfl (ak rfl oL mU rfl) rfl ?_
    refine ae.store H47 (i:=0) rfl rfl rfl rfl rfl rfl Bl rfl Dh rfl rfl rfl (fun S66 H67=>?_)
    refine ae.nil ?_
    refine av.seq ?_
    refine av.region E.obj rfl ?_
    refine ae.val rfl (ah rfl) rfl ?_
    refine ae.val rfl (ax rfl rfl BO) rfl ?_
    refine ae.val rfl (ax rfl rfl bG) rfl ?_
    refine ae.nil ?_
    refine av.cond rfl (fun hb68=>?_) (fun hb68=>?_)
    ·
     replace h:=dw hb68 h
     refine av.region E.obj rfl ?_
     refine ae.val rfl (ah rfl) rfl ?_
     refine ae.val rfl (ah rfl) rfl ?_
     obtain ⟨z69,hzz69,h⟩:=bind_some h
     refine ae.val rfl (ax rfl rfl (AQ hzz69)) rfl ?_
     refine ae.val rfl (ah rfl) rfl ?_
     refine ae.val rfl (aW rfl C8) rfl ?_
     refine ae.val rfl (ax rfl rfl kz) rfl ?_
     obtain ⟨z70,hzz70,h⟩:=bind_some h
     refine ae.ret rfl (az rfl rfl) (bN E _ _ _ _ _ hzz70 _ _ (aG.eq (aG.eq (aG.eq .nil)))) rfl ?_
     obtain ⟨z71,hzz71,h⟩:=bind_some h
     refine ae.val rfl (bP rfl rfl (cZ (enc:=D.str) hzz71 zy Dh (((fun _=>rfl) _).trans Bl.symm))) rfl ?_
     refine ae.val rfl (bf rfl (fV lZ rfl)) rfl ?_
     refine ae.val rfl (bR (cs:=[(.d (.str [120])),(.d (.str z71))]) DC rfl (uB) (dU rfl rfl rfl rfl (dU rfl rfl rfl rfl rfl))) rfl ?_
     refine ae.less (Less.agg' (d:=aA (Attr.mk [120] z71)) (aj.eq rfl (aj.eq rfl .nil)) ((Attr.eq _).trans rfl)) ?_
     refine ae.val rfl (aQ (vs:=[(.d (aA (Attr.mk [120] z71)))]) (ds:=[(aA (Attr.mk [120] z71))]) Dv yE Ch DC oI rfl (by decide) (.cons rfl (Attr.len _) .nil) rfl (by intro d hd; simp only [List.mem_cons,List.not_mem_nil,or_false] at hd; rcases hd with rfl <;> exact Attr.agg _) rfl) rfl ?_
     refine ae.val rfl (ak rfl zx yh rfl) rfl ?_
     refine ae.store H67 (i:=0) rfl rfl rfl rfl rfl rfl Gi rfl EW rfl rfl rfl (fun S72 H73=>?_)
     refine ae.nil ?_
     obtain ⟨S74,hw75,H76⟩:=H73.zS (i:=0) (cs':=[(.d (.int .i64 (bg.mk z35 z37 [] [] []).Kind)),(.d (.int .i64 (bg.mk z35 z37 [] [] []).N)),(.d (.str z65)),(.d (.str (bg.mk z35 z37 [] [] []).Text)),(.d (.sl (([(Attr.mk [120] z71)]).map aA) false)),(.d .aT)]) rfl (.cons (.refl _) (.cons (.refl _) (.cons (.refl _) (.cons (.refl _) (.cons Ao (.cons (.refl _) .nil))))))
     exact ⟨⟨z65,(bg.mk z35 z37 [] [] []).Text,[(Attr.mk [120] z71)]⟩,_,_,S74,.refl _ _,hw75,(aa.r rfl (aa.r rfl (aa.r rfl (aa.r rfl (aa.r rfl (aa.r rfl (aa.r rfl (aa.r rfl (aa.r rfl (aa.r rfl aa.nil)))))))))),H76.sl [0,1,2,3,4] rfl rfl,h⟩
    replace h:=df hb68 h
    refine av.skip ?_
    exact ⟨⟨z65,(bg.mk z35 z37 [] [] []).Text,(bg.mk z35 z37 [] [] []).aI⟩,_,_,S66,.refl _ _,.refl _,(aa.r rfl (aa.r rfl (aa.r rfl (aa.r rfl (aa.r rfl (aa.r rfl (aa.r rfl (aa.r rfl (aa.r rfl (aa.r rfl aa.nil)))))))))),H67.sl [0,1,2,3,4] rfl rfl,h⟩
   replace h:=df hb63 h
   refine av.seq ?_
   refine av.region E.obj rfl ?_
   refine ae.val rfl (ax rfl rfl bG) rfl ?_
   refine ae.val rfl (ai rfl) rfl ?_
   refine ae.nil ?_
   refine av.cond rfl (fun hb77=>?_) (fun hb77=>?_)
   ·
    replace h:=dw hb77 h
    refine av.region E.obj rfl ?_
    refine ae.val rfl (ah rfl) rfl ?_
    refine ae.val rfl (ah rfl) rfl ?_
    refine ae.val rfl (ah rfl) rfl ?_
    refine ae.val rfl (aW rfl C8) rfl ?_
    refine ae.val rfl (ax rfl rfl kz) rfl ?_
    obtain ⟨z78,hzz78,h⟩:=bind_some h
    refine ae.ret rfl (az rfl rfl) (bN E _ _ _ _ _ hzz78 _ _ (aG.eq (aG.eq (aG.eq .nil)))) rfl ?_
    obtain ⟨z79,hzz79,h⟩:=bind_some h
    refine ae.val rfl (bP rfl rfl (cZ (enc:=D.str) hzz79 zy Dh (((fun _=>rfl) _).trans Bl.symm))) rfl ?_
    refine ae.val rfl (bf rfl (fV lZ rfl)) rfl ?_
    refine ae.val rfl (ak rfl wI mU rfl) rfl ?_
    refine ae.store H47 (i:=0) rfl rfl rfl rfl rfl rfl Bl rfl Dh rfl rfl rfl (fun S80 H81=>?_)
    refine ae.nil ?_
    exact ⟨⟨(bg.mk z35 z37 [] [] []).Tag,z79,(bg.mk z35 z37 [] [] []).aI⟩,_,_,S80,.refl _ _,.refl _,(aa.r rfl (aa.r rfl (aa.r rfl (aa.r rfl (aa.r rfl (aa.r rfl (aa.r rfl (aa.r rfl (aa.r rfl (aa.r rfl aa.nil)))))))))),H81.sl [0,1,2,3,4] rfl rfl,h⟩
   replace h:=df hb77 h
   refine av.seq ?_
   refine av.region E.obj rfl ?_
   refine ae.val rfl (ax rfl rfl bG) rfl ?_
   refine ae.val rfl (ai rfl) rfl ?_
   refine ae.nil ?_
   refine av.cond rfl (fun hb82=>?_) (fun hb82=>?_)
   ·
    replace h:=dw hb82 h
    refine av.region E.obj rfl ?_
    refine ae.val rfl (ah rfl) rfl ?_
    refine ae.val rfl (ah rfl) rfl ?_
    refine ae.val rfl (ah rfl) rfl ?_
    refine ae.val rfl (aW rfl C8) rfl ?_
    refine ae.val rfl (ax rfl rfl kz) rfl ?_
    obtain ⟨z83,hzz83,h⟩:=bind_some h
    refine ae.ret rfl (az rfl rfl) (bN E _ _ _ _ _ hzz83 _ _ (aG.eq (aG.eq (aG.eq .nil)))) rfl ?_
    obtain ⟨z84,hzz84,h⟩:=bind_some h
    refine ae.val rfl (bP rfl rfl (cZ (enc:=D.str) hzz84 zy Dh (((fun _=>rfl) _).trans Bl.symm))) rfl ?_
    refine ae.val rfl (bf rfl (fV lZ rfl)) rfl ?_
    refine ae.val rfl (ak rfl wI mU rfl) rfl ?_
    refine ae.store H47 (i:=0) rfl rfl rfl rfl rfl rfl Bl rfl Dh rfl rfl rfl (fun S85 H86=>?_)
    refine ae.nil ?_
    exact ⟨⟨(bg.mk z35 z37 [] [] []).Tag,z84,(bg.mk z35 z37 [] [] []).aI⟩,_,_,S85,.refl _ _,.refl _,(aa.r rfl (aa.r rfl (aa.r rfl (aa.r rfl (aa.r rfl (aa.r rfl (aa.r rfl (aa.r rfl (aa.r rfl (aa.r rfl aa.nil)))))))))),H86.sl [0,1,2,3,4] rfl rfl,h⟩
   replace h:=df hb82 h
   refine av.skip ?_
   exact ⟨⟨(bg.mk z35 z37 [] [] []).Tag,(bg.mk z35 z37 [] [] []).Text,(bg.mk z35 z37 [] [] []).aI⟩,_,_,S46,.refl _ _,.refl _,(aa.r rfl (aa.r rfl (aa.r rfl (aa.r rfl (aa.r rfl (aa.r rfl (aa.r rfl (aa.r rfl (aa.r rfl (aa.r rfl aa.nil)))))))))),H47.sl [0,1,2,3,4] rfl rfl,h⟩
  refine av.seq ?_
  refine av.region E.obj rfl ?_
  refine ae.val rfl (ah rfl) rfl ?_
  refine ae.val rfl (ah rfl) rfl ?_
  obtain ⟨z87,hzz87,h⟩:=bind_some h
  refine ae.val rfl (bP rfl rfl (wH (enc:=bT) H19 (i:=2) rfl hzz87 pX nW ((bg.len _).trans eF.symm))) rfl ?_
  refine ae.val rfl (mG rfl gH pR rfl) rfl ?_
  refine ae.val rfl (bf rfl (by rw [bg.cells]; exact fV mJ rfl)) rfl ?_
  refine ae.val rfl (ai rfl) rfl ?_
  refine ae.nil ?_
  refine av.seq ?_
  refine av.region E.obj rfl ?_
  refine ae.val rfl (ah rfl) rfl ?_
  refine ae.val rfl (ax rfl rfl lJ) rfl ?_
  refine ae.val rfl (ah rfl) rfl ?_
  refine ae.bO 3 49 (.d (.bool ((z87.Kind != 1) && (z87.Kind != 5)))) ?_ ?_
  ·
   rcases Bool.eq_false_or_eq_true ((z87.Kind != 1)) with hB88 | hB88
   ·
    refine ae.bool hB88 ?_
    refine ae.val rfl (ah rfl) rfl ?_
    refine ae.val rfl (ax rfl rfl lJ) rfl ?_
    refine ae.val rfl (aC (b:=true) rfl rfl) rfl ?_
    exact ae.nil ⟨_,rfl,(aa.put (aa.push rfl (aa.push rfl (aa.put (.refl _) (Less.eq (by rw [hB88]))))) (Less.eq (by rw [hB88]; rw [Bool.true_and])))⟩
   refine ae.bool hB88 ?_
   refine ae.no rfl rfl ?_
   refine ae.no rfl rfl ?_
   refine ae.val rfl (aC (b:=false) rfl rfl) rfl ?_
   exact ae.nil ⟨_,rfl,(aa.put (aa.push rfl (aa.push rfl (aa.put (.refl _) (Less.eq (by rw [hB88]))))) (Less.eq (by rw [hB88]; rw [Bool.false_and])))⟩
  refine ae.val rfl (ah rfl) rfl ?_
  refine ae.bO 3 53 (.d (.bool (((z87.Kind != 1) && (z87.Kind != 5)) && (z87.Kind != 6)))) ?_ ?_
  ·
   rcases Bool.eq_false_or_eq_true (((z87.Kind != 1) && (z87.Kind != 5))) with hB89 | hB89
   ·
    refine ae.bool hB89 ?_
    refine ae.val rfl (ah rfl) rfl ?_
    refine ae.val rfl (ax rfl rfl lJ) rfl ?_
    refine ae.val rfl (aC (b:=true) rfl rfl) rfl ?_
    exact ae.nil ⟨_,rfl,(aa.put (aa.push rfl (aa.push rfl (aa.put (.refl _) (Less.eq (by rw [hB89]))))) (Less.eq (by rw [hB89]; rw [Bool.true_and])))⟩
   refine ae.bool hB89 ?_
   refine ae.no rfl rfl ?_
   refine ae.no rfl rfl ?_
   refine ae.val rfl (aC (b:=false) rfl rfl) rfl ?_
   exact ae.nil ⟨_,rfl,(aa.put (aa.push rfl (aa.push rfl (aa.put (.refl _) (Less.eq (by rw [hB89]))))) (Less.eq (by rw [hB89]; rw [Bool.false_and])))⟩
  refine ae.val rfl (ah rfl) rfl ?_
  obtain ⟨z91,hzz91,h⟩:=bind_some h
  refine ae.bO 5 59 (.d (.bool z91)) ?_ ?_
  ·
   rcases Bool.eq_false_or_eq_true ((((z87.Kind != 1) && (z87.Kind != 5)) && (z87.Kind != 6))) with hB90 | hB90
   ·
    refine ae.bool hB90 ?_
    refine ae.no rfl rfl ?_
    refine ae.no rfl rfl ?_
    refine ae.no rfl rfl ?_
    refine ae.no rfl rfl ?_
    refine ae.val rfl (aC (b:=true) rfl rfl) rfl ?_
    replace hzz91:=dw hB90 hzz91
    cases hzz91
    exact ae.nil ⟨_,rfl,(aa.put (aa.push rfl (aa.push rfl (aa.push rfl (aa.push rfl (aa.put (.refl _) (Less.eq (by rw [hB90]))))))) (.refl _))⟩
   refine ae.bool hB90 ?_
   replace hzz91:=df hB90 hzz91
   refine ae.val rfl (ah rfl) rfl ?_
   refine ae.val rfl (ah rfl) rfl ?_
   obtain ⟨z92,hzz92,hzz91⟩:=bind_some hzz91
   refine ae.ret rfl (az rfl rfl) (nY E _ _ _ _ hzz92 _ _ (aG.grow H19 (i:=3) rfl (aG.eq .nil))) rfl ?_
   refine ae.val rfl (ax rfl rfl jB) rfl ?_
   refine ae.val rfl (aC (b:=false) rfl rfl) rfl ?_
   cases hzz91
   exact ae.nil ⟨_,rfl,(aa.put (aa.push rfl (aa.push rfl (aa.push rfl (aa.push rfl (aa.put (.refl _) (Less.eq (by rw [hB90]))))))) (.refl _))⟩
  refine ae.nil ?_
  refine av.cond rfl (fun hb93=>?_) (fun hb93=>?_)
  ·
   replace h:=dw hb93 h
   refine av.region E.obj rfl ?_
   refine ae.val rfl (ai rfl) rfl ?_
   refine ae.nil ?_
   exact ⟨0,_,_,S18,.refl _ _,.refl _,(aa.r rfl (aa.r rfl (aa.r rfl (aa.r rfl (aa.r rfl (aa.r rfl (aa.r rfl (aa.r rfl (aa.r rfl aa.nil))))))))),H19.sl [0,1,2,3] rfl rfl,h⟩
  replace h:=df hb93 h
  refine av.skip ?_
  exact ⟨z29,_,_,S18,.refl _ _,.refl _,(aa.r rfl (aa.r rfl (aa.r rfl (aa.r rfl (aa.r rfl (aa.r rfl (aa.r rfl (aa.r rfl (aa.r rfl aa.nil))))))))),H19.sl [0,1,2,3] rfl rfl,h⟩
 replace h:=df hb27 h
 refine av.exit ?_
 refine av.seq ?_
 refine av.region E.obj rfl ?_
 refine ae.val rfl (ah rfl) rfl ?_
 refine ae.val rfl (ah rfl) rfl ?_
 obtain ⟨z94,hzz94,h⟩:=bind_some h
 refine ae.ret rfl (az rfl rfl) (jN E _ _ _ _ _ hzz94 _ _ (aG.grow H19 (i:=2) rfl (aG.grow H19 (i:=3) rfl (aG.eq .nil)))) rfl ?_
 refine ae.store H19 (i:=0) rfl rfl rfl rfl (aS.bF _) rfl eF rfl nW rfl rfl rfl (fun S95 H96=>?_)
 refine ae.nil ?_
 have hr:=Option.some.inj h
 subst hr
 exact av.ret ⟨_,oz H96 (i:=0) rfl rfl rfl (aU ic eF rfl),rfl,gm (aG.qg (d:=aF z94) (aj.eq rfl (aj.eq rfl (aj.eq rfl (aj.eq rfl (aj.eq rfl (aj.eq rfl .nil)))))) ((aS.eq _).trans rfl))⟩
set_option maxRecDepth 20000 in
set_option maxHeartbeats 4000000 in
theorem lq:∀ (n:Nat) (a1:aS) (r:Int),dL n a1=some r→cO R cfg.P 17 [(aF a1)] (.d (.int .i64 r))
 | 0,a1,r,h=>by simp [dL] at h
 | n + 1,a1,r,h=>by
  have ih:=lq n
  unfold dL at h
  refine cO.of_wp E.obj.toObjOk (C:=cfg) Tryd.func17 rfl F8 rfl ?_
  have H0:Has aK aK []:=Has.pure
  refine av.seq ?_
  refine av.region E.obj rfl ?_
  refine ae.box H0 rfl rfl rfl (aS.bF _) rfl (fun b2 S3 H4=>?_)
  refine ae.val rfl (ai rfl) rfl ?_
  refine ae.nil ?_
  refine av.seq ?_
  refine av.region E.obj rfl ?_
  refine ae.val rfl (ai rfl) rfl ?_
  refine ae.nil ?_
  refine av.join (B:=aK) (α:=Int) (fun a=>gD n (dL n) a1 a=some r) (fun a=>[(1,(.ptr b2 0 0)),(3,(.d (.int .i64 a)))]) (fun a=>[.box b2 [(.d (.int .i64 a1.Kind)),(.d (.int .i64 a1.N)),(.d (.str a1.Tag)),(.d (.str a1.Text)),(.d (.sl ((a1.aI).map aA) false)),(.d (.sl ((a1.Kids).map aF) false))]]) ?_ ?_
  ·
   intro x7 S5 H6 h
   replace h:gD n (dL n) a1 x7=some r:=h
   replace H6:Has aK S5 [.box b2 [(.d (.int .i64 a1.Kind)),(.d (.int .i64 a1.N)),(.d (.str a1.Tag)),(.d (.str a1.Text)),(.d (.sl ((a1.aI).map aA) false)),(.d (.sl ((a1.Kids).map aF) false))]]:=H6
   unfold gD at h
   refine av.seq ?_
   refine av.seq ?_
   refine av.region E.obj rfl ?_
   refine ae.val rfl (ak rfl jJ rY rfl) rfl ?_
   refine ae.val rfl (au H6 (i:=0) rfl rfl (aD sZ rfl)) rfl ?_
   refine ae.val rfl (aW rfl zu) rfl ?_
   refine ae.val rfl (ah rfl) rfl ?_
   refine ae.nil ?_
   refine av.block ?_
   refine mI.start (B:=aK) (α:=Int × Int) (fun k a=>dP (dL n) a1 k a.1 a.2=some r) (fun a=>[(3,(.d (.int .i64 a.1))),(10,(.d (.sl ((a1.Kids).map aF) false))),(11,(.d (.int .i64 ((a1.Kids).length:Int)))),(12,(.d (.int .i64 a.2)))]) (fun a=>[]) ?_ ?_ n ⟨⟨x7,0⟩,_,_,S5,.refl _ _,.refl _,(aa.r rfl (aa.r rfl (aa.r rfl (aa.r rfl aa.nil)))),H6.sl [] rfl rfl,h⟩
   ·
    intro a h; simp [dP] at h
   intro k19 a S15 H16 h
   obtain ⟨x17,x18⟩:=a
   replace h:dP (dL n) a1 (k19 + 1) x17 x18=some r:=h
   replace H16:Has aK S15 []:=H16
   unfold dP at h
   refine av.seq ?_
   refine av.region E.obj rfl ?_
   refine ae.val rfl (ax rfl rfl di) rfl ?_
   refine ae.nil ?_
   refine av.seq ?_
   refine av.cond rfl (fun hb20=>?_) (fun hb20=>?_)
   ·
    replace h:=dw hb20 h
    refine av.skip ?_
    refine av.seq ?_
    refine av.block ?_
    refine av.seq ?_
    refine av.region E.obj rfl ?_
    obtain ⟨z21,hzz21,h⟩:=bind_some h
    refine ae.val rfl (bP rfl rfl (cZ (enc:=aF) hzz21 pX nW ((aS.len _).trans eF.symm))) rfl ?_
    refine ae.val rfl (bf rfl (aS.gN ic eF)) rfl ?_
    refine ae.alloc H16 rfl uP jX rfl rfl (fun b22 S23 H24=>?_)
    refine ae.store H24 (i:=0) rfl rfl rfl rfl (aS.bF _) rfl eF rfl nW rfl rfl rfl (fun S25 H26=>?_)
    refine ae.nil ?_
    refine av.region E.obj rfl ?_
    refine ae.val rfl (ah rfl) rfl ?_
    refine ae.val rfl (au H26 (i:=0) rfl rfl (aU ic eF rfl)) rfl ?_
    refine ae.less (Less.agg' (d:=aF z21) (aj.eq rfl (aj.eq rfl (aj.eq rfl (aj.eq rfl (aj.eq rfl (aj.eq rfl .nil)))))) ((aS.eq _).trans rfl)) ?_
    obtain ⟨z27,hzz27,h⟩:=bind_some h
    refine ae.ret rfl (az rfl rfl) (ih _ _ hzz27 _ _ (aG.eq .nil)) rfl ?_
    refine ae.val rfl (ax rfl rfl bS) rfl ?_
    refine ae.val rfl (ai rfl) rfl ?_
    refine ae.nil ?_
    refine av.region E.obj rfl ?_
    refine ae.val rfl (ax rfl rfl bS) rfl ?_
    refine ae.val rfl (ah rfl) rfl ?_
    refine ae.nil ?_
    exact ⟨⟨(IntKind.wrap .i64 (x17 + z27)),(IntKind.wrap .i64 (x18 + 1))⟩,_,_,S25,.refl _ _,.refl _,(aa.r rfl (aa.r rfl (aa.r rfl (aa.r rfl aa.nil)))),H26.sl [] rfl rfl,h⟩
   replace h:=df hb20 h
   refine av.exit ?_
   refine av.seq ?_
   refine av.region E.obj rfl ?_
   refine ae.val rfl (ah rfl) rfl ?_
   refine ae.val rfl (ai rfl) rfl ?_
   refine ae.nil ?_
   have hr:=Option.some.inj h
   subst hr
   exact av.ret ⟨_,rfl,rfl,gm (aG.eq .nil)⟩
  refine av.seq ?_
  refine av.region E.obj rfl ?_
  refine ae.val rfl (ak rfl gH pR rfl) rfl ?_
  refine ae.val rfl (au H4 (i:=0) rfl rfl (aD mJ rfl)) rfl ?_
  refine ae.val rfl (ax rfl rfl bG) rfl ?_
  refine ae.nil ?_
  refine av.cond rfl (fun hb28=>?_) (fun hb28=>?_)
  ·
   replace h:=dw hb28 h
   refine av.region E.obj rfl ?_
   refine ae.val rfl (ai rfl) rfl ?_
   refine ae.nil ?_
   exact ⟨1,_,_,S3,.refl _ _,.refl _,(aa.r rfl (aa.r rfl aa.nil)),H4.sl [0] rfl rfl,h⟩
  replace h:=df hb28 h
  refine av.skip ?_
  exact ⟨0,_,_,S3,.refl _ _,.refl _,(aa.r rfl (aa.r rfl aa.nil)),H4.sl [0] rfl rfl,h⟩
set_option maxRecDepth 20000 in
set_option maxHeartbeats 4000000 in
theorem kD:∀ (n:Nat) (a1:Tree) (r:Int),dm n a1=some r→cO R cfg.P 22 [(ay a1)] (.d (.int .i64 r))
 | 0,a1,r,h=>by simp [dm] at h
 | n + 1,a1,r,h=>by
  have ih:=kD n
  unfold dm at h
  refine cO.of_wp E.obj.toObjOk (C:=cfg) Tryd.func22 rfl Fu rfl ?_
  have H0:Has aK aK []:=Has.pure
  refine av.seq ?_
  refine av.region E.obj rfl ?_
  refine ae.box H0 rfl rfl rfl (Tree.bF _) rfl (fun b2 S3 H4=>?_)
  refine ae.val rfl (ai rfl) rfl ?_
  refine ae.nil ?_
  refine av.seq ?_
  refine av.region E.obj rfl ?_
  refine ae.val rfl (ai rfl) rfl ?_
  refine ae.nil ?_
  refine av.join (B:=aK) (α:=Int) (fun a=>fU n (dm n) a1 a=some r) (fun a=>[(1,(.ptr b2 0 0)),(3,(.d (.int .i64 a)))]) (fun a=>[.box b2 [(.d (.str a1.Tag)),(.d (.str a1.Key)),(.d (.str a1.Text)),(.d (.sl ((a1.aI).map aA) false)),(.d (.sl ((a1.Kids).map ay) false))]]) ?_ ?_
  ·
   intro x7 S5 H6 h
   replace h:fU n (dm n) a1 x7=some r:=h
   replace H6:Has aK S5 [.box b2 [(.d (.str a1.Tag)),(.d (.str a1.Key)),(.d (.str a1.Text)),(.d (.sl ((a1.aI).map aA) false)),(.d (.sl ((a1.Kids).map ay) false))]]:=H6
   unfold fU at h
   refine av.seq ?_
   refine av.seq ?_
   refine av.region E.obj rfl ?_
   refine ae.val rfl (ak rfl kg sQ rfl) rfl ?_
   refine ae.val rfl (au H6 (i:=0) rfl rfl (aD ui rfl)) rfl ?_
   refine ae.val rfl (aW rfl rU) rfl ?_
   refine ae.val rfl (ah rfl) rfl ?_
   refine ae.nil ?_
   refine av.block ?_
   refine mI.start (B:=aK) (α:=Int × Int) (fun k a=>dH (dm n) a1 k a.1 a.2=some r) (fun a=>[(3,(.d (.int .i64 a.1))),(10,(.d (.sl ((a1.Kids).map ay) false))),(11,(.d (.int .i64 ((a1.Kids).length:Int)))),(12,(.d (.int .i64 a.2)))]) (fun a=>[]) ?_ ?_ n ⟨⟨x7,0⟩,_,_,S5,.refl _ _,.refl _,(aa.r rfl (aa.r rfl (aa.r rfl (aa.r rfl aa.nil)))),H6.sl [] rfl rfl,h⟩
   ·
    intro a h; simp [dH] at h
   intro k19 a S15 H16 h
   obtain ⟨x17,x18⟩:=a
   replace h:dH (dm n) a1 (k19 + 1) x17 x18=some r:=h
   replace H16:Has aK S15 []:=H16
   unfold dH at h
   refine av.seq ?_
   refine av.region E.obj rfl ?_
   refine ae.val rfl (ax rfl rfl di) rfl ?_
   refine ae.nil ?_
   refine av.seq ?_
   refine av.cond rfl (fun hb20=>?_) (fun hb20=>?_)
   ·
    replace h:=dw hb20 h
    refine av.skip ?_
    refine av.seq ?_
    refine av.block ?_
    refine av.seq ?_
    refine av.region E.obj rfl ?_
    obtain ⟨z21,hzz21,h⟩:=bind_some h
    refine ae.val rfl (bP rfl rfl (cZ (enc:=ay) hzz21 lT kW ((Tree.len _).trans dQ.symm))) rfl ?_
    refine ae.val rfl (bf rfl (Tree.gN gU dQ)) rfl ?_
    refine ae.alloc H16 rfl uR iZ rfl rfl (fun b22 S23 H24=>?_)
    refine ae.store H24 (i:=0) rfl rfl rfl rfl (Tree.bF _) rfl dQ rfl kW rfl rfl rfl (fun S25 H26=>?_)
    refine ae.nil ?_
    refine av.region E.obj rfl ?_
    refine ae.val rfl (ah rfl) rfl ?_
    refine ae.val rfl (au H26 (i:=0) rfl rfl (aU gU dQ rfl)) rfl ?_
    refine ae.less (Less.agg' (d:=ay z21) (aj.eq rfl (aj.eq rfl (aj.eq rfl (aj.eq rfl (aj.eq rfl .nil))))) ((Tree.eq _).trans rfl)) ?_
    obtain ⟨z27,hzz27,h⟩:=bind_some h
    refine ae.ret rfl (az rfl rfl) (ih _ _ hzz27 _ _ (aG.eq .nil)) rfl ?_
    refine ae.val rfl (ax rfl rfl bS) rfl ?_
    refine ae.val rfl (ai rfl) rfl ?_
    refine ae.nil ?_
    refine av.region E.obj rfl ?_
    refine ae.val rfl (ax rfl rfl bS) rfl ?_
    refine ae.val rfl (ah rfl) rfl ?_
    refine ae.nil ?_
    exact ⟨⟨(IntKind.wrap .i64 (x17 + z27)),(IntKind.wrap .i64 (x18 + 1))⟩,_,_,S25,.refl _ _,.refl _,(aa.r rfl (aa.r rfl (aa.r rfl (aa.r rfl aa.nil)))),H26.sl [] rfl rfl,h⟩
   replace h:=df hb20 h
   refine av.exit ?_
   refine av.seq ?_
   refine av.region E.obj rfl ?_
   refine ae.val rfl (ah rfl) rfl ?_
   refine ae.val rfl (ai rfl) rfl ?_
   refine ae.nil ?_
   have hr:=Option.some.inj h
   subst hr
   exact av.ret ⟨_,rfl,rfl,gm (aG.eq .nil)⟩
  refine av.seq ?_
  refine av.region E.obj rfl ?_
  refine ae.val rfl (ak rfl l6 mU rfl) rfl ?_
  refine ae.val rfl (au H4 (i:=0) rfl rfl (aD lZ rfl)) rfl ?_
  refine ae.val rfl (ax rfl rfl iO) rfl ?_
  refine ae.nil ?_
  refine av.cond rfl (fun hb28=>?_) (fun hb28=>?_)
  ·
   replace h:=dw hb28 h
   refine av.region E.obj rfl ?_
   refine ae.val rfl (ai rfl) rfl ?_
   refine ae.nil ?_
   exact ⟨1,_,_,S3,.refl _ _,.refl _,(aa.r rfl (aa.r rfl aa.nil)),H4.sl [0] rfl rfl,h⟩
  replace h:=df hb28 h
  refine av.skip ?_
  exact ⟨0,_,_,S3,.refl _ _,.refl _,(aa.r rfl (aa.r rfl aa.nil)),H4.sl [0] rfl rfl,h⟩
set_option maxRecDepth 20000 in
set_option maxHeartbeats 4000000 in
theorem uH (n:Nat) (a1:dI) (a2:(List Int)) (a3:(List eX)) (r:Bool) (h:fe n a1 a2 a3=some r):cO R cfg.P 7 [(iG a1),(.sl ((a2).map (D.int .i64)) false),(.sl ((a3).map aH) false)] (.d (.bool r)):=by
 unfold fe at h
 refine cO.of_wp E.obj.toObjOk (C:=cfg) Tryd.func7 rfl GG rfl ?_
 have H0:Has aK aK []:=Has.pure
 refine av.seq ?_
 refine av.region E.obj rfl ?_
 refine ae.box H0 rfl rfl rfl (dI.bF _) rfl (fun b4 S5 H6=>?_)
 refine ae.val rfl (ai rfl) rfl ?_
 refine ae.nil ?_
 refine av.seq ?_
 refine av.region E.obj rfl ?_
 refine ae.val rfl (au H6 (i:=0) rfl rfl (aU FY Fx rfl)) rfl ?_
 refine ae.less (Less.agg' (d:=iG a1) (aj.eq rfl (aj.eq rfl (aj.eq rfl (aj.eq rfl .nil)))) ((dI.eq _).trans rfl)) ?_
 obtain ⟨z7,hzz7,h⟩:=bind_some h
 refine ae.ret rfl (az rfl rfl) (kZ E _ _ _ hzz7 _ _ (aG.eq .nil)) rfl ?_
 refine ae.alloc H6 rfl uP jX rfl rfl (fun b8 S9 H10=>?_)
 refine ae.store H10 (i:=0) rfl rfl rfl rfl (aS.bF _) rfl eF rfl nW rfl rfl rfl (fun S11 H12=>?_)
 refine ae.nil ?_
 refine av.seq ?_
 refine av.region E.obj rfl ?_
 refine ae.val rfl (qo yT qx mJ) rfl ?_
 refine ae.val rfl (ah rfl) rfl ?_
 refine ae.val rfl (ah rfl) rfl ?_
 refine ae.val rfl (aW rfl xq) rfl ?_
 refine ae.val rfl (uu rfl rfl) rfl ?_
 obtain ⟨z13,hzz13,h⟩:=bind_some h
 refine ae.val rfl (mf rfl rfl qx Ff (fun z=>((fun _=>rfl) z).trans zk.symm) hzz13) rfl ?_
 have H14:=H12.zg (([]).map (D.int .i64))
 obtain ⟨z15,hzz15,h⟩:=bind_some h
 refine ae.append (xs:=([]).map (D.int .i64)) (ys:=(z13).map (D.int .i64)) (zs:=(z15).map (D.int .i64)) H14 rfl rfl rfl (i:=0) rfl rfl yT EC qx (iL hzz15) Gq rfl (dM (enc:=(D.int .i64)) (fun _=>zk.symm) _) (dM (enc:=(D.int .i64)) (fun _=>zk.symm) _) Gr rfl (nL hzz15) (fun v16 S17 H18=>?_)
 refine ae.val rfl (ai rfl) rfl ?_
 refine ae.nil ?_
 refine av.seq ?_
 obtain ⟨z19,hzz19,h⟩:=bind_some h
 obtain ⟨z20,hzz20,h⟩:=bind_some h
 refine av.kQ E.obj pO GM [(7,none),(8,none),(9,some 11),(10,some 13)] (by kernel_rfl) [11,12] (by decide) [some (.d (aF z7)),some v16,some (.d (.sl ((a3).map aH) false)),some (.d (.sl ((a3).map aH) false)),some (.d (.int .i64 ((a3).length:Int))),some (.d (.int .i64 (yP ((a3).length:Int) 5))),some (.d (.sl ((z19).map aH) false)),some (.tup [(.d (ay z20.1)),(.d (.int .i64 z20.2))]),some (.tup [(.d (ay z20.1)),(.d (.int .i64 z20.2))]),some (.d (ay z20.1)),some (.d (.int .i64 z20.2)),none,none,none] ?_
 refine ⟨[0,1,2,3,4,5,6,7,8,9,10],by kernel_rfl,?_,_,_,rfl,rfl,.step ?_⟩
 ·
  refine .cons rfl rfl rfl (.step ?_) ?_
  ·
   refine ae.val rfl (au H18 (i:=1) rfl rfl (aU ic eF rfl)) rfl ?_
   refine ae.less (Less.agg' (d:=aF z7) (aj.eq rfl (aj.eq rfl (aj.eq rfl (aj.eq rfl (aj.eq rfl (aj.eq rfl .nil)))))) ((aS.eq _).trans rfl)) ?_
   exact ae.nil ⟨_,_,rfl,fun _ ht=>by cases ht; exact ⟨rfl,.refl _⟩⟩
  refine .v rfl rfl rfl rfl (ah rfl) ?_
  refine .v rfl rfl rfl rfl (ah rfl) ?_
  refine .v rfl rfl rfl rfl (ah rfl) ?_
  refine .v rfl rfl rfl rfl (aW rfl D6) ?_
  refine .v rfl rfl rfl rfl (uu rfl rfl) ?_
  refine .v rfl rfl rfl rfl (mf rfl rfl Dz Er (fun z=>(eX.len z).trans yz.symm) hzz19) ?_
  refine .cons rfl rfl rfl (.step ?_) ?_
  ·
   refine ae.ret rfl (az rfl rfl) (iT E _ _ _ _ _ hzz20 _ _ (aG.eq (aG.grow H18 (i:=0) rfl (aG.eq .nil)))) rfl ?_
   exact ae.nil ⟨_,_,rfl,fun _ ht=>by cases ht; exact ⟨rfl,.refl _⟩⟩
  refine .v rfl rfl rfl rfl (ah rfl) ?_
  refine .v rfl rfl rfl rfl (bI rfl rfl) ?_
  refine .v rfl rfl rfl rfl (bI rfl rfl) ?_
  exact .nil
 refine ae.alloc H18 rfl uR iZ rfl rfl (fun b26 S27 H28=>?_)
 refine ae.nil ⟨_,_,_,rfl,(fun _ ht=>by cases ht; rfl),_,(.q (.q (.o (.o (.o (.w (.ptr b26 0 0) (.n (.n .nil)))))))),(fun _ ht=>by cases ht; exact ⟨_,rfl,.refl _⟩),?_⟩
 refine ⟨[0,1,2,3,4,5,6,7,8,9,10],by kernel_rfl,?_,_,_,rfl,rfl,.step ?_⟩
 ·
  refine .cons rfl rfl rfl (.step ?_) ?_
  ·
   refine ae.val rfl (au H28 (i:=2) rfl rfl (aU ic eF rfl)) rfl ?_
   refine ae.less (Less.agg' (d:=aF z7) (aj.eq rfl (aj.eq rfl (aj.eq rfl (aj.eq rfl (aj.eq rfl (aj.eq rfl .nil)))))) ((aS.eq _).trans rfl)) ?_
   exact ae.nil ⟨_,_,rfl,fun _ ht=>by cases ht; exact ⟨rfl,.refl _⟩⟩
  refine .v rfl rfl rfl rfl (ah rfl) ?_
  refine .v rfl rfl rfl rfl (ah rfl) ?_
  refine .v rfl rfl rfl rfl (ah rfl) ?_
  refine .v rfl rfl rfl rfl (aW rfl D6) ?_
  refine .v rfl rfl rfl rfl (uu rfl rfl) ?_
  refine .v rfl rfl rfl rfl (mf rfl rfl Dz Er (fun z=>(eX.len z).trans yz.symm) hzz19) ?_
  refine .cons rfl rfl rfl (.step ?_) ?_
  ·
   refine ae.ret rfl (az rfl rfl) (iT E _ _ _ _ _ hzz20 _ _ (aG.eq (aG.grow H28 (i:=1) rfl (aG.eq .nil)))) rfl ?_
   exact ae.nil ⟨_,_,rfl,fun _ ht=>by cases ht; exact ⟨rfl,.refl _⟩⟩
  refine .v rfl rfl rfl rfl (ah rfl) ?_
  refine .v rfl rfl rfl rfl (bI rfl rfl) ?_
  refine .v rfl rfl rfl rfl (bI rfl rfl) ?_
  exact .nil
 refine ae.store H28 (i:=0) rfl rfl rfl rfl (Tree.bF _) rfl dQ rfl kW rfl rfl rfl (fun S29 H30=>?_)
 refine ae.nil ⟨_,.any,_,rfl,(fun _ ht=>by cases ht),_,(.q (.q (.q (.w .any (.w (.d (.int .i64 z20.2)) .nil))))),(fun _ ht=>by cases ht),?_⟩
 refine ⟨[10,13],by kernel_rfl,?_,_,rfl,?_⟩
 ·
  refine .v rfl rfl rfl rfl (bI rfl rfl) ?_
  refine .v rfl rfl rfl rfl (ai rfl) ?_
  exact .nil
 refine av.seq ?_
 refine av.seq ?_
 refine av.region E.obj rfl ?_
 refine ae.val rfl (ah rfl) rfl ?_
 refine ae.val rfl (ax rfl rfl lJ) rfl ?_
 refine ae.nil ?_
 refine av.cond rfl (fun hb31=>?_) (fun hb31=>?_)
 ·
  replace h:=dw hb31 h
  refine av.seq ?_
  refine av.region E.obj rfl ?_
  refine ae.val rfl (ah rfl) rfl ?_
  refine ae.val rfl (ax rfl rfl bG) rfl ?_
  refine ae.val rfl (ah rfl) rfl ?_
  obtain ⟨z33,hzz33,h⟩:=bind_some h
  refine ae.bO 4 39 (.d (.bool z33)) ?_ ?_
  ·
   rcases Bool.eq_false_or_eq_true ((z20.2 == 6)) with hB32 | hB32
   ·
    refine ae.bool hB32 ?_
    replace hzz33:=dw hB32 hzz33
    refine ae.val rfl (au H30 (i:=0) rfl rfl (aU gU dQ rfl)) rfl ?_
    refine ae.less (Less.agg' (d:=ay z20.1) (aj.eq rfl (aj.eq rfl (aj.eq rfl (aj.eq rfl (aj.eq rfl .nil))))) ((Tree.eq _).trans rfl)) ?_
    refine ae.val rfl (bR (cs:=[(.d (.str [])),(.d (.str [])),(.d (.str [])),(.d .aT),(.d .aT)]) iZ rfl (dh) rfl) rfl ?_
    refine ae.less (Less.agg' (d:=ay (Tree.mk [] [] [] [] [])) (aj.eq rfl (aj.eq rfl (aj.eq rfl (aj.dK rfl (.aT false) rfl rfl (aj.dK rfl (.aT false) rfl rfl .nil))))) ((Tree.eq _).trans rfl)) ?_
    obtain ⟨z34,hzz34,hzz33⟩:=bind_some hzz33
    refine ae.ret rfl (az rfl rfl) (gT E _ _ _ _ hzz34 _ _ (aG.eq (aG.eq .nil))) rfl ?_
    refine ae.val rfl (aC (b:=true) rfl rfl) rfl ?_
    cases hzz33
    exact ae.nil ⟨_,rfl,(aa.put (aa.push rfl (aa.push rfl (aa.push rfl (aa.put (.refl _) (Less.eq (by rw [hB32])))))) (.refl _))⟩
   refine ae.bool hB32 ?_
   refine ae.no rfl rfl ?_
   refine ae.no rfl rfl ?_
   refine ae.no rfl rfl ?_
   refine ae.val rfl (aC (b:=false) rfl rfl) rfl ?_
   replace hzz33:=df hB32 hzz33
   cases hzz33
   exact ae.nil ⟨_,rfl,(aa.put (aa.push rfl (aa.push rfl (aa.push rfl (aa.put (.refl _) (Less.eq (by rw [hB32])))))) (.refl _))⟩
  refine ae.val rfl (ah rfl) rfl ?_
  obtain ⟨z36,hzz36,h⟩:=bind_some h
  refine ae.bO 2 42 (.d (.bool z36)) ?_ ?_
  ·
   rcases Bool.eq_false_or_eq_true (z33) with hB35 | hB35
   ·
    refine ae.bool hB35 ?_
    replace hzz36:=dw hB35 hzz36
    obtain ⟨z37,hzz37,hzz36⟩:=bind_some hzz36
    refine ae.ret rfl (az rfl rfl) (fJ E _  _ hzz37 _ _ .nil) rfl ?_
    refine ae.val rfl (aC (b:=true) rfl rfl) rfl ?_
    cases hzz36
    exact ae.nil ⟨_,rfl,(aa.put (aa.push rfl (aa.put (.refl _) (Less.eq (by rw [hB35])))) (.refl _))⟩
   refine ae.bool hB35 ?_
   refine ae.no rfl rfl ?_
   refine ae.val rfl (aC (b:=false) rfl rfl) rfl ?_
   replace hzz36:=df hB35 hzz36
   cases hzz36
   exact ae.nil ⟨_,rfl,(aa.put (aa.push rfl (aa.put (.refl _) (Less.eq (by rw [hB35])))) (.refl _))⟩
  refine ae.val rfl (ai rfl) rfl ?_
  refine ae.nil ?_
  have hr:=Option.some.inj h
  subst hr
  exact av.ret ⟨_,rfl,rfl,gm (aG.eq .nil)⟩
 replace h:=df hb31 h
 refine av.skip ?_
 refine av.seq ?_
 refine av.seq ?_
 refine av.region E.obj rfl ?_
 refine ae.val rfl (au H30 (i:=0) rfl rfl (aU gU dQ rfl)) rfl ?_
 refine ae.less (Less.agg' (d:=ay z20.1) (aj.eq rfl (aj.eq rfl (aj.eq rfl (aj.eq rfl (aj.eq rfl .nil))))) ((Tree.eq _).trans rfl)) ?_
 obtain ⟨z38,hzz38,h⟩:=bind_some h
 refine ae.ret rfl (az rfl rfl) (nk E _ _ _ hzz38 _ _ (aG.eq .nil)) rfl ?_
 refine ae.val rfl (eY rfl) rfl ?_
 refine ae.val rfl (ah rfl) rfl ?_
 refine ae.bO 4 50 (.d (.bool ((!z38) || (z20.1.Tag == [])))) ?_ ?_
 ·
  rcases Bool.eq_false_or_eq_true ((!z38)) with hB39 | hB39
  ·
   refine ae.bool hB39 ?_
   refine ae.no rfl rfl ?_
   refine ae.no rfl rfl ?_
   refine ae.no rfl rfl ?_
   refine ae.val rfl (aC (b:=true) rfl rfl) rfl ?_
   exact ae.nil ⟨_,rfl,(aa.put (aa.push rfl (aa.push rfl (aa.push rfl (aa.put (.refl _) (Less.eq (by rw [hB39])))))) (Less.eq (by rw [hB39]; rw [Bool.true_or])))⟩
  refine ae.bool hB39 ?_
  refine ae.val rfl (ak rfl l6 mU rfl) rfl ?_
  refine ae.val rfl (au H30 (i:=0) rfl rfl (aD lZ rfl)) rfl ?_
  refine ae.val rfl (ax rfl rfl iO) rfl ?_
  refine ae.val rfl (aC (b:=false) rfl rfl) rfl ?_
  exact ae.nil ⟨_,rfl,(aa.put (aa.push rfl (aa.push rfl (aa.push rfl (aa.put (.refl _) (Less.eq (by rw [hB39])))))) (Less.eq (by rw [hB39]; rw [Bool.false_or])))⟩
 refine ae.nil ?_
 refine av.cond rfl (fun hb40=>?_) (fun hb40=>?_)
 ·
  replace h:=dw hb40 h
  refine av.seq ?_
  refine av.region E.obj rfl ?_
  refine ae.val rfl (ai rfl) rfl ?_
  refine ae.nil ?_
  have hr:=Option.some.inj h
  subst hr
  exact av.ret ⟨_,rfl,rfl,gm (aG.eq .nil)⟩
 replace h:=df hb40 h
 refine av.skip ?_
 refine av.join (B:=aK) (α:=Bool) (fun a=>bX a=some r) (fun a=>[(6,(.d (.bool a)))]) (fun a=>[]) ?_ ?_
 ·
  intro x43 S41 H42 h
  replace h:bX x43=some r:=h
  replace H42:Has aK S41 []:=H42
  unfold bX at h
  have hr:=Option.some.inj h
  subst hr
  exact av.ret ⟨_,rfl,rfl,gm (aG.eq .nil)⟩
 obtain ⟨z45,hzz45,h⟩:=bind_some h
 rcases Bool.eq_false_or_eq_true ((!z45)) with hb46 | hb46
 ·
  replace h:=dw hb46 h
  obtain ⟨z47,hzz47,h⟩:=bind_some h
  refine av.kQ E.obj pO F7 [(6,some 15)] (by kernel_rfl) [] (by decide) [some (.d (aF z7)),some v16,some (.d (.int .i64 ((z15).length:Int))),some (.d (.bool z45)),some (.d (.bool (!z45))),some (.d (.bool true)),some (.tup []),some (.tup []),some (.tup []),some (.tup []),some (.tup []),some (.d (.bool true)),some (.d (.bool true)),some (.d (.bool z47)),some (.d (.bool z47)),some (.d (.bool z47))] ?_
  refine ⟨[0,1,2,3,4,5,6,7,8,9,10,11,12,13,14,15],by kernel_rfl,?_,_,rfl,?_⟩
  ·
   refine .cons rfl rfl rfl (.step ?_) ?_
   ·
    refine ae.val rfl (au H30 (i:=2) rfl rfl (aU ic eF rfl)) rfl ?_
    refine ae.less (Less.agg' (d:=aF z7) (aj.eq rfl (aj.eq rfl (aj.eq rfl (aj.eq rfl (aj.eq rfl (aj.eq rfl .nil)))))) ((aS.eq _).trans rfl)) ?_
    exact ae.nil ⟨_,_,rfl,fun _ ht=>by cases ht; exact ⟨rfl,.refl _⟩⟩
   refine .v rfl rfl rfl rfl (ah rfl) ?_
   refine .v rfl rfl rfl rfl (nR H30 (i:=1) rfl rfl xq) ?_
   refine .cons rfl rfl rfl (.step ?_) ?_
   ·
    refine ae.ret rfl (az rfl rfl) (iC E _ _ _ _ hzz45 _ _ (aG.eq (aG.eq .nil))) rfl ?_
    exact ae.nil ⟨_,_,rfl,fun _ ht=>by cases ht; exact ⟨rfl,.refl _⟩⟩
   refine .v rfl rfl rfl rfl (eY rfl) ?_
   refine .cons rfl rfl rfl (.val rfl (ah rfl) (.eq (by rw [hb46]))) ?_
   refine .cons rfl rfl rfl (.no rfl (.refl _)) ?_
   refine .cons rfl rfl rfl (.no rfl (.refl _)) ?_
   refine .cons rfl rfl rfl (.no rfl (.refl _)) ?_
   refine .cons rfl rfl rfl (.no rfl (.refl _)) ?_
   refine .cons rfl rfl rfl (.no rfl (.refl _)) ?_
   refine .v rfl rfl rfl rfl (aC (b:=true) rfl rfl) ?_
   refine .v rfl rfl rfl rfl (ah rfl) ?_
   refine .cons rfl rfl rfl (.step ?_) ?_
   ·
    refine ae.ret rfl (az rfl rfl) (fJ E _  _ hzz47 _ _ .nil) rfl ?_
    exact ae.nil ⟨_,_,rfl,fun _ ht=>by cases ht; exact ⟨rfl,.refl _⟩⟩
   refine .v rfl rfl rfl rfl (aC (b:=true) rfl rfl) ?_
   refine .v rfl rfl rfl rfl (ai rfl) ?_
   exact .nil
  exact ⟨z47,_,_,S29,.refl _ _,.refl _,(aa.r rfl aa.nil),H30.sl [] rfl rfl,h⟩
 replace h:=df hb46 h
 obtain ⟨z48,hzz48,h⟩:=bind_some h
 obtain ⟨z49,hzz49,h⟩:=bind_some h
 rcases (Bool.eq_false_or_eq_true ((z48 == z49))).symm with hb50 | hb50
 ·
  replace h:=df hb50 h
  refine av.kQ E.obj pO F7 [(6,some 15)] (by kernel_rfl) [] (by decide) [some (.d (aF z7)),some v16,some (.d (.int .i64 ((z15).length:Int))),some (.d (.bool z45)),some (.d (.bool (!z45))),some (.d (.bool false)),some (.d (ay z20.1)),some (.d (.int .i64 z48)),some (.d (aF z7)),some (.d (.int .i64 z49)),some (.d (.bool (z48 == z49))),some (.d (.bool (z48 == z49))),some (.d (.bool false)),some (.tup []),some (.d (.bool false)),some (.d (.bool false))] ?_
  refine ⟨[0,1,2,3,4,5,6,7,8,9,10,11,12,13,14,15],by kernel_rfl,?_,_,rfl,?_⟩
  ·
   refine .cons rfl rfl rfl (.step ?_) ?_
   ·
    refine ae.val rfl (au H30 (i:=2) rfl rfl (aU ic eF rfl)) rfl ?_
    refine ae.less (Less.agg' (d:=aF z7) (aj.eq rfl (aj.eq rfl (aj.eq rfl (aj.eq rfl (aj.eq rfl (aj.eq rfl .nil)))))) ((aS.eq _).trans rfl)) ?_
    exact ae.nil ⟨_,_,rfl,fun _ ht=>by cases ht; exact ⟨rfl,.refl _⟩⟩
   refine .v rfl rfl rfl rfl (ah rfl) ?_
   refine .v rfl rfl rfl rfl (nR H30 (i:=1) rfl rfl xq) ?_
   refine .cons rfl rfl rfl (.step ?_) ?_
   ·
    refine ae.ret rfl (az rfl rfl) (iC E _ _ _ _ hzz45 _ _ (aG.eq (aG.eq .nil))) rfl ?_
    exact ae.nil ⟨_,_,rfl,fun _ ht=>by cases ht; exact ⟨rfl,.refl _⟩⟩
   refine .v rfl rfl rfl rfl (eY rfl) ?_
   refine .cons rfl rfl rfl (.val rfl (ah rfl) (.eq (by rw [hb46]))) ?_
   refine .cons rfl rfl rfl (.step ?_) ?_
   ·
    refine ae.val rfl (au H30 (i:=0) rfl rfl (aU gU dQ rfl)) rfl ?_
    refine ae.less (Less.agg' (d:=ay z20.1) (aj.eq rfl (aj.eq rfl (aj.eq rfl (aj.eq rfl (aj.eq rfl .nil))))) ((Tree.eq _).trans rfl)) ?_
    exact ae.nil ⟨_,_,rfl,fun _ ht=>by cases ht; exact ⟨rfl,.refl _⟩⟩
   refine .cons rfl rfl rfl (.step ?_) ?_
   ·
    refine ae.ret rfl (az rfl rfl) (kD E _ _ _ hzz48 _ _ (aG.eq .nil)) rfl ?_
    exact ae.nil ⟨_,_,rfl,fun _ ht=>by cases ht; exact ⟨rfl,.refl _⟩⟩
   refine .cons rfl rfl rfl (.step ?_) ?_
   ·
    refine ae.val rfl (au H30 (i:=2) rfl rfl (aU ic eF rfl)) rfl ?_
    refine ae.less (Less.agg' (d:=aF z7) (aj.eq rfl (aj.eq rfl (aj.eq rfl (aj.eq rfl (aj.eq rfl (aj.eq rfl .nil)))))) ((aS.eq _).trans rfl)) ?_
    exact ae.nil ⟨_,_,rfl,fun _ ht=>by cases ht; exact ⟨rfl,.refl _⟩⟩
   refine .cons rfl rfl rfl (.step ?_) ?_
   ·
    refine ae.ret rfl (az rfl rfl) (lq E _ _ _ hzz49 _ _ (aG.eq .nil)) rfl ?_
    exact ae.nil ⟨_,_,rfl,fun _ ht=>by cases ht; exact ⟨rfl,.refl _⟩⟩
   refine .v rfl rfl rfl rfl (ax rfl rfl bG) ?_
   refine .v rfl rfl rfl rfl (aC (b:=false) rfl rfl) ?_
   refine .cons rfl rfl rfl (.val rfl (ah rfl) (.eq (by rw [hb50]))) ?_
   refine .cons rfl rfl rfl (.no rfl (.refl _)) ?_
   refine .v rfl rfl rfl rfl (aC (b:=false) rfl rfl) ?_
   refine .v rfl rfl rfl rfl (ai rfl) ?_
   exact .nil
  exact ⟨false,_,_,S29,.refl _ _,.refl _,(aa.r rfl aa.nil),H30.sl [] rfl rfl,h⟩
 replace h:=dw hb50 h
 obtain ⟨z51,hzz51,h⟩:=bind_some h
 refine av.kQ E.obj pO F7 [(6,some 15)] (by kernel_rfl) [] (by decide) [some (.d (aF z7)),some v16,some (.d (.int .i64 ((z15).length:Int))),some (.d (.bool z45)),some (.d (.bool (!z45))),some (.d (.bool false)),some (.d (ay z20.1)),some (.d (.int .i64 z48)),some (.d (aF z7)),some (.d (.int .i64 z49)),some (.d (.bool (z48 == z49))),some (.d (.bool (z48 == z49))),some (.d (.bool true)),some (.d (.bool z51)),some (.d (.bool z51)),some (.d (.bool z51))] ?_
 refine ⟨[0,1,2,3,4,5,6,7,8,9,10,11,12,13,14,15],by kernel_rfl,?_,_,rfl,?_⟩
 ·
  refine .cons rfl rfl rfl (.step ?_) ?_
  ·
   refine ae.val rfl (au H30 (i:=2) rfl rfl (aU ic eF rfl)) rfl ?_
   refine ae.less (Less.agg' (d:=aF z7) (aj.eq rfl (aj.eq rfl (aj.eq rfl (aj.eq rfl (aj.eq rfl (aj.eq rfl .nil)))))) ((aS.eq _).trans rfl)) ?_
   exact ae.nil ⟨_,_,rfl,fun _ ht=>by cases ht; exact ⟨rfl,.refl _⟩⟩
  refine .v rfl rfl rfl rfl (ah rfl) ?_
  refine .v rfl rfl rfl rfl (nR H30 (i:=1) rfl rfl xq) ?_
  refine .cons rfl rfl rfl (.step ?_) ?_
  ·
   refine ae.ret rfl (az rfl rfl) (iC E _ _ _ _ hzz45 _ _ (aG.eq (aG.eq .nil))) rfl ?_
   exact ae.nil ⟨_,_,rfl,fun _ ht=>by cases ht; exact ⟨rfl,.refl _⟩⟩
  refine .v rfl rfl rfl rfl (eY rfl) ?_
  refine .cons rfl rfl rfl (.val rfl (ah rfl) (.eq (by rw [hb46]))) ?_
  refine .cons rfl rfl rfl (.step ?_) ?_
  ·
   refine ae.val rfl (au H30 (i:=0) rfl rfl (aU gU dQ rfl)) rfl ?_
   refine ae.less (Less.agg' (d:=ay z20.1) (aj.eq rfl (aj.eq rfl (aj.eq rfl (aj.eq rfl (aj.eq rfl .nil))))) ((Tree.eq _).trans rfl)) ?_
   exact ae.nil ⟨_,_,rfl,fun _ ht=>by cases ht; exact ⟨rfl,.refl _⟩⟩
  refine .cons rfl rfl rfl (.step ?_) ?_
  ·
   refine ae.ret rfl (az rfl rfl) (kD E _ _ _ hzz48 _ _ (aG.eq .nil)) rfl ?_
   exact ae.nil ⟨_,_,rfl,fun _ ht=>by cases ht; exact ⟨rfl,.refl _⟩⟩
  refine .cons rfl rfl rfl (.step ?_) ?_
  ·
   refine ae.val rfl (au H30 (i:=2) rfl rfl (aU ic eF rfl)) rfl ?_
   refine ae.less (Less.agg' (d:=aF z7) (aj.eq rfl (aj.eq rfl (aj.eq rfl (aj.eq rfl (aj.eq rfl (aj.eq rfl .nil)))))) ((aS.eq _).trans rfl)) ?_
   exact ae.nil ⟨_,_,rfl,fun _ ht=>by cases ht; exact ⟨rfl,.refl _⟩⟩
  refine .cons rfl rfl rfl (.step ?_) ?_
  ·
   refine ae.ret rfl (az rfl rfl) (lq E _ _ _ hzz49 _ _ (aG.eq .nil)) rfl ?_
   exact ae.nil ⟨_,_,rfl,fun _ ht=>by cases ht; exact ⟨rfl,.refl _⟩⟩
  refine .v rfl rfl rfl rfl (ax rfl rfl bG) ?_
  refine .v rfl rfl rfl rfl (aC (b:=false) rfl rfl) ?_
  refine .cons rfl rfl rfl (.val rfl (ah rfl) (.eq (by rw [hb50]))) ?_
  refine .cons rfl rfl rfl (.step ?_) ?_
  ·
   refine ae.ret rfl (az rfl rfl) (fJ E _  _ hzz51 _ _ .nil) rfl ?_
   exact ae.nil ⟨_,_,rfl,fun _ ht=>by cases ht; exact ⟨rfl,.refl _⟩⟩
  refine .v rfl rfl rfl rfl (aC (b:=true) rfl rfl) ?_
  refine .v rfl rfl rfl rfl (ai rfl) ?_
  exact .nil
 exact ⟨z51,_,_,S29,.refl _ _,.refl _,(aa.r rfl aa.nil),H30.sl [] rfl rfl,h⟩
end
end Pr
end Go.Ev

namespace Go.Ev
namespace Pr
set_option linter.unusedVariables false
set_option linter.unusedSimpArgs false
theorem mD {n:Int} (h0:-9223372036854775808 ≤ n) (h1:n ≤ 9223372036854775807):IntKind.wrap .i64 n=n:=Go.IntWalk.i64_in n ⟨h0,h1⟩
theorem iE {α:Type} (l:List α) (i:Nat):idx l (i:Int)=l[i]?:=by
 unfold idx
 rw [if_pos (by omega)]
 simp
theorem gX {α:Type} {l done rest:List α} {z:α} (h:l=done ++ z :: rest):idx l (done.length:Int)=some z:=by
 rw [iE,h]; simp
theorem qG {α:Type} (l:List α) {i:Int} (h0:0 ≤ i) (h1:i < l.length):∃ x,idx l i=some x∧x ∈ l∧l[i.toNat]? = some x:=by
 obtain ⟨j,rfl⟩:=Int.eq_ofNat_of_zero_le h0
 have hj:j < l.length:=by omega
 exact ⟨l[j],by rw [iE]; exact List.getElem?_eq_getElem hj,List.getElem_mem hj,by simp [hj]⟩
theorem o7 {α:Type} {nb:Nat} {l ys:List α} (h:(l.length + ys.length) * nb ≤ bound):app nb l ys=some (l ++ ys):=by
 unfold app; rw [if_pos h]
theorem Ad {k:IntKind} {a b:Int} (h:b ≠ 0):AB k a b=some (a.tmod b):=by
 unfold AB; rw [if_neg h]
theorem bnd:bound=70368744177664:=rfl
end Pr
end Go.Ev

namespace Go.Ev
namespace Pr
namespace S
set_option linter.unusedVariables false
set_option linter.unusedSimpArgs false
set_option linter.unusedSectionVars false
theorem jk (n:Nat) (a lo hi:Int) (h1:lo ≤ hi) (h2:-1000000000000 ≤ lo) (h3:hi ≤ 1000000000000000):∃ r,bL n a lo hi=some r∧lo ≤ r∧r ≤ hi:=by
 unfold bL
 rw [mD (n:=hi - lo) (by omega) (by omega),mD (by omega) (by omega),Ad (by omega),Option.bind_some]
 have k1:=Int.tmod_lt_of_pos a (show 0 < hi - lo + 1 by omega)
 have k2:=Int.lt_tmod_of_pos a (show 0 < hi - lo + 1 by omega)
 unfold dD
 by_cases hz:a.tmod (hi - lo + 1) < 0
 ·
  rw [if_pos (by simpa using hz)]
  rw [mD (n:=a.tmod (hi - lo + 1) + hi) (by omega) (by omega),mD (n:=a.tmod (hi - lo + 1) + hi - lo) (by omega) (by omega),mD (n:=a.tmod (hi - lo + 1) + hi - lo + 1) (by omega) (by omega),mD (by omega) (by omega)]
  exact ⟨_,rfl,by omega,by omega⟩
 ·
  rw [if_neg (by simpa using hz),mD (by omega) (by omega)]
  exact ⟨_,rfl,by omega,by omega⟩
theorem wD (n:Nat) (l:List Int) (i:Int) (h:0 ≤ i):∃ r,eu n l i=some r:=by
 unfold eu
 by_cases h0:l.length=0
 ·
  rw [if_pos (by simp; exact List.eq_nil_of_length_eq_zero h0)]; exact ⟨_,rfl⟩
 ·
  rw [if_neg (by simp; intro q; exact h0 (by rw [q]; rfl)),Ad (by omega),Option.bind_some]
  have hp:(0:Int) < (l.length:Int):=by omega
  obtain ⟨x,hx,_⟩:=qG l (i:=i.tmod l.length) (Int.tmod_nonneg _ h) (Int.tmod_lt_of_pos _ hp)
  exact ⟨x,by rw [hx]; rfl⟩
mutual
def gZ:aS→Nat
 | .mk _ _ _ _ _ ks=>1 + iY ks
def iY:List aS→Nat
 | []=>0
 | t :: l=>gZ t + iY l
end
mutual
def nZ:aS→Nat
 | .mk _ _ _ _ _ ks=>1 + nz ks
def nz:List aS→Nat
 | []=>0
 | t :: l=>max (nZ t) (nz l)
end
theorem dz (t:aS):gZ t=1 + iY t.Kids:=by cases t; rw [gZ]; rfl
theorem uY (t:aS):nZ t=1 + nz t.Kids:=by cases t; rw [nZ]; rfl
theorem jU:∀ (l:List aS),l.length ≤ iY l
 | []=>Nat.le_refl _
 | x :: l=>by
  have:=jU l
  have:=dz x
  simp only [List.length_cons,iY]; omega
theorem uT:∀ {l:List aS} {z:aS},z ∈ l→gZ z ≤ iY l
 | x :: l,z,h=>by
  rcases List.mem_cons.1 h with rfl | h
  ·
   simp only [iY]; omega
  ·
   have:=uT h
   simp only [iY]; omega
theorem iD {t z:aS} (h:z ∈ t.Kids):gZ z < gZ t:=by
 have:=uT h
 have:=dz t; omega
def kG:Str:=[111,117,116,108,101,116]
mutual
def pg (m:Int):aS→Prop
 | .mk k n g x a ks=>(1 ≤ k∧k ≤ m)∧(k ≠ 1→k ≠ 5→k ≠ 6→ks=[])∧g ≠ kG∧(0 ≤ n∧n ≤ 4)∧a.length ≤ 64∧Eo m ks
def Eo (m:Int):List aS→Prop
 | []=>True
 | t :: l=>pg m t∧Eo m l
end
theorem zU {m:Int}:∀ {l:List aS},Eo m l↔∀ z ∈ l,pg m z
 | []=>by simp [Eo]
 | t :: l=>by
  rw [Eo,zU (l:=l)]; simp
theorem zC {m:Int} (t:aS):pg m t↔(1 ≤ t.Kind∧t.Kind ≤ m)∧(t.Kind ≠ 1→t.Kind ≠ 5→t.Kind ≠ 6→t.Kids=[])∧t.Tag ≠ kG∧(0 ≤ t.N∧t.N ≤ 4)∧t.aI.length ≤ 64∧(∀ z ∈ t.Kids,pg m z):=by
 cases t
 rw [pg,zU]; rfl
theorem ku (n:Nat) (self:aS→Option (Int × Int)) (t:aS) (hs:∀ z ∈ t.Kids,self z=some ((gZ z:Int),(nZ z:Int))) (hl:gZ t < 1000000) (hD:∀ z ∈ t.Kids,nZ z < 1000000):∀ (rest done:List aS) (k a d:Nat),t.Kids=done ++ rest→rest.length < k→a + iY rest < 2000000→d < 1000000 →
  dR self t k (a:Int) (d:Int) (done.length:Int)=some (((a + iY rest:Nat):Int),((max d (nz rest) + 1:Nat):Int))
 | [],done,k + 1,a,d,h,hk,ha,hd=>by
  rw [dR,if_neg (by rw [h]; simp),mD (by omega) (by omega)]
  simp [iY,nz]
 | z :: rest,done,k + 1,a,d,h,hk,ha,hd=>by
  have hlen:done.length < t.Kids.length:=by rw [h]; simp
  have:=jU t.Kids
  have:=dz t
  have hz:z ∈ t.Kids:=by rw [h]; simp
  have hdz:=hD z hz
  simp only [iY] at ha
  rw [dR,if_pos (by rw [decide_eq_true_eq]; omega),gX h,Option.bind_some,hs z hz,Option.bind_some]
  have e:nu (d:Int) (nZ z:Int)=((max d (nZ z):Nat):Int):=by unfold nu; split <;> omega
  simp only [e]
  rw [mD (n:=(a:Int) + (gZ z:Int)) (by omega) (by omega),mD (n:=(done.length:Int) + 1) (by omega) (by omega)]
  have:=ku n self t hs hl hD rest (done ++ [z]) k (a + gZ z) (max d (nZ z)) (by simp [h]) (by simp at hk; omega) (by omega) (by omega)
  simp only [List.length_append,List.length_cons,List.length_nil,Nat.zero_add,Int.natCast_add,Int.cast_ofNat_Int] at this
  rw [this]
  simp only [iY,nz,Option.some.injEq,Prod.mk.injEq]
  refine ⟨by omega,by omega⟩
theorem Af:∀ (m:Nat) (t:aS),gZ t ≤ m→nZ t ≤ gZ t
 | 0,t,h=>by have:=dz t; omega
 | m + 1,t,h=>by
  rw [dz,uY]
  have:∀ (l:List aS),(∀ z ∈ l,nZ z ≤ gZ z)→nz l ≤ iY l:=by
   intro l
   induction l with
   | nil=>intro _; exact Nat.le_refl _
   | cons z l ih =>
    intro hz
    have h1:=hz z (by simp)
    have h2:=ih (fun y hy=>hz y (by simp [hy]))
    simp only [nz,iY]; omega
  have:=this t.Kids (fun z hz=>Af m z (by have:=iD hz; omega))
  omega
theorem nM:∀ (m:Nat) (t:aS),gZ t ≤ m→m < 1000000→∀ n,m < n→fI n t=some ((gZ t:Int),(nZ t:Int))
 | 0,t,h,_,n,_=>by have:=dz t; omega
 | m + 1,t,h,hm,n + 1,hn=>by
  have hk:=dz t
  have hlen:=jU t.Kids
  rw [fI]
  have:=ku n (fI n) t (fun z hz=>nM m z (by have:=iD hz; omega) (by omega) n (by omega)) (by omega) (fun z hz=>by
   have:=Af (gZ z) z (Nat.le_refl _)
   have:=iD hz; omega) t.Kids [] n 1 0 rfl (by omega) (by omega) (by omega)
  simp only [List.length_nil,Int.natCast_zero,Int.ofNat_zero,Int.cast_ofNat_Int,Int.natCast_one,Int.ofNat_one] at this
  rw [this,dz,uY]
  simp only [Option.some.injEq,Prod.mk.injEq,true_and]
  omega
theorem kP (self:aS→Int→Bool→Option Bool) (t:aS) (b:Bool) (hl:t.Kids.length < 1000000):∀ (rest done:List aS) (k:Nat),t.Kids=done ++ rest→rest.length < k→(∀ z ∈ rest,self z 5 ((b || (t.Kind == 5)) || (t.Kind == 6))=some true) →
  cB self t 5 b k (done.length:Int)=some true
 | [],done,k + 1,h,hk,hs=>by rw [cB,if_neg (by rw [h]; simp)]
 | z :: rest,done,k + 1,h,hk,hs=>by
  have hlen:done.length < t.Kids.length:=by rw [h]; simp
  rw [cB,if_pos (by rw [decide_eq_true_eq]; omega),gX h,Option.bind_some,hs z (by simp),Option.bind_some,if_neg (by simp),mD (by omega) (by omega)]
  have:=kP self t b hl rest (done ++ [z]) k (by simp [h]) (by simp at hk; omega) (fun y hy=>hs y (by simp [hy]))
  simp only [List.length_append,List.length_cons,List.length_nil,Nat.zero_add,Int.natCast_add,Int.cast_ofNat_Int] at this
  exact this
def DZ (t:bg):Prop:=(1 ≤ t.Kind∧t.Kind ≤ 7)∧t.Tag ≠ kG∧(0 ≤ t.N∧t.N ≤ 4)∧t.aI.length ≤ 64
def opens (t:bg):Prop:=t.Kind=1∨t.Kind=5∨t.Kind=6
structure Wd (nodes:List bg) (under:List Int) (lv:List Nat):Prop where
 lu:under.length=nodes.length
 ll:lv.length=nodes.length
 pos:0 < nodes.length
 le:nodes.length ≤ 13
 ok:∀ (j:Nat) (t:bg),nodes[j]? = some t→DZ t
 root:under[0]? = some (-1)∧lv[0]? = some 1
 par:∀ (j:Nat),0 < j→j < nodes.length→∃ (p:Nat) (t:bg) (v:Nat),under[j]? = some (p:Int)∧p < j∧nodes[p]? = some t∧opens t∧lv[p]? = some v∧lv[j]? = some (v + 1)
 lim:∀ (j v:Nat),lv[j]? = some v→v ≤ 7∧1 ≤ v
section
variable {nodes:List bg} {under:List Int} {lv:List Nat}
theorem Ae (h:Wd nodes under lv):∀ (m j v:Nat),j ≤ m→lv[j]? = some v→∀ (k:Nat) (acc:Int),v + 1 < k→0 ≤ acc→acc + v ≤ 60→bJ under k (j:Int) acc=some (acc + v)
 | m,0,v,_,hv,k + 2,acc,hk,h0,h1=>by
  have hr:=h.root
  rw [hr.2] at hv; cases hv
  rw [bJ,if_pos (by simp; omega)]
  have:idx under ((0:Nat):Int)=some (-1):=by rw [iE]; exact hr.1
  rw [this,Option.bind_some,mD (by omega) (by omega),bJ,if_neg (by simp)]
  rfl
 | m + 1,j + 1,v,hj,hv,k + 1,acc,hk,h0,h1=>by
  have hjl:j + 1 < nodes.length:=by
   have:=(List.getElem?_eq_some_iff.1 hv).1
   rw [h.ll] at this; exact this
  obtain ⟨p,t,v',hu,hp,_,_,hvp,hvj⟩:=h.par (j + 1) (by omega) hjl
  rw [hv] at hvj; cases hvj
  have hl:=(h.lim (j + 1) (v' + 1) hv).1
  rw [bJ,if_pos (by simp; omega)]
  have:idx under ((j + 1:Nat):Int)=some (p:Int):=by rw [iE]; exact hu
  rw [this,Option.bind_some,mD (by omega) (by omega)]
  rw [Ae h m p v' (by omega) hvp k (acc + 1) (by omega) (by omega) (by omega)]
  congr 1
  push_cast; omega
 | m,0,v,_,hv,1,acc,hk,_,_=>by omega
theorem BL (h:Wd nodes under lv) (n:Nat) (hn:20 < n) {j v:Nat} (hv:lv[j]? = some v):fQ n under (j:Int)=some (v:Int):=by
 have hl:=(h.lim j v hv).1
 unfold fQ
 rw [Ae h j j v (Nat.le_refl _) hv n 0 (by omega) (by omega) (by omega)]
 simp
def jw (under:List Int) (at_:Nat) (l:List Nat):List Nat:=l.filter fun j=>under[j]? == some (at_:Int)
def sS (nodes:List bg) (under:List Int):Nat→Nat→aS
 | 0,_=>.mk 0 0 [] [] [] []
 | f + 1,j=>match nodes[j]? with
  | some t=>.mk t.Kind t.N t.Tag t.Text t.aI ((jw under j (List.range nodes.length)).map (sS nodes under f))
  | none=>.mk 0 0 [] [] [] []
theorem nP (h:Wd nodes under lv) {j i:Nat} {l:List Nat} (hi:i ∈ jw under j l):i < nodes.length∧j < i∧∃ v,lv[j]? = some v∧lv[i]? = some (v + 1)∧∃ t,nodes[j]? = some t∧opens t:=by
 obtain ⟨_,h2⟩:=List.mem_filter.1 hi
 have h2:=eq_of_beq h2
 have hil:i < nodes.length:=by rw [← h.lu]; exact (List.getElem?_eq_some_iff.1 h2).1
 cases i with
 | zero=>rw [h.root.1] at h2; cases h2
 | succ i =>
  obtain ⟨p,t,v,hu,hp,ht,htg,hvp,hvj⟩:=h.par (i + 1) (by omega) hil
  rw [hu] at h2
  have:p=j:=by have:=Option.some.inj h2; omega
  subst this
  exact ⟨hil,hp,v,hvp,hvj,t,ht,htg⟩
theorem yx (h:Wd nodes under lv):∀ (f g j:Nat),j < nodes.length→nodes.length ≤ j + f→nodes.length ≤ j + g→sS nodes under f j=sS nodes under g j
 | 0,g,j,hj,hf,_=>by omega
 | f + 1,0,j,hj,_,hg=>by omega
 | f + 1,g + 1,j,hj,hf,hg=>by
  rw [sS,sS]
  split
  ·
   congr 1
   apply List.map_congr_left
   intro i hi
   obtain ⟨h1,h2,_⟩:=nP h hi
   exact yx h f g i h1 (by omega) (by omega)
  ·
   rfl
def gt (nodes:List bg) (under:List Int) (j:Nat):aS:=sS nodes under (nodes.length + 1) j
theorem zY (h:Wd nodes under lv) {j:Nat} {t:bg} (ht:nodes[j]? = some t):gt nodes under j=.mk t.Kind t.N t.Tag t.Text t.aI ((jw under j (List.range nodes.length)).map (gt nodes under)):=by
 unfold gt
 rw [sS]
 simp only [ht]
 congr 1
 apply List.map_congr_left
 intro i hi
 obtain ⟨h1,h2,_⟩:=nP h hi
 exact yx h _ _ i h1 (by omega) (by omega)
theorem qP (h:Wd nodes under lv) (self:List bg→List Int→Int→Option aS) (j:Nat) (z:bg) (hs:∀ i,i < nodes.length→j < i→self nodes under (i:Int)=some (gt nodes under i)):∀ (m i k:Nat) (acc:List aS),nodes.length=i + m→m < k→acc.length ≤ i →
  bz self nodes under (j:Int) z k acc (i:Int)=some (.mk z.Kind z.N z.Tag z.Text z.aI (acc ++ (jw under j (List.range' i m)).map (gt nodes under)))
 | 0,i,k + 1,acc,hm,_,_=>by
  rw [bz,if_neg (by rw [hm]; simp)]
  simp [jw]
 | m + 1,i,k + 1,acc,hm,hk,ha=>by
  have hle:=h.le
  have hil:i < under.length:=by rw [h.lu]; omega
  rw [bz,if_pos (by rw [hm]; simp; omega),iE,List.getElem?_eq_getElem hil,Option.bind_some]
  rw [List.range'_succ]
  by_cases hu:under[i]=(j:Int)
  ·
   have hin:i ∈ jw under j [i]:=by simp [jw,hil,hu]
   obtain ⟨g1,g2,_⟩:=nP h hin
   rw [if_pos (by simpa using hu),hs i g1 g2,Option.bind_some,o7 (by rw [bnd]; simp; omega),Option.bind_some]
   unfold dn
   rw [mD (by omega) (by omega)]
   have:=qP h self j z hs m (i + 1) k (acc ++ [gt nodes under i]) (by omega) (by omega) (by simp; omega)
   push_cast at this
   rw [this]
   have:jw under j (i :: List.range' (i + 1) m)=i :: jw under j (List.range' (i + 1) m):=by
    unfold jw; rw [List.filter_cons,if_pos (by simp [hil,hu])]
   rw [this]; simp
  ·
   rw [if_neg (by simpa using hu)]
   unfold dn
   rw [mD (by omega) (by omega)]
   have:=qP h self j z hs m (i + 1) k acc (by omega) (by omega) (by omega)
   push_cast at this
   rw [this]
   have:jw under j (i :: List.range' (i + 1) m)=jw under j (List.range' (i + 1) m):=by
    unfold jw; rw [List.filter_cons,if_neg (by simp [hil,hu])]
   rw [this]
theorem zZ (h:Wd nodes under lv):∀ (n j:Nat),j < nodes.length→2 * nodes.length + 2 ≤ j + n→bq n nodes under (j:Int)=some (gt nodes under j)
 | 0,j,hj,hn=>by omega
 | n + 1,j,hj,hn=>by
  rw [bq,iE,List.getElem?_eq_getElem hj,Option.bind_some]
  have:=qP h (bq n) j nodes[j] (fun i hi hji=>zZ h n i hi (by omega)) nodes.length 0 n [] (by omega) (by omega) (by simp)
  rw [show ((0:Nat):Int)=0 from rfl] at this
  rw [this,zY h (List.getElem?_eq_getElem hj),List.range_eq_range']
  rfl
theorem zL (h:Wd nodes under lv):∀ (m j v:Nat),nodes.length ≤ j + m→lv[j]? = some v→pg 7 (gt nodes under j)∧nZ (gt nodes under j) + v ≤ 8
 | 0,j,v,hm,hv=>by
  have:=(List.getElem?_eq_some_iff.1 hv).1
  rw [h.ll] at this; omega
 | m + 1,j,v,hm,hv=>by
  have hj:j < nodes.length:=by rw [← h.ll]; exact (List.getElem?_eq_some_iff.1 hv).1
  have ht:=List.getElem?_eq_getElem hj
  have hv7:=h.lim j v hv
  rw [zY h ht]
  have hk:∀ i ∈ jw under j (List.range nodes.length),pg 7 (gt nodes under i)∧nZ (gt nodes under i) + (v + 1) ≤ 8:=fun i hi=>by
   obtain ⟨g1,g2,v',g3,g4,_⟩:=nP h hi
   rw [hv] at g3; cases g3
   exact zL h m i (v + 1) (by omega) g4
  obtain ⟨a1,a2,a3,a4⟩:=h.ok j _ ht
  refine ⟨(zC _).2 ⟨a1,fun q1 q5 q6=>?_,a2,a3,a4,fun z hz=>?_⟩,?_⟩
  ·
   show List.map _ _=[]
   rw [List.map_eq_nil_iff]
   cases hq:jw under j (List.range nodes.length) with
   | nil=>rfl
   | cons i l =>
    obtain ⟨_,_,_,_,_,t,e1,e2⟩:=nP h (l:=List.range nodes.length) (i:=i) (j:=j) (by rw [hq]; simp)
    rw [ht] at e1; cases e1
    rcases e2 with e | e | e
    ·
     exact absurd e q1
    ·
     exact absurd e q5
    ·
     exact absurd e q6
  ·
   obtain ⟨i,hi,rfl⟩:=List.mem_map.1 hz
   exact (hk i hi).1
  ·
   rw [nZ]
   have:∀ (l:List Nat),(∀ i ∈ l,nZ (gt nodes under i) + (v + 1) ≤ 8)→nz (l.map (gt nodes under)) + (v + 1) ≤ 8:=by
    intro l
    induction l with
    | nil=>intro _; simp only [List.map_nil,nz]; omega
    | cons i l ih =>
     intro hl
     have h1:=hl i List.mem_cons_self
     have h2:=ih (fun i hi=>hl i (List.mem_cons_of_mem _ hi))
     simp only [List.map_cons,nz]; omega
   have:=this _ (fun i hi=>(hk i hi).2)
   omega
def iN (p:Nat→Bool) (f:Nat→Nat):List Nat→Nat
 | []=>0
 | i :: l=>(if p i then f i else 0) + iN p f l
theorem pq (f:Nat→aS) (p:Nat→Bool):∀ (l:List Nat),iY ((l.filter p).map f)=iN p (fun i=>gZ (f i)) l
 | []=>rfl
 | i :: l=>by
  rw [List.filter_cons,iN]
  by_cases h:p i=true
  ·
   rw [if_pos h,if_pos h,List.map_cons,iY,pq f p l]
  ·
   rw [if_neg h,if_neg h,pq f p l]; omega
theorem ru (f:Nat→Nat) (p q r:Nat→Bool):∀ (l:List Nat),(∀ i ∈ l,p i=(q i || r i)∧(q i && r i)=false)→iN p f l=iN q f l + iN r f l
 | [],_=>rfl
 | i :: l,h=>by
  obtain ⟨h1,h2⟩:=h i List.mem_cons_self
  have ih:=ru f p q r l (fun i hi=>h i (List.mem_cons_of_mem _ hi))
  rw [iN,iN,iN,h1,ih]
  cases hq:q i <;> cases hr:r i <;> simp_all <;> omega
theorem oV (f:Nat→Nat) (p:Nat→Bool):∀ (l:List Nat),(∀ i ∈ l,p i=false)→iN p f l=0
 | [],_=>rfl
 | i :: l,h=>by
  rw [iN,h i List.mem_cons_self,oV f p l (fun i hi=>h i (List.mem_cons_of_mem _ hi))]; simp
theorem vE (f:Nat→Nat) (p:Nat→Bool):∀ (l m:List Nat),iN p f (l ++ m)=iN p f l + iN p f m
 | [],m=>by simp [iN]
 | i :: l,m=>by rw [List.cons_append,iN,iN,vE f p l m]; omega
def ahead (under:List Int) (m:Nat) (j:Nat):Bool:=match under[j]? with
 | some u=>decide (u < (m:Int))
 | none=>false
theorem Bf (h:Wd nodes under lv):∀ (d m:Nat),m + d=nodes.length→iN (ahead under m) (fun i=>gZ (gt nodes under i)) (List.range' m d)=d
 | 0,m,_=>rfl
 | d + 1,m,hm=>by
  have ih:=Bf h d (m + 1) (by omega)
  have hml:m < nodes.length:=by omega
  have hmu:m < under.length:=by rw [h.lu]; exact hml
  rw [List.range'_succ,iN]
  have hself:ahead under m m=true:=by
   unfold ahead
   cases m with
   | zero=>rw [h.root.1]; rfl
   | succ m =>
    obtain ⟨p,_,_,hu,hp,_⟩:=h.par (m + 1) (by omega) hml
    rw [hu]; simp; omega
  rw [if_pos hself,zY h (List.getElem?_eq_getElem hml),gZ]
  unfold jw
  rw [pq]
  have hr:List.range nodes.length=List.range' 0 (m + 1) ++ List.range' (m + 1) d:=by
   have hq:=List.range'_append_1 (s:=0) (m:=m + 1) (n:=d)
   rw [Nat.zero_add] at hq
   rw [List.range_eq_range',hq]
   congr 1; omega
  rw [hr,vE,oV _ _ (List.range' 0 (m + 1)) (fun i hi=>?_)]
  ·
   have hsp:=ru (fun i=>gZ (gt nodes under i)) (ahead under (m + 1)) (ahead under m) (fun j=>under[j]? == some (m:Int)) (List.range' (m + 1) d) (fun i hi=>?_)
   ·
    rw [hsp] at ih
    omega
   ·
    have hil:i < under.length:=by
     have:=List.mem_range'_1.1 hi
     rw [h.lu]; omega
    unfold ahead
    rw [List.getElem?_eq_getElem hil]
    generalize under[i]=u
    simp only
    rcases Int.lt_trichotomy u (m:Int) with q | q | q
    ·
     have q1:u < ((m + 1:Nat):Int):=by omega
     have q2:u ≠ (m:Int):=by omega
     simp only [q,q1,decide_true,Bool.true_or,Bool.true_and,true_and]
     simpa using q2
    ·
     subst q
     have q1:(m:Int) < ((m + 1:Nat):Int):=by omega
     have q2:¬ (m:Int) < (m:Int):=by omega
     simp only [q1,q2,decide_true,decide_false,Bool.false_or,Bool.false_and,and_true,beq_self_eq_true]
    ·
     have q1:¬ u < ((m + 1:Nat):Int):=by omega
     have q2:¬ u < (m:Int):=by omega
     have q3:u ≠ (m:Int):=by omega
     simp only [q1,q2,decide_false,Bool.false_or,Bool.false_and,and_true]
     symm; simpa using q3
  ·
   cases hc:under[i]? == some (m:Int) with
   | false=>rfl
   | true =>
    have him:=List.mem_range'_1.1 hi
    obtain ⟨_,q,_⟩:=nP h (l:=[i]) (i:=i) (j:=m) (by simp [jw,hc])
    omega
theorem DY (h:Wd nodes under lv):gZ (gt nodes under 0)=nodes.length:=by
 obtain ⟨d,hd⟩:∃ d,nodes.length=d + 1:=⟨nodes.length - 1,by have:=h.pos; omega⟩
 have:=Bf h nodes.length 0 (by omega)
 rw [hd,List.range'_succ,iN] at this
 have h0:ahead under 0 0=true:=by unfold ahead; rw [h.root.1]; rfl
 rw [if_pos h0,oV _ _ _ (fun i hi=>?_)] at this
 ·
  rw [hd]; omega
 ·
  have hi':=List.mem_range'_1.1 hi
  obtain ⟨p,_,_,hu,_⟩:=h.par i (by omega) (by omega)
  unfold ahead
  rw [hu]; simp
end
def words:List Str:=[[97],[98],[105,116,101,109],[120,32,121],[37],[97,47,98],[46,46],[122],[49],[108,105,115,116],[255],[63,61,38]]
def Di:List Str:=[[100,105,118],[112],[108,105],[98]]
def Dw:List Str:=[[105,100],[112,97],[112,98],[108,97,115,116]]
theorem DI:(words.length:Int)=12:=rfl
theorem xU:∀ s ∈ Di,s ≠ kG:=by decide
section
variable {nodes:List bg} {under:List Int} {lv:List Nat}
theorem getElem?_push {α:Type} (l:List α) (x:α) (j:Nat):(l ++ [x])[j]? = if j < l.length then l[j]? else if j=l.length then some x else none:=by
 by_cases h:j < l.length
 ·
  rw [if_pos h,List.getElem?_append_left h]
 ·
  rw [if_neg h,List.getElem?_append_right (by omega)]
  by_cases h2:j=l.length
  ·
   rw [if_pos h2,h2]; simp
  ·
   rw [if_neg h2]
   have:∃ k,j - l.length=k + 1:=⟨j - l.length - 1,by omega⟩
   obtain ⟨k,hk⟩:=this
   rw [hk]; rfl
theorem iU {α:Type} {l:List α} {x y:α} {j:Nat} (h:l[j]? = some y):(l ++ [x])[j]? = some y:=by
 rw [List.getElem?_append_left (List.getElem?_eq_some_iff.1 h).1]; exact h
theorem CZ (h:Wd nodes under lv) (hl:nodes.length ≤ 12) {t:bg} (ht:DZ t) {p v:Nat} {tp:bg} (hp:nodes[p]? = some tp) (htp:opens tp) (hv:lv[p]? = some v) (h6:v ≤ 6):Wd (nodes ++ [t]) (under ++ [(p:Int)]) (lv ++ [v + 1]) where
 lu:=by simp [h.lu]
 ll:=by simp [h.ll]
 pos:=by simp
 le:=by simp; omega
 ok:=fun j u hu=>by
  rw [getElem?_push] at hu
  split at hu
  ·
   exact h.ok j u hu
  ·
   split at hu
   ·
    cases hu; exact ht
   ·
    cases hu
 root:=⟨iU h.root.1,iU h.root.2⟩
 par:=fun j h0 hj=>by
  simp only [List.length_append,List.length_singleton] at hj
  by_cases hjl:j < nodes.length
  ·
   obtain ⟨q,tq,vq,h1,h2,h3,h4,h5,h6⟩:=h.par j h0 hjl
   exact ⟨q,tq,vq,iU h1,h2,iU h3,h4,iU h5,iU h6⟩
  ·
   have hj:j=nodes.length:=by omega
   subst hj
   have hpl:=(List.getElem?_eq_some_iff.1 hp).1
   refine ⟨p,tp,v,?_,hpl,iU hp,htp,iU hv,?_⟩
   ·
    rw [getElem?_push,h.lu,if_neg (by omega),if_pos rfl]
   ·
    rw [getElem?_push,h.ll,if_neg (by omega),if_pos rfl]
 lim:=fun j w hw=>by
  rw [getElem?_push] at hw
  split at hw
  ·
   exact h.lim j w hw
  ·
   split at hw
   ·
    cases hw; omega
   ·
    cases hw
def uj (nodes:List bg):Prop:=∃ t,nodes[0]? = some t∧t.Kind=1
theorem DX (hl:nodes.length ≤ 12) (hu:under.length ≤ 12) {i:Nat} (hi:i ≤ 20) (again:List bg→List Int→Int→Option aS) (p kd nn:Int) (tag text:Str) (ats:List Attr) :
  aY nodes under (i:Int) again p kd nn tag text ats=again (nodes ++ [⟨kd,nn,tag,text,ats⟩]) (under ++ [p]) ((i + 1:Nat):Int):=by
 unfold aY
 rw [o7 (by rw [bnd]; simp; omega),Option.bind_some,o7 (by rw [bnd]; simp; omega),Option.bind_some,mD (by omega) (by omega)]
 rfl
theorem DU (hl:nodes.length ≤ 12) (hu:under.length ≤ 12) (n:Nat) (k:dI) {i:Nat} (hi:i ≤ 20) (again:List bg→List Int→Int→Option aS) (p:Int) :
  ∃ t,DZ t∧bA n k words nodes under (i:Int) again p=again (nodes ++ [t]) (under ++ [p]) ((i + 1:Nat):Int):=by
 obtain ⟨r1,e1⟩:=wD n k.Kinds (i:Int) (by omega)
 obtain ⟨kd,k1,k2,k3⟩:=jk n r1 1 7 (by omega) (by omega) (by omega)
 obtain ⟨r2,e2⟩:=wD n k.Ns (i:Int) (by omega)
 obtain ⟨nn,n1,n2,n3⟩:=jk n r2 0 4 (by omega) (by omega) (by omega)
 obtain ⟨r3,e3⟩:=wD n k.Texts (i:Int) (by omega)
 have go:=fun (tag text:Str) (ats:List Attr)=>DX hl hu hi again p kd nn tag text ats
 unfold bA
 rw [e1,Option.bind_some,k1,Option.bind_some,e2,Option.bind_some,n1,Option.bind_some,e3,Option.bind_some]
 simp only []
 have l4:IntKind.wrap .i64 ((([[100,105,118],[112],[108,105],[98]]:List Str).length:Int) - 1)=3:=by rw [mD (by simp) (by simp)]; rfl
 have l5:IntKind.wrap .i64 ((([[105,100],[112,97],[112,98],[108,97,115,116]]:List Str).length:Int) - 1)=3:=by rw [mD (by simp) (by simp)]; rfl
 have l12:IntKind.wrap .i64 ((words.length:Int) - 1)=11:=by rw [DI,mD (by omega) (by omega)]; rfl
 by_cases c1:kd=1
 ·
  rw [if_pos (by simp [c1]),l4]
  obtain ⟨q,q1,q2,q3⟩:=jk n r3 0 3 (by omega) (by omega) (by omega)
  obtain ⟨tag,t1,t2,_⟩:=qG Di q2 (by show q < 4; omega)
  have t1':idx [[100,105,118],[112],[108,105],[98]] q=some tag:=t1
  rw [q1,Option.bind_some,t1',Option.bind_some]
  by_cases c3:(D5 .i64 r3 3 == 3)=true
  ·
   rw [if_pos c3]
   obtain ⟨r4,e4⟩:∃ r4,BK .i64 r3 4=some r4:=⟨_,by unfold BK; rw [if_neg (by omega)]⟩
   obtain ⟨q',q1',q2',q3'⟩:=jk n r4 0 11 (by omega) (by omega) (by omega)
   obtain ⟨w,w1,_,_⟩:=qG words q2' (by rw [DI]; omega)
   rw [e4,Option.bind_some,l12,q1',Option.bind_some,w1,Option.bind_some]
   exact ⟨_,⟨⟨k2,k3⟩,xU tag t2,⟨n2,n3⟩,by simp⟩,go _ _ _⟩
  ·
   rw [if_neg c3]
   exact ⟨_,⟨⟨k2,k3⟩,xU tag t2,⟨n2,n3⟩,by simp⟩,go _ _ _⟩
 ·
  rw [if_neg (by simp [c1])]
  by_cases c2:kd=2
  ·
   rw [if_pos (by simp [c2]),l12]
   obtain ⟨q,q1,q2,q3⟩:=jk n r3 0 11 (by omega) (by omega) (by omega)
   obtain ⟨w,w1,_,_⟩:=qG words q2 (by rw [DI]; omega)
   rw [q1,Option.bind_some,w1,Option.bind_some]
   exact ⟨_,⟨⟨k2,k3⟩,by simp [kG],⟨n2,n3⟩,by simp⟩,go _ _ _⟩
  ·
   rw [if_neg (by simp [c2])]
   by_cases c4:kd=4
   ·
    rw [if_pos (by simp [c4]),l5]
    obtain ⟨q,q1,q2,q3⟩:=jk n r3 0 3 (by omega) (by omega) (by omega)
    obtain ⟨w,w1,_,_⟩:=qG Dw q2 (by show q < 4; omega)
    have w1':idx [[105,100],[112,97],[112,98],[108,97,115,116]] q=some w:=w1
    rw [q1,Option.bind_some,w1',Option.bind_some]
    exact ⟨_,⟨⟨k2,k3⟩,by simp [kG],⟨n2,n3⟩,by simp⟩,go _ _ _⟩
   ·
    rw [if_neg (by simp [c4])]
    exact ⟨_,⟨⟨k2,k3⟩,by simp [kG],⟨n2,n3⟩,by simp⟩,go _ _ _⟩
theorem tF (n:Nat) (hn:100 < n) (k:dI):∀ (m i f:Nat) (nodes:List bg) (under:List Int) (lv:List Nat),Wd nodes under lv→uj nodes→nodes.length=i + 1→i + m=11→m < f →
  ∃ nodes' under' lv',Wd nodes' under' lv'∧uj nodes'∧aM n k words f nodes under (i:Int)=bq n nodes' under' 0
 | m,i,f + 1,nodes,under,lv,h,hr,hl,hm,hf=>by
  rw [aM]
  by_cases hc:i < k.Under.length∧i < 11
  ·
   obtain ⟨m,rfl⟩:∃ m',m=m' + 1:=⟨m - 1,by omega⟩
   rw [if_pos (by simp; omega),iE,List.getElem?_eq_getElem hc.1,Option.bind_some]
   rw [mD (n:=(nodes.length:Int) - 1) (by omega) (by omega)]
   obtain ⟨q,q1,q2,q3⟩:=jk n k.Under[i] 0 ((nodes.length:Int) - 1) (by omega) (by omega) (by omega)
   obtain ⟨t,t1,t2,t3⟩:=qG nodes q2 (by omega)
   rw [q1,Option.bind_some,t1,Option.bind_some]
   have go:∀ (p:Nat) (tp:bg) (v:Nat),nodes[p]? = some tp→opens tp→lv[p]? = some v→v ≤ 6→∃ nodes' under' lv',Wd nodes' under' lv'∧uj nodes'∧bA n k words nodes under (i:Int) (aM n k words f) (p:Int)=bq n nodes' under' 0:=fun p tp v hp htp hv h6=>by
    obtain ⟨t',k1,k2⟩:=DU (nodes:=nodes) (under:=under) (i:=i) (by omega) (by rw [h.lu]; omega) n k (by omega) (aM n k words f) (p:Int)
    have hr':uj (nodes ++ [t']):=by
     obtain ⟨t0,h1,h2⟩:=hr
     exact ⟨t0,iU h1,h2⟩
    obtain ⟨n',u',l',g1,g2,g3⟩:=tF n hn k m (i + 1) f _ _ _ (CZ h (by omega) k1 hp htp hv h6) hr' (by simp; omega) (by omega) (by omega)
    exact ⟨n',u',l',g1,g2,by rw [k2,g3]⟩
   have root:∃ nodes' under' lv',Wd nodes' under' lv'∧uj nodes'∧bA n k words nodes under (i:Int) (aM n k words f) 0=bq n nodes' under' 0:=by
    obtain ⟨t0,h1,h2⟩:=hr
    exact go 0 t0 1 h1 (.inl h2) h.root.2 (by omega)
   have hqn:q=(q.toNat:Int):=by omega
   by_cases hb:(((t.Kind != 1) && (t.Kind != 5)) && (t.Kind != 6))=true
   ·
    rw [if_pos hb,Option.bind_some,if_pos rfl]
    exact root
   ·
    rw [if_neg hb]
    have ho:opens t:=by
     simp at hb
     unfold opens
     by_cases a:t.Kind=1
     ·
      exact .inl a
     ·
      by_cases b:t.Kind=5
      ·
       exact .inr (.inl b)
      ·
       exact .inr (.inr (hb a b))
    have hql:q.toNat < lv.length:=by rw [h.ll]; exact (List.getElem?_eq_some_iff.1 t3).1
    have hv:=List.getElem?_eq_getElem hql
    have hd:=BL h n (by omega) hv
    rw [← hqn] at hd
    rw [hd,Option.bind_some,Option.bind_some]
    by_cases h5:5 < lv[q.toNat]
    ·
     rw [if_pos (by rw [decide_eq_true_eq]; omega)]
     exact root
    ·
     rw [if_neg (by rw [decide_eq_true_eq]; omega),hqn]
     exact go q.toNat t _ t3 ho hv (by omega)
  ·
   rw [if_neg (by simp; omega)]
   exact ⟨nodes,under,lv,h,hr,by cases bq n nodes under 0 <;> rfl⟩
end
theorem Ce (k:dI) (n:Nat) (hn:100 < n):∃ t,dY n k=some t∧pg 7 t∧gZ t ≤ 13∧nZ t ≤ 7∧t.Kind=1:=by
 have h0:Wd [⟨1,0,[109,97,105,110],[],[]⟩] [-1] [1]:=by
  refine ⟨rfl,rfl,by simp,by simp,fun j t ht=>?_,⟨rfl,rfl⟩,fun j h1 h2=>?_,fun j v hv=>?_⟩
  ·
   cases j with
   | zero=>simp at ht; subst ht; exact ⟨⟨by simp,by simp⟩,by simp [kG],⟨by simp,by simp⟩,by simp⟩
   | succ j=>simp at ht
  ·
   simp at h2; omega
  ·
   cases j with
   | zero=>simp at hv; subst hv; omega
   | succ j=>simp at hv
 obtain ⟨nodes,under,lv,h,hr,he⟩:=tF n hn k 11 0 n _ _ _ h0 ⟨_,rfl,rfl⟩ rfl rfl (by omega)
 have hle:=h.le
 have hg:=zL h nodes.length 0 1 (by omega) h.root.2
 have hc:=DY h
 obtain ⟨t0,r1,r2⟩:=hr
 refine ⟨gt nodes under 0,?_,hg.1,by rw [hc]; exact hle,by omega,by rw [zY h r1]; exact r2⟩
 unfold dY gI
 rw [Option.bind_some]
 have:=zZ h n 0 h.pos (by omega)
 rw [show ((0:Nat):Int)=0 from rfl] at this he
 rw [← this,← he]
 rfl
end S
end Pr
end Go.Ev

namespace Go.Ev
namespace Pr
namespace T
set_option linter.unusedVariables false
set_option linter.unusedSimpArgs false
set_option linter.unusedSectionVars false
mutual
def jR:Tree→Nat
 | .mk _ _ _ _ ks=>1 + jL ks
def jL:List Tree→Nat
 | []=>0
 | t :: l=>jR t + jL l
end
mutual
def rX:Tree→Nat
 | .mk _ _ _ _ ks=>1 + tO ks
def tO:List Tree→Nat
 | []=>0
 | t :: l=>max (rX t) (tO l)
end
def rC (s:Str):Nat:=if s=[111,117,116,108,101,116] then 1 else 0
mutual
def og:Tree→Nat
 | .mk g _ _ _ ks=>rC g + jV ks
def jV:List Tree→Nat
 | []=>0
 | t :: l=>og t + jV l
end
theorem ik (t:Tree):jR t=1 + jL t.Kids:=by cases t; rw [jR]; rfl
theorem Aw (t:Tree):rX t=1 + tO t.Kids:=by cases t; rw [rX]; rfl
theorem Az (t:Tree):og t=rC t.Tag + jV t.Kids:=by cases t; rw [og]; rfl
theorem j3:∀ (l:List Tree),l.length ≤ jL l
 | []=>Nat.le_refl _
 | x :: l=>by
  have:=j3 l
  have:=ik x
  simp only [List.length_cons,jL]; omega
theorem xN:∀ {l:List Tree} {z:Tree},z ∈ l→jR z ≤ jL l
 | x :: l,z,h=>by
  rcases List.mem_cons.1 h with rfl | h
  ·
   simp only [jL]; omega
  ·
   have:=xN h
   simp only [jL]; omega
theorem AZ {t z:Tree} (h:z ∈ t.Kids):jR z < jR t:=by
 have:=xN h
 have:=ik t; omega
theorem rZ:∀ (l:List Tree),tO l ≤ jL l∧∀ z ∈ l,rX z ≤ tO l
 | []=>⟨Nat.le_refl _,fun z h=>by cases h⟩
 | x :: l=>by
  obtain ⟨h1,h2⟩:=rZ l
  have hx:rX x ≤ jR x:=by
   cases x with
   | mk a b c d ks =>
    have:=(rZ ks).1
    rw [rX,jR]; omega
  refine ⟨by simp only [tO,jL]; omega,fun z h=>?_⟩
  rcases List.mem_cons.1 h with rfl | h
  ·
   simp only [tO]; omega
  ·
   have:=h2 z h
   simp only [tO]; omega
theorem wN:∀ (l:List Tree),jV l ≤ jL l
 | []=>Nat.le_refl _
 | x :: l=>by
  have h1:=wN l
  have hx:og x ≤ jR x:=by
   cases x with
   | mk a b c d ks =>
    have:=wN ks
    rw [og,jR]
    unfold rC; split <;> omega
  simp only [jV,jL]; omega
theorem wY {t:Tree} {m:Nat} {α:Type} {f:Nat→Tree→Option α} {g:Tree→α} (ht:jR t ≤ m + 1) (ih:∀ z,jR z ≤ m→∀ n,m < n→f n z=some (g z)) {n:Nat} (hn:m < n):∀ z ∈ t.Kids,f n z=some (g z) :=
 fun z hz=>ih z (by have:=AZ hz; omega) n hn
theorem ku (self:Tree→Option Int) (t:Tree) (hs:∀ z ∈ t.Kids,self z=some (jR z:Int)) (hb:jL t.Kids < 1000000000):∀ (rest done:List Tree) (k:Nat) (acc:Int),t.Kids=done ++ rest→rest.length < k→0 ≤ acc→acc + jL rest < 2000000000 →
  dG self t k acc (done.length:Int)=some (acc + jL rest)
 | [],done,k + 1,acc,hk,_,h0,h1=>by
  rw [dG,if_neg (by rw [hk]; simp)]
  simp [jL]
 | z :: rest,done,k + 1,acc,hk,hl,h0,h1=>by
  have hlen:=j3 t.Kids
  have hkl:t.Kids.length=done.length + rest.length + 1:=by rw [hk]; simp; omega
  have hz:z ∈ t.Kids:=by rw [hk]; simp
  simp only [jL] at h1
  rw [dG,if_pos (by rw [decide_eq_true_eq,hkl]; omega),gX hk,Option.bind_some,hs z hz,Option.bind_some]
  rw [mD (by omega) (by omega),mD (by omega) (by omega)]
  have:=ku self t hs hb rest (done ++ [z]) k (acc + jR z) (by rw [hk]; simp) (by simp at hl; omega) (by omega) (by omega)
  rw [List.length_append,List.length_singleton] at this
  push_cast at this
  rw [this,jL]
  congr 1
  push_cast; omega
theorem nM:∀ (m:Nat) (t:Tree),jR t ≤ m→m < 1000000000→∀ n,m < n→eO n t=some (jR t:Int)
 | 0,t,h,_,n,_=>by rw [ik] at h; omega
 | m + 1,t,h,hm,n + 1,hn=>by
  have hs:=wY (f:=eO) (g:=fun z=>(jR z:Int)) h (fun z hz n hn=>nM m z hz (by omega) n hn) (show m < n by omega)
  have hk:=ik t
  have hlen:=j3 t.Kids
  rw [eO]
  have:=ku (eO n) t hs (by omega) t.Kids [] n 1 rfl (by omega) (by omega) (by omega)
  simp only [List.length_nil] at this
  rw [show ((0:Nat):Int)=0 from rfl] at this
  rw [this,hk]; push_cast; rfl
theorem uW (self:Tree→Option Int) (t:Tree) (hs:∀ z ∈ t.Kids,self z=some (rX z:Int)) (hb:jL t.Kids < 1000000000):∀ (rest done:List Tree) (k:Nat) (acc:Nat),t.Kids=done ++ rest→rest.length < k→acc < 1000000000 →
  dO self t k (acc:Int) (done.length:Int)=some ((max acc (tO rest) + 1:Nat):Int)
 | [],done,k + 1,acc,hk,_,h1=>by
  rw [dO,if_neg (by rw [hk]; simp),mD (by omega) (by omega)]
  simp [tO]
 | z :: rest,done,k + 1,acc,hk,hl,h1=>by
  have hlen:=j3 t.Kids
  have hkl:t.Kids.length=done.length + rest.length + 1:=by rw [hk]; simp; omega
  have hz:z ∈ t.Kids:=by rw [hk]; simp
  have hd:=(rZ t.Kids).2 z hz
  have hd2:=(rZ t.Kids).1
  rw [dO,if_pos (by rw [decide_eq_true_eq,hkl]; omega),gX hk,Option.bind_some,hs z hz,Option.bind_some]
  rw [mD (by omega) (by omega)]
  have hm:nu (acc:Int) (rX z:Int)=((max acc (rX z):Nat):Int):=by
   unfold nu; split <;> omega
  have:=uW self t hs hb rest (done ++ [z]) k (max acc (rX z)) (by rw [hk]; simp) (by simp at hl; omega) (by omega)
  rw [List.length_append,List.length_singleton] at this
  rw [hm]
  push_cast at this ⊢
  rw [this,tO]
  congr 1
  omega
theorem Ac:∀ (m:Nat) (t:Tree),jR t ≤ m→m < 1000000000→∀ n,m < n→fA n t=some (rX t:Int)
 | 0,t,h,_,n,_=>by rw [ik] at h; omega
 | m + 1,t,h,hm,n + 1,hn=>by
  have hs:=wY (f:=fA) (g:=fun z=>(rX z:Int)) h (fun z hz n hn=>Ac m z hz (by omega) n hn) (show m < n by omega)
  have hk:=ik t
  have hlen:=j3 t.Kids
  rw [fA]
  have:=uW (fA n) t hs (by omega) t.Kids [] n 0 rfl (by omega) (by omega)
  simp only [List.length_nil] at this
  rw [show ((0:Nat):Int)=0 from rfl] at this
  rw [this,Aw]; congr 1; push_cast; omega
theorem pE (self:Tree→Option Int) (t:Tree) (hs:∀ z ∈ t.Kids,self z=some (og z:Int)) (hb:jL t.Kids < 1000000000):∀ (rest done:List Tree) (k:Nat) (acc:Int),t.Kids=done ++ rest→rest.length < k→0 ≤ acc→acc + jL rest < 2000000000 →
  dH self t k acc (done.length:Int)=some (acc + jV rest)
 | [],done,k + 1,acc,hk,_,h0,h1=>by
  rw [dH,if_neg (by rw [hk]; simp)]
  simp [jV]
 | z :: rest,done,k + 1,acc,hk,hl,h0,h1=>by
  have hlen:=j3 t.Kids
  have hkl:t.Kids.length=done.length + rest.length + 1:=by rw [hk]; simp; omega
  have hz:z ∈ t.Kids:=by rw [hk]; simp
  have hzs:og z ≤ jR z:=by have:=wN [z]; simpa [jV,jL] using this
  simp only [jL] at h1
  rw [dH,if_pos (by rw [decide_eq_true_eq,hkl]; omega),gX hk,Option.bind_some,hs z hz,Option.bind_some]
  rw [mD (by omega) (by omega),mD (by omega) (by omega)]
  have:=pE self t hs hb rest (done ++ [z]) k (acc + og z) (by rw [hk]; simp) (by simp at hl; omega) (by omega) (by omega)
  rw [List.length_append,List.length_singleton] at this
  push_cast at this
  rw [this,jV]
  congr 1
  push_cast; omega
theorem xE:∀ (m:Nat) (t:Tree),jR t ≤ m→m < 1000000000→∀ n,m < n→dm n t=some (og t:Int)
 | 0,t,h,_,n,_=>by rw [ik] at h; omega
 | m + 1,t,h,hm,n + 1,hn=>by
  have hs:=wY (f:=dm) (g:=fun z=>(og z:Int)) h (fun z hz n hn=>xE m z hz (by omega) n hn) (show m < n by omega)
  have hk:=ik t
  have hlen:=j3 t.Kids
  rw [dm,Az]
  unfold fU rC
  by_cases ho:t.Tag=[111,117,116,108,101,116]
  ·
   rw [if_pos (by simpa using ho),if_pos ho]
   have:=pE (dm n) t hs (by omega) t.Kids [] n 1 rfl (by omega) (by omega) (by omega)
   simp only [List.length_nil] at this
   rw [show ((0:Nat):Int)=0 from rfl] at this
   rw [this]; push_cast; rfl
  ·
   rw [if_neg (by simpa using ho),if_neg ho]
   have:=pE (dm n) t hs (by omega) t.Kids [] n 0 rfl (by omega) (by omega) (by omega)
   simp only [List.length_nil] at this
   rw [show ((0:Nat):Int)=0 from rfl] at this
   rw [this]; push_cast; rfl
def gJ:Tree→Nat
 | .mk _ _ _ ats ks=>1 + ats.length + lsz ks
  where lsz:List Tree→Nat
 | []=>0
 | t :: l=>gJ t + lsz l
theorem jE (t:Tree):gJ t=1 + t.aI.length + gJ.lsz t.Kids:=by cases t; rw [gJ]; rfl
theorem zO:∀ {l:List Tree} {z:Tree},z ∈ l→gJ z ≤ gJ.lsz l
 | x :: l,z,h=>by
  rcases List.mem_cons.1 h with rfl | h
  ·
   simp only [gJ.lsz]; omega
  ·
   have:=zO h
   simp only [gJ.lsz]; omega
theorem wC:∀ (l:List Tree),l.length ≤ gJ.lsz l
 | []=>Nat.zero_le _
 | x :: l=>by
  have:=wC l
  have:=jE x
  simp only [List.length_cons,gJ.lsz]; omega
theorem tu {t z:Tree} (h:z ∈ t.Kids):gJ z < gJ t:=by
 have:=zO h
 have:=jE t; omega
def pU:List Attr→List Attr→Bool
 | [],[]=>true
 | a :: l,b :: m=>Attr.beq a b && pU l m
 | _,_=>false
def mE:Tree→Tree→Bool
 | .mk a b c d e,.mk a' b' c' d' e'=>(a == a') && (b == b') && (c == c') && pU d d' && lbeq e e'
  where lbeq:List Tree→List Tree→Bool
 | [],[]=>true
 | x :: l,y :: m=>mE x y && lbeq l m
 | _,_=>false
theorem xX:∀ {a b:List Attr},pU a b=true→a.length=b.length
 | [],[],_=>rfl
 | x :: l,y :: m,h=>by
  simp only [pU,Bool.and_eq_true] at h
  simp [xX h.2]
 | [],_ :: _,h=>by cases h
 | _ :: _,[],h=>by cases h
theorem yH:∀ {a b:List Tree},mE.lbeq a b=true→a.length=b.length
 | [],[],_=>rfl
 | x :: l,y :: m,h=>by
  simp only [mE.lbeq,Bool.and_eq_true] at h
  simp [yH h.2]
 | [],_ :: _,h=>by cases h
 | _ :: _,[],h=>by cases h
theorem Cy {a b:List Attr} (h:a.length ≠ b.length):pU a b=false:=by
 cases hq:pU a b
 ·
  rfl
 ·
  exact absurd (xX hq) h
theorem CB {a b:List Tree} (h:a.length ≠ b.length):mE.lbeq a b=false:=by
 cases hq:mE.lbeq a b
 ·
  rfl
 ·
  exact absurd (yH hq) h
theorem CR (a b:Tree):mE a b=((a.Tag == b.Tag) && (a.Key == b.Key) && (a.Text == b.Text) && pU a.aI b.aI && mE.lbeq a.Kids b.Kids):=by cases a; cases b; rw [mE]; rfl
theorem tT (l m:List Attr) (hb:l.length < 1000000000):∀ (r s d e:List Attr) (k:Nat),l=d ++ r→m=e ++ s→d.length=e.length→r.length=s.length→r.length < k →
  aV l m k (d.length:Int)=some (pU r s)
 | [],[],d,e,k + 1,hl,hm,_,_,_=>by
  rw [aV,if_neg (by rw [hl]; simp)]; rfl
 | z :: r,y :: s,d,e,k + 1,hl,hm,hd,hr,hk=>by
  have hkl:l.length=d.length + r.length + 1:=by rw [hl]; simp; omega
  rw [aV,if_pos (by rw [decide_eq_true_eq,hkl]; omega),gX hl,Option.bind_some,hd,gX hm,Option.bind_some]
  cases hq:Attr.beq z y
  ·
   simp [pU,hq]
  ·
   simp only [Bool.not_true,Bool.false_eq_true,if_false]
   rw [mD (by omega) (by omega)]
   have:=tT l m hb r s (d ++ [z]) (e ++ [y]) k (by rw [hl]; simp) (by rw [hm]; simp) (by simp [hd]) (by simpa using hr) (by simp at hk; omega)
   rw [List.length_append,List.length_singleton,hd] at this
   push_cast at this
   rw [this]; simp [pU,hq]
 | [],_ :: _,d,e,k + 1,_,_,_,hr,_=>by simp at hr
 | _ :: _,[],d,e,k + 1,_,_,_,hr,_=>by simp at hr
theorem Cg (n:Nat) (l m:List Attr) (hb:l.length < 1000000000) (hn:l.length < n):dB n l m=some (pU l m):=by
 unfold dB
 by_cases h:l.length=m.length
 ·
  rw [if_neg (by simp [h])]
  exact tT l m hb l m [] [] n rfl rfl rfl h hn
 ·
  rw [if_pos (by simp; omega),Cy h]
theorem tN (f:Tree→Tree→Option Bool) (a b:Tree) (hf:∀ x ∈ a.Kids,∀ y,f x y=some (mE x y)) (hb:a.Kids.length < 1000000000):∀ (r s d e:List Tree) (k:Nat),a.Kids=d ++ r→b.Kids=e ++ s→d.length=e.length→r.length=s.length→r.length < k →
  bM f a b k (d.length:Int)=some (mE.lbeq r s)
 | [],[],d,e,k + 1,hl,hm,_,_,_=>by
  rw [bM,if_neg (by rw [hl]; simp)]; rfl
 | z :: r,y :: s,d,e,k + 1,hl,hm,hd,hr,hk=>by
  have hkl:a.Kids.length=d.length + r.length + 1:=by rw [hl]; simp; omega
  rw [bM,if_pos (by rw [decide_eq_true_eq,hkl]; omega),gX hl,Option.bind_some,hd,gX hm,Option.bind_some,hf z (by rw [hl]; simp),Option.bind_some]
  cases hq:mE z y
  ·
   simp [mE.lbeq,hq]
  ·
   simp only [Bool.not_true,Bool.false_eq_true,if_false]
   rw [mD (by omega) (by omega)]
   have:=tN f a b hf hb r s (d ++ [z]) (e ++ [y]) k (by rw [hl]; simp) (by rw [hm]; simp) (by simp [hd]) (by simpa using hr) (by simp at hk; omega)
   rw [List.length_append,List.length_singleton,hd] at this
   push_cast at this
   rw [this]; simp [mE.lbeq,hq]
 | [],_ :: _,d,e,k + 1,_,_,_,hr,_=>by simp at hr
 | _ :: _,[],d,e,k + 1,_,_,_,hr,_=>by simp at hr
theorem yc:∀ (m:Nat) (t u:Tree),gJ t ≤ m→m < 1000000→∀ n,m < n→bD n t u=some (mE t u)
 | 0,t,u,h,_,n,_=>by rw [jE] at h; omega
 | m + 1,t,u,h,hm,n + 1,hn=>by
  have hk:=jE t
  have hlen:=wC t.Kids
  have hf:∀ x ∈ t.Kids,∀ y,bD n x y=some (mE x y):=fun x hx y=>yc m x y (by have:=tu hx; omega) (by omega) n (by omega)
  rw [bD,CR]
  cases h1:(t.Tag == u.Tag) <;> cases h2:(t.Key == u.Key) <;> cases h3:(t.Text == u.Text) <;> simp only [Bool.not_true,Bool.not_false,Bool.or_self,Bool.or_true,Bool.true_or,Bool.or_false,if_true,Option.bind_some,Bool.false_eq_true,if_false,Bool.and_false,Bool.false_and,Bool.and_self,Bool.true_and]
  rw [Cg n _ _ (by omega) (by omega),Option.bind_some,Option.bind_some]
  cases h4:pU t.aI u.aI
  ·
   simp
  ·
   simp only [Bool.not_true,Bool.false_or,Bool.true_and]
   by_cases hl:t.Kids.length=u.Kids.length
   ·
    rw [if_neg (by simp [hl])]
    have:=tN (bD n) t u hf (by omega) t.Kids u.Kids [] [] n rfl rfl rfl hl (by omega)
    simp only [List.length_nil] at this
    rw [show ((0:Nat):Int)=0 from rfl] at this
    rw [this]
   ·
    rw [if_pos (by simp; omega),CB hl]
theorem AA (a:Attr):Attr.beq a a=true:=by simp [Attr.beq]
theorem uX:∀ (l:List Attr),pU l l=true
 | []=>rfl
 | a :: l=>by simp [pU,AA,uX l]
theorem vO:∀ (t:Tree),mE t t=true
 | .mk a b c d e=>by
  rw [mE,uX]
  have:=go e
  simp [this]
  where go:∀ (l:List Tree),mE.lbeq l l=true
 | []=>rfl
 | x :: l=>by rw [mE.lbeq,vO x,go l]; rfl
end T
end Pr
end Go.Ev

namespace Go.Ev
namespace Pr
set_option linter.unusedVariables false
set_option linter.unusedSimpArgs false
def Eb:Str:=[111,117,116,108,101,116]
def pW (st:List Int) (i:Int):Option Int:=if 0 ≤ i∧i < st.length then some (st.getD i.toNat 0) else none
def Ar (ps:List eX) (name:Str):Option Str:=(ps.find? (fun q=>q.Name == name)).map (·.Value)
def keyed (i:Nat) (x:Tree):Tree:=if x.Tag=[] then Tree.mk x.Tag x.Key x.Text x.aI x.Kids else Tree.mk x.Tag (rz (i:Int)) x.Text x.aI x.Kids
def jc (k:Nat→Option (List Tree × Nat)):Nat→Nat→Nat→Option (List Tree × Nat)
 | 0,i,s=>some ([],s)
 | m + 1,i,s=>match k s with
  | none=>none
  | some (l,s')=>match jc k m (i + 1) s' with
   | none=>none
   | some (r,s'')=>some (l.map (keyed i) ++ r,s'')
mutual
def rowP (st:List Int) (ps:List eX):aS→Nat→Option (List Tree × Nat)
 | .mk kind N tag text attrs kids,s =>
  if s + 1 ≤ 1000 then
   if kind=1 then match dX st ps kids (s + 1) with
    | none=>none
    | some (l,s')=>some ([Tree.mk tag [] [] attrs l],s')
   else if kind=2 then some ([Tree.mk [] [] text [] []],s + 1)
   else if kind=3 then match pW st N with
    | none=>none
    | some x=>some ([Tree.mk [] [] (rz x) [] []],s + 1)
   else if kind=4 then match Ar ps text with
    | none=>none
    | some v=>some ([Tree.mk [] [] v [] []],s + 1)
   else if kind=5 then match pW st N with
    | none=>none
    | some x=>if x=0 then some ([],s + 1) else dX st ps kids (s + 1)
   else if kind=6 then match pW st N with
    | none=>none
    | some x=>if x ≤ 24 then jc (fun s=>dX st ps kids s) x.toNat 0 (s + 1) else none
   else if kind=7 then some ([Tree.mk Eb [] [] [] []],s + 1)
   else none
  else none
def dX (st:List Int) (ps:List eX):List aS→Nat→Option (List Tree × Nat)
 | [],s=>some ([],s)
 | t :: l,s=>match rowP st ps t s with
  | none=>none
  | some (a,s')=>match dX st ps l s' with
   | none=>none
   | some (b,s'')=>some (a ++ b,s'')
end
theorem wK (st:List Int) (ps:List eX) (t:aS) (s:Nat):rowP st ps t s =
  if s + 1 ≤ 1000 then
   if t.Kind=1 then match dX st ps t.Kids (s + 1) with
    | none=>none
    | some (l,s')=>some ([Tree.mk t.Tag [] [] t.aI l],s')
   else if t.Kind=2 then some ([Tree.mk [] [] t.Text [] []],s + 1)
   else if t.Kind=3 then match pW st t.N with
    | none=>none
    | some x=>some ([Tree.mk [] [] (rz x) [] []],s + 1)
   else if t.Kind=4 then match Ar ps t.Text with
    | none=>none
    | some v=>some ([Tree.mk [] [] v [] []],s + 1)
   else if t.Kind=5 then match pW st t.N with
    | none=>none
    | some x=>if x=0 then some ([],s + 1) else dX st ps t.Kids (s + 1)
   else if t.Kind=6 then match pW st t.N with
    | none=>none
    | some x=>if x ≤ 24 then jc (fun s=>dX st ps t.Kids s) x.toNat 0 (s + 1) else none
   else if t.Kind=7 then some ([Tree.mk Eb [] [] [] []],s + 1)
   else none
  else none:=by cases t; rw [rowP]; rfl
def Told (s:Nat) (o:Option (List Tree × Nat)):Prop:=∀ l s',o=some (l,s')→l.length + s ≤ s'∧s' ≤ 1000
theorem vK (k:Nat→Option (List Tree × Nat)) (hk:∀ s:Nat,s ≤ 1000→Told s (k s)):∀ (m i s:Nat),s ≤ 1000→Told s (jc k m i s)
 | 0,i,s,hs,l,s',h=>by simp only [jc,Option.some.injEq,Prod.mk.injEq] at h; obtain ⟨rfl,rfl⟩:=h; simp; omega
 | m + 1,i,s,hs,l,s',h=>by
  rw [jc] at h
  split at h
  ·
   cases h
  ·
   rename_i a s1 h1
   obtain ⟨g1,g2⟩:=hk s hs a s1 h1
   split at h
   ·
    cases h
   ·
    rename_i b s2 h2
    obtain ⟨g3,g4⟩:=vK k hk m (i + 1) s1 g2 b s2 h2
    simp only [Option.some.injEq,Prod.mk.injEq] at h
    obtain ⟨rfl,rfl⟩:=h
    simp; omega
theorem lG (st:List Int) (ps:List eX):∀ (l:List aS) (s:Nat),(∀ z ∈ l,∀ s:Nat,s ≤ 1000→Told s (rowP st ps z s))→s ≤ 1000→Told s (dX st ps l s)
 | [],s,_,hs,a,s',h=>by simp only [dX,Option.some.injEq,Prod.mk.injEq] at h; obtain ⟨rfl,rfl⟩:=h; simp; omega
 | t :: l,s,hz,hs,a,s',h=>by
  rw [dX] at h
  split at h
  ·
   cases h
  ·
   rename_i b s1 h1
   obtain ⟨g1,g2⟩:=hz t List.mem_cons_self s hs b s1 h1
   split at h
   ·
    cases h
   ·
    rename_i c s2 h2
    obtain ⟨g3,g4⟩:=lG st ps l s1 (fun z hm=>hz z (List.mem_cons_of_mem _ hm)) g2 c s2 h2
    simp only [Option.some.injEq,Prod.mk.injEq] at h
    obtain ⟨rfl,rfl⟩:=h
    simp; omega
theorem qa (st:List Int) (ps:List eX):∀ (m:Nat) (t:aS),S.gZ t ≤ m→∀ s,s ≤ 1000→Told s (rowP st ps t s)
 | 0,t,hm,s,hs=>by have:=S.dz t; omega
 | m + 1,t,hm,s,hs=>by
  have hz:∀ z ∈ t.Kids,∀ s:Nat,s ≤ 1000→Told s (rowP st ps z s):=fun z hzm s hs=>qa st ps m z (by have:=S.iD hzm; omega) s hs
  intro l s' h
  rw [wK] at h
  split at h
  ·
   rename_i h1000
   split at h
   ·
    split at h
    ·
     cases h
    ·
     rename_i a s1 h1
     obtain ⟨g1,g2⟩:=lG st ps t.Kids (s + 1) hz h1000 a s1 h1
     simp only [Option.some.injEq,Prod.mk.injEq] at h
     obtain ⟨rfl,rfl⟩:=h
     simp; omega
   ·
    split at h
    ·
     simp only [Option.some.injEq,Prod.mk.injEq] at h; obtain ⟨rfl,rfl⟩:=h; simp; omega
    ·
     split at h
     ·
      split at h
      ·
       cases h
      ·
       simp only [Option.some.injEq,Prod.mk.injEq] at h; obtain ⟨rfl,rfl⟩:=h; simp; omega
     ·
      split at h
      ·
       split at h
       ·
        cases h
       ·
        simp only [Option.some.injEq,Prod.mk.injEq] at h; obtain ⟨rfl,rfl⟩:=h; simp; omega
      ·
       split at h
       ·
        split at h
        ·
         cases h
        ·
         split at h
         ·
          simp only [Option.some.injEq,Prod.mk.injEq] at h; obtain ⟨rfl,rfl⟩:=h; simp; omega
         ·
          obtain ⟨g1,g2⟩:=lG st ps t.Kids (s + 1) hz h1000 l s' h
          exact ⟨by omega,g2⟩
       ·
        split at h
        ·
         split at h
         ·
          cases h
         ·
          split at h
          ·
           obtain ⟨g1,g2⟩:=vK _ (fun s hs=>lG st ps t.Kids s hz hs) _ 0 (s + 1) h1000 l s' h
           exact ⟨by omega,g2⟩
          ·
           cases h
        ·
         split at h
         ·
          simp only [Option.some.injEq,Prod.mk.injEq] at h; obtain ⟨rfl,rfl⟩:=h; simp; omega
         ·
          cases h
  ·
   cases h
theorem mi (n:Nat) (b:Bool) (s:Str) (i:Int):gW n b s i=some (if b=true then some () else none):=by
 cases b <;> rfl
def conv (st:List Int) (ps:List eX) (o:Option (List Tree × Nat)):Option (List Tree × aB):=match o with
 | none=>none
 | some (l,s)=>some (l,aB.mk st ps (s:Int))
theorem qI (n:Nat) (st:List Int) (ps:List eX) (s i:Int):eU n (aB.mk st ps s) i=some (pW st i):=by
 unfold eU pW
 rw [mi,Option.bind_some]
 by_cases h:0 ≤ i∧i < st.length
 ·
  have hb:(decide (0 ≤ i) && decide (i < ((aB.mk st ps s).state.length:Int)))=true:=by
   simp only [Bool.and_eq_true,decide_eq_true_eq]; exact h
  rw [hb,if_pos rfl,if_pos h]
  obtain ⟨j,rfl⟩:=Int.eq_ofNat_of_zero_le h.1
  have hj:j < st.length:=by omega
  show (idx st ((j:Nat):Int)).bind _=_
  rw [iE,List.getElem?_eq_getElem hj]
  simp [List.getD_eq_getElem?_getD,hj]
 ·
  have hb:(decide (0 ≤ i) && decide (i < ((aB.mk st ps s).state.length:Int)))=false:=by
   rw [Bool.eq_false_iff]; simp only [ne_eq,Bool.and_eq_true,decide_eq_true_eq]; exact h
  rw [hb,if_neg (by simp),if_neg h]; rfl
theorem BN (n:Nat) (st:List Int) (ps:List eX) (s:Int) (name:Str) (hl:ps.length < n) (hl2:ps.length ≤ 1000000):gL n (aB.mk st ps s) name=some (Ar ps name):=by
 have key:∀ (rest done:List eX) (k:Nat),ps=done ++ rest→rest.length < k→cz n (aB.mk st ps s) name k (done.length:Int)=some (Ar rest name):=by
  intro rest
  induction rest with
  | nil =>
   intro done k e hk
   cases k with
   | zero=>omega
   | succ k =>
    rw [cz,if_neg (by rw [decide_eq_true_eq]; show ¬ ((done.length:Int) < (ps.length:Int)); rw [e]; simp),mi]; rfl
  | cons q rest ih =>
   intro done k e hk
   cases k with
   | zero=>omega
   | succ k =>
    have hlen:ps.length=done.length + rest.length + 1:=by rw [e]; simp; omega
    rw [cz,if_pos (by rw [decide_eq_true_eq]; show (done.length:Int) < (ps.length:Int); omega),show (aB.mk st ps s).params=ps from rfl,gX e,Option.bind_some]
    unfold Ar at ih ⊢
    rw [List.find?_cons]
    cases hq:(q.Name == name) with
    | true=>rw [if_pos rfl]; rfl
    | false =>
     have hw:IntKind.wrap .i64 ((done.length:Int) + 1)=(((done ++ [q]).length:Nat):Int):=by rw [mD (by omega) (by omega)]; simp
     rw [if_neg (by simp),hw]
     exact ih (done ++ [q]) k (by rw [e]; simp) (by simp at hk; omega)
 unfold gL
 exact key ps [] n rfl hl
section
variable {st:List Int} {ps:List eX}
theorem Br (prow:aB→aS→Option (Option (List Tree × aB))) (l:List aS) (hl:l.length ≤ 1000000):∀ (rest done:List aS) (k s:Nat) (acc:List Tree),l=done ++ rest→rest.length < k→(∀ z ∈ rest,∀ s:Nat,s ≤ 1000→prow (aB.mk st ps (s:Int)) z=some (conv st ps (rowP st ps z s))∧Told s (rowP st ps z s))→s ≤ 1000→acc.length ≤ s →
  bY prow l k st ps (s:Int) acc (done.length:Int)=some (match dX st ps rest s with | none=>none | some (b,s')=>some (acc ++ b,aB.mk st ps (s':Int)))
 | [],done,k + 1,s,acc,h,hk,hz,hs,ha=>by
  rw [bY,if_neg (by rw [decide_eq_true_eq,h]; simp)]
  simp [dX]
 | t :: rest,done,k + 1,s,acc,h,hk,hz,hs,ha=>by
  have hlen:l.length=done.length + rest.length + 1:=by rw [h]; simp; omega
  have hw:IntKind.wrap .i64 ((done.length:Int) + 1)=(((done ++ [t]).length:Nat):Int):=by rw [mD (by omega) (by omega)]; simp
  obtain ⟨z1,z2⟩:=hz t List.mem_cons_self s hs
  rw [bY,if_pos (by rw [decide_eq_true_eq]; omega),gX h,Option.bind_some,z1,Option.bind_some,dX]
  cases hr:rowP st ps t s with
  | none=>rfl
  | some p =>
   obtain ⟨a,s1⟩:=p
   obtain ⟨g1,g2⟩:=z2 a s1 hr
   simp only [conv,rG]
   rw [o7 (by rw [bnd]; omega),Option.bind_some,hw,Br prow l hl rest (done ++ [t]) k s1 (acc ++ a) (by rw [h]; simp) (by simp at hk; omega) (fun z hm=>hz z (List.mem_cons_of_mem _ hm)) g2 (by simp; omega)]
   cases dX st ps rest s1 with
   | none=>rfl
   | some p=>simp
theorem CO (prow:aB→aS→Option (Option (List Tree × aB))) (l:List aS) (n s:Nat) (hl:l.length ≤ 1000000) (hn:l.length < n) (hz:∀ z ∈ l,∀ s:Nat,s ≤ 1000→prow (aB.mk st ps (s:Int)) z=some (conv st ps (rowP st ps z s))∧Told s (rowP st ps z s)) (hs:s ≤ 1000) :
  dN prow n (aB.mk st ps (s:Int)) l=some (conv st ps (dX st ps l s)):=by
 unfold dN
 rw [show bY prow l n (aB.mk st ps (s:Int)).state (aB.mk st ps (s:Int)).params (aB.mk st ps (s:Int)).steps [] 0=_ from Br prow l hl l [] n s [] rfl hn hz hs (by simp)]
 unfold conv
 cases dX st ps l s with
 | none=>rfl
 | some p=>simp
theorem zM (n:Nat) {x:Int} (h0:-9223372036854775808 ≤ x) (h1:x ≤ 9223372036854775807):strconv_Itoa n x=some (rz x):=by unfold strconv_Itoa; rw [if_pos ⟨h0,h1⟩]
theorem zP (n i:Nat) (hi:i ≤ 1000) (again:List Int→List eX→Int→List Tree→Int→Option (Option (List Tree × aB))) (s':Nat) (l:List Tree) (hl:l.length ≤ 1000):∀ (rest done:List Tree) (k:Nat) (acc:List Tree),l=done ++ rest→rest.length < k→acc.length + rest.length ≤ 100000 →
  bB n (i:Int) again (l,aB.mk st ps (s':Int)) k acc (done.length:Int)=again st ps (s':Int) (acc ++ rest.map (keyed i)) (((i + 1:Nat)):Int)
 | [],done,k + 1,acc,h,hk,ha=>by
  rw [bB,if_neg (by rw [decide_eq_true_eq]; show ¬ ((done.length:Int) < (l.length:Int)); rw [h]; simp),mD (by omega) (by omega)]
  simp
 | z :: rest,done,k + 1,acc,h,hk,ha=>by
  have hlen:l.length=done.length + rest.length + 1:=by rw [h]; simp; omega
  have hw:IntKind.wrap .i64 ((done.length:Int) + 1)=(((done ++ [z]).length:Nat):Int):=by rw [mD (by omega) (by omega)]; simp
  simp only [List.length_cons] at ha
  rw [bB,if_pos (by rw [decide_eq_true_eq]; show (done.length:Int) < (l.length:Int); omega),show idx (l,aB.mk st ps (s':Int)).1 (done.length:Int)=some z from gX h,Option.bind_some]
  have step:∀ key:Str,dV acc (done.length:Int) (bB n (i:Int) again (l,aB.mk st ps (s':Int)) k) z key=again st ps (s':Int) (acc ++ Tree.mk z.Tag key z.Text z.aI z.Kids :: rest.map (keyed i)) (((i + 1:Nat)):Int):=fun key=>by
   unfold dV
   rw [o7 (by rw [bnd]; simp; omega),Option.bind_some,hw,zP n i hi again s' l hl rest (done ++ [z]) k _ (by rw [h]; simp) (by simp at hk; omega) (by simp; omega)]
   simp
  rw [List.map_cons,keyed]
  by_cases ht:z.Tag=[]
  ·
   rw [if_neg (by simp [ht]),if_pos ht,step]
  ·
   rw [if_pos (by simpa using ht),if_neg ht,zM n (by omega) (by omega),Option.bind_some,step]
theorem yl (n:Nat) (hn:1001 < n) (prow:aB→aS→Option (Option (List Tree × aB))) (t:aS) (x:Int) (hx:x ≤ 24) (hk:∀ s:Nat,s ≤ 1000→dN prow n (aB.mk st ps (s:Int)) t.Kids=some (conv st ps (dX st ps t.Kids s))∧Told s (dX st ps t.Kids s)):∀ (m i k s:Nat) (acc:List Tree),i + m=x.toNat→m < k→s ≤ 1000→acc.length ≤ s →
  aX n prow t x k st ps (s:Int) acc (i:Int)=some (match jc (fun s=>dX st ps t.Kids s) m i s with | none=>none | some (b,s')=>some (acc ++ b,aB.mk st ps (s':Int)))
 | 0,i,k + 1,s,acc,hi,hk',hs,ha=>by
  have hmx:(nu x 0)=(x.toNat:Int):=by unfold nu; split <;> omega
  rw [aX,if_neg (by rw [decide_eq_true_eq,hmx]; omega)]
  simp [jc]
 | m + 1,i,k + 1,s,acc,hi,hk',hs,ha=>by
  have hmx:(nu x 0)=(x.toNat:Int):=by unfold nu; split <;> omega
  obtain ⟨q1,q2⟩:=hk s hs
  rw [aX,if_pos (by rw [decide_eq_true_eq,hmx]; omega),q1,Option.bind_some,jc]
  cases hr:dX st ps t.Kids s with
  | none=>rfl
  | some p =>
   obtain ⟨a,s1⟩:=p
   obtain ⟨g1,g2⟩:=q2 a s1 hr
   simp only [conv,rG]
   have:=zP (st:=st) (ps:=ps) n i (by omega) (aX n prow t x k) s1 a (by omega) a [] n acc rfl (by omega) (by omega)
   rw [show bB n (i:Int) (aX n prow t x k) (a,aB.mk st ps (s1:Int)) n acc 0=_ from this,yl n hn prow t x hx hk m (i + 1) k s1 _ (by omega) (by omega) g2 (by simp; omega)]
   cases jc (fun s=>dX st ps t.Kids s) m (i + 1) s1 with
   | none=>rfl
   | some p=>simp
theorem CK (n:Nat) (hn:1001 < n) (prow:aB→aS→Option (Option (List Tree × aB))) (t:aS) (hk:∀ s:Nat,s ≤ 1000→dN prow n (aB.mk st ps (s:Int)) t.Kids=some (conv st ps (dX st ps t.Kids s))∧Told s (dX st ps t.Kids s)) (s:Nat) (hs:s ≤ 1000) :
  iq prow n (aB.mk st ps (s:Int)) t=some (conv st ps (match pW st t.N with
    | none=>none
    | some x=>if x ≤ 24 then jc (fun s=>dX st ps t.Kids s) x.toNat 0 s else none)):=by
 unfold iq
 rw [qI,Option.bind_some]
 cases hx:pW st t.N with
 | none=>rfl
 | some x =>
  simp only [rG]
  rw [mi,Option.bind_some]
  by_cases h24:x ≤ 24
  ·
   rw [if_pos (by simpa using h24),if_pos h24]
   simp only []
   have:=yl (st:=st) (ps:=ps) n hn prow t x h24 hk x.toNat 0 n s [] (by omega) (by omega) hs (by simp)
   rw [show aX n prow t x n (aB.mk st ps (s:Int)).state (aB.mk st ps (s:Int)).params (aB.mk st ps (s:Int)).steps [] 0=_ from this]
   unfold conv
   cases jc (fun s=>dX st ps t.Kids s) x.toNat 0 s with
   | none=>rfl
   | some p=>simp
  ·
   rw [if_neg (by simpa using h24),if_neg h24]; rfl
theorem Cs (o:Option (List Tree × Nat)):(some (conv st ps o)).bind (fun z=>rG z (fun x=>some (some (x.1,x.2))))=some (conv st ps o):=by cases o <;> rfl
def DK (st:List Int):Prop:=st.length ≤ 1000000∧∀ x ∈ st,-9223372036854775808 ≤ x∧x ≤ 9223372036854775807
theorem BH {st:List Int} {i x:Int} (h:pW st i=some x):x ∈ st:=by
 unfold pW at h
 split at h
 ·
  rename_i hc
  cases h
  have hj:i.toNat < st.length:=by omega
  rw [List.getD_eq_getElem?_getD,List.getElem?_eq_getElem hj]
  exact List.getElem_mem hj
 ·
  cases h
theorem BJ (hst:DK st) (hps:ps.length ≤ 1000):∀ (m:Nat) (t:aS),S.gZ t ≤ m→m ≤ 100000→S.pg 7 t→∀ n,m + 1100 < n→∀ s:Nat,s ≤ 1000→bH n (aB.mk st ps (s:Int)) t=some (conv st ps (rowP st ps t s))
 | 0,t,hm,_,_,n,hn,s,hs=>by have:=S.dz t; omega
 | m + 1,t,hm,hm2,hg,n + 1,hn,s,hs=>by
  have hgi:=(S.zC t).1 hg
  have hlen:t.Kids.length ≤ m:=by have:=S.dz t; have:=S.jU t.Kids; omega
  have hz:∀ z ∈ t.Kids,∀ s:Nat,s ≤ 1000→bH n (aB.mk st ps (s:Int)) z=some (conv st ps (rowP st ps z s))∧Told s (rowP st ps z s):=fun z hzm s hs=>by
   have:=S.iD hzm
   exact ⟨BJ hst hps m z (by omega) (by omega) (hgi.2.2.2.2.2 z hzm) n (by omega) s hs,qa st ps m z (by omega) s hs⟩
  have hkids:∀ s:Nat,s ≤ 1000→dN (bH n) n (aB.mk st ps (s:Int)) t.Kids=some (conv st ps (dX st ps t.Kids s)):=fun s hs=>CO (bH n) t.Kids n s (by omega) (by omega) hz hs
  have htold:∀ s,s ≤ 1000→Told s (dX st ps t.Kids s):=fun s hs=>lG st ps t.Kids s (fun z hzm s hs=>(hz z hzm s hs).2) hs
  have hw:IntKind.wrap .i64 ((aB.mk st ps (s:Int)).steps + 1)=((s + 1:Nat):Int):=by
   show IntKind.wrap .i64 ((s:Int) + 1)=_
   rw [mD (by omega) (by omega)]; push_cast; rfl
  rw [bH,wK,hw,mi,Option.bind_some]
  by_cases h1000:s + 1 ≤ 1000
  ·
   have hd:decide (((s + 1:Nat):Int) ≤ 1000)=true:=by rw [decide_eq_true_eq]; omega
   rw [hd,if_pos rfl,if_pos h1000]
   simp only [rG]
   by_cases c1:t.Kind=1
   ·
    rw [if_pos (by simpa using c1),if_pos c1,o7 (by rw [bnd]; have:=hgi.2.2.2.2.1; simp; omega),Option.bind_some,hkids (s + 1) h1000,Option.bind_some]
    cases dX st ps t.Kids (s + 1) with
    | none=>rfl
    | some p=>simp [conv]
   ·
    rw [if_neg (by simpa using c1),if_neg c1]
    by_cases c2:t.Kind=2
    ·
     rw [if_pos (by simpa using c2),if_pos c2]; rfl
    ·
     rw [if_neg (by simpa using c2),if_neg c2]
     by_cases c3:t.Kind=3
     ·
      rw [if_pos (by simpa using c3),if_pos c3,qI,Option.bind_some]
      cases hx:pW st t.N with
      | none=>rfl
      | some x =>
       have:=hst.2 x (BH hx)
       simp only []
       rw [zM n this.1 this.2]; rfl
     ·
      rw [if_neg (by simpa using c3),if_neg c3]
      by_cases c4:t.Kind=4
      ·
       rw [if_pos (by simpa using c4),if_pos c4,BN n st ps _ _ (by omega) (by omega),Option.bind_some]
       cases Ar ps t.Text <;> rfl
      ·
       rw [if_neg (by simpa using c4),if_neg c4]
       by_cases c5:t.Kind=5
       ·
        rw [if_pos (by simpa using c5),if_pos c5,qI,Option.bind_some]
        cases hx:pW st t.N with
        | none=>rfl
        | some x =>
         simp only []
         by_cases hx0:x=0
         ·
          rw [if_pos (by simpa using hx0),if_pos hx0]; rfl
         ·
          rw [if_neg (by simpa using hx0),if_neg hx0,hkids (s + 1) h1000,Option.bind_some]
          cases dX st ps t.Kids (s + 1) <;> rfl
       ·
        rw [if_neg (by simpa using c5),if_neg c5]
        by_cases c6:t.Kind=6
        ·
         rw [if_pos (by simpa using c6),if_pos c6,CK n (by omega) (bH n) t (fun s hs=>⟨hkids s hs,htold s hs⟩) (s + 1) h1000,Option.bind_some]
         exact Cs _
        ·
         rw [if_neg (by simpa using c6),if_neg c6,mi,Option.bind_some]
         by_cases c7:t.Kind=7
         ·
          rw [if_pos (by simpa using c7),if_pos c7]; rfl
         ·
          rw [if_neg (by simpa using c7),if_neg c7]; rfl
  ·
   have hd:decide (((s + 1:Nat):Int) ≤ 1000)=false:=by rw [decide_eq_false_iff_not]; omega
   rw [hd,if_neg (by simp),if_neg h1000]; rfl
end
end Pr
end Go.Ev

namespace Go.Ev
namespace Pr
set_option linter.unusedVariables false
set_option linter.unusedSimpArgs false
theorem DV (n:Nat) (s:Str) (h:s.length ≤ 16):∃ r,jP n s [97,98,99,100,101,102,103,104,105,106,107,108,109,110,111,112,113,114,115,116,117,118,119,120,121,122,48,49,50,51,52,53,54,55,56,57]=some r:=by
 refine ⟨Lib.trimS s [97,98,99,100,101,102,103,104,105,106,107,108,109,110,111,112,113,114,115,116,117,118,119,120,121,122,48,49,50,51,52,53,54,55,56,57],?_⟩
 unfold jP
 rw [if_pos ⟨by rw [bnd]; omega,by decide,by decide⟩]
theorem xV (l:List Attr) (p:Attr→Option Bool) (hp:∀ y,∃ b,p y=some b) (hl:l.length < 1000000):∀ (m i k:Nat),i + m=l.length→m < k→∃ r,aN l p k (i:Int)=some r
 | 0,i,k + 1,hi,hk=>by
  rw [aN,if_neg (by rw [decide_eq_true_eq]; omega)]
  exact ⟨_,rfl⟩
 | m + 1,i,k + 1,hi,hk=>by
  have hw:IntKind.wrap .i64 ((i:Int) + 1)=((i + 1:Nat):Int):=by rw [mD (by omega) (by omega)]; push_cast; rfl
  rw [aN,if_pos (by rw [decide_eq_true_eq]; omega),iE,List.getElem?_eq_getElem (by omega),Option.bind_some]
  obtain ⟨b,hb⟩:=hp l[i]
  rw [hb,Option.bind_some,hw]
  cases b with
  | true=>exact ⟨_,rfl⟩
  | false=>exact xV l p hp hl m (i + 1) k (by omega) (by omega)
theorem vN (n:Nat) (t:Tree) (hl:t.aI.length < 1000000) (hn:t.aI.length < n):∀ (m i k:Nat),i + m=t.aI.length→m < k→∃ b,bU n t k (i:Int)=some b
 | 0,i,k + 1,hi,hk=>by
  rw [bU,if_neg (by rw [decide_eq_true_eq]; omega)]
  exact ⟨_,rfl⟩
 | m + 1,i,k + 1,hi,hk=>by
  have hw:IntKind.wrap .i64 ((i:Int) + 1)=((i + 1:Nat):Int):=by rw [mD (by omega) (by omega)]; push_cast; rfl
  have hc:cut t.aI 0 (i:Int)=some (t.aI.take i):=by unfold cut; rw [if_pos ⟨by omega,by omega,by omega⟩]; simp
  rw [bU,if_pos (by rw [decide_eq_true_eq]; omega),iE,List.getElem?_eq_getElem (by omega),Option.bind_some,hc,hw]
  have fin:∀ x:Bool,∃ b,(if x=true then some false else bU n t k ((i + 1:Nat):Int))=some b:=fun x=>by
   cases x with
   | true=>exact ⟨_,rfl⟩
   | false=>exact vN n t hl hn m (i + 1) k (by omega) (by omega)
  split
  ·
   exact fin true
  ·
   obtain ⟨r,hr⟩:=xV (t.aI.take i) (fun y=>fF n y t.aI[i]) (fun y=>⟨_,rfl⟩) (by simp; omega) (t.aI.take i).length 0 n (by omega) (by simp; omega)
   have:bW n (t.aI.take i) (fun y31=>fF n y31 t.aI[i])=some r:=hr
   unfold bQ
   simp only [Option.bind_some,this]
   exact fin _
theorem Bu (n:Nat) (t:Tree) (hl:t.aI.length < 1000000) (hn:t.aI.length < n):∃ b,iB n t=some b:=by
 unfold iB
 have fin:∀ x:Bool,∃ b,(if (((x || (!(t.Text == []))) || (decide (24 < ((t.Kids).length:Int)))) || (decide (64 < ((t.Key).length:Int))))=true then (some false) else (bU n t n (0)))=some b:=fun x=>by
  split
  ·
   exact ⟨_,rfl⟩
  ·
   exact vN n t hl hn t.aI.length 0 n (by omega) hn
 split
 ·
  exact fin true
 ·
  rename_i h
  obtain ⟨r,hr⟩:=DV n t.Tag (by rw [decide_eq_true_eq] at h; omega)
  rw [hr]
  exact fin _
theorem tJ (self:Tree→Option Bool) (t:Tree) (hl:t.Kids.length < 1000000) (hs:∀ z ∈ t.Kids,∃ b,self z=some b):∀ (m i k:Nat),i + m=t.Kids.length→m < k→∃ b,dJ self t k (i:Int)=some b
 | 0,i,k + 1,hi,hk=>by
  rw [dJ,if_neg (by rw [decide_eq_true_eq]; omega)]
  exact ⟨_,rfl⟩
 | m + 1,i,k + 1,hi,hk=>by
  have hw:IntKind.wrap .i64 ((i:Int) + 1)=((i + 1:Nat):Int):=by rw [mD (by omega) (by omega)]; push_cast; rfl
  have hlt:i < t.Kids.length:=by omega
  rw [dJ,if_pos (by rw [decide_eq_true_eq]; omega),iE,List.getElem?_eq_getElem hlt,Option.bind_some,hw]
  obtain ⟨b,hb⟩:=hs t.Kids[i] (List.getElem_mem hlt)
  rw [hb,Option.bind_some]
  cases b with
  | false=>exact ⟨_,rfl⟩
  | true=>exact tJ self t hl hs m (i + 1) k (by omega) (by omega)
theorem uV:∀ (m:Nat) (t:Tree),T.gJ t ≤ m→m < 1000000→∀ n,m < n→∃ b,fu n t=some b
 | 0,t,hm,_,n,_=>by have:=T.jE t; omega
 | m + 1,t,hm,hm2,n + 1,hn=>by
  have h1:=T.jE t
  have h2:=T.wC t.Kids
  rw [fu]
  split
  ·
   exact ⟨_,rfl⟩
  ·
   obtain ⟨b,hb⟩:=Bu n t (by omega) (by omega)
   rw [hb,Option.bind_some]
   cases b with
   | false=>exact ⟨_,rfl⟩
   | true=>exact tJ (fu n) t (by omega) (fun z hz=>uV m z (by have:=T.tu hz; omega) (by omega) n (by omega)) t.Kids.length 0 n (by omega) (by omega)
theorem yN:∀ (m:Nat) (t:Tree),T.gJ t ≤ m→T.jR t ≤ T.gJ t
 | 0,t,hm=>by have:=T.jE t; omega
 | m + 1,t,hm=>by
  have hl:∀ (l:List Tree),(∀ z ∈ l,T.jR z ≤ T.gJ z)→T.jL l ≤ T.gJ.lsz l:=by
   intro l
   induction l with
   | nil=>intro _; exact Nat.le_refl _
   | cons x l ih =>
    intro hz
    have:=hz x List.mem_cons_self
    have:=ih (fun z h=>hz z (List.mem_cons_of_mem _ h))
    simp only [T.jL,T.gJ.lsz]; omega
  have:=hl t.Kids (fun z hz=>yN m z (by have:=T.tu hz; omega))
  rw [T.jE,T.ik]; omega
theorem Ak (t:Tree) {m n:Nat} (h:T.gJ t ≤ m) (hm:m < 1000000) (hn:m < n):∃ b,fZ n t=some b∧(b=true→T.jR t ≤ 60):=by
 unfold fZ
 obtain ⟨b,hb⟩:=uV m t h hm n hn
 have hc:=yN m t h
 rw [hb,Option.bind_some]
 cases b with
 | false=>exact ⟨false,rfl,by simp⟩
 | true =>
  rw [if_pos rfl,T.nM m t (by omega) (by omega) n hn,Option.bind_some,Option.bind_some]
  by_cases c:(T.jR t:Int) ≤ 60
  ·
   rw [if_pos (by simpa using c),T.Ac m t (by omega) (by omega) n hn]
   exact ⟨_,rfl,fun _=>by omega⟩
  ·
   rw [if_neg (by simpa using c)]
   exact ⟨false,rfl,by simp⟩
theorem zQ (a b:List Tree):T.gJ.lsz (a ++ b)=T.gJ.lsz a + T.gJ.lsz b:=by
 induction a with
 | nil=>simp [T.gJ.lsz]
 | cons x a ih=>simp only [List.cons_append,T.gJ.lsz,ih]; omega
theorem xy (a b:List Tree):T.jV (a ++ b)=T.jV a + T.jV b:=by
 induction a with
 | nil=>simp [T.jV]
 | cons x a ih=>simp only [List.cons_append,T.jV,ih]; omega
theorem yR (i:Nat) (x:Tree):T.gJ (keyed i x)=T.gJ x∧T.og (keyed i x)=T.og x:=by
 unfold keyed
 cases x
 split <;> simp [T.gJ,T.og,Tree.Tag,Tree.Text,Tree.aI,Tree.Kids]
theorem vB (i:Nat) (l:List Tree):T.gJ.lsz (l.map (keyed i))=T.gJ.lsz l∧T.jV (l.map (keyed i))=T.jV l:=by
 induction l with
 | nil=>exact ⟨rfl,rfl⟩
 | cons x l ih =>
  have:=yR i x
  simp only [List.map_cons,T.gJ.lsz,T.jV]; omega
mutual
def wS:aS→Nat
 | .mk k _ _ _ _ ks=>(if k=7 then 1 else 0) + mg ks
def mg:List aS→Nat
 | []=>0
 | t :: l=>wS t + mg l
end
theorem qd (t:aS):wS t=(if t.Kind=7 then 1 else 0) + mg t.Kids:=by cases t; rw [wS]; rfl
mutual
def nX (b:Bool):aS→Prop
 | .mk k _ _ _ _ ks=>¬ (k=7∧b=true)∧xK (b || k == 5 || k == 6) ks
def xK (b:Bool):List aS→Prop
 | []=>True
 | t :: l=>nX b t∧xK b l
end
theorem vJ {b:Bool}:∀ {l:List aS},xK b l↔∀ z ∈ l,nX b z
 | []=>by simp [xK]
 | t :: l=>by rw [xK,vJ (l:=l)]; simp
theorem ql {b:Bool} (t:aS):nX b t↔¬ (t.Kind=7∧b=true)∧∀ z ∈ t.Kids,nX (b || t.Kind == 5 || t.Kind == 6) z:=by
 cases t
 rw [nX,vJ]; rfl
theorem u6:∀ (m:Nat) (t:aS),S.gZ t ≤ m→nX true t→wS t=0
 | 0,t,hm,_=>by have:=S.dz t; omega
 | m + 1,t,hm,h=>by
  have h':=(ql t).1 h
  have hl:∀ (l:List aS),(∀ z ∈ l,wS z=0)→mg l=0:=by
   intro l
   induction l with
   | nil=>intro _; rfl
   | cons x l ih =>
    intro hz
    have:=hz x List.mem_cons_self
    have:=ih (fun z h=>hz z (List.mem_cons_of_mem _ h))
    simp only [mg]; omega
  have:=hl t.Kids (fun z hz=>u6 m z (by have:=S.iD hz; omega) (by have:=h'.2 z hz; simpa using this))
  rw [qd,this,if_neg (by intro h; exact h'.1 ⟨h,rfl⟩)]
def Big (s:Nat) (o:Option (List Tree × Nat)):Prop:=∀ l s',o=some (l,s')→T.gJ.lsz l + 65 * s ≤ 65 * s'
def CU (c:Nat) (o:Option (List Tree × Nat)):Prop:=∀ l s',o=some (l,s')→T.jV l=c
theorem xB (st:List Int) (ps:List eX):∀ (l:List aS) (s:Nat),(∀ z ∈ l,∀ s:Nat,Big s (rowP st ps z s))→Big s (dX st ps l s)
 | [],s,_,a,s',h=>by simp only [dX,Option.some.injEq,Prod.mk.injEq] at h; obtain ⟨rfl,rfl⟩:=h; simp [T.gJ.lsz]
 | t :: l,s,hz,a,s',h=>by
  rw [dX] at h
  split at h
  ·
   cases h
  ·
   rename_i b s1 h1
   have g1:=hz t List.mem_cons_self s b s1 h1
   split at h
   ·
    cases h
   ·
    rename_i c s2 h2
    have g3:=xB st ps l s1 (fun z hm=>hz z (List.mem_cons_of_mem _ hm)) c s2 h2
    simp only [Option.some.injEq,Prod.mk.injEq] at h
    obtain ⟨rfl,rfl⟩:=h
    rw [zQ]; omega
theorem ym (k:Nat→Option (List Tree × Nat)) (hk:∀ s:Nat,Big s (k s)):∀ (m i s:Nat),Big s (jc k m i s)
 | 0,i,s,l,s',h=>by simp only [jc,Option.some.injEq,Prod.mk.injEq] at h; obtain ⟨rfl,rfl⟩:=h; simp [T.gJ.lsz]
 | m + 1,i,s,l,s',h=>by
  rw [jc] at h
  split at h
  ·
   cases h
  ·
   rename_i a s1 h1
   have g1:=hk s a s1 h1
   split at h
   ·
    cases h
   ·
    rename_i b s2 h2
    have g3:=ym k hk m (i + 1) s1 b s2 h2
    simp only [Option.some.injEq,Prod.mk.injEq] at h
    obtain ⟨rfl,rfl⟩:=h
    rw [zQ,(vB i a).1]; omega
theorem xm (st:List Int) (ps:List eX):∀ (l:List aS) (s:Nat),(∀ z ∈ l,∀ s:Nat,CU (wS z) (rowP st ps z s))→CU (mg l) (dX st ps l s)
 | [],s,_,a,s',h=>by simp only [dX,Option.some.injEq,Prod.mk.injEq] at h; obtain ⟨rfl,rfl⟩:=h; rfl
 | t :: l,s,hz,a,s',h=>by
  rw [dX] at h
  split at h
  ·
   cases h
  ·
   rename_i b s1 h1
   have g1:=hz t List.mem_cons_self s b s1 h1
   split at h
   ·
    cases h
   ·
    rename_i c s2 h2
    have g3:=xm st ps l s1 (fun z hm=>hz z (List.mem_cons_of_mem _ hm)) c s2 h2
    simp only [Option.some.injEq,Prod.mk.injEq] at h
    obtain ⟨rfl,rfl⟩:=h
    rw [xy,mg]; omega
theorem xu (k:Nat→Option (List Tree × Nat)) (hk:∀ s:Nat,CU 0 (k s)):∀ (m i s:Nat),CU 0 (jc k m i s)
 | 0,i,s,l,s',h=>by simp only [jc,Option.some.injEq,Prod.mk.injEq] at h; obtain ⟨rfl,rfl⟩:=h; rfl
 | m + 1,i,s,l,s',h=>by
  rw [jc] at h
  split at h
  ·
   cases h
  ·
   rename_i a s1 h1
   have g1:=hk s a s1 h1
   split at h
   ·
    cases h
   ·
    rename_i b s2 h2
    have g3:=xu k hk m (i + 1) s1 b s2 h2
    simp only [Option.some.injEq,Prod.mk.injEq] at h
    obtain ⟨rfl,rfl⟩:=h
    rw [xy,(vB i a).2]; omega
theorem wG (st:List Int) (ps:List eX):∀ (m:Nat) (t:aS),S.gZ t ≤ m→S.pg 7 t→∀ s:Nat,Big s (rowP st ps t s)∧(∀ b,nX b t→CU (wS t) (rowP st ps t s))
 | 0,t,hm,_,s=>by have:=S.dz t; omega
 | m + 1,t,hm,hg,s=>by
  have hgi:=(S.zC t).1 hg
  have hz:∀ z ∈ t.Kids,∀ s:Nat,Big s (rowP st ps z s)∧(∀ b,nX b z→CU (wS z) (rowP st ps z s)):=fun z hzm s=>wG st ps m z (by have:=S.iD hzm; omega) (hgi.2.2.2.2.2 z hzm) s
  have hkb:∀ s:Nat,Big s (dX st ps t.Kids s):=fun s=>xB st ps t.Kids s (fun z hzm s=>(hz z hzm s).1)
  have hks:∀ b,nX b t→∀ s:Nat,CU (mg t.Kids) (dX st ps t.Kids s):=fun b hb s=>xm st ps t.Kids s (fun z hzm s=>(hz z hzm s).2 _ (((ql t).1 hb).2 z hzm))
  have h0:∀ b,nX b t→(t.Kind=5∨t.Kind=6)→mg t.Kids=0:=fun b hb h56=>by
   have hb2:=((ql t).1 hb).2
   have e:(b || t.Kind == 5 || t.Kind == 6)=true:=by rcases h56 with h | h <;> simp [h]
   rw [e] at hb2
   have hl:∀ (l:List aS),(∀ z ∈ l,wS z=0)→mg l=0:=by
    intro l
    induction l with
    | nil=>intro _; rfl
    | cons x l ih =>
     intro hz
     have:=hz x List.mem_cons_self
     have:=ih (fun z h=>hz z (List.mem_cons_of_mem _ h))
     simp only [mg]; omega
   exact hl t.Kids (fun z hz=>u6 (S.gZ z) z (Nat.le_refl _) (hb2 z hz))
  have hk0:t.Kind ≠ 1→t.Kind ≠ 5→t.Kind ≠ 6→mg t.Kids=0:=fun a b c=>by rw [hgi.2.1 a b c]; rfl
  have hpk:=qd t
  have hatt:=hgi.2.2.2.2.1
  rw [wK]
  by_cases c:s + 1 ≤ 1000
  ·
   rw [if_pos c]
   by_cases c1:t.Kind=1
   ·
    rw [if_pos c1]
    rw [if_neg (by omega)] at hpk
    constructor
    ·
     intro l s' h
     split at h
     ·
      cases h
     ·
      rename_i a s1 h1
      have:=hkb (s + 1) a s1 h1
      simp only [Option.some.injEq,Prod.mk.injEq] at h
      obtain ⟨rfl,rfl⟩:=h
      simp only [T.gJ.lsz,T.gJ]; omega
    ·
     intro b hb l s' h
     split at h
     ·
      cases h
     ·
      rename_i a s1 h1
      have:=hks b hb (s + 1) a s1 h1
      simp only [Option.some.injEq,Prod.mk.injEq] at h
      obtain ⟨rfl,rfl⟩:=h
      have ho:T.rC t.Tag=0:=by unfold T.rC; exact if_neg hgi.2.2.1
      simp only [T.jV,T.og,ho]; omega
   ·
    rw [if_neg c1]
    have leaf:∀ x:Str,t.Kind ≠ 7→t.Kind ≠ 5→t.Kind ≠ 6→Big s (some ([Tree.mk [] [] x [] []],s + 1))∧(∀ b,nX b t→CU (wS t) (some ([Tree.mk [] [] x [] []],s + 1))):=fun x h7 h5 h6=>by
     rw [if_neg h7,hk0 c1 h5 h6] at hpk
     refine ⟨fun l s' h=>?_,fun b hb l s' h=>?_⟩
     ·
      simp only [Option.some.injEq,Prod.mk.injEq] at h; obtain ⟨rfl,rfl⟩:=h; simp [T.gJ.lsz,T.gJ]; omega
     ·
      simp only [Option.some.injEq,Prod.mk.injEq] at h; obtain ⟨rfl,rfl⟩:=h; rw [hpk]; simp [T.jV,T.og,T.rC]
    have non:Big s none∧(∀ b,nX b t→CU (wS t) none):=⟨fun _ _ h=>(by cases h),fun _ _ _ _ h=>(by cases h)⟩
    by_cases c2:t.Kind=2
    ·
     rw [if_pos c2]; exact leaf _ (by omega) (by omega) (by omega)
    ·
     rw [if_neg c2]
     by_cases c3:t.Kind=3
     ·
      rw [if_pos c3]
      split
      ·
       exact non
      ·
       exact leaf _ (by omega) (by omega) (by omega)
     ·
      rw [if_neg c3]
      by_cases c4:t.Kind=4
      ·
       rw [if_pos c4]
       split
       ·
        exact non
       ·
        exact leaf _ (by omega) (by omega) (by omega)
      ·
       rw [if_neg c4]
       by_cases c5:t.Kind=5
       ·
        rw [if_pos c5]
        rw [if_neg (by omega)] at hpk
        split
        ·
         exact non
        ·
         split
         ·
          refine ⟨fun l s' h=>?_,fun b hb l s' h=>?_⟩
          ·
           simp only [Option.some.injEq,Prod.mk.injEq] at h; obtain ⟨rfl,rfl⟩:=h; simp [T.gJ.lsz]; omega
          ·
           have:=h0 b hb (Or.inl c5)
           simp only [Option.some.injEq,Prod.mk.injEq] at h; obtain ⟨rfl,rfl⟩:=h; simp only [T.jV]; omega
         ·
          refine ⟨fun l s' h=>?_,fun b hb l s' h=>?_⟩
          ·
           have:=hkb (s + 1) l s' h; omega
          ·
           have:=hks b hb (s + 1) l s' h; omega
       ·
        rw [if_neg c5]
        by_cases c6:t.Kind=6
        ·
         rw [if_pos c6]
         rw [if_neg (by omega)] at hpk
         split
         ·
          exact non
         ·
          split
          ·
           refine ⟨fun l s' h=>?_,fun b hb l s' h=>?_⟩
           ·
            have:=ym _ hkb _ 0 (s + 1) l s' h; omega
           ·
            have h00:=h0 b hb (Or.inr c6)
            have:=xu _ (fun s=>by have:=hks b hb s; rw [h00] at this; exact this) _ 0 (s + 1) l s' h; omega
          ·
           exact non
        ·
         rw [if_neg c6]
         by_cases c7:t.Kind=7
         ·
          rw [if_pos c7]
          rw [if_pos c7,hk0 c1 c5 c6] at hpk
          refine ⟨fun l s' h=>?_,fun b hb l s' h=>?_⟩
          ·
           simp only [Option.some.injEq,Prod.mk.injEq] at h; obtain ⟨rfl,rfl⟩:=h; simp [T.gJ.lsz,T.gJ]; omega
          ·
           simp only [Option.some.injEq,Prod.mk.injEq] at h; obtain ⟨rfl,rfl⟩:=h; rw [hpk]; simp [T.jV,T.og,T.rC,Eb]
         ·
          rw [if_neg c7]; exact non
  ·
   rw [if_neg c]
   exact ⟨fun _ _ h=>(by cases h),fun _ _ _ _ h=>(by cases h)⟩
end Pr
end Go.Ev

namespace Go.Ev
namespace Pr
end Pr
end Go.Ev

namespace Go.Ev
namespace Pr
set_option linter.unusedVariables false
set_option linter.unusedSimpArgs false
theorem kP (self:aS→Int→Bool→Option Bool) (t:aS) (q:Int) (b:Bool) (hl:t.Kids.length < 1000000) (hs:∀ z ∈ t.Kids,∃ r,self z q ((b || (t.Kind == 5)) || (t.Kind == 6))=some r∧(r=true→nX (b || t.Kind == 5 || t.Kind == 6) z)):∀ (m i k:Nat),i + m=t.Kids.length→m < k→∃ r,cB self t q b k (i:Int)=some r∧(r=true→∀ z ∈ t.Kids.drop i,nX (b || t.Kind == 5 || t.Kind == 6) z)
 | 0,i,k + 1,hi,hk=>by
  rw [cB,if_neg (by rw [decide_eq_true_eq]; omega)]
  refine ⟨_,rfl,fun _ z hz=>?_⟩
  rw [List.drop_eq_nil_of_le (by omega)] at hz; cases hz
 | m + 1,i,k + 1,hi,hk=>by
  have hw:IntKind.wrap .i64 ((i:Int) + 1)=((i + 1:Nat):Int):=by rw [mD (by omega) (by omega)]; push_cast; rfl
  have hlt:i < t.Kids.length:=by omega
  rw [cB,if_pos (by rw [decide_eq_true_eq]; omega),iE,List.getElem?_eq_getElem hlt,Option.bind_some,hw]
  obtain ⟨r,hr,hr2⟩:=hs t.Kids[i] (List.getElem_mem hlt)
  rw [hr,Option.bind_some]
  cases r with
  | false=>exact ⟨_,rfl,fun h=>by cases h⟩
  | true =>
   obtain ⟨r',h1,h2⟩:=kP self t q b hl hs m (i + 1) k (by omega) (by omega)
   refine ⟨r',h1,fun h z hz=>?_⟩
   rw [List.drop_eq_getElem_cons hlt] at hz
   rcases List.mem_cons.1 hz with rfl | hz
   ·
    exact hr2 rfl
   ·
    exact h2 h z hz
theorem uz (q:Int):∀ (m:Nat) (t:aS),S.gZ t ≤ m→m < 1000000→∀ (b:Bool) (n:Nat),m < n→∃ r,dZ n t q b=some r∧(r=true→nX b t)
 | 0,t,hm,_,b,n,_=>by have:=S.dz t; omega
 | m + 1,t,hm,hm2,b,n + 1,hn=>by
  have h1:=S.dz t
  have h2:=S.jU t.Kids
  obtain ⟨r,hr,hr2⟩:=kP (dZ n) t q b (by omega) (fun z hz=>uz q m z (by have:=S.iD hz; omega) (by omega) _ n (by omega)) t.Kids.length 0 n (by omega) (by omega)
  rw [List.drop_zero] at hr2
  rw [dZ]
  split
  ·
   exact ⟨_,rfl,fun h=>by cases h⟩
  ·
   split
   ·
    rename_i ho
    unfold fC
    rw [if_pos ho]
    exact ⟨_,rfl,fun h=>by cases h⟩
   ·
    unfold fC
    split
    ·
     exact ⟨_,rfl,fun h=>by cases h⟩
    ·
     rename_i h7
     split
     ·
      exact ⟨_,rfl,fun h=>by cases h⟩
     ·
      refine ⟨r,hr,fun h=>(ql t).2 ⟨fun hc=>h7 (by simp [hc.1,hc.2]),hr2 h⟩⟩
theorem y9 (t:aS) (q:Int) {m n:Nat} (h:S.gZ t ≤ m) (hm:m < 1000000) (hn:m < n):∃ r,iI n t q=some r∧(r=true→nX false t):=by
 unfold iI
 rw [S.nM m t h hm n hn,Option.bind_some]
 obtain ⟨r,hr,hr2⟩:=uz q m t h hm false n hn
 split
 ·
  rw [hr]; exact ⟨r,rfl,hr2⟩
 ·
  exact ⟨false,rfl,fun h=>by cases h⟩
theorem zW:∀ (m:Nat) (t:aS),S.gZ t ≤ m→wS t ≤ S.gZ t
 | 0,t,hm=>by have:=S.dz t; omega
 | m + 1,t,hm=>by
  have hl:∀ (l:List aS),(∀ z ∈ l,wS z ≤ S.gZ z)→mg l ≤ S.iY l:=by
   intro l
   induction l with
   | nil=>intro _; exact Nat.le_refl _
   | cons x l ih =>
    intro hz
    have:=hz x List.mem_cons_self
    have:=ih (fun z h=>hz z (List.mem_cons_of_mem _ h))
    simp only [mg,S.iY]; omega
  have:=hl t.Kids (fun z hz=>zW m z (by have:=S.iD hz; omega))
  rw [qd,S.dz]; split <;> omega
theorem mZ (self:aS→Option Int) (t:aS) (hl:t.Kids.length < 1000000):∀ (rest done:List aS) (k acc:Nat),t.Kids=done ++ rest→rest.length < k→(∀ z ∈ rest,self z=some (wS z:Int))→acc + mg rest < 1000000000 →
  dP self t k (acc:Int) (done.length:Int)=some ((acc + mg rest:Nat):Int)
 | [],done,k + 1,acc,h,hk,hs,ha=>by
  rw [dP,if_neg (by rw [decide_eq_true_eq,h]; simp)]
  simp [mg]
 | z :: rest,done,k + 1,acc,h,hk,hs,ha=>by
  have hlen:t.Kids.length=done.length + rest.length + 1:=by rw [h]; simp; omega
  have hw:IntKind.wrap .i64 ((done.length:Int) + 1)=(((done ++ [z]).length:Nat):Int):=by rw [mD (by omega) (by omega)]; simp
  simp only [mg] at ha
  have hw2:IntKind.wrap .i64 ((acc:Int) + (wS z:Int))=((acc + wS z:Nat):Int):=by rw [mD (by omega) (by omega)]; push_cast; rfl
  rw [dP,if_pos (by rw [decide_eq_true_eq]; omega),gX h,Option.bind_some,hs z List.mem_cons_self,Option.bind_some,hw,hw2,mZ self t hl rest (done ++ [z]) k (acc + wS z) (by rw [h]; simp) (by simp at hk; omega) (fun z hz=>hs z (List.mem_cons_of_mem _ hz)) (by omega),mg,Nat.add_assoc]
theorem vC:∀ (m:Nat) (t:aS),S.gZ t ≤ m→m < 1000000→∀ n,m < n→dL n t=some (wS t:Int)
 | 0,t,h,_,n,_=>by have:=S.dz t; omega
 | m + 1,t,h,hm,n + 1,hn=>by
  have h1:=S.dz t
  have h2:=S.jU t.Kids
  have h3:=zW (m + 1) t h
  have h4:=qd t
  have hs:∀ z ∈ t.Kids,dL n z=some (wS z:Int):=fun z hz=>vC m z (by have:=S.iD hz; omega) (by omega) n (by omega)
  rw [dL]
  unfold gD
  by_cases c:t.Kind=7
  ·
   rw [if_pos (by simpa using c),h4,if_pos c]
   rw [if_pos c] at h4
   exact mZ (dL n) t (by omega) t.Kids [] n 1 rfl (by omega) hs (by omega)
  ·
   rw [if_neg (by simpa using c),h4,if_neg c]
   rw [if_neg c] at h4
   exact mZ (dL n) t (by omega) t.Kids [] n 0 rfl (by omega) hs (by omega)
def yL:Tree:=Tree.mk [] [] [] [] []
def BS (n:Nat) (o:Option (List Tree × Nat)):Tree × Int:=match o with
 | some ([z],_)=>if z.Tag ≠ []∧fZ n z=some true then (z,0) else (yL,6)
 | _=>(yL,6)
theorem Ai {st:List Int} {ps:List eX} (hst:DK st) (hps:ps.length ≤ 1000) {t:aS} (hc:S.gZ t ≤ 1000) (hg:S.pg 7 t) {n:Nat} (hn:65010 < n):gM n t st ps=some (BS n (rowP st ps t 0)):=by
 have h:=BJ hst hps 1000 t hc (by omega) hg n (by omega) 0 (by omega)
 have hb:=(wG st ps 1000 t hc hg 0).1
 have htold:=qa st ps 1000 t hc 0 (by omega)
 rw [show ((0:Nat):Int)=0 from rfl] at h
 unfold gM jo
 rw [h,Option.bind_some]
 cases hr:rowP st ps t 0 with
 | none=>rfl
 | some p =>
  obtain ⟨l,s'⟩:=p
  have hb:=hb l s' hr
  have ht:=htold l s' hr
  simp only [conv,rG,BS]
  cases l with
  | nil=>rfl
  | cons z r =>
   cases r with
   | cons y r =>
    have e:((((z :: y :: r):List Tree).length:Int) == 1)=false:=by simp; omega
    simp only [e]
    rfl
   | nil =>
    have e:((([z]:List Tree).length:Int) == 1)=true:=rfl
    have ei:idx [z] 0=some z:=rfl
    simp only [e,ei,Option.bind_some,if_pos]
    by_cases htag:z.Tag=[]
    ·
     simp only [htag]
     rfl
    ·
     obtain ⟨b,hb1,_⟩:=Ak z (m:=65000) (n:=n) (by simp only [T.gJ.lsz] at hb; omega) (by omega) (by omega)
     have e2:(!(z.Tag == []))=true:=by simpa using htag
     simp only [e2,if_pos,hb1,Option.bind_some]
     cases b with
     | true=>simp [mi,htag,Cm]
     | false=>simp [mi,htag,Cm,yL]
end Pr
end Go.Ev

namespace Go.Ev
namespace Pr
set_option linter.unusedVariables false
set_option linter.unusedSimpArgs false
theorem mo:dE 100000=some true:=by decide +kernel
theorem Aa {α:Type} (l:List α) (k:Nat):cut l 0 (yP ((l.length:Nat):Int) (k:Int))=some (l.take k):=by
 have e:yP ((l.length:Nat):Int) (k:Int)=((min l.length k:Nat):Int):=by unfold yP; split <;> omega
 unfold cut
 rw [e,if_pos ⟨by omega,by omega,by omega⟩]
 simp [List.take_eq_take_iff,Nat.min_comm]
theorem A9 {st:List Int} (k:Nat) (hk:k ≤ 1000) (h:∀ y ∈ st,(Lit.int .i64 y).wf=true):DK (st.take k):=by
 refine ⟨by simp; omega,fun x hx=>?_⟩
 have:=h x (List.mem_of_mem_take hx)
 simp [Lit.wf] at this
 have e1:IntKind.min .i64 = -9223372036854775808:=rfl
 have e2:IntKind.max .i64=9223372036854775807:=rfl
 omega
theorem zf {n:Nat} (hn:10 < n):bD n yL (Tree.mk [] [] [] [] [])=some true:=by
 rw [T.yc 1 _ _ (by decide) (by omega) n (by omega)]
 exact congrArg some (T.vO _)
theorem zq (n:Nat) (o:Option (List Tree × Nat)):BS n o=(yL,6)∨∃ z s',o=some ([z],s')∧z.Tag ≠ []∧fZ n z=some true∧BS n o=(z,0):=by
 unfold BS
 split
 ·
  rename_i z s'
  split
  ·
   rename_i h
   exact .inr ⟨z,s',rfl,h.1,h.2,rfl⟩
  ·
   exact .inl rfl
 ·
  exact .inl rfl
theorem CX (k:dI) (st:List Int) (ps:List eX) (w0:True) (w1:st.length ≤ maxLen∧∀ y ∈ st,(Lit.int .i64 y).wf=true) (w2:ps.length ≤ maxLen∧∀ y ∈ ps,True):fe 100000 k st ps=some true:=by
 obtain ⟨t,ht,hg,hc,_,_⟩:=S.Ce k 100000 (by omega)
 unfold fe
 rw [ht,Option.bind_some,show ((8:Int))=((8:Nat):Int) from rfl,Aa,Option.bind_some,o7 (by rw [bnd]; simp; omega),Option.bind_some,show ((5:Int))=((5:Nat):Int) from rfl,Aa,Option.bind_some,List.nil_append]
 have hst:=A9 8 (by omega) w1.2
 have hps:(ps.take 5).length ≤ 1000:=by simp; omega
 rw [Ai hst hps (by omega) hg (by omega),Option.bind_some]
 rcases zq 100000 (rowP (st.take 8) (ps.take 5) t 0) with e | ⟨z,s',h1,h2,h3,e⟩
 ·
  rw [e,if_pos (by decide),if_pos (by decide),zf (by omega),mo]; rfl
 ·
  rw [e,if_neg (by simp)]
  simp only []
  rw [h3,Option.bind_some,if_neg (by simp [h2])]
  have hb:=(wG (st.take 8) (ps.take 5) 1000 t (by omega) hg 0)
  have hbig:=hb.1 _ _ h1
  have htold:=qa (st.take 8) (ps.take 5) 1000 t (by omega) 0 (by omega) _ _ h1
  simp only [T.gJ.lsz] at hbig
  obtain ⟨r,hr,hr2⟩:=y9 t ((List.take 8 st).length:Int) (m:=1000) (n:=100000) (by omega) (by omega) (by omega)
  rw [hr,Option.bind_some]
  cases r with
  | false=>rw [if_pos (by rfl),mo]; rfl
  | true =>
   have hs:=hb.2 _ (hr2 rfl) _ _ h1
   simp only [T.jV] at hs
   have hcs:=yN 65000 z (by omega)
   rw [if_neg (by simp),T.xE 65000 z (by omega) (by omega) _ (by omega),Option.bind_some,vC 1000 t (by omega) (by omega) _ (by omega),Option.bind_some,if_pos (by rw [beq_iff_eq]; omega),mo]
   rfl
end Pr
end Go.Ev

namespace Go.Ev
noncomputable section
open Go.Shelf Go.RowKit Go.Proofs
set_option linter.unusedVariables false
set_option linter.unusedSimpArgs false
theorem wJ:∀ (k u:Nat),u < 10 ^ k→BI k u=if k=0 then [] else Lib.decDigits u
 | 0,u,h=>rfl
 | k + 1,u,h=>by
  rw [BI,Lib.decDigits,if_neg (Nat.succ_ne_zero k)]
  by_cases hu:u < 10
  ·
   rw [if_pos hu,dif_pos hu]
  ·
   rw [if_neg hu,dif_neg hu]
   have hk:k ≠ 0:=fun q=>by subst q; simp at h; omega
   rw [wJ k (u / 10) (by rw [Nat.pow_succ] at h; omega),if_neg hk]
theorem Bn {n:Int} (h0:-9223372036854775808 ≤ n) (h1:n ≤ 9223372036854775807):rz n=Lib.itoa n:=by
 unfold rz Lib.itoa
 rw [wJ 20 _ (by omega),wJ 20 _ (by omega),if_neg (show ¬ (20=0) by decide),if_neg (show ¬ (20=0) by decide)]
def nA:List D→Option AV
 | [.int .i64 x]=>if -9223372036854775808 ≤ x∧x ≤ 9223372036854775807 then some (.d (.str (rz x))) else none
 | _=>none
def D8 (g:Nat) (k:IntKind) (zs:List Int) (w:World) (fr:Nat→Nat→Prop):Prop:=(∃ el fz,w.heap[g]? = some (.cells (zs.map fun z=>Value.int k z).toArray el fz))∧∀ o,¬ fr g o
theorem EP (g:Nat) (k:IntKind) (zs:List Int):BD (D8 g k zs):=fun w w' fr fr' h _ hb=>by
 obtain ⟨⟨el,fz,h1⟩,h2⟩:=h
 have hlt:g < w.heap.size:=by
  rcases Nat.lt_or_ge g w.heap.size with q | q
  ·
   exact q
  ·
   rw [Array.getElem?_eq_none q] at h1; cases h1
 obtain ⟨a,b⟩:=hb g hlt h2
 exact ⟨⟨el,fz,a.trans h1⟩,b⟩
theorem ER {P:Program} {name:String} {g:Nat} {k:IntKind} {zs:List Int} {w:World} {fr:Nat→Nat→Prop} (hg:P.globalNamed name=some g) (h:D8 g k zs w fr):Lib.TabIs P w name k zs:=by
 obtain ⟨⟨el,fz,h1⟩,_⟩:=h
 unfold Lib.TabIs World.var?
 rw [hg]
 show (match w.heap[g]? with | some (.cells cs _ _)=>some cs | _=>none)=_
 rw [h1]
theorem EJ {P:Program} {name:String} {g:Nat} {k:IntKind} {zs:List Int} {w:World} (hg:P.globalNamed name=some g) (h:Lib.TabIs P w name k zs):D8 g k zs w (fun _ _=>False):=by
 unfold Lib.TabIs World.var? at h
 rw [hg] at h
 have h':(match w.heap[g]? with | some (.cells cs _ _)=>some cs | _=>none)=some (zs.map fun z=>Value.int k z).toArray:=h
 refine ⟨?_,fun o q=>q⟩
 cases hh:w.heap[g]? with
 | none=>rw [hh] at h'; cases h'
 | some o =>
  rw [hh] at h'
  cases o with
  | cells cs el fz=>simp only [Option.some.injEq] at h'; subst h'; exact ⟨el,fz,rfl⟩
  | _=>cases h'
theorem Dj {R:bu} (hR:ObjOk R) {P:Program} {ρ:Ren} (L:LaysM.n171 P ρ)
  (hG:∀ w fr,R.G w fr→Lib.TabIs P w "internal/strconv.uint64pow10" .u64 Lib.pow10Tab):uo R P (ρ.f 171) (jr nA):=by
 refine rJ hR (fun ds v h=>?_) ⟨_,L.f171,rfl,by show ¬ ("strconv.Itoa" = "runtime.NumGoroutine"); decide⟩ (fun ds v h w fr us hGw hfr hl hr=>?_)
 ·
  unfold nA at h
  split at h
  ·
   split at h
   ·
    simp only [Option.some.injEq] at h; subst h; rfl
   ·
    cases h
  ·
   cases h
 ·
  unfold nA at h
  split at h
  ·
   rename_i x
   split at h
   ·
    rename_i hc
    simp only [Option.some.injEq] at h; subst h
    match us,hl with
    | [u0],_ =>
    have a0:=(hr 0 _ _ rfl rfl).val rfl
    cases a0
    refine (Any.strconv_Itoa L x hc.1 hc.2 w (hG w fr hGw)).mono (fun e w' hp=>?_)
    obtain ⟨rfl,k,os,rfl⟩:=hp
    refine ⟨Lib.below_grow _ w (Nat.le_refl _) k os,_,rfl,fun cx S _=>.d _ _ ?_⟩
    rw [Bn hc.1 hc.2]
    exact zV _ cx.fr (Lib.itoa x)
   ·
    cases h
  ·
   cases h
theorem Ed {n:Nat} {x:Int} {r:List UInt8} (h:strconv_Itoa n x=some r):nA [.int .i64 x]=some (.d (.str r)):=by
 unfold strconv_Itoa at h
 unfold nA
 split at h
 ·
  rename_i hc; cases h
  simp only [hc,and_self,if_true]
 ·
  cases h
end
end Go.Ev

import Derived.Test.YtpbfidcmnkmkiaaDoorPartD
import Derived.IntWalk
namespace Go.Ev
namespace Pr
set_option linter.unusedVariables false
set_option linter.unusedSimpArgs false
open Go.Proofs
section
variable {R:bT} (E:I1 R)
include E
set_option maxRecDepth 20000 in
set_option maxHeartbeats 4000000 in
theorem nU (n:Nat) (a1:fw) (r:aT) (h:fU n a1=some r):di R cfg.P 12 [(jM a1)] (.d (aD r)):=by
 unfold fU at h
 refine di.of_wp E.obj.toObjOk (C:=cfg) Tryd.func12 rfl Jp rfl ?_
 have H0:Has aI aI []:=Has.pure
 refine ax.seq ?_
 refine ax.region E.obj rfl ?_
 refine ah.box H0 rfl rfl rfl (fw.bD _) rfl (fun b2 S3 H4=>?_)
 refine ah.alloc H4 rfl uB lC rfl rfl (fun b5 S6 H7=>?_)
 refine ah.nil ?_
 refine ax.seq ?_
 refine ax.region E.obj rfl ?_
 refine ah.val rfl (aR (vs:=[(.d (.str [100,105,118])),(.d (.str [112])),(.d (.str [108,105])),(.d (.str [98]))]) (ds:=[(.str [100,105,118]),(.str [112]),(.str [108,105]),(.str [98])]) Hy BV j5 JE Ey rfl (by decide) (.cons rfl rfl (.cons rfl rfl (.cons rfl rfl (.cons rfl rfl .nil)))) rfl (by intro d hd; simp only [List.mem_cons,List.not_mem_nil,or_false] at hd; rcases hd with rfl | rfl | rfl | rfl <;> rfl) rfl) rfl ?_
 refine ah.val rfl (ai rfl) rfl ?_
 refine ah.nil ?_
 refine ax.seq ?_
 refine ax.region E.obj rfl ?_
 refine ah.val rfl (aR (vs:=[(.d (.str [105,100])),(.d (.str [112,97])),(.d (.str [112,98])),(.d (.str [108,97,115,116]))]) (ds:=[(.str [105,100]),(.str [112,97]),(.str [112,98]),(.str [108,97,115,116])]) Hy BV j5 JE Ey rfl (by decide) (.cons rfl rfl (.cons rfl rfl (.cons rfl rfl (.cons rfl rfl .nil)))) rfl (by intro d hd; simp only [List.mem_cons,List.not_mem_nil,or_false] at hd; rcases hd with rfl | rfl | rfl | rfl <;> rfl) rfl) rfl ?_
 refine ah.val rfl (ai rfl) rfl ?_
 refine ah.nil ?_
 refine ax.seq ?_
 refine ax.region E.obj rfl ?_
 obtain ⟨z8,hzz8,h⟩:=bind_some h
 refine ah.ret rfl (aC rfl rfl) (qa E _  _ hzz8 _ _ .nil) rfl ?_
 refine ah.val rfl (ai rfl) rfl ?_
 refine ah.nil ?_
 refine ax.seq ?_
 refine ax.region E.obj rfl ?_
 refine ah.val rfl (bW (cs:=[(.d (.int .i64 1)),(.d (.int .i64 0)),(.d (.str [109,97,105,110])),(.d (.str [])),(.d .aY),(.d .aY)]) lC rfl (ig) (eG rfl rfl rfl rfl (eG rfl rfl rfl rfl rfl))) rfl ?_
 refine ah.less (Less.agg' (d:=dI (bM.mk 1 0 [109,97,105,110] [] [])) (ak.eq rfl (ak.eq rfl (ak.eq rfl (ak.eq rfl (ak.dV rfl (.aY false) rfl rfl (ak.eq rfl .nil)))))) ((bM.eq _).trans rfl)) ?_
 refine ah.val rfl (aR (vs:=[(.d (dI (bM.mk 1 0 [109,97,105,110] [] [])))]) (ds:=[(dI (bM.mk 1 0 [109,97,105,110] [] []))]) Aq qh gY lC dY rfl (by decide) (.cons rfl (bM.len _) .nil) rfl (by intro d hd; simp only [List.mem_cons,List.not_mem_nil,or_false] at hd; rcases hd with rfl <;> exact bM.agg _) rfl) rfl ?_
 refine ah.val rfl (ai rfl) rfl ?_
 refine ah.nil ?_
 refine ax.seq ?_
 refine ax.region E.obj rfl ?_
 refine ah.val rfl (aR (vs:=[(.d (.int .i64 (-1)))]) (ds:=[(.int .i64 (-1))]) Cc mH jL Io tu rfl (by decide) (.cons rfl rfl .nil) rfl (by intro d hd; simp only [List.mem_cons,List.not_mem_nil,or_false] at hd; rcases hd with rfl <;> rfl) rfl) rfl ?_
 refine ah.val rfl (ai rfl) rfl ?_
 refine ah.nil ?_
 refine ax.seq ?_
 refine ax.seq ?_
 refine ax.region E.obj rfl ?_
 refine ah.val rfl (ai rfl) rfl ?_
 refine ah.nil ?_
 refine ax.block ?_
 have H97:=H7.zk (([(bM.mk 1 0 [109,97,105,110] [] [])]).map dI)
 have H98:=H97.zk (([(-1)]).map (D.int .i64))
 refine lV.start (B:=aI) (α:=(List bM) × AV × (List Int) × AV × Int) (fun k a=>aQ n a1 z8 k a.1 a.2.2.1 a.2.2.2.2=some r) (fun a=>[(1,(.ptr b2 0 0)),(2,(.ptr b5 0 0)),(3,(.d (.sl ((([[100,105,118],[112],[108,105],[98]]:List Str)).map D.str) true))),(4,(.d (.sl ((([[105,100],[112,97],[112,98],[108,97,115,116]]:List Str)).map D.str) true))),(5,(.d (.sl ((z8).map D.str) false))),(6,a.2.1),(7,a.2.2.2.1),(8,(.d (.int .i64 a.2.2.2.2)))]) (fun a=>[.box b5 [(.d (.int .i64 0)),(.d (.int .i64 0)),(.d (.str [])),(.d (.str [])),(.d .aY),(.d .aY)],.box b2 [(.d (.sl ((a1.Under).map (D.int .i64)) false)),(.d (.sl ((a1.Kinds).map (D.int .i64)) false)),(.d (.sl ((a1.Ns).map (D.int .i64)) false)),(.d (.sl ((a1.Texts).map (D.int .i64)) false))],.grow a.2.1 ((a.1).map dI),.grow a.2.2.2.1 ((a.2.2.1).map (D.int .i64))]) ?_ ?_ n ⟨⟨[(bM.mk 1 0 [109,97,105,110] [] [])],(.d (.sl (([(bM.mk 1 0 [109,97,105,110] [] [])]).map dI) true)),[(-1)],(.d (.sl (([(-1)]).map (D.int .i64)) true)),0⟩,_,_,S6,.refl _ _,.refl _,(aa.r rfl (aa.r rfl (aa.r rfl (aa.r rfl (aa.r rfl (aa.r rfl (aa.r rfl (aa.r rfl aa.nil)))))))),H98.sl [2,3,1,0] rfl rfl,h⟩
 ·
  intro a h; simp [aQ] at h
 intro k25 a S18 H19 h
 obtain ⟨x20,v21,x22,v23,x24⟩:=a
 replace h:aQ n a1 z8 (k25 + 1) x20 x22 x24=some r:=h
 replace H19:Has aI S18 [.box b5 [(.d (.int .i64 0)),(.d (.int .i64 0)),(.d (.str [])),(.d (.str [])),(.d .aY),(.d .aY)],.box b2 [(.d (.sl ((a1.Under).map (D.int .i64)) false)),(.d (.sl ((a1.Kinds).map (D.int .i64)) false)),(.d (.sl ((a1.Ns).map (D.int .i64)) false)),(.d (.sl ((a1.Texts).map (D.int .i64)) false))],.grow v21 ((x20).map dI),.grow v23 ((x22).map (D.int .i64))]:=H19
 unfold aQ at h
 refine ax.seq ?_
 refine ax.seq ?_
 refine ax.region E.obj rfl ?_
 refine ah.val rfl (ae rfl) rfl ?_
 refine ah.val rfl (aj rfl EB zf rfl) rfl ?_
 refine ah.val rfl (av H19 (i:=1) rfl rfl (aA y7 rfl)) rfl ?_
 refine ah.val rfl (aO rfl oF) rfl ?_
 refine ah.val rfl (au rfl rfl bJ) rfl ?_
 refine ah.val rfl (ae rfl) rfl ?_
 refine ah.aZ 3 27 (.d (.bool ((decide (x24 < ((a1.Under).length:Int))) && (decide (x24 < 11))))) ?_ ?_
 ·
  rcases Bool.eq_false_or_eq_true ((decide (x24 < ((a1.Under).length:Int)))) with hB26 | hB26
  ·
   refine ah.bool hB26 ?_
   refine ah.val rfl (ae rfl) rfl ?_
   refine ah.val rfl (au rfl rfl bJ) rfl ?_
   refine ah.val rfl (ay (b:=true) rfl rfl) rfl ?_
   exact ah.nil ⟨_,rfl,(aa.put (aa.push rfl (aa.push rfl (aa.put (.refl _) (Less.eq (by rw [hB26]))))) (Less.eq (by rw [hB26]; rw [Bool.true_and])))⟩
  refine ah.bool hB26 ?_
  refine ah.no rfl rfl ?_
  refine ah.no rfl rfl ?_
  refine ah.val rfl (ay (b:=false) rfl rfl) rfl ?_
  exact ah.nil ⟨_,rfl,(aa.put (aa.push rfl (aa.push rfl (aa.put (.refl _) (Less.eq (by rw [hB26]))))) (Less.eq (by rw [hB26]; rw [Bool.false_and])))⟩
 refine ah.nil ?_
 refine ax.cond rfl (fun hb27=>?_) (fun hb27=>?_)
 ·
  replace h:=bO hb27 h
  refine ax.skip ?_
  refine ax.seq ?_
  refine ax.block ?_
  refine ax.seq ?_
  refine ax.region E.obj rfl ?_
  refine ah.val rfl (aj rfl EB zf rfl) rfl ?_
  refine ah.val rfl (av H19 (i:=1) rfl rfl (aA y7 rfl)) rfl ?_
  refine ah.val rfl (ae rfl) rfl ?_
  obtain ⟨z28,hzz28,h⟩:=bind_some h
  refine ah.val rfl (bA rfl rfl (cZ (enc:=(D.int .i64)) hzz28 mH C9 (((fun _=>rfl) _).trans tu.symm))) rfl ?_
  refine ah.val rfl (aV rfl (fQ jL rfl)) rfl ?_
  refine ah.val rfl (ae rfl) rfl ?_
  refine ah.val rfl (uh H19 (i:=2) rfl rfl w9) rfl ?_
  refine ah.val rfl (au rfl rfl mV) rfl ?_
  obtain ⟨z29,hzz29,h⟩:=bind_some h
  refine ah.ret rfl (aC rfl rfl) (dE E _ _ _ _ _ hzz29 _ _ (aF.eq (aF.eq (aF.eq .nil)))) rfl ?_
  refine ah.val rfl (ai rfl) rfl ?_
  refine ah.nil ?_
  refine ax.join (B:=aI) (α:=Int) (fun a=>bX n a1 z8 x20 x22 x24 (aQ n a1 z8 k25) a=some r) (fun a=>[(1,(.ptr b2 0 0)),(2,(.ptr b5 0 0)),(3,(.d (.sl ((([[100,105,118],[112],[108,105],[98]]:List Str)).map D.str) true))),(4,(.d (.sl ((([[105,100],[112,97],[112,98],[108,97,115,116]]:List Str)).map D.str) true))),(5,(.d (.sl ((z8).map D.str) false))),(6,v21),(7,v23),(8,(.d (.int .i64 x24))),(9,(.d (.int .i64 a)))]) (fun a=>[.box b5 [(.d (.int .i64 0)),(.d (.int .i64 0)),(.d (.str [])),(.d (.str [])),(.d .aY),(.d .aY)],.box b2 [(.d (.sl ((a1.Under).map (D.int .i64)) false)),(.d (.sl ((a1.Kinds).map (D.int .i64)) false)),(.d (.sl ((a1.Ns).map (D.int .i64)) false)),(.d (.sl ((a1.Texts).map (D.int .i64)) false))],.grow v21 ((x20).map dI),.grow v23 ((x22).map (D.int .i64))]) ?_ ?_
  ·
   intro x32 S30 H31 h
   replace h:bX n a1 z8 x20 x22 x24 (aQ n a1 z8 k25) x32=some r:=h
   replace H31:Has aI S30 [.box b5 [(.d (.int .i64 0)),(.d (.int .i64 0)),(.d (.str [])),(.d (.str [])),(.d .aY),(.d .aY)],.box b2 [(.d (.sl ((a1.Under).map (D.int .i64)) false)),(.d (.sl ((a1.Kinds).map (D.int .i64)) false)),(.d (.sl ((a1.Ns).map (D.int .i64)) false)),(.d (.sl ((a1.Texts).map (D.int .i64)) false))],.grow v21 ((x20).map dI),.grow v23 ((x22).map (D.int .i64))]:=H31
   unfold bX at h
   refine ax.seq ?_
   obtain ⟨z34,hzz34,h⟩:=bind_some h
   obtain ⟨z35,hzz35,h⟩:=bind_some h
   obtain ⟨z36,hzz36,h⟩:=bind_some h
   obtain ⟨z37,hzz37,h⟩:=bind_some h
   refine ax.jH E.obj nQ KU [(1,none),(2,none),(3,none),(4,none),(5,none),(6,none),(7,none),(8,none),(9,none),(11,some 11)] (by kernel_rfl) [11,12] (by decide) [some (.ptr b2 0 1),some (.d (.sl ((a1.Kinds).map (D.int .i64)) false)),some (.d (.int .i64 x24)),some (.d (.int .i64 z34)),some (.d (.int .i64 z35)),some (.ptr b2 0 2),some (.d (.sl ((a1.Ns).map (D.int .i64)) false)),some (.d (.int .i64 x24)),some (.d (.int .i64 z36)),some (.d (.int .i64 z37)),some (.d (dI (bM.mk z35 z37 [] [] []))),none,none] ?_
   refine ⟨[0,1,2,3,4,5,6,7,8,9,10],by kernel_rfl,?_,_,_,rfl,rfl,.step ?_⟩
   ·
    refine .v rfl rfl rfl rfl (aj rfl Ez zf rfl) ?_
    refine .v rfl rfl rfl rfl (av H31 (i:=1) rfl rfl (aA y7 rfl)) ?_
    refine .v rfl rfl rfl rfl (ae rfl) ?_
    refine .cons rfl rfl rfl (.step ?_) ?_
    ·
     refine ah.ret rfl (aC rfl rfl) (gN E _ _ _ _ hzz34 _ _ (aF.eq (aF.eq .nil))) rfl ?_
     exact ah.nil ⟨_,_,rfl,fun _ ht=>by cases ht; exact ⟨rfl,.refl _⟩⟩
    refine .cons rfl rfl rfl (.step ?_) ?_
    ·
     refine ah.ret rfl (aC rfl rfl) (dE E _ _ _ _ _ hzz35 _ _ (aF.eq (aF.eq (aF.eq .nil)))) rfl ?_
     exact ah.nil ⟨_,_,rfl,fun _ ht=>by cases ht; exact ⟨rfl,.refl _⟩⟩
    refine .v rfl rfl rfl rfl (aj rfl Fz zf rfl) ?_
    refine .v rfl rfl rfl rfl (av H31 (i:=1) rfl rfl (aA y7 rfl)) ?_
    refine .v rfl rfl rfl rfl (ae rfl) ?_
    refine .cons rfl rfl rfl (.step ?_) ?_
    ·
     refine ah.ret rfl (aC rfl rfl) (gN E _ _ _ _ hzz36 _ _ (aF.eq (aF.eq .nil))) rfl ?_
     exact ah.nil ⟨_,_,rfl,fun _ ht=>by cases ht; exact ⟨rfl,.refl _⟩⟩
    refine .cons rfl rfl rfl (.step ?_) ?_
    ·
     refine ah.ret rfl (aC rfl rfl) (dE E _ _ _ _ _ hzz37 _ _ (aF.eq (aF.eq (aF.eq .nil)))) rfl ?_
     exact ah.nil ⟨_,_,rfl,fun _ ht=>by cases ht; exact ⟨rfl,.refl _⟩⟩
    refine .cons rfl rfl rfl (.step ?_) ?_
    ·
     refine ah.val rfl (bW (cs:=[(.d (.int .i64 z35)),(.d (.int .i64 z37)),(.d (.str [])),(.d (.str [])),(.d .aY),(.d .aY)]) lC rfl (ig) (eG rfl rfl rfl rfl (eG rfl rfl rfl rfl rfl))) rfl ?_
     refine ah.less (Less.agg' (d:=dI (bM.mk z35 z37 [] [] [])) (ak.eq rfl (ak.eq rfl (ak.eq rfl (ak.eq rfl (ak.dV rfl (.aY false) rfl rfl (ak.eq rfl .nil)))))) ((bM.eq _).trans rfl)) ?_
     exact ah.nil ⟨_,_,rfl,fun _ ht=>by cases ht; exact ⟨rfl,.refl _⟩⟩
    exact .nil
   refine ah.alloc H31 rfl uB lC rfl rfl (fun b43 S44 H45=>?_)
   refine ah.nil ⟨_,_,_,rfl,(fun _ ht=>by cases ht; rfl),_,(.q (.q (.o (.o (.o (.w (.ptr b43 0 0) (.n .nil))))))),(fun _ ht=>by cases ht; exact ⟨_,rfl,.refl _⟩),?_⟩
   refine ⟨[0,1,2,3,4,5,6,7,8,9,10],by kernel_rfl,?_,_,_,rfl,rfl,.step ?_⟩
   ·
    refine .v rfl rfl rfl rfl (aj rfl Ez zf rfl) ?_
    refine .v rfl rfl rfl rfl (av H45 (i:=2) rfl rfl (aA y7 rfl)) ?_
    refine .v rfl rfl rfl rfl (ae rfl) ?_
    refine .cons rfl rfl rfl (.step ?_) ?_
    ·
     refine ah.ret rfl (aC rfl rfl) (gN E _ _ _ _ hzz34 _ _ (aF.eq (aF.eq .nil))) rfl ?_
     exact ah.nil ⟨_,_,rfl,fun _ ht=>by cases ht; exact ⟨rfl,.refl _⟩⟩
    refine .cons rfl rfl rfl (.step ?_) ?_
    ·
     refine ah.ret rfl (aC rfl rfl) (dE E _ _ _ _ _ hzz35 _ _ (aF.eq (aF.eq (aF.eq .nil)))) rfl ?_
     exact ah.nil ⟨_,_,rfl,fun _ ht=>by cases ht; exact ⟨rfl,.refl _⟩⟩
    refine .v rfl rfl rfl rfl (aj rfl Fz zf rfl) ?_
    refine .v rfl rfl rfl rfl (av H45 (i:=2) rfl rfl (aA y7 rfl)) ?_
    refine .v rfl rfl rfl rfl (ae rfl) ?_
    refine .cons rfl rfl rfl (.step ?_) ?_
    ·
     refine ah.ret rfl (aC rfl rfl) (gN E _ _ _ _ hzz36 _ _ (aF.eq (aF.eq .nil))) rfl ?_
     exact ah.nil ⟨_,_,rfl,fun _ ht=>by cases ht; exact ⟨rfl,.refl _⟩⟩
    refine .cons rfl rfl rfl (.step ?_) ?_
    ·
     refine ah.ret rfl (aC rfl rfl) (dE E _ _ _ _ _ hzz37 _ _ (aF.eq (aF.eq (aF.eq .nil)))) rfl ?_
     exact ah.nil ⟨_,_,rfl,fun _ ht=>by cases ht; exact ⟨rfl,.refl _⟩⟩
    refine .cons rfl rfl rfl (.step ?_) ?_
    ·
     refine ah.val rfl (bW (cs:=[(.d (.int .i64 z35)),(.d (.int .i64 z37)),(.d (.str [])),(.d (.str [])),(.d .aY),(.d .aY)]) lC rfl (ig) (eG rfl rfl rfl rfl (eG rfl rfl rfl rfl rfl))) rfl ?_
     refine ah.less (Less.agg' (d:=dI (bM.mk z35 z37 [] [] [])) (ak.eq rfl (ak.eq rfl (ak.eq rfl (ak.eq rfl (ak.dV rfl (.aY false) rfl rfl (ak.eq rfl .nil)))))) ((bM.eq _).trans rfl)) ?_
     exact ah.nil ⟨_,_,rfl,fun _ ht=>by cases ht; exact ⟨rfl,.refl _⟩⟩
    exact .nil
   refine ah.store H45 (i:=0) rfl rfl rfl rfl (bM.bD _) rfl dY rfl mZ rfl rfl rfl (fun S46 H47=>?_)
   refine ah.nil ⟨_,.any,_,rfl,(fun _ ht=>by cases ht),_,(.q (.q (.q (.w .any .nil)))),(fun _ ht=>by cases ht),?_⟩
   refine ⟨[],by kernel_rfl,?_,_,rfl,?_⟩
   ·
    exact .nil
   refine ax.seq ?_
   refine ax.region E.obj rfl ?_
   refine ah.val rfl (aj rfl Hw zf rfl) rfl ?_
   refine ah.val rfl (av H47 (i:=2) rfl rfl (aA y7 rfl)) rfl ?_
   refine ah.val rfl (ae rfl) rfl ?_
   obtain ⟨z48,hzz48,h⟩:=bind_some h
   refine ah.ret rfl (aC rfl rfl) (gN E _ _ _ _ hzz48 _ _ (aF.eq (aF.eq .nil))) rfl ?_
   refine ah.val rfl (ai rfl) rfl ?_
   refine ah.nil ?_
   refine ax.join (B:=aI) (α:=Str × Str × (List Attr)) (fun a=>bI x20 x22 x24 (aQ n a1 z8 k25) x32 z35 z37 a.1 a.2.1 a.2.2=some r) (fun a=>[(1,(.ptr b2 0 0)),(2,(.ptr b5 0 0)),(3,(.d (.sl ((([[100,105,118],[112],[108,105],[98]]:List Str)).map D.str) true))),(4,(.d (.sl ((([[105,100],[112,97],[112,98],[108,97,115,116]]:List Str)).map D.str) true))),(5,(.d (.sl ((z8).map D.str) false))),(6,v21),(7,v23),(8,(.d (.int .i64 x24))),(9,(.d (.int .i64 x32))),(11,(.ptr b43 0 0))]) (fun a=>[.box b43 [(.d (.int .i64 (bM.mk z35 z37 [] [] []).Kind)),(.d (.int .i64 (bM.mk z35 z37 [] [] []).N)),(.d (.str a.1)),(.d (.str a.2.1)),(.d (.sl ((a.2.2).map aB) false)),(.d .aY)],.box b5 [(.d (.int .i64 0)),(.d (.int .i64 0)),(.d (.str [])),(.d (.str [])),(.d .aY),(.d .aY)],.box b2 [(.d (.sl ((a1.Under).map (D.int .i64)) false)),(.d (.sl ((a1.Kinds).map (D.int .i64)) false)),(.d (.sl ((a1.Ns).map (D.int .i64)) false)),(.d (.sl ((a1.Texts).map (D.int .i64)) false))],.grow v21 ((x20).map dI),.grow v23 ((x22).map (D.int .i64))]) ?_ ?_
   ·
    intro a S49 H50 h
    obtain ⟨x51,x52,x53⟩:=a
    replace h:bI x20 x22 x24 (aQ n a1 z8 k25) x32 z35 z37 x51 x52 x53=some r:=h
    replace H50:Has aI S49 [.box b43 [(.d (.int .i64 (bM.mk z35 z37 [] [] []).Kind)),(.d (.int .i64 (bM.mk z35 z37 [] [] []).N)),(.d (.str x51)),(.d (.str x52)),(.d (.sl ((x53).map aB) false)),(.d .aY)],.box b5 [(.d (.int .i64 0)),(.d (.int .i64 0)),(.d (.str [])),(.d (.str [])),(.d .aY),(.d .aY)],.box b2 [(.d (.sl ((a1.Under).map (D.int .i64)) false)),(.d (.sl ((a1.Kinds).map (D.int .i64)) false)),(.d (.sl ((a1.Ns).map (D.int .i64)) false)),(.d (.sl ((a1.Texts).map (D.int .i64)) false))],.grow v21 ((x20).map dI),.grow v23 ((x22).map (D.int .i64))]:=H50
    unfold bI at h
    refine ax.region E.obj rfl ?_
    refine ah.val rfl (ae rfl) rfl ?_
    refine ah.val rfl (av H50 (i:=0) rfl rfl (aW gY dY rfl)) rfl ?_
    refine ah.less (Less.agg' (d:=dI (bM.mk ((bM.mk z35 z37 [] [] []).Kind) ((bM.mk z35 z37 [] [] []).N) x51 x52 x53)) (ak.eq rfl (ak.eq rfl (ak.eq rfl (ak.eq rfl (ak.eq rfl (ak.eq rfl .nil)))))) ((bM.eq _).trans rfl)) ?_
    refine ah.val rfl (aR (vs:=[(.d (dI (bM.mk ((bM.mk z35 z37 [] [] []).Kind) ((bM.mk z35 z37 [] [] []).N) x51 x52 x53)))]) (ds:=[(dI (bM.mk ((bM.mk z35 z37 [] [] []).Kind) ((bM.mk z35 z37 [] [] []).N) x51 x52 x53))]) Aq qh gY lC dY rfl (by decide) (.cons rfl (bM.len _) .nil) rfl (by intro d hd; simp only [List.mem_cons,List.not_mem_nil,or_false] at hd; rcases hd with rfl <;> exact bM.agg _) rfl) rfl ?_
    obtain ⟨z55,hzz55,h⟩:=bind_some h
    refine ah.append (xs:=(x20).map dI) (ys:=([(bM.mk ((bM.mk z35 z37 [] [] []).Kind) ((bM.mk z35 z37 [] [] []).N) x51 x52 x53)]).map dI) (zs:=(z55).map dI) H50 rfl rfl rfl (i:=3) rfl rfl Aq Iw qh (iL hzz55) IE rfl (dK (enc:=dI) (fun z=>(bM.len z).trans dY.symm) _) (dK (enc:=dI) (fun z=>(bM.len z).trans dY.symm) _) IQ rfl (mM hzz55) (fun v56 S57 H58=>?_)
    refine ah.val rfl (ae rfl) rfl ?_
    refine ah.val rfl (ae rfl) rfl ?_
    refine ah.val rfl (aR (vs:=[(.d (.int .i64 x32))]) (ds:=[(.int .i64 x32)]) Cc mH jL Io tu rfl (by decide) (.cons rfl rfl .nil) rfl (by intro d hd; simp only [List.mem_cons,List.not_mem_nil,or_false] at hd; rcases hd with rfl <;> rfl) rfl) rfl ?_
    obtain ⟨z59,hzz59,h⟩:=bind_some h
    refine ah.append (xs:=(x22).map (D.int .i64)) (ys:=([x32]).map (D.int .i64)) (zs:=(z59).map (D.int .i64)) H58 rfl rfl rfl (i:=4) rfl rfl Cc IM mH (iL hzz59) Jn rfl (dK (enc:=(D.int .i64)) (fun _=>tu.symm) _) (dK (enc:=(D.int .i64)) (fun _=>tu.symm) _) KH rfl (mM hzz59) (fun v60 S61 H62=>?_)
    refine ah.val rfl (ai rfl) rfl ?_
    refine ah.val rfl (ai rfl) rfl ?_
    refine ah.nil ?_
    refine ax.region E.obj rfl ?_
    refine ah.val rfl (ae rfl) rfl ?_
    refine ah.val rfl (au rfl rfl bq) rfl ?_
    refine ah.val rfl (ai rfl) rfl ?_
    refine ah.nil ?_
    exact ⟨⟨z55,v56,z59,v60,(IntKind.wrap .i64 (x24 + 1))⟩,_,_,S61,.refl _ _,.refl _,(aa.r rfl (aa.r rfl (aa.r rfl (aa.r rfl (aa.r rfl (aa.r rfl (aa.r rfl (aa.r rfl aa.nil)))))))),H62.sl [1,2,3,4] rfl rfl,h⟩
   refine ax.seq ?_
   refine ax.region E.obj rfl ?_
   refine ah.val rfl (aj rfl fe l7 rfl) rfl ?_
   refine ah.val rfl (av H47 (i:=0) rfl rfl (aA jL rfl)) rfl ?_
   refine ah.nil ?_
   refine ax.block ?_
   refine ax.seq ?_
   refine ax.region E.obj rfl ?_
   refine ah.val rfl (au rfl rfl aU) rfl ?_
   refine ah.val rfl (ai rfl) rfl ?_
   refine ah.nil ?_
   refine ax.cond rfl (fun hb63=>?_) (fun hb63=>?_)
   ·
    replace h:=bO hb63 h
    refine ax.seq ?_
    refine ax.region E.obj rfl ?_
    refine ah.val rfl (ae rfl) rfl ?_
    refine ah.val rfl (ae rfl) rfl ?_
    refine ah.val rfl (ae rfl) rfl ?_
    refine ah.val rfl (aO rfl GA) rfl ?_
    refine ah.val rfl (au rfl rfl mV) rfl ?_
    obtain ⟨z64,hzz64,h⟩:=bind_some h
    refine ah.ret rfl (aC rfl rfl) (dE E _ _ _ _ _ hzz64 _ _ (aF.eq (aF.eq (aF.eq .nil)))) rfl ?_
    obtain ⟨z65,hzz65,h⟩:=bind_some h
    refine ah.val rfl (bA rfl rfl (cZ (enc:=D.str) hzz65 BV Gx (((fun _=>rfl) _).trans Ey.symm))) rfl ?_
    refine ah.val rfl (aV rfl (fQ j5 rfl)) rfl ?_
    refine ah.val rfl (aj rfl oL kI rfl) rfl ?_
    refine ah.store H47 (i:=0) rfl rfl rfl rfl rfl rfl Ey rfl Gx rfl rfl rfl (fun S66 H67=>?_)
    refine ah.nil ?_
    refine ax.seq ?_
    refine ax.region E.obj rfl ?_
    refine ah.val rfl (ae rfl) rfl ?_
    refine ah.val rfl (au rfl rfl E8) rfl ?_
    refine ah.val rfl (au rfl rfl aU) rfl ?_
    refine ah.nil ?_
    refine ax.cond rfl (fun hb68=>?_) (fun hb68=>?_)
    ·
     replace h:=bO hb68 h
     refine ax.region E.obj rfl ?_
     refine ah.val rfl (ae rfl) rfl ?_
     refine ah.val rfl (ae rfl) rfl ?_
     obtain ⟨z69,hzz69,h⟩:=bind_some h
     refine ah.val rfl (au rfl rfl (yD hzz69)) rfl ?_
     refine ah.val rfl (ae rfl) rfl ?_
     refine ah.val rfl (aO rfl GA) rfl ?_
     refine ah.val rfl (au rfl rfl mV) rfl ?_
     obtain ⟨z70,hzz70,h⟩:=bind_some h
     refine ah.ret rfl (aC rfl rfl) (dE E _ _ _ _ _ hzz70 _ _ (aF.eq (aF.eq (aF.eq .nil)))) rfl ?_
     obtain ⟨z71,hzz71,h⟩:=bind_some h
     refine ah.val rfl (bA rfl rfl (cZ (enc:=D.str) hzz71 BV Gx (((fun _=>rfl) _).trans Ey.symm))) rfl ?_
     refine ah.val rfl (aV rfl (fQ j5 rfl)) rfl ?_
     refine ah.val rfl (bW (cs:=[(.d (.str [120])),(.d (.str z71))]) Gm rfl (wN) (eG rfl rfl rfl rfl (eG rfl rfl rfl rfl rfl))) rfl ?_
     refine ah.less (Less.agg' (d:=aB (Attr.mk [120] z71)) (ak.eq rfl (ak.eq rfl .nil)) ((Attr.eq _).trans rfl)) ?_
     refine ah.val rfl (aR (vs:=[(.d (aB (Attr.mk [120] z71)))]) (ds:=[(aB (Attr.mk [120] z71))]) Ic zx Et Gm pG rfl (by decide) (.cons rfl (Attr.len _) .nil) rfl (by intro d hd; simp only [List.mem_cons,List.not_mem_nil,or_false] at hd; rcases hd with rfl <;> exact Attr.agg _) rfl) rfl ?_
     refine ah.val rfl (aj rfl zq tK rfl) rfl ?_
     refine ah.store H67 (i:=0) rfl rfl rfl rfl rfl rfl Kq rfl KA rfl rfl rfl (fun S72 H73=>?_)
     refine ah.nil ?_
     obtain ⟨S74,hw75,H76⟩:=H73.Dp (i:=0) (cs':=[(.d (.int .i64 (bM.mk z35 z37 [] [] []).Kind)),(.d (.int .i64 (bM.mk z35 z37 [] [] []).N)),(.d (.str z65)),(.d (.str (bM.mk z35 z37 [] [] []).Text)),(.d (.sl (([(Attr.mk [120] z71)]).map aB) false)),(.d .aY)]) rfl (.cons (.refl _) (.cons (.refl _) (.cons (.refl _) (.cons (.refl _) (.cons uZ (.cons (.refl _) .nil))))))
     exact ⟨⟨z65,(bM.mk z35 z37 [] [] []).Text,[(Attr.mk [120] z71)]⟩,_,_,S74,.refl _ _,hw75,(aa.r rfl (aa.r rfl (aa.r rfl (aa.r rfl (aa.r rfl (aa.r rfl (aa.r rfl (aa.r rfl (aa.r rfl (aa.r rfl aa.nil)))))))))),H76.sl [0,1,2,3,4] rfl rfl,h⟩
    replace h:=bQ hb68 h
    refine ax.skip ?_
    exact ⟨⟨z65,(bM.mk z35 z37 [] [] []).Text,(bM.mk z35 z37 [] [] []).aH⟩,_,_,S66,.refl _ _,.refl _,(aa.r rfl (aa.r rfl (aa.r rfl (aa.r rfl (aa.r rfl (aa.r rfl (aa.r rfl (aa.r rfl (aa.r rfl (aa.r rfl aa.nil)))))))))),H67.sl [0,1,2,3,4] rfl rfl,h⟩
   replace h:=bQ hb63 h
   refine ax.seq ?_
   refine ax.region E.obj rfl ?_
   refine ah.val rfl (au rfl rfl aU) rfl ?_
   refine ah.val rfl (ai rfl) rfl ?_
   refine ah.nil ?_
   refine ax.cond rfl (fun hb77=>?_) (fun hb77=>?_)
   ·
    replace h:=bO hb77 h
    refine ax.region E.obj rfl ?_
    refine ah.val rfl (ae rfl) rfl ?_
    refine ah.val rfl (ae rfl) rfl ?_
    refine ah.val rfl (ae rfl) rfl ?_
    refine ah.val rfl (aO rfl GA) rfl ?_
    refine ah.val rfl (au rfl rfl mV) rfl ?_
    obtain ⟨z78,hzz78,h⟩:=bind_some h
    refine ah.ret rfl (aC rfl rfl) (dE E _ _ _ _ _ hzz78 _ _ (aF.eq (aF.eq (aF.eq .nil)))) rfl ?_
    obtain ⟨z79,hzz79,h⟩:=bind_some h
    refine ah.val rfl (bA rfl rfl (cZ (enc:=D.str) hzz79 BV Gx (((fun _=>rfl) _).trans Ey.symm))) rfl ?_
    refine ah.val rfl (aV rfl (fQ j5 rfl)) rfl ?_
    refine ah.val rfl (aj rfl ug kI rfl) rfl ?_
    refine ah.store H47 (i:=0) rfl rfl rfl rfl rfl rfl Ey rfl Gx rfl rfl rfl (fun S80 H81=>?_)
    refine ah.nil ?_
    exact ⟨⟨(bM.mk z35 z37 [] [] []).Tag,z79,(bM.mk z35 z37 [] [] []).aH⟩,_,_,S80,.refl _ _,.refl _,(aa.r rfl (aa.r rfl (aa.r rfl (aa.r rfl (aa.r rfl (aa.r rfl (aa.r rfl (aa.r rfl (aa.r rfl (aa.r rfl aa.nil)))))))))),H81.sl [0,1,2,3,4] rfl rfl,h⟩
   replace h:=bQ hb77 h
   refine ax.seq ?_
   refine ax.region E.obj rfl ?_
   refine ah.val rfl (au rfl rfl aU) rfl ?_
   refine ah.val rfl (ai rfl) rfl ?_
   refine ah.nil ?_
   refine ax.cond rfl (fun hb82=>?_) (fun hb82=>?_)
   ·
    replace h:=bO hb82 h
    refine ax.region E.obj rfl ?_
    refine ah.val rfl (ae rfl) rfl ?_
    refine ah.val rfl (ae rfl) rfl ?_
    refine ah.val rfl (ae rfl) rfl ?_
    refine ah.val rfl (aO rfl GA) rfl ?_
    refine ah.val rfl (au rfl rfl mV) rfl ?_
    obtain ⟨z83,hzz83,h⟩:=bind_some h
    refine ah.ret rfl (aC rfl rfl) (dE E _ _ _ _ _ hzz83 _ _ (aF.eq (aF.eq (aF.eq .nil)))) rfl ?_
    obtain ⟨z84,hzz84,h⟩:=bind_some h
    refine ah.val rfl (bA rfl rfl (cZ (enc:=D.str) hzz84 BV Gx (((fun _=>rfl) _).trans Ey.symm))) rfl ?_
    refine ah.val rfl (aV rfl (fQ j5 rfl)) rfl ?_
    refine ah.val rfl (aj rfl ug kI rfl) rfl ?_
    refine ah.store H47 (i:=0) rfl rfl rfl rfl rfl rfl Ey rfl Gx rfl rfl rfl (fun S85 H86=>?_)
    refine ah.nil ?_
    exact ⟨⟨(bM.mk z35 z37 [] [] []).Tag,z84,(bM.mk z35 z37 [] [] []).aH⟩,_,_,S85,.refl _ _,.refl _,(aa.r rfl (aa.r rfl (aa.r rfl (aa.r rfl (aa.r rfl (aa.r rfl (aa.r rfl (aa.r rfl (aa.r rfl (aa.r rfl aa.nil)))))))))),H86.sl [0,1,2,3,4] rfl rfl,h⟩
   replace h:=bQ hb82 h
   refine ax.skip ?_
   exact ⟨⟨(bM.mk z35 z37 [] [] []).Tag,(bM.mk z35 z37 [] [] []).Text,(bM.mk z35 z37 [] [] []).aH⟩,_,_,S46,.refl _ _,.refl _,(aa.r rfl (aa.r rfl (aa.r rfl (aa.r rfl (aa.r rfl (aa.r rfl (aa.r rfl (aa.r rfl (aa.r rfl (aa.r rfl aa.nil)))))))))),H47.sl [0,1,2,3,4] rfl rfl,h⟩
  refine ax.seq ?_
  refine ax.region E.obj rfl ?_
  refine ah.val rfl (ae rfl) rfl ?_
  refine ah.val rfl (ae rfl) rfl ?_
  obtain ⟨z87,hzz87,h⟩:=bind_some h
  refine ah.val rfl (bA rfl rfl (y8 (enc:=dI) H19 (i:=2) rfl hzz87 qh mZ ((bM.len _).trans dY.symm))) rfl ?_
  refine ah.val rfl (lN rfl fe l7 rfl) rfl ?_
  refine ah.val rfl (aV rfl (by rw [bM.cells]; exact fQ jL rfl)) rfl ?_
  refine ah.val rfl (ai rfl) rfl ?_
  refine ah.nil ?_
  refine ax.seq ?_
  refine ax.region E.obj rfl ?_
  refine ah.val rfl (ae rfl) rfl ?_
  refine ah.val rfl (au rfl rfl jl) rfl ?_
  refine ah.val rfl (ae rfl) rfl ?_
  refine ah.aZ 3 49 (.d (.bool ((z87.Kind != 1) && (z87.Kind != 5)))) ?_ ?_
  ·
   rcases Bool.eq_false_or_eq_true ((z87.Kind != 1)) with hB88 | hB88
   ·
    refine ah.bool hB88 ?_
    refine ah.val rfl (ae rfl) rfl ?_
    refine ah.val rfl (au rfl rfl jl) rfl ?_
    refine ah.val rfl (ay (b:=true) rfl rfl) rfl ?_
    exact ah.nil ⟨_,rfl,(aa.put (aa.push rfl (aa.push rfl (aa.put (.refl _) (Less.eq (by rw [hB88]))))) (Less.eq (by rw [hB88]; rw [Bool.true_and])))⟩
   refine ah.bool hB88 ?_
   refine ah.no rfl rfl ?_
   refine ah.no rfl rfl ?_
   refine ah.val rfl (ay (b:=false) rfl rfl) rfl ?_
   exact ah.nil ⟨_,rfl,(aa.put (aa.push rfl (aa.push rfl (aa.put (.refl _) (Less.eq (by rw [hB88]))))) (Less.eq (by rw [hB88]; rw [Bool.false_and])))⟩
  refine ah.val rfl (ae rfl) rfl ?_
  refine ah.aZ 3 53 (.d (.bool (((z87.Kind != 1) && (z87.Kind != 5)) && (z87.Kind != 6)))) ?_ ?_
  ·
   rcases Bool.eq_false_or_eq_true (((z87.Kind != 1) && (z87.Kind != 5))) with hB89 | hB89
   ·
    refine ah.bool hB89 ?_
    refine ah.val rfl (ae rfl) rfl ?_
    refine ah.val rfl (au rfl rfl jl) rfl ?_
    refine ah.val rfl (ay (b:=true) rfl rfl) rfl ?_
    exact ah.nil ⟨_,rfl,(aa.put (aa.push rfl (aa.push rfl (aa.put (.refl _) (Less.eq (by rw [hB89]))))) (Less.eq (by rw [hB89]; rw [Bool.true_and])))⟩
   refine ah.bool hB89 ?_
   refine ah.no rfl rfl ?_
   refine ah.no rfl rfl ?_
   refine ah.val rfl (ay (b:=false) rfl rfl) rfl ?_
   exact ah.nil ⟨_,rfl,(aa.put (aa.push rfl (aa.push rfl (aa.put (.refl _) (Less.eq (by rw [hB89]))))) (Less.eq (by rw [hB89]; rw [Bool.false_and])))⟩
  refine ah.val rfl (ae rfl) rfl ?_
  obtain ⟨z91,hzz91,h⟩:=bind_some h
  refine ah.aZ 5 59 (.d (.bool z91)) ?_ ?_
  ·
   rcases Bool.eq_false_or_eq_true ((((z87.Kind != 1) && (z87.Kind != 5)) && (z87.Kind != 6))) with hB90 | hB90
   ·
    refine ah.bool hB90 ?_
    refine ah.no rfl rfl ?_
    refine ah.no rfl rfl ?_
    refine ah.no rfl rfl ?_
    refine ah.no rfl rfl ?_
    refine ah.val rfl (ay (b:=true) rfl rfl) rfl ?_
    replace hzz91:=bO hB90 hzz91
    cases hzz91
    exact ah.nil ⟨_,rfl,(aa.put (aa.push rfl (aa.push rfl (aa.push rfl (aa.push rfl (aa.put (.refl _) (Less.eq (by rw [hB90]))))))) (.refl _))⟩
   refine ah.bool hB90 ?_
   replace hzz91:=bQ hB90 hzz91
   refine ah.val rfl (ae rfl) rfl ?_
   refine ah.val rfl (ae rfl) rfl ?_
   obtain ⟨z92,hzz92,hzz91⟩:=bind_some hzz91
   refine ah.ret rfl (aC rfl rfl) (qG E _ _ _ _ hzz92 _ _ (aF.grow H19 (i:=3) rfl (aF.eq .nil))) rfl ?_
   refine ah.val rfl (au rfl rfl fJ) rfl ?_
   refine ah.val rfl (ay (b:=false) rfl rfl) rfl ?_
   cases hzz91
   exact ah.nil ⟨_,rfl,(aa.put (aa.push rfl (aa.push rfl (aa.push rfl (aa.push rfl (aa.put (.refl _) (Less.eq (by rw [hB90]))))))) (.refl _))⟩
  refine ah.nil ?_
  refine ax.cond rfl (fun hb93=>?_) (fun hb93=>?_)
  ·
   replace h:=bO hb93 h
   refine ax.region E.obj rfl ?_
   refine ah.val rfl (ai rfl) rfl ?_
   refine ah.nil ?_
   exact ⟨0,_,_,S18,.refl _ _,.refl _,(aa.r rfl (aa.r rfl (aa.r rfl (aa.r rfl (aa.r rfl (aa.r rfl (aa.r rfl (aa.r rfl (aa.r rfl aa.nil))))))))),H19.sl [0,1,2,3] rfl rfl,h⟩
  replace h:=bQ hb93 h
  refine ax.skip ?_
  exact ⟨z29,_,_,S18,.refl _ _,.refl _,(aa.r rfl (aa.r rfl (aa.r rfl (aa.r rfl (aa.r rfl (aa.r rfl (aa.r rfl (aa.r rfl (aa.r rfl aa.nil))))))))),H19.sl [0,1,2,3] rfl rfl,h⟩
 replace h:=bQ hb27 h
 refine ax.exit ?_
 refine ax.seq ?_
 refine ax.region E.obj rfl ?_
 refine ah.val rfl (ae rfl) rfl ?_
 refine ah.val rfl (ae rfl) rfl ?_
 obtain ⟨z94,hzz94,h⟩:=bind_some h
 refine ah.ret rfl (aC rfl rfl) (lU E _ _ _ _ _ hzz94 _ _ (aF.grow H19 (i:=2) rfl (aF.grow H19 (i:=3) rfl (aF.eq .nil)))) rfl ?_
 refine ah.store H19 (i:=0) rfl rfl rfl rfl (aT.bD _) rfl dY rfl mZ rfl rfl rfl (fun S95 H96=>?_)
 refine ah.nil ?_
 have hr:=Option.some.inj h
 subst hr
 exact ax.ret ⟨_,qU H96 (i:=0) rfl rfl rfl (aW gY dY rfl),rfl,gL (aF.mr (d:=aD z94) (ak.eq rfl (ak.eq rfl (ak.eq rfl (ak.eq rfl (ak.eq rfl (ak.eq rfl .nil)))))) ((aT.eq _).trans rfl))⟩
set_option maxRecDepth 20000 in
set_option maxHeartbeats 4000000 in
theorem nR (n:Nat) (a1:(List Int)) (a2:Int) (r:(List Int)) (h:fZ n a1 a2=some r):di R cfg.P 14 [(.sl ((a1).map (D.int .i64)) false),(.int .i64 a2)] (.d (.sl ((r).map (D.int .i64)) false)):=by
 unfold fZ at h
 refine di.of_wp (qL E).toObjOk (C:=FY) Tryd.func14 rfl Jk rfl ?_
 have H0:Has aI aI []:=Has.pure
 refine ax.seq ?_
 refine ax.region (qL E) rfl ?_
 refine ah.val rfl (ai rfl) rfl ?_
 refine ah.nil ?_
 refine ax.seq ?_
 refine ax.region (qL E) rfl ?_
 refine ah.val rfl (ae rfl) rfl ?_
 refine ah.val rfl (aO rfl oF) rfl ?_
 refine ah.val rfl (au rfl rfl bq) rfl ?_
 obtain ⟨z3,hzz3,h⟩:=bind_some h
 refine ah.Gv (enc:=(D.int .i64)) (z:=0) H0 rfl rfl rfl mH Io Jn rfl tu rfl G9 (.cons (.refl _) .nil) rfl hzz3 rfl (fun v4 S5 H6=>?_)
 refine ah.val rfl (ai rfl) rfl ?_
 refine ah.nil ?_
 refine ax.seq ?_
 refine ax.region (qL E) rfl ?_
 refine ah.val rfl (ae rfl) rfl ?_
 refine ah.val rfl (ae rfl) rfl ?_
 obtain ⟨z7,hzz7,h⟩:=bind_some h
 refine ah.Gg (enc:=(D.int .i64)) (xs:=z3) (ys:=a1) (zs:=z7) H6 rfl rfl rfl (i:=0) rfl tu rfl mH hzz7 (dK (enc:=(D.int .i64)) (fun _=>tu.symm) _) (Fp (fun _=>rfl) _) rfl (fun S8 H9=>?_)
 refine ah.nil ?_
 refine ax.seq ?_
 refine ax.seq ?_
 refine ax.region (qL E) rfl ?_
 refine ah.val rfl (ae rfl) rfl ?_
 refine ah.val rfl (aO rfl oF) rfl ?_
 refine ah.val rfl (ai rfl) rfl ?_
 refine ah.nil ?_
 refine ax.block ?_
 refine lV.start (B:=aI) (α:=(List Int) × Int) (fun k a=>bY a2 k a.1 a.2=some r) (fun a=>[(1,(.d (.int .i64 a2))),(5,v4),(6,(.d (.int .i64 a.2)))]) (fun a=>[.row 1 v4 ((a.1).map (D.int .i64))]) ?_ ?_ n ⟨⟨z7,((a1).length:Int)⟩,_,_,S8,.refl _ _,.refl _,(aa.r rfl (aa.r rfl (aa.r rfl aa.nil))),H9.sl [0] rfl rfl,h⟩
 ·
  intro a h; simp [bY] at h
 intro k20 a S16 H17 h
 obtain ⟨x18,x19⟩:=a
 replace h:bY a2 (k20 + 1) x18 x19=some r:=h
 replace H17:Has aI S16 [.row 1 v4 ((x18).map (D.int .i64))]:=H17
 unfold bY at h
 refine ax.seq ?_
 refine ax.seq ?_
 refine ax.region (qL E) rfl ?_
 refine ah.val rfl (ae rfl) rfl ?_
 refine ah.val rfl (ae rfl) rfl ?_
 refine ah.val rfl (DZ H17 (i:=0) rfl rfl oF) rfl ?_
 refine ah.val rfl (au rfl rfl bJ) rfl ?_
 refine ah.nil ?_
 refine ax.cond rfl (fun hb21=>?_) (fun hb21=>?_)
 ·
  replace h:=bO hb21 h
  refine ax.skip ?_
  refine ax.seq ?_
  refine ax.block ?_
  refine ax.region (qL E) rfl ?_
  refine ah.val rfl (ae rfl) rfl ?_
  refine ah.val rfl (ae rfl) rfl ?_
  refine ah.val rfl (ae rfl) rfl ?_
  obtain ⟨z22,hzz22,h⟩:=bind_some h
  refine ah.GD (enc:=(D.int .i64)) H17 rfl (i:=0) rfl rfl rfl hzz22 mH C9 (((fun _=>rfl) _).trans tu.symm) rfl ?_
  refine ah.DY (enc:=(D.int .i64)) (z':=a2) (cv:=[(.int .i64 a2)]) H17 rfl (i:=0) rfl hzz22 rfl rfl rfl (.cons (.refl _) .nil) tu rfl C9 rfl rfl rfl (fun S23 H24=>?_)
  refine ah.nil ?_
  refine ax.region (qL E) rfl ?_
  refine ah.val rfl (ae rfl) rfl ?_
  refine ah.val rfl (au rfl rfl bq) rfl ?_
  refine ah.val rfl (ai rfl) rfl ?_
  refine ah.nil ?_
  exact ⟨⟨(CF x18 x19 a2),(IntKind.wrap .i64 (x19 + 1))⟩,_,_,S23,.refl _ _,.refl _,(aa.r rfl (aa.r rfl (aa.r rfl aa.nil))),H24.sl [0] rfl rfl,h⟩
 replace h:=bQ hb21 h
 refine ax.exit ?_
 refine ax.seq ?_
 refine ax.region (qL E) rfl ?_
 refine ah.val rfl (ae rfl) rfl ?_
 refine ah.val rfl (ai rfl) rfl ?_
 refine ah.nil ?_
 obtain ⟨SF1,HF1,hgF1⟩:=H17.freeze (qL E).toObjOk (i:=0) (l':=[]) rfl .nil
 refine ax.ghost (hgF1 _ _ [(1,(.d (.int .i64 a2))),(4,(.d (.sl ((x18).map (D.int .i64)) false))),(5,(.d (.sl ((x18).map (D.int .i64)) false))),(6,(.d (.int .i64 x19))),(16,(.d (.int .i64 x19))),(17,(.d (.sl ((x18).map (D.int .i64)) false))),(18,(.d (.int .i64 ((x18).length:Int)))),(19,(.d (.bool (decide (x19 < ((x18).length:Int)))))),(26,(.d (.sl ((x18).map (D.int .i64)) false)))] (.cons rfl (.refl _) (.it rfl (.it rfl (.cons rfl (.refl _) (.cons rfl (.refl _) (.it rfl (.cons rfl (.refl _) (.cons rfl (.refl _) (.it rfl .nil)))))))))) ?_
 have hr:=Option.some.inj h
 subst hr
 exact ax.ret ⟨_,rfl,rfl,gL (aF.eq .nil)⟩
set_option maxRecDepth 20000 in
set_option maxHeartbeats 4000000 in
theorem jq (prow:aT→(List Int)→(List dQ)→Int→Option ((List Tree) × Bool × Int)) (hprow:∀ (x0:aT) (x1:(List Int)) (x2:(List dQ)) (x3:Int) (r:((List Tree) × Bool × Int)),prow x0 x1 x2 x3=some r→∀ (b:Nat),rZ R cfg.P 40 [.d (aD x0),.d (.sl ((x1).map (D.int .i64)) false),.d (.sl ((x2).map aJ) false),.ptr b 0 0] [.box b [.d (.int .i64 x3)]] (fun v l=>v=.tup [.d (.sl ((r.1).map az) false),.d (.bool r.2.1)]∧l=[.box b [.d (.int .i64 r.2.2)]])) (n:Nat) (a1:(List aT)) (a2:(List Int)) (a3:(List dQ)) (a5:Int) (r:((List Tree) × Bool × Int)) (h:eU prow n a1 a2 a3 a5=some r) (b4:Nat):rZ R cfg.P 60 [.d (.sl ((a1).map aD) false),.d (.sl ((a2).map (D.int .i64)) false),.d (.sl ((a3).map aJ) false),.ptr b4 0 0] [.box b4 [(.d (.int .i64 a5))]] (fun v l=>v=.tup [.d (.sl ((r.1).map az) false),.d (.bool r.2.1)]∧l=[.box b4 [.d (.int .i64 r.2.2)]]):=by
 unfold eU at h
 refine rZ.of_wp (C:=cfg) Tryd.func60 rfl Ku rfl (fun B0 S0 H0=>?_)
 replace H0:Has B0 S0 [.box b4 [(.d (.int .i64 a5))]]:=H0
 refine ax.seq ?_
 refine ax.region E.obj rfl ?_
 refine ah.val rfl (ai rfl) rfl ?_
 refine ah.val rfl (ai rfl) rfl ?_
 refine ah.nil ?_
 refine ax.seq ?_
 refine ax.region E.obj rfl ?_
 refine ah.val rfl (ai rfl) rfl ?_
 refine ah.nil ?_
 refine ax.seq ?_
 refine ax.seq ?_
 refine ax.region E.obj rfl ?_
 refine ah.val rfl (ae rfl) rfl ?_
 refine ah.val rfl (aO rfl w9) rfl ?_
 refine ah.val rfl (ae rfl) rfl ?_
 refine ah.nil ?_
 refine ax.block ?_
 have H36:=H0.Cn
 refine lV.start (B:=B0) (α:=Int × (List Tree) × AV × Int) (fun k a=>dD prow a1 a2 a3 k a.1 a.2.1 a.2.2.2=some r) (fun a=>[(1,(.d (.sl ((a2).map (D.int .i64)) false))),(2,(.d (.sl ((a3).map aJ) false))),(3,(.ptr b4 0 0)),(10,a.2.2.1),(15,(.d (.sl ((a1).map aD) false))),(16,(.d (.int .i64 ((a1).length:Int)))),(17,(.d (.int .i64 a.2.2.2)))]) (fun a=>[.box b4 [(.d (.int .i64 a.1))],.grow a.2.2.1 ((a.2.1).map az)]) ?_ ?_ n ⟨⟨a5,[],(.d .aY),0⟩,_,_,S0,.refl _ _,.refl _,(aa.r rfl (aa.r rfl (aa.r rfl (aa.r rfl (aa.r rfl (aa.r rfl (aa.r rfl aa.nil))))))),H36.sl [1,0] rfl rfl,h⟩
 ·
  intro a h; simp [dD] at h
 intro k20 a S14 H15 h
 obtain ⟨x16,x17,v18,x19⟩:=a
 replace h:dD prow a1 a2 a3 (k20 + 1) x16 x17 x19=some r:=h
 replace H15:Has B0 S14 [.box b4 [(.d (.int .i64 x16))],.grow v18 ((x17).map az)]:=H15
 unfold dD at h
 refine ax.seq ?_
 refine ax.region E.obj rfl ?_
 refine ah.val rfl (au rfl rfl bJ) rfl ?_
 refine ah.nil ?_
 refine ax.seq ?_
 refine ax.cond rfl (fun hb21=>?_) (fun hb21=>?_)
 ·
  replace h:=bO hb21 h
  refine ax.skip ?_
  refine ax.seq ?_
  refine ax.block ?_
  refine ax.seq ?_
  refine ax.region E.obj rfl ?_
  obtain ⟨z22,hzz22,h⟩:=bind_some h
  refine ah.val rfl (bA rfl rfl (cZ (enc:=aD) hzz22 qh mZ ((aT.len _).trans dY.symm))) rfl ?_
  refine ah.val rfl (aV rfl (aT.ib gY dY)) rfl ?_
  refine ah.alloc H15 rfl uB lC rfl rfl (fun b23 S24 H25=>?_)
  refine ah.store H25 (i:=0) rfl rfl rfl rfl (aT.bD _) rfl dY rfl mZ rfl rfl rfl (fun S26 H27=>?_)
  refine ah.nil ?_
  refine ax.seq ?_
  refine ax.region E.obj rfl ?_
  refine ah.val rfl (av H27 (i:=0) rfl rfl (aW gY dY rfl)) rfl ?_
  refine ah.less (Less.agg' (d:=aD z22) (ak.eq rfl (ak.eq rfl (ak.eq rfl (ak.eq rfl (ak.eq rfl (ak.eq rfl .nil)))))) ((aT.eq _).trans rfl)) ?_
  refine ah.val rfl (ae rfl) rfl ?_
  refine ah.val rfl (ae rfl) rfl ?_
  refine ah.val rfl (ae rfl) rfl ?_
  obtain ⟨z28,hzz28,h⟩:=bind_some h
  refine ah.Ei (ins:=[.box b4 [(.d (.int .i64 x16))]]) (more:=[.box b23 [(.d (.int .i64 z22.Kind)),(.d (.int .i64 z22.N)),(.d (.str z22.Tag)),(.d (.str z22.Text)),(.d (.sl ((z22.aH).map aB) false)),(.d (.sl ((z22.Kids).map aD) false))],.grow v18 ((x17).map az)]) (H27.sl [1,0,2] rfl rfl) rfl (aC rfl rfl) (hprow _ _ _ _ _ hzz28 b4) (.cons (.refl _) (.cons (.refl _) (.cons (.refl _) (.cons (.refl _) .nil)))) rfl ?_
  rintro _ S29 _ ⟨rfl,rfl⟩ H30
  replace H30:Has B0 S29 [.box b4 [(.d (.int .i64 z28.2.2))],.box b23 [(.d (.int .i64 z22.Kind)),(.d (.int .i64 z22.N)),(.d (.str z22.Tag)),(.d (.str z22.Text)),(.d (.sl ((z22.aH).map aB) false)),(.d (.sl ((z22.Kids).map aD) false))],.grow v18 ((x17).map az)]:=H30
  refine ah.val rfl (ae rfl) rfl ?_
  refine ah.val rfl (aN rfl rfl) rfl ?_
  refine ah.val rfl (aN rfl rfl) rfl ?_
  refine ah.val rfl (ai rfl) rfl ?_
  refine ah.val rfl (ai rfl) rfl ?_
  refine ah.nil ?_
  refine ax.seq ?_
  refine ax.seq ?_
  refine ax.region E.obj rfl ?_
  refine ah.val rfl (ae rfl) rfl ?_
  refine ah.val rfl (dW rfl) rfl ?_
  refine ah.nil ?_
  refine ax.cond rfl (fun hb31=>?_) (fun hb31=>?_)
  ·
   replace h:=bO hb31 h
   refine ax.seq ?_
   refine ax.region E.obj rfl ?_
   refine ah.val rfl (ai rfl) rfl ?_
   refine ah.val rfl (ai rfl) rfl ?_
   refine ah.nil ?_
   have hr:=Option.some.inj h
   subst hr
   exact ax.ret ⟨_,rfl,rfl,_,_,_,.refl _,(Less.sJ vQ (.refl _)),⟨rfl,rfl⟩,H30.sl [0] rfl rfl⟩
  replace h:=bQ hb31 h
  refine ax.skip ?_
  refine ax.region E.obj rfl ?_
  refine ah.val rfl (ae rfl) rfl ?_
  refine ah.val rfl (ae rfl) rfl ?_
  obtain ⟨z32,hzz32,h⟩:=bind_some h
  refine ah.append (xs:=(x17).map az) (ys:=(z28.1).map az) (zs:=(z32).map az) H30 rfl rfl rfl (i:=2) rfl rfl pz Gl jI (iL hzz32) Gp rfl (dK (enc:=az) (fun z=>(Tree.len z).trans dO.symm) _) (dK (enc:=az) (fun z=>(Tree.len z).trans dO.symm) _) Gs rfl (mM hzz32) (fun v33 S34 H35=>?_)
  refine ah.val rfl (ai rfl) rfl ?_
  refine ah.nil ?_
  refine ax.region E.obj rfl ?_
  refine ah.val rfl (au rfl rfl bq) rfl ?_
  refine ah.val rfl (ae rfl) rfl ?_
  refine ah.nil ?_
  exact ⟨⟨z28.2.2,z32,v33,(IntKind.wrap .i64 (x19 + 1))⟩,_,_,S34,.refl _ _,.refl _,(aa.r rfl (aa.r rfl (aa.r rfl (aa.r rfl (aa.r rfl (aa.r rfl (aa.r rfl aa.nil))))))),H35.sl [0,2] rfl rfl,h⟩
 replace h:=bQ hb21 h
 refine ax.exit ?_
 refine ax.seq ?_
 refine ax.region E.obj rfl ?_
 refine ah.val rfl (ae rfl) rfl ?_
 refine ah.val rfl (ai rfl) rfl ?_
 refine ah.val rfl (ai rfl) rfl ?_
 refine ah.nil ?_
 have hr:=Option.some.inj h
 subst hr
 exact ax.ret ⟨_,rfl,rfl,_,_,_,.refl _,(Less.sJ (CK H15 (i:=1) rfl) (.refl _)),⟨rfl,rfl⟩,H15.sl [0] rfl rfl⟩
set_option maxRecDepth 20000 in
set_option maxHeartbeats 4000000 in
theorem lT (n:Nat) (a1:Int) (r:Str) (h:gZ n a1=some r):di R cfg.P 61 [(.int .i64 a1)] (.d (.str r)):=by
 unfold gZ at h
 refine di.of_wp E.obj.toObjOk (C:=cfg) Tryd.func61 rfl JH rfl ?_
 have H0:Has aI aI []:=Has.pure
 refine ax.seq ?_
 refine ax.region E.obj rfl ?_
 refine ah.val rfl (ai rfl) rfl ?_
 refine ah.nil ?_
 refine ax.seq ?_
 refine ax.region E.obj rfl ?_
 refine ah.val rfl (ae rfl) rfl ?_
 refine ah.val rfl (qP rfl K8 IA) rfl ?_
 refine ah.val rfl (ai rfl) rfl ?_
 refine ah.nil ?_
 refine ax.join (B:=aI) (α:=Int) (fun a=>fP n a1 a=some r) (fun a=>[(0,(.d (.int .i64 a1))),(3,(.d (.int .u64 a)))]) (fun a=>[]) ?_ ?_
 ·
  intro x4 S2 H3 h
  replace h:fP n a1 x4=some r:=h
  replace H3:Has aI S2 []:=H3
  unfold fP at h
  refine ax.seq ?_
  refine ax.region E.obj rfl ?_
  refine ah.val rfl (ai rfl) rfl ?_
  refine ah.nil ?_
  refine ax.seq ?_
  refine ax.block ?_
  refine lV.start (B:=aI) (α:=Int × Str) (fun k a=>bK n a1 k a.1 a.2=some r) (fun a=>[(0,(.d (.int .i64 a1))),(3,(.d (.int .u64 a.1))),(4,(.d (.str a.2)))]) (fun a=>[]) ?_ ?_ n ⟨⟨x4,[]⟩,_,_,S2,.refl _ _,.refl _,(aa.r rfl (aa.r rfl (aa.r rfl aa.nil))),H3.sl [] rfl rfl,h⟩
  ·
   intro a h; simp [bK] at h
  intro k16 a S12 H13 h
  obtain ⟨x14,x15⟩:=a
  replace h:bK n a1 (k16 + 1) x14 x15=some r:=h
  replace H13:Has aI S12 []:=H13
  unfold bK at h
  refine ax.seq ?_
  refine ax.seq ?_
  refine ax.region E.obj rfl ?_
  refine ah.val rfl (ae rfl) rfl ?_
  refine ah.val rfl (au rfl rfl fJ) rfl ?_
  refine ah.val rfl (ae rfl) rfl ?_
  refine ah.aZ 3 16 (.d (.bool ((decide (0 < x14)) || (x15 == [])))) ?_ ?_
  ·
   rcases Bool.eq_false_or_eq_true ((decide (0 < x14))) with hB17 | hB17
   ·
    refine ah.bool hB17 ?_
    refine ah.no rfl rfl ?_
    refine ah.no rfl rfl ?_
    refine ah.val rfl (ay (b:=true) rfl rfl) rfl ?_
    exact ah.nil ⟨_,rfl,(aa.put (aa.push rfl (aa.push rfl (aa.put (.refl _) (Less.eq (by rw [hB17]))))) (Less.eq (by rw [hB17]; rw [Bool.true_or])))⟩
   refine ah.bool hB17 ?_
   refine ah.val rfl (ae rfl) rfl ?_
   refine ah.val rfl (au rfl rfl gG) rfl ?_
   refine ah.val rfl (ay (b:=false) rfl rfl) rfl ?_
   exact ah.nil ⟨_,rfl,(aa.put (aa.push rfl (aa.push rfl (aa.put (.refl _) (Less.eq (by rw [hB17]))))) (Less.eq (by rw [hB17]; rw [Bool.false_or])))⟩
  refine ah.nil ?_
  refine ax.cond rfl (fun hb18=>?_) (fun hb18=>?_)
  ·
   replace h:=bO hb18 h
   refine ax.skip ?_
   refine ax.block ?_
   refine ax.seq ?_
   refine ax.region E.obj rfl ?_
   refine ah.val rfl (ae rfl) rfl ?_
   obtain ⟨z19,hzz19,h⟩:=bind_some h
   refine ah.val rfl (au rfl rfl (uj hzz19)) rfl ?_
   refine ah.val rfl (au rfl rfl bq) rfl ?_
   refine ah.val rfl (qP rfl Iq KW) rfl ?_
   refine ah.val rfl (aR (vs:=[(.d (.int .u8 (IntKind.wrap .u8 (IntKind.wrap .u64 (48 + z19)))))]) (ds:=[(.int .u8 (IntKind.wrap .u8 (IntKind.wrap .u64 (48 + z19))))]) IP I4 KO K4 K5 rfl (by decide) (.cons rfl rfl .nil) rfl (by intro d hd; simp only [List.mem_cons,List.not_mem_nil,or_false] at hd; rcases hd with rfl <;> rfl) rfl) rfl ?_
   refine ah.val rfl (vC (l:=[(IntKind.wrap .u8 (IntKind.wrap .u64 (48 + z19)))]) rfl zU IJ) rfl ?_
   refine ah.val rfl (ae rfl) rfl ?_
   obtain ⟨z20,hzz20,h⟩:=bind_some h
   refine ah.val rfl (au rfl rfl (yC hzz20)) rfl ?_
   refine ah.val rfl (ai rfl) rfl ?_
   refine ah.nil ?_
   refine ax.region E.obj rfl ?_
   refine ah.val rfl (ae rfl) rfl ?_
   obtain ⟨z21,hzz21,h⟩:=bind_some h
   refine ah.val rfl (au rfl rfl (yD hzz21)) rfl ?_
   refine ah.val rfl (ai rfl) rfl ?_
   refine ah.nil ?_
   exact ⟨⟨z21,z20⟩,_,_,S12,.refl _ _,.refl _,(aa.r rfl (aa.r rfl (aa.r rfl aa.nil))),H13.sl [] rfl rfl,h⟩
  replace h:=bQ hb18 h
  refine ax.exit ?_
  refine ax.seq ?_
  refine ax.seq ?_
  refine ax.region E.obj rfl ?_
  refine ah.val rfl (ae rfl) rfl ?_
  refine ah.val rfl (au rfl rfl bJ) rfl ?_
  refine ah.nil ?_
  refine ax.cond rfl (fun hb22=>?_) (fun hb22=>?_)
  ·
   replace h:=bO hb22 h
   refine ax.seq ?_
   refine ax.region E.obj rfl ?_
   refine ah.val rfl (ae rfl) rfl ?_
   obtain ⟨z23,hzz23,h⟩:=bind_some h
   refine ah.val rfl (au rfl rfl (yC hzz23)) rfl ?_
   refine ah.val rfl (ai rfl) rfl ?_
   refine ah.nil ?_
   have hr:=Option.some.inj h
   subst hr
   exact ax.ret ⟨_,rfl,rfl,gL (aF.eq .nil)⟩
  replace h:=bQ hb22 h
  refine ax.skip ?_
  refine ax.seq ?_
  refine ax.region E.obj rfl ?_
  refine ah.val rfl (ae rfl) rfl ?_
  refine ah.val rfl (ai rfl) rfl ?_
  refine ah.nil ?_
  have hr:=Option.some.inj h
  subst hr
  exact ax.ret ⟨_,rfl,rfl,gL (aF.eq .nil)⟩
 refine ax.seq ?_
 refine ax.region E.obj rfl ?_
 refine ah.val rfl (ae rfl) rfl ?_
 refine ah.val rfl (au rfl rfl bJ) rfl ?_
 refine ah.nil ?_
 refine ax.cond rfl (fun hb24=>?_) (fun hb24=>?_)
 ·
  replace h:=bO hb24 h
  refine ax.region E.obj rfl ?_
  refine ah.val rfl (ae rfl) rfl ?_
  refine ah.val rfl (Fj rfl) rfl ?_
  refine ah.val rfl (ai rfl) rfl ?_
  refine ah.nil ?_
  exact ⟨(IntKind.wrap .u64 (0 - (IntKind.wrap .u64 a1))),_,_,aI,.refl _ _,.refl _,(aa.r rfl (aa.r rfl aa.nil)),H0.sl [] rfl rfl,h⟩
 replace h:=bQ hb24 h
 refine ax.skip ?_
 exact ⟨(IntKind.wrap .u64 a1),_,_,aI,.refl _ _,.refl _,(aa.r rfl (aa.r rfl aa.nil)),H0.sl [] rfl rfl,h⟩
set_option maxRecDepth 20000 in
set_option maxHeartbeats 4000000 in
theorem lY:∀ (n:Nat) (a1:aT) (a2:(List Int)) (a3:(List dQ)) (a5:Int) (r:((List Tree) × Bool × Int)),aP n a1 a2 a3 a5=some r→∀ (b4:Nat),rZ R cfg.P 40 [.d (aD a1),.d (.sl ((a2).map (D.int .i64)) false),.d (.sl ((a3).map aJ) false),.ptr b4 0 0] [.box b4 [(.d (.int .i64 a5))]] (fun v l=>v=.tup [.d (.sl ((r.1).map az) false),.d (.bool r.2.1)]∧l=[.box b4 [.d (.int .i64 r.2.2)]])
 | 0,a1,a2,a3,a5,r,h,b4=>by simp [aP] at h
 | n + 1,a1,a2,a3,a5,r,h,b4=>by
  have ih:=lY n
  unfold aP at h
  refine rZ.of_wp (C:=cfg) Tryd.func40 rfl J2 rfl (fun B0 S0 H0=>?_)
  replace H0:Has B0 S0 [.box b4 [(.d (.int .i64 a5))]]:=H0
  refine ax.seq ?_
  refine ax.region E.obj rfl ?_
  refine ah.box H0 rfl rfl rfl (aT.bD _) rfl (fun b6 S7 H8=>?_)
  refine ah.val rfl (ai rfl) rfl ?_
  refine ah.val rfl (ai rfl) rfl ?_
  refine ah.nil ?_
  refine ax.seq ?_
  refine ax.region E.obj rfl ?_
  refine ah.val rfl (ae rfl) rfl ?_
  refine ah.val rfl (ae rfl) rfl ?_
  refine ah.val rfl (eF rfl) rfl ?_
  refine ah.val rfl (av H8 (i:=1) rfl rfl (aA jL rfl)) rfl ?_
  refine ah.val rfl (au rfl rfl bq) rfl ?_
  refine ah.val rfl (eF rfl) rfl ?_
  refine ah.store H8 (i:=1) rfl rfl rfl rfl rfl rfl tu rfl C9 rfl rfl rfl (fun S9 H10=>?_)
  refine ah.nil ?_
  refine ax.seq ?_
  refine ax.seq ?_
  refine ax.region E.obj rfl ?_
  refine ah.val rfl (ae rfl) rfl ?_
  refine ah.val rfl (eF rfl) rfl ?_
  refine ah.val rfl (av H10 (i:=1) rfl rfl (aA jL rfl)) rfl ?_
  refine ah.val rfl (au rfl rfl fJ) rfl ?_
  refine ah.nil ?_
  refine ax.cond rfl (fun hb11=>?_) (fun hb11=>?_)
  ·
   replace h:=bO hb11 h
   refine ax.seq ?_
   refine ax.region E.obj rfl ?_
   refine ah.val rfl (ai rfl) rfl ?_
   refine ah.val rfl (ai rfl) rfl ?_
   refine ah.nil ?_
   have hr:=Option.some.inj h
   subst hr
   exact ax.ret ⟨_,rfl,rfl,_,_,_,.refl _,(Less.sJ vQ (.refl _)),⟨rfl,rfl⟩,H10.sl [1] rfl rfl⟩
  replace h:=bQ hb11 h
  refine ax.skip ?_
  refine ax.join (B:=B0) (α:=Int × Bool) (fun a=>dJ n (aP n) a1 a2 a3 a5 a.1 a.2=some r) (fun a=>[(1,(.d (.sl ((a2).map (D.int .i64)) false))),(2,(.d (.sl ((a3).map aJ) false))),(3,(.ptr b4 0 0)),(4,(.ptr b6 0 0)),(10,(.d (.int .i64 a.1))),(11,(.d (.bool a.2)))]) (fun a=>[.box b6 [(.d (.int .i64 a1.Kind)),(.d (.int .i64 a1.N)),(.d (.str a1.Tag)),(.d (.str a1.Text)),(.d (.sl ((a1.aH).map aB) false)),(.d (.sl ((a1.Kids).map aD) false))],.box b4 [(.d (.int .i64 (IntKind.wrap .i64 (a5 + 1))))]]) ?_ ?_
  ·
   intro a S12 H13 h
   obtain ⟨x14,x15⟩:=a
   replace h:dJ n (aP n) a1 a2 a3 a5 x14 x15=some r:=h
   replace H13:Has B0 S12 [.box b6 [(.d (.int .i64 a1.Kind)),(.d (.int .i64 a1.N)),(.d (.str a1.Tag)),(.d (.str a1.Text)),(.d (.sl ((a1.aH).map aB) false)),(.d (.sl ((a1.Kids).map aD) false))],.box b4 [(.d (.int .i64 (IntKind.wrap .i64 (a5 + 1))))]]:=H13
   unfold dJ at h
   refine ax.join (B:=B0) (α:=Int) (fun a=>eu n (aP n) a1 a2 a3 a5 x15 a=some r) (fun a=>[(1,(.d (.sl ((a2).map (D.int .i64)) false))),(2,(.d (.sl ((a3).map aJ) false))),(3,(.ptr b4 0 0)),(4,(.ptr b6 0 0)),(10,(.d (.int .i64 a))),(11,(.d (.bool x15)))]) (fun a=>[.box b6 [(.d (.int .i64 a1.Kind)),(.d (.int .i64 a1.N)),(.d (.str a1.Tag)),(.d (.str a1.Text)),(.d (.sl ((a1.aH).map aB) false)),(.d (.sl ((a1.Kids).map aD) false))],.box b4 [(.d (.int .i64 (IntKind.wrap .i64 (a5 + 1))))]]) ?_ ?_
   ·
    intro x19 S17 H18 h
    replace h:eu n (aP n) a1 a2 a3 a5 x15 x19=some r:=h
    replace H18:Has B0 S17 [.box b6 [(.d (.int .i64 a1.Kind)),(.d (.int .i64 a1.N)),(.d (.str a1.Tag)),(.d (.str a1.Text)),(.d (.sl ((a1.aH).map aB) false)),(.d (.sl ((a1.Kids).map aD) false))],.box b4 [(.d (.int .i64 (IntKind.wrap .i64 (a5 + 1))))]]:=H18
    unfold eu at h
    refine ax.seq ?_
    refine ax.seq ?_
    refine ax.region E.obj rfl ?_
    refine ah.val rfl (aj rfl fe l7 rfl) rfl ?_
    refine ah.val rfl (av H18 (i:=0) rfl rfl (aA jL rfl)) rfl ?_
    refine ah.nil ?_
    refine ax.block ?_
    refine ax.seq ?_
    refine ax.region E.obj rfl ?_
    refine ah.val rfl (au rfl rfl aU) rfl ?_
    refine ah.val rfl (ai rfl) rfl ?_
    refine ah.nil ?_
    refine ax.cond rfl (fun hb21=>?_) (fun hb21=>?_)
    ·
     replace h:=bO hb21 h
     refine ax.seq ?_
     refine ax.region E.obj rfl ?_
     refine ah.val rfl (aj rfl jd pF rfl) rfl ?_
     refine ah.val rfl (av H18 (i:=0) rfl rfl (aA qi rfl)) rfl ?_
     refine ah.val rfl (ae rfl) rfl ?_
     refine ah.val rfl (ae rfl) rfl ?_
     refine ah.val rfl (ae rfl) rfl ?_
     obtain ⟨z22,hzz22,h⟩:=bind_some h
     refine ah.Ei (ins:=[.box b4 [(.d (.int .i64 (IntKind.wrap .i64 (a5 + 1))))]]) (more:=[.box b6 [(.d (.int .i64 a1.Kind)),(.d (.int .i64 a1.N)),(.d (.str a1.Tag)),(.d (.str a1.Text)),(.d (.sl ((a1.aH).map aB) false)),(.d (.sl ((a1.Kids).map aD) false))]]) (H18.sl [1,0] rfl rfl) rfl (aC rfl rfl) (jq E (aP n) ih n _ _ _ _ _ hzz22 b4) (.cons (.refl _) (.cons (.refl _) (.cons (.refl _) (.cons (.refl _) .nil)))) rfl ?_
     rintro _ S23 _ ⟨rfl,rfl⟩ H24
     replace H24:Has B0 S23 [.box b4 [(.d (.int .i64 z22.2.2))],.box b6 [(.d (.int .i64 a1.Kind)),(.d (.int .i64 a1.N)),(.d (.str a1.Tag)),(.d (.str a1.Text)),(.d (.sl ((a1.aH).map aB) false)),(.d (.sl ((a1.Kids).map aD) false))]]:=H24
     refine ah.val rfl (ae rfl) rfl ?_
     refine ah.val rfl (aN rfl rfl) rfl ?_
     refine ah.val rfl (aN rfl rfl) rfl ?_
     refine ah.val rfl (ai rfl) rfl ?_
     refine ah.val rfl (ai rfl) rfl ?_
     refine ah.nil ?_
     refine ax.seq ?_
     refine ax.region E.obj rfl ?_
     refine ah.val rfl (aj rfl oL kI rfl) rfl ?_
     refine ah.val rfl (av H24 (i:=1) rfl rfl (aA j5 rfl)) rfl ?_
     refine ah.val rfl (aj rfl zq tK rfl) rfl ?_
     refine ah.val rfl (av H24 (i:=1) rfl rfl (aA ve rfl)) rfl ?_
     refine ah.val rfl (ae rfl) rfl ?_
     refine ah.val rfl (bW (cs:=[(.d (.str a1.Tag)),(.d (.str [])),(.d (.str [])),(.d (.sl ((a1.aH).map aB) false)),(.d (.sl ((z22.1).map az) false))]) iA rfl (cK) (eG rfl rfl rfl rfl (eG rfl rfl rfl rfl (eG rfl rfl rfl rfl rfl)))) rfl ?_
     refine ah.less (Less.agg' (d:=az (Tree.mk a1.Tag [] [] a1.aH z22.1)) (ak.eq rfl (ak.eq rfl (ak.eq rfl (ak.eq rfl (ak.eq rfl .nil))))) ((Tree.eq _).trans rfl)) ?_
     refine ah.val rfl (aR (vs:=[(.d (az (Tree.mk a1.Tag [] [] a1.aH z22.1)))]) (ds:=[(az (Tree.mk a1.Tag [] [] a1.aH z22.1))]) pz jI iq iA dO rfl (by decide) (.cons rfl (Tree.len _) .nil) rfl (by intro d hd; simp only [List.mem_cons,List.not_mem_nil,or_false] at hd; rcases hd with rfl <;> exact Tree.agg _) rfl) rfl ?_
     refine ah.val rfl (ae rfl) rfl ?_
     refine ah.val rfl (ai rfl) rfl ?_
     refine ah.val rfl (ai rfl) rfl ?_
     refine ah.nil ?_
     have hr:=Option.some.inj h
     subst hr
     exact ax.ret ⟨_,rfl,rfl,_,_,_,.refl _,(Less.sJ uZ (.refl _)),⟨rfl,rfl⟩,H24.sl [0] rfl rfl⟩
    replace h:=bQ hb21 h
    refine ax.seq ?_
    refine ax.region E.obj rfl ?_
    refine ah.val rfl (au rfl rfl aU) rfl ?_
    refine ah.val rfl (ai rfl) rfl ?_
    refine ah.nil ?_
    refine ax.cond rfl (fun hb25=>?_) (fun hb25=>?_)
    ·
     replace h:=bO hb25 h
     refine ax.seq ?_
     refine ax.region E.obj rfl ?_
     refine ah.val rfl (aj rfl ug kI rfl) rfl ?_
     refine ah.val rfl (av H18 (i:=0) rfl rfl (aA j5 rfl)) rfl ?_
     refine ah.val rfl (bW (cs:=[(.d (.str [])),(.d (.str [])),(.d (.str a1.Text)),(.d .aY),(.d .aY)]) iA rfl (cK) (eG rfl rfl rfl rfl rfl)) rfl ?_
     refine ah.less (Less.agg' (d:=az (Tree.mk [] [] a1.Text [] [])) (ak.eq rfl (ak.eq rfl (ak.eq rfl (ak.dV rfl (.aY false) rfl rfl (ak.dV rfl (.aY false) rfl rfl .nil))))) ((Tree.eq _).trans rfl)) ?_
     refine ah.val rfl (aR (vs:=[(.d (az (Tree.mk [] [] a1.Text [] [])))]) (ds:=[(az (Tree.mk [] [] a1.Text [] []))]) pz jI iq iA dO rfl (by decide) (.cons rfl (Tree.len _) .nil) rfl (by intro d hd; simp only [List.mem_cons,List.not_mem_nil,or_false] at hd; rcases hd with rfl <;> exact Tree.agg _) rfl) rfl ?_
     refine ah.val rfl (ai rfl) rfl ?_
     refine ah.val rfl (ai rfl) rfl ?_
     refine ah.nil ?_
     have hr:=Option.some.inj h
     subst hr
     exact ax.ret ⟨_,rfl,rfl,_,_,_,.refl _,(Less.sJ uZ (.refl _)),⟨rfl,rfl⟩,H18.sl [1] rfl rfl⟩
    replace h:=bQ hb25 h
    refine ax.seq ?_
    refine ax.region E.obj rfl ?_
    refine ah.val rfl (au rfl rfl aU) rfl ?_
    refine ah.val rfl (ai rfl) rfl ?_
    refine ah.nil ?_
    refine ax.cond rfl (fun hb26=>?_) (fun hb26=>?_)
    ·
     replace h:=bO hb26 h
     refine ax.seq ?_
     refine ax.region E.obj rfl ?_
     refine ah.val rfl (ae rfl) rfl ?_
     obtain ⟨z27,hzz27,h⟩:=bind_some h
     refine ah.ret rfl (aC rfl rfl) (lT E _ _ _ hzz27 _ _ (aF.eq .nil)) rfl ?_
     refine ah.val rfl (bW (cs:=[(.d (.str [])),(.d (.str [])),(.d (.str z27)),(.d .aY),(.d .aY)]) iA rfl (cK) (eG rfl rfl rfl rfl rfl)) rfl ?_
     refine ah.less (Less.agg' (d:=az (Tree.mk [] [] z27 [] [])) (ak.eq rfl (ak.eq rfl (ak.eq rfl (ak.dV rfl (.aY false) rfl rfl (ak.dV rfl (.aY false) rfl rfl .nil))))) ((Tree.eq _).trans rfl)) ?_
     refine ah.val rfl (aR (vs:=[(.d (az (Tree.mk [] [] z27 [] [])))]) (ds:=[(az (Tree.mk [] [] z27 [] []))]) pz jI iq iA dO rfl (by decide) (.cons rfl (Tree.len _) .nil) rfl (by intro d hd; simp only [List.mem_cons,List.not_mem_nil,or_false] at hd; rcases hd with rfl <;> exact Tree.agg _) rfl) rfl ?_
     refine ah.val rfl (ae rfl) rfl ?_
     refine ah.val rfl (ai rfl) rfl ?_
     refine ah.val rfl (ai rfl) rfl ?_
     refine ah.nil ?_
     have hr:=Option.some.inj h
     subst hr
     exact ax.ret ⟨_,rfl,rfl,_,_,_,.refl _,(Less.sJ uZ (.refl _)),⟨rfl,rfl⟩,H18.sl [1] rfl rfl⟩
    replace h:=bQ hb26 h
    refine ax.seq ?_
    refine ax.region E.obj rfl ?_
    refine ah.val rfl (au rfl rfl aU) rfl ?_
    refine ah.val rfl (ai rfl) rfl ?_
    refine ah.nil ?_
    refine ax.cond rfl (fun hb28=>?_) (fun hb28=>?_)
    ·
     replace h:=bO hb28 h
     refine ax.seq ?_
     refine ax.seq ?_
     refine ax.region E.obj rfl ?_
     refine ah.val rfl (ae rfl) rfl ?_
     refine ah.val rfl (aO rfl Ij) rfl ?_
     refine ah.val rfl (ae rfl) rfl ?_
     refine ah.nil ?_
     refine ax.block ?_
     refine lV.start (B:=B0) (α:=Int) (fun k a=>dz a1 a3 a5 k a=some r) (fun a=>[(4,(.ptr b6 0 0)),(84,(.d (.sl ((a3).map aJ) false))),(85,(.d (.int .i64 ((a3).length:Int)))),(86,(.d (.int .i64 a)))]) (fun a=>[.box b6 [(.d (.int .i64 a1.Kind)),(.d (.int .i64 a1.N)),(.d (.str a1.Tag)),(.d (.str a1.Text)),(.d (.sl ((a1.aH).map aB) false)),(.d (.sl ((a1.Kids).map aD) false))],.box b4 [(.d (.int .i64 (IntKind.wrap .i64 (a5 + 1))))]]) ?_ ?_ n ⟨0,_,_,S17,.refl _ _,.refl _,(aa.r rfl (aa.r rfl (aa.r rfl (aa.r rfl aa.nil)))),H18.sl [0,1] rfl rfl,h⟩
     ·
      intro a h; simp [dz] at h
     intro k37 x36 S34 H35 h
     replace h:dz a1 a3 a5 (k37 + 1) x36=some r:=h
     replace H35:Has B0 S34 [.box b6 [(.d (.int .i64 a1.Kind)),(.d (.int .i64 a1.N)),(.d (.str a1.Tag)),(.d (.str a1.Text)),(.d (.sl ((a1.aH).map aB) false)),(.d (.sl ((a1.Kids).map aD) false))],.box b4 [(.d (.int .i64 (IntKind.wrap .i64 (a5 + 1))))]]:=H35
     unfold dz at h
     refine ax.seq ?_
     refine ax.region E.obj rfl ?_
     refine ah.val rfl (au rfl rfl bJ) rfl ?_
     refine ah.nil ?_
     refine ax.seq ?_
     refine ax.cond rfl (fun hb38=>?_) (fun hb38=>?_)
     ·
      replace h:=bO hb38 h
      refine ax.skip ?_
      refine ax.seq ?_
      refine ax.block ?_
      refine ax.seq ?_
      refine ax.region E.obj rfl ?_
      obtain ⟨z39,hzz39,h⟩:=bind_some h
      refine ah.val rfl (bA rfl rfl (cZ (enc:=aJ) hzz39 EP Dz ((dQ.len _).trans sO.symm))) rfl ?_
      refine ah.val rfl (aV rfl (dQ.ib Fu sO)) rfl ?_
      refine ah.alloc H35 rfl GX G6 rfl rfl (fun b40 S41 H42=>?_)
      refine ah.store H42 (i:=0) rfl rfl rfl rfl (dQ.bD _) rfl sO rfl Dz rfl rfl rfl (fun S43 H44=>?_)
      refine ah.nil ?_
      refine ax.seq ?_
      refine ax.region E.obj rfl ?_
      refine ah.val rfl (aj rfl CQ kI rfl) rfl ?_
      refine ah.val rfl (av H44 (i:=0) rfl rfl (aA j5 rfl)) rfl ?_
      refine ah.val rfl (aj rfl ug kI rfl) rfl ?_
      refine ah.val rfl (av H44 (i:=1) rfl rfl (aA j5 rfl)) rfl ?_
      refine ah.val rfl (au rfl rfl gG) rfl ?_
      refine ah.nil ?_
      refine ax.cond rfl (fun hb45=>?_) (fun hb45=>?_)
      ·
       replace h:=bO hb45 h
       refine ax.seq ?_
       refine ax.region E.obj rfl ?_
       refine ah.val rfl (aj rfl Dc kI rfl) rfl ?_
       refine ah.val rfl (av H44 (i:=0) rfl rfl (aA j5 rfl)) rfl ?_
       refine ah.val rfl (bW (cs:=[(.d (.str [])),(.d (.str [])),(.d (.str z39.Value)),(.d .aY),(.d .aY)]) iA rfl (cK) (eG rfl rfl rfl rfl rfl)) rfl ?_
       refine ah.less (Less.agg' (d:=az (Tree.mk [] [] z39.Value [] [])) (ak.eq rfl (ak.eq rfl (ak.eq rfl (ak.dV rfl (.aY false) rfl rfl (ak.dV rfl (.aY false) rfl rfl .nil))))) ((Tree.eq _).trans rfl)) ?_
       refine ah.val rfl (aR (vs:=[(.d (az (Tree.mk [] [] z39.Value [] [])))]) (ds:=[(az (Tree.mk [] [] z39.Value [] []))]) pz jI iq iA dO rfl (by decide) (.cons rfl (Tree.len _) .nil) rfl (by intro d hd; simp only [List.mem_cons,List.not_mem_nil,or_false] at hd; rcases hd with rfl <;> exact Tree.agg _) rfl) rfl ?_
       refine ah.val rfl (ai rfl) rfl ?_
       refine ah.val rfl (ai rfl) rfl ?_
       refine ah.nil ?_
       have hr:=Option.some.inj h
       subst hr
       exact ax.ret ⟨_,rfl,rfl,_,_,_,.refl _,(Less.sJ uZ (.refl _)),⟨rfl,rfl⟩,H44.sl [2] rfl rfl⟩
      replace h:=bQ hb45 h
      refine ax.skip ?_
      refine ax.region E.obj rfl ?_
      refine ah.val rfl (au rfl rfl bq) rfl ?_
      refine ah.val rfl (ae rfl) rfl ?_
      refine ah.nil ?_
      exact ⟨(IntKind.wrap .i64 (x36 + 1)),_,_,S43,.refl _ _,.refl _,(aa.r rfl (aa.r rfl (aa.r rfl (aa.r rfl aa.nil)))),H44.sl [1,2] rfl rfl,h⟩
     replace h:=bQ hb38 h
     refine ax.exit ?_
     refine ax.seq ?_
     refine ax.region E.obj rfl ?_
     refine ah.val rfl (ai rfl) rfl ?_
     refine ah.val rfl (ai rfl) rfl ?_
     refine ah.nil ?_
     have hr:=Option.some.inj h
     subst hr
     exact ax.ret ⟨_,rfl,rfl,_,_,_,.refl _,(Less.sJ vQ (.refl _)),⟨rfl,rfl⟩,H35.sl [1] rfl rfl⟩
    replace h:=bQ hb28 h
    refine ax.seq ?_
    refine ax.region E.obj rfl ?_
    refine ah.val rfl (au rfl rfl aU) rfl ?_
    refine ah.val rfl (ai rfl) rfl ?_
    refine ah.nil ?_
    refine ax.cond rfl (fun hb46=>?_) (fun hb46=>?_)
    ·
     replace h:=bO hb46 h
     refine ax.seq ?_
     refine ax.seq ?_
     refine ax.region E.obj rfl ?_
     refine ah.val rfl (ae rfl) rfl ?_
     refine ah.val rfl (dW rfl) rfl ?_
     refine ah.val rfl (ae rfl) rfl ?_
     refine ah.aZ 3 107 (.d (.bool ((!x15) || (x19 == 0)))) ?_ ?_
     ·
      rcases Bool.eq_false_or_eq_true ((!x15)) with hB47 | hB47
      ·
       refine ah.bool hB47 ?_
       refine ah.no rfl rfl ?_
       refine ah.no rfl rfl ?_
       refine ah.val rfl (ay (b:=true) rfl rfl) rfl ?_
       exact ah.nil ⟨_,rfl,(aa.put (aa.push rfl (aa.push rfl (aa.put (.refl _) (Less.eq (by rw [hB47]))))) (Less.eq (by rw [hB47]; rw [Bool.true_or])))⟩
      refine ah.bool hB47 ?_
      refine ah.val rfl (ae rfl) rfl ?_
      refine ah.val rfl (au rfl rfl aU) rfl ?_
      refine ah.val rfl (ay (b:=false) rfl rfl) rfl ?_
      exact ah.nil ⟨_,rfl,(aa.put (aa.push rfl (aa.push rfl (aa.put (.refl _) (Less.eq (by rw [hB47]))))) (Less.eq (by rw [hB47]; rw [Bool.false_or])))⟩
     refine ah.nil ?_
     refine ax.cond rfl (fun hb48=>?_) (fun hb48=>?_)
     ·
      replace h:=bO hb48 h
      refine ax.seq ?_
      refine ax.region E.obj rfl ?_
      refine ah.val rfl (ae rfl) rfl ?_
      refine ah.val rfl (ai rfl) rfl ?_
      refine ah.val rfl (ai rfl) rfl ?_
      refine ah.nil ?_
      have hr:=Option.some.inj h
      subst hr
      exact ax.ret ⟨_,rfl,rfl,_,_,_,.refl _,(Less.sJ vQ (.refl _)),⟨rfl,rfl⟩,H18.sl [1] rfl rfl⟩
     replace h:=bQ hb48 h
     refine ax.skip ?_
     refine ax.seq ?_
     refine ax.region E.obj rfl ?_
     refine ah.val rfl (aj rfl jd pF rfl) rfl ?_
     refine ah.val rfl (av H18 (i:=0) rfl rfl (aA qi rfl)) rfl ?_
     refine ah.val rfl (ae rfl) rfl ?_
     refine ah.val rfl (ae rfl) rfl ?_
     refine ah.val rfl (ae rfl) rfl ?_
     obtain ⟨z49,hzz49,h⟩:=bind_some h
     refine ah.Ei (ins:=[.box b4 [(.d (.int .i64 (IntKind.wrap .i64 (a5 + 1))))]]) (more:=[.box b6 [(.d (.int .i64 a1.Kind)),(.d (.int .i64 a1.N)),(.d (.str a1.Tag)),(.d (.str a1.Text)),(.d (.sl ((a1.aH).map aB) false)),(.d (.sl ((a1.Kids).map aD) false))]]) (H18.sl [1,0] rfl rfl) rfl (aC rfl rfl) (jq E (aP n) ih n _ _ _ _ _ hzz49 b4) (.cons (.refl _) (.cons (.refl _) (.cons (.refl _) (.cons (.refl _) .nil)))) rfl ?_
     rintro _ S50 _ ⟨rfl,rfl⟩ H51
     replace H51:Has B0 S50 [.box b4 [(.d (.int .i64 z49.2.2))],.box b6 [(.d (.int .i64 a1.Kind)),(.d (.int .i64 a1.N)),(.d (.str a1.Tag)),(.d (.str a1.Text)),(.d (.sl ((a1.aH).map aB) false)),(.d (.sl ((a1.Kids).map aD) false))]]:=H51
     refine ah.val rfl (aN rfl rfl) rfl ?_
     refine ah.val rfl (aN rfl rfl) rfl ?_
     refine ah.val rfl (ai rfl) rfl ?_
     refine ah.val rfl (ai rfl) rfl ?_
     refine ah.nil ?_
     have hr:=Option.some.inj h
     subst hr
     exact ax.ret ⟨_,rfl,rfl,_,_,_,.refl _,(.refl _),⟨rfl,rfl⟩,H51.sl [0] rfl rfl⟩
    replace h:=bQ hb46 h
    refine ax.seq ?_
    refine ax.region E.obj rfl ?_
    refine ah.val rfl (au rfl rfl aU) rfl ?_
    refine ah.val rfl (ai rfl) rfl ?_
    refine ah.nil ?_
    refine ax.cond rfl (fun hb52=>?_) (fun hb52=>?_)
    ·
     replace h:=bO hb52 h
     refine ax.seq ?_
     refine ax.seq ?_
     refine ax.region E.obj rfl ?_
     refine ah.val rfl (ae rfl) rfl ?_
     refine ah.val rfl (dW rfl) rfl ?_
     refine ah.val rfl (ae rfl) rfl ?_
     refine ah.aZ 3 124 (.d (.bool ((!x15) || (decide (24 < x19))))) ?_ ?_
     ·
      rcases Bool.eq_false_or_eq_true ((!x15)) with hB53 | hB53
      ·
       refine ah.bool hB53 ?_
       refine ah.no rfl rfl ?_
       refine ah.no rfl rfl ?_
       refine ah.val rfl (ay (b:=true) rfl rfl) rfl ?_
       exact ah.nil ⟨_,rfl,(aa.put (aa.push rfl (aa.push rfl (aa.put (.refl _) (Less.eq (by rw [hB53]))))) (Less.eq (by rw [hB53]; rw [Bool.true_or])))⟩
      refine ah.bool hB53 ?_
      refine ah.val rfl (ae rfl) rfl ?_
      refine ah.val rfl (au rfl rfl fJ) rfl ?_
      refine ah.val rfl (ay (b:=false) rfl rfl) rfl ?_
      exact ah.nil ⟨_,rfl,(aa.put (aa.push rfl (aa.push rfl (aa.put (.refl _) (Less.eq (by rw [hB53]))))) (Less.eq (by rw [hB53]; rw [Bool.false_or])))⟩
     refine ah.nil ?_
     refine ax.cond rfl (fun hb54=>?_) (fun hb54=>?_)
     ·
      replace h:=bO hb54 h
      refine ax.seq ?_
      refine ax.region E.obj rfl ?_
      refine ah.val rfl (ai rfl) rfl ?_
      refine ah.val rfl (ai rfl) rfl ?_
      refine ah.nil ?_
      have hr:=Option.some.inj h
      subst hr
      exact ax.ret ⟨_,rfl,rfl,_,_,_,.refl _,(Less.sJ vQ (.refl _)),⟨rfl,rfl⟩,H18.sl [1] rfl rfl⟩
     replace h:=bQ hb54 h
     refine ax.skip ?_
     refine ax.seq ?_
     refine ax.region E.obj rfl ?_
     refine ah.val rfl (ai rfl) rfl ?_
     refine ah.nil ?_
     refine ax.seq ?_
     refine ax.seq ?_
     refine ax.region E.obj rfl ?_
     refine ah.val rfl (ai rfl) rfl ?_
     refine ah.nil ?_
     refine ax.block ?_
     have H107:=H18.Cn
     refine lV.start (B:=B0) (α:=Int × (List Tree) × AV × Int) (fun k a=>bu n (aP n) a1 a2 a3 x19 k a.1 a.2.1 a.2.2.2=some r) (fun a=>[(1,(.d (.sl ((a2).map (D.int .i64)) false))),(2,(.d (.sl ((a3).map aJ) false))),(3,(.ptr b4 0 0)),(4,(.ptr b6 0 0)),(10,(.d (.int .i64 x19))),(16,a.2.2.1),(17,(.d (.int .i64 a.2.2.2)))]) (fun a=>[.box b6 [(.d (.int .i64 a1.Kind)),(.d (.int .i64 a1.N)),(.d (.str a1.Tag)),(.d (.str a1.Text)),(.d (.sl ((a1.aH).map aB) false)),(.d (.sl ((a1.Kids).map aD) false))],.box b4 [(.d (.int .i64 a.1))],.grow a.2.2.1 ((a.2.1).map az)]) ?_ ?_ n ⟨⟨(IntKind.wrap .i64 (a5 + 1)),[],(.d .aY),0⟩,_,_,S17,.refl _ _,.refl _,(aa.r rfl (aa.r rfl (aa.r rfl (aa.r rfl (aa.r rfl (aa.r rfl (aa.r rfl aa.nil))))))),H107.sl [1,2,0] rfl rfl,h⟩
     ·
      intro a h; simp [bu] at h
     intro k69 a S63 H64 h
     obtain ⟨x65,x66,v67,x68⟩:=a
     replace h:bu n (aP n) a1 a2 a3 x19 (k69 + 1) x65 x66 x68=some r:=h
     replace H64:Has B0 S63 [.box b6 [(.d (.int .i64 a1.Kind)),(.d (.int .i64 a1.N)),(.d (.str a1.Tag)),(.d (.str a1.Text)),(.d (.sl ((a1.aH).map aB) false)),(.d (.sl ((a1.Kids).map aD) false))],.box b4 [(.d (.int .i64 x65))],.grow v67 ((x66).map az)]:=H64
     unfold bu at h
     refine ax.seq ?_
     refine ax.seq ?_
     refine ax.region E.obj rfl ?_
     refine ah.val rfl (ae rfl) rfl ?_
     refine ah.val rfl (ae rfl) rfl ?_
     refine ah.val rfl (au rfl rfl bJ) rfl ?_
     refine ah.nil ?_
     refine ax.cond rfl (fun hb70=>?_) (fun hb70=>?_)
     ·
      replace h:=bO hb70 h
      refine ax.skip ?_
      refine ax.seq ?_
      refine ax.block ?_
      refine ax.seq ?_
      refine ax.region E.obj rfl ?_
      refine ah.val rfl (aj rfl jd pF rfl) rfl ?_
      refine ah.val rfl (av H64 (i:=0) rfl rfl (aA qi rfl)) rfl ?_
      refine ah.val rfl (ae rfl) rfl ?_
      refine ah.val rfl (ae rfl) rfl ?_
      refine ah.val rfl (ae rfl) rfl ?_
      obtain ⟨z71,hzz71,h⟩:=bind_some h
      refine ah.Ei (ins:=[.box b4 [(.d (.int .i64 x65))]]) (more:=[.box b6 [(.d (.int .i64 a1.Kind)),(.d (.int .i64 a1.N)),(.d (.str a1.Tag)),(.d (.str a1.Text)),(.d (.sl ((a1.aH).map aB) false)),(.d (.sl ((a1.Kids).map aD) false))],.grow v67 ((x66).map az)]) (H64.sl [1,0,2] rfl rfl) rfl (aC rfl rfl) (jq E (aP n) ih n _ _ _ _ _ hzz71 b4) (.cons (.refl _) (.cons (.refl _) (.cons (.refl _) (.cons (.refl _) .nil)))) rfl ?_
      rintro _ S72 _ ⟨rfl,rfl⟩ H73
      replace H73:Has B0 S72 [.box b4 [(.d (.int .i64 z71.2.2))],.box b6 [(.d (.int .i64 a1.Kind)),(.d (.int .i64 a1.N)),(.d (.str a1.Tag)),(.d (.str a1.Text)),(.d (.sl ((a1.aH).map aB) false)),(.d (.sl ((a1.Kids).map aD) false))],.grow v67 ((x66).map az)]:=H73
      refine ah.val rfl (ae rfl) rfl ?_
      refine ah.val rfl (aN rfl rfl) rfl ?_
      refine ah.val rfl (aN rfl rfl) rfl ?_
      refine ah.val rfl (ai rfl) rfl ?_
      refine ah.val rfl (ai rfl) rfl ?_
      refine ah.nil ?_
      refine ax.seq ?_
      refine ax.seq ?_
      refine ax.region E.obj rfl ?_
      refine ah.val rfl (ae rfl) rfl ?_
      refine ah.val rfl (dW rfl) rfl ?_
      refine ah.nil ?_
      refine ax.cond rfl (fun hb74=>?_) (fun hb74=>?_)
      ·
       replace h:=bO hb74 h
       refine ax.seq ?_
       refine ax.region E.obj rfl ?_
       refine ah.val rfl (ai rfl) rfl ?_
       refine ah.val rfl (ai rfl) rfl ?_
       refine ah.nil ?_
       have hr:=Option.some.inj h
       subst hr
       exact ax.ret ⟨_,rfl,rfl,_,_,_,.refl _,(Less.sJ vQ (.refl _)),⟨rfl,rfl⟩,H73.sl [0] rfl rfl⟩
      replace h:=bQ hb74 h
      refine ax.skip ?_
      refine ax.seq ?_
      refine ax.region E.obj rfl ?_
      refine ah.val rfl (ae rfl) rfl ?_
      refine ah.val rfl (aO rfl pO) rfl ?_
      refine ah.val rfl (ae rfl) rfl ?_
      refine ah.nil ?_
      refine ax.block ?_
      refine lV.start (B:=B0) (α:=(List Tree) × AV × Int) (fun k a=>bB n x68 (bu n (aP n) a1 a2 a3 x19 k69) z71 k a.1 a.2.2=some r) (fun a=>[(1,(.d (.sl ((a2).map (D.int .i64)) false))),(2,(.d (.sl ((a3).map aJ) false))),(3,(.ptr b4 0 0)),(4,(.ptr b6 0 0)),(10,(.d (.int .i64 x19))),(16,a.2.1),(17,(.d (.int .i64 x68))),(141,(.d (.sl ((z71.1).map az) false))),(142,(.d (.int .i64 ((z71.1).length:Int)))),(143,(.d (.int .i64 a.2.2)))]) (fun a=>[.box b4 [(.d (.int .i64 z71.2.2))],.box b6 [(.d (.int .i64 a1.Kind)),(.d (.int .i64 a1.N)),(.d (.str a1.Tag)),(.d (.str a1.Text)),(.d (.sl ((a1.aH).map aB) false)),(.d (.sl ((a1.Kids).map aD) false))],.grow a.2.1 ((a.1).map az)]) ?_ ?_ n ⟨⟨x66,v67,0⟩,_,_,S72,.refl _ _,.refl _,(aa.r rfl (aa.r rfl (aa.r rfl (aa.r rfl (aa.r rfl (aa.r rfl (aa.r rfl (aa.r rfl (aa.r rfl (aa.r rfl aa.nil)))))))))),H73.sl [0,1,2] rfl rfl,h⟩
      ·
       intro a h; simp [bB] at h
      intro k87 a S82 H83 h
      obtain ⟨x84,v85,x86⟩:=a
      replace h:bB n x68 (bu n (aP n) a1 a2 a3 x19 k69) z71 (k87 + 1) x84 x86=some r:=h
      replace H83:Has B0 S82 [.box b4 [(.d (.int .i64 z71.2.2))],.box b6 [(.d (.int .i64 a1.Kind)),(.d (.int .i64 a1.N)),(.d (.str a1.Tag)),(.d (.str a1.Text)),(.d (.sl ((a1.aH).map aB) false)),(.d (.sl ((a1.Kids).map aD) false))],.grow v85 ((x84).map az)]:=H83
      unfold bB at h
      refine ax.seq ?_
      refine ax.region E.obj rfl ?_
      refine ah.val rfl (au rfl rfl bJ) rfl ?_
      refine ah.nil ?_
      refine ax.seq ?_
      refine ax.cond rfl (fun hb88=>?_) (fun hb88=>?_)
      ·
       replace h:=bO hb88 h
       refine ax.skip ?_
       refine ax.seq ?_
       refine ax.block ?_
       refine ax.seq ?_
       refine ax.region E.obj rfl ?_
       obtain ⟨z89,hzz89,h⟩:=bind_some h
       refine ah.val rfl (bA rfl rfl (cZ (enc:=az) hzz89 jI jY ((Tree.len _).trans dO.symm))) rfl ?_
       refine ah.val rfl (aV rfl (Tree.ib iq dO)) rfl ?_
       refine ah.alloc H83 rfl uf iA rfl rfl (fun b90 S91 H92=>?_)
       refine ah.store H92 (i:=0) rfl rfl rfl rfl (Tree.bD _) rfl dO rfl jY rfl rfl rfl (fun S93 H94=>?_)
       refine ah.nil ?_
       refine ax.join (B:=B0) (α:=Str) (fun a=>eB x84 x86 (bB n x68 (bu n (aP n) a1 a2 a3 x19 k69) z71 k87) z89 a=some r) (fun a=>[(1,(.d (.sl ((a2).map (D.int .i64)) false))),(2,(.d (.sl ((a3).map aJ) false))),(3,(.ptr b4 0 0)),(4,(.ptr b6 0 0)),(10,(.d (.int .i64 x19))),(16,v85),(17,(.d (.int .i64 x68))),(21,(.ptr b90 0 0)),(141,(.d (.sl ((z71.1).map az) false))),(142,(.d (.int .i64 ((z71.1).length:Int)))),(143,(.d (.int .i64 x86)))]) (fun a=>[.box b90 [(.d (.str z89.Tag)),(.d (.str a)),(.d (.str z89.Text)),(.d (.sl ((z89.aH).map aB) false)),(.d (.sl ((z89.Kids).map az) false))],.box b4 [(.d (.int .i64 z71.2.2))],.box b6 [(.d (.int .i64 a1.Kind)),(.d (.int .i64 a1.N)),(.d (.str a1.Tag)),(.d (.str a1.Text)),(.d (.sl ((a1.aH).map aB) false)),(.d (.sl ((a1.Kids).map aD) false))],.grow v85 ((x84).map az)]) ?_ ?_
       ·
        intro x97 S95 H96 h
        replace h:eB x84 x86 (bB n x68 (bu n (aP n) a1 a2 a3 x19 k69) z71 k87) z89 x97=some r:=h
        replace H96:Has B0 S95 [.box b90 [(.d (.str z89.Tag)),(.d (.str x97)),(.d (.str z89.Text)),(.d (.sl ((z89.aH).map aB) false)),(.d (.sl ((z89.Kids).map az) false))],.box b4 [(.d (.int .i64 z71.2.2))],.box b6 [(.d (.int .i64 a1.Kind)),(.d (.int .i64 a1.N)),(.d (.str a1.Tag)),(.d (.str a1.Text)),(.d (.sl ((a1.aH).map aB) false)),(.d (.sl ((a1.Kids).map aD) false))],.grow v85 ((x84).map az)]:=H96
        unfold eB at h
        refine ax.region E.obj rfl ?_
        refine ah.val rfl (ae rfl) rfl ?_
        refine ah.val rfl (av H96 (i:=0) rfl rfl (aW iq dO rfl)) rfl ?_
        refine ah.less (Less.agg' (d:=az (Tree.mk z89.Tag x97 z89.Text z89.aH z89.Kids)) (ak.eq rfl (ak.eq rfl (ak.eq rfl (ak.eq rfl (ak.eq rfl .nil))))) ((Tree.eq _).trans rfl)) ?_
        refine ah.val rfl (aR (vs:=[(.d (az (Tree.mk z89.Tag x97 z89.Text z89.aH z89.Kids)))]) (ds:=[(az (Tree.mk z89.Tag x97 z89.Text z89.aH z89.Kids))]) pz jI iq iA dO rfl (by decide) (.cons rfl (Tree.len _) .nil) rfl (by intro d hd; simp only [List.mem_cons,List.not_mem_nil,or_false] at hd; rcases hd with rfl <;> exact Tree.agg _) rfl) rfl ?_
        obtain ⟨z99,hzz99,h⟩:=bind_some h
        refine ah.append (xs:=(x84).map az) (ys:=([(Tree.mk z89.Tag x97 z89.Text z89.aH z89.Kids)]).map az) (zs:=(z99).map az) H96 rfl rfl rfl (i:=3) rfl rfl pz Gl jI (iL hzz99) Gp rfl (dK (enc:=az) (fun z=>(Tree.len z).trans dO.symm) _) (dK (enc:=az) (fun z=>(Tree.len z).trans dO.symm) _) Gs rfl (mM hzz99) (fun v100 S101 H102=>?_)
        refine ah.val rfl (ai rfl) rfl ?_
        refine ah.nil ?_
        refine ax.region E.obj rfl ?_
        refine ah.val rfl (au rfl rfl bq) rfl ?_
        refine ah.val rfl (ae rfl) rfl ?_
        refine ah.nil ?_
        exact ⟨⟨z99,v100,(IntKind.wrap .i64 (x86 + 1))⟩,_,_,S101,.refl _ _,.refl _,(aa.r rfl (aa.r rfl (aa.r rfl (aa.r rfl (aa.r rfl (aa.r rfl (aa.r rfl (aa.r rfl (aa.r rfl (aa.r rfl aa.nil)))))))))),H102.sl [1,2,3] rfl rfl,h⟩
       refine ax.seq ?_
       refine ax.region E.obj rfl ?_
       refine ah.val rfl (aj rfl mY kI rfl) rfl ?_
       refine ah.val rfl (av H94 (i:=0) rfl rfl (aA j5 rfl)) rfl ?_
       refine ah.val rfl (au rfl rfl jc) rfl ?_
       refine ah.nil ?_
       refine ax.cond rfl (fun hb103=>?_) (fun hb103=>?_)
       ·
        replace h:=bO hb103 h
        refine ax.region E.obj rfl ?_
        refine ah.val rfl (ae rfl) rfl ?_
        obtain ⟨z104,hzz104,h⟩:=bind_some h
        refine ah.ret rfl (aC rfl rfl) (lT E _ _ _ hzz104 _ _ (aF.eq .nil)) rfl ?_
        refine ah.val rfl (aj rfl mh kI rfl) rfl ?_
        refine ah.store H94 (i:=0) rfl rfl rfl rfl rfl rfl Ey rfl Gx rfl rfl rfl (fun S105 H106=>?_)
        refine ah.nil ?_
        exact ⟨z104,_,_,S105,.refl _ _,.refl _,(aa.r rfl (aa.r rfl (aa.r rfl (aa.r rfl (aa.r rfl (aa.r rfl (aa.r rfl (aa.r rfl (aa.r rfl (aa.r rfl (aa.r rfl aa.nil))))))))))),H106.sl [0,1,2,3] rfl rfl,h⟩
       replace h:=bQ hb103 h
       refine ax.skip ?_
       exact ⟨z89.Key,_,_,S93,.refl _ _,.refl _,(aa.r rfl (aa.r rfl (aa.r rfl (aa.r rfl (aa.r rfl (aa.r rfl (aa.r rfl (aa.r rfl (aa.r rfl (aa.r rfl (aa.r rfl aa.nil))))))))))),H94.sl [0,1,2,3] rfl rfl,h⟩
      replace h:=bQ hb88 h
      refine ax.exit ?_
      refine ax.region E.obj rfl ?_
      refine ah.val rfl (ae rfl) rfl ?_
      refine ah.val rfl (au rfl rfl bq) rfl ?_
      refine ah.val rfl (ai rfl) rfl ?_
      refine ah.nil ?_
      exact ⟨⟨z71.2.2,x84,v85,(IntKind.wrap .i64 (x68 + 1))⟩,_,_,S82,.refl _ _,.refl _,(aa.r rfl (aa.r rfl (aa.r rfl (aa.r rfl (aa.r rfl (aa.r rfl (aa.r rfl aa.nil))))))),H83.sl [1,0,2] rfl rfl,h⟩
     replace h:=bQ hb70 h
     refine ax.exit ?_
     refine ax.seq ?_
     refine ax.region E.obj rfl ?_
     refine ah.val rfl (ae rfl) rfl ?_
     refine ah.val rfl (ai rfl) rfl ?_
     refine ah.val rfl (ai rfl) rfl ?_
     refine ah.nil ?_
     have hr:=Option.some.inj h
     subst hr
     exact ax.ret ⟨_,rfl,rfl,_,_,_,.refl _,(Less.sJ (CK H64 (i:=2) rfl) (.refl _)),⟨rfl,rfl⟩,H64.sl [1] rfl rfl⟩
    replace h:=bQ hb52 h
    refine ax.seq ?_
    refine ax.region E.obj rfl ?_
    refine ah.val rfl (au rfl rfl aU) rfl ?_
    refine ah.val rfl (ai rfl) rfl ?_
    refine ah.nil ?_
    refine ax.cond rfl (fun hb108=>?_) (fun hb108=>?_)
    ·
     replace h:=bO hb108 h
     refine ax.seq ?_
     refine ax.region E.obj rfl ?_
     refine ah.val rfl (bW (cs:=[(.d (.str [111,117,116,108,101,116])),(.d (.str [])),(.d (.str [])),(.d .aY),(.d .aY)]) iA rfl (cK) (eG rfl rfl rfl rfl rfl)) rfl ?_
     refine ah.less (Less.agg' (d:=az (Tree.mk [111,117,116,108,101,116] [] [] [] [])) (ak.eq rfl (ak.eq rfl (ak.eq rfl (ak.dV rfl (.aY false) rfl rfl (ak.dV rfl (.aY false) rfl rfl .nil))))) ((Tree.eq _).trans rfl)) ?_
     refine ah.val rfl (aR (vs:=[(.d (az (Tree.mk [111,117,116,108,101,116] [] [] [] [])))]) (ds:=[(az (Tree.mk [111,117,116,108,101,116] [] [] [] []))]) pz jI iq iA dO rfl (by decide) (.cons rfl (Tree.len _) .nil) rfl (by intro d hd; simp only [List.mem_cons,List.not_mem_nil,or_false] at hd; rcases hd with rfl <;> exact Tree.agg _) rfl) rfl ?_
     refine ah.val rfl (ai rfl) rfl ?_
     refine ah.val rfl (ai rfl) rfl ?_
     refine ah.nil ?_
     have hr:=Option.some.inj h
     subst hr
     exact ax.ret ⟨_,rfl,rfl,_,_,_,.refl _,(Less.sJ uZ (.refl _)),⟨rfl,rfl⟩,H18.sl [1] rfl rfl⟩
    replace h:=bQ hb108 h
    refine ax.skip ?_
    refine ax.seq ?_
    refine ax.region E.obj rfl ?_
    refine ah.val rfl (ai rfl) rfl ?_
    refine ah.val rfl (ai rfl) rfl ?_
    refine ah.nil ?_
    have hr:=Option.some.inj h
    subst hr
    exact ax.ret ⟨_,rfl,rfl,_,_,_,.refl _,(Less.sJ vQ (.refl _)),⟨rfl,rfl⟩,H18.sl [1] rfl rfl⟩
   refine ax.seq ?_
   refine ax.region E.obj rfl ?_
   refine ah.val rfl (ae rfl) rfl ?_
   refine ah.nil ?_
   refine ax.cond rfl (fun hb109=>?_) (fun hb109=>?_)
   ·
    replace h:=bO hb109 h
    refine ax.region E.obj rfl ?_
    refine ah.val rfl (ae rfl) rfl ?_
    refine ah.val rfl (aj rfl mW l7 rfl) rfl ?_
    refine ah.val rfl (av H13 (i:=0) rfl rfl (aA jL rfl)) rfl ?_
    obtain ⟨z110,hzz110,h⟩:=bind_some h
    refine ah.val rfl (bA rfl rfl (cZ (enc:=(D.int .i64)) hzz110 mH C9 (((fun _=>rfl) _).trans tu.symm))) rfl ?_
    refine ah.val rfl (aV rfl (fQ jL rfl)) rfl ?_
    refine ah.val rfl (ai rfl) rfl ?_
    refine ah.nil ?_
    exact ⟨z110,_,_,S12,.refl _ _,.refl _,(aa.r rfl (aa.r rfl (aa.r rfl (aa.r rfl (aa.r rfl (aa.r rfl aa.nil)))))),H13.sl [0,1] rfl rfl,h⟩
   replace h:=bQ hb109 h
   refine ax.skip ?_
   exact ⟨x14,_,_,S12,.refl _ _,.refl _,(aa.r rfl (aa.r rfl (aa.r rfl (aa.r rfl (aa.r rfl (aa.r rfl aa.nil)))))),H13.sl [0,1] rfl rfl,h⟩
  rcases (Bool.eq_false_or_eq_true ((decide (0 ≤ a1.N)))).symm with hb111 | hb111
  ·
   replace h:=bQ hb111 h
   refine ax.jH E.obj nQ KM [(1,none),(2,none),(3,none),(4,none),(10,some 10),(11,some 11)] (by kernel_rfl) [] (by decide) [some (.ptr b6 0 1),some (.d (.int .i64 a1.N)),some (.d (.bool (decide (0 ≤ a1.N)))),some (.d (.bool false)),some (.tup []),some (.tup []),some (.tup []),some (.tup []),some (.tup []),some (.d (.bool false)),some (.d (.int .i64 0)),some (.d (.bool false))] ?_
   refine ⟨[0,1,2,3,4,5,6,7,8,9,10,11],by kernel_rfl,?_,_,rfl,?_⟩
   ·
    refine .v rfl rfl rfl rfl (aj rfl mW l7 rfl) ?_
    refine .v rfl rfl rfl rfl (av H10 (i:=0) rfl rfl (aA jL rfl)) ?_
    refine .v rfl rfl rfl rfl (au rfl rfl kz) ?_
    refine .cons rfl rfl rfl (.val rfl (ae rfl) (.eq (by rw [hb111]))) ?_
    refine .cons rfl rfl rfl (.no rfl (.refl _)) ?_
    refine .cons rfl rfl rfl (.no rfl (.refl _)) ?_
    refine .cons rfl rfl rfl (.no rfl (.refl _)) ?_
    refine .cons rfl rfl rfl (.no rfl (.refl _)) ?_
    refine .cons rfl rfl rfl (.no rfl (.refl _)) ?_
    refine .v rfl rfl rfl rfl (ay (b:=false) rfl rfl) ?_
    refine .v rfl rfl rfl rfl (ai rfl) ?_
    refine .v rfl rfl rfl rfl (ai rfl) ?_
    exact .nil
   exact ⟨⟨0,false⟩,_,_,S9,.refl _ _,.refl _,(aa.r rfl (aa.r rfl (aa.r rfl (aa.r rfl (aa.r rfl (aa.r rfl aa.nil)))))),H10.sl [0,1] rfl rfl,h⟩
  replace h:=bO hb111 h
  refine ax.jH E.obj nQ KM [(1,none),(2,none),(3,none),(4,none),(10,some 10),(11,some 11)] (by kernel_rfl) [] (by decide) [some (.ptr b6 0 1),some (.d (.int .i64 a1.N)),some (.d (.bool (decide (0 ≤ a1.N)))),some (.d (.bool true)),some (.ptr b6 0 1),some (.d (.int .i64 a1.N)),some (.d (.sl ((a2).map (D.int .i64)) false)),some (.d (.int .i64 ((a2).length:Int))),some (.d (.bool (decide (a1.N < ((a2).length:Int))))),some (.d (.bool (decide (a1.N < ((a2).length:Int))))),some (.d (.int .i64 0)),some (.d (.bool (decide (a1.N < ((a2).length:Int)))))] ?_
  refine ⟨[0,1,2,3,4,5,6,7,8,9,10,11],by kernel_rfl,?_,_,rfl,?_⟩
  ·
   refine .v rfl rfl rfl rfl (aj rfl mW l7 rfl) ?_
   refine .v rfl rfl rfl rfl (av H10 (i:=0) rfl rfl (aA jL rfl)) ?_
   refine .v rfl rfl rfl rfl (au rfl rfl kz) ?_
   refine .cons rfl rfl rfl (.val rfl (ae rfl) (.eq (by rw [hb111]))) ?_
   refine .v rfl rfl rfl rfl (aj rfl mW l7 rfl) ?_
   refine .v rfl rfl rfl rfl (av H10 (i:=0) rfl rfl (aA jL rfl)) ?_
   refine .v rfl rfl rfl rfl (ae rfl) ?_
   refine .v rfl rfl rfl rfl (aO rfl oF) ?_
   refine .v rfl rfl rfl rfl (au rfl rfl bJ) ?_
   refine .v rfl rfl rfl rfl (ay (b:=true) rfl rfl) ?_
   refine .v rfl rfl rfl rfl (ai rfl) ?_
   refine .v rfl rfl rfl rfl (ai rfl) ?_
   exact .nil
  exact ⟨⟨0,(decide (a1.N < ((a2).length:Int)))⟩,_,_,S9,.refl _ _,.refl _,(aa.r rfl (aa.r rfl (aa.r rfl (aa.r rfl (aa.r rfl (aa.r rfl aa.nil)))))),H10.sl [0,1] rfl rfl,h⟩
set_option maxRecDepth 20000 in
set_option maxHeartbeats 4000000 in
theorem ql (n:Nat) (a1:Str) (r:Bool) (h:iw n a1=some r):di R cfg.P 62 [(.str a1)] (.d (.bool r)):=by
 unfold iw at h
 refine di.of_wp E.obj.toObjOk (C:=cfg) Tryd.func62 rfl J8 rfl ?_
 have H0:Has aI aI []:=Has.pure
 refine ax.seq ?_
 refine ax.region E.obj rfl ?_
 refine ah.val rfl (ai rfl) rfl ?_
 refine ah.nil ?_
 refine ax.seq ?_
 refine ax.seq ?_
 refine ax.region E.obj rfl ?_
 refine ah.val rfl (ai rfl) rfl ?_
 refine ah.nil ?_
 refine ax.block ?_
 refine lV.start (B:=aI) (α:=Int) (fun k a=>dF a1 k a=some r) (fun a=>[(0,(.d (.str a1))),(3,(.d (.int .i64 a)))]) (fun a=>[]) ?_ ?_ n ⟨0,_,_,aI,.refl _ _,.refl _,(aa.r rfl (aa.r rfl aa.nil)),H0.sl [] rfl rfl,h⟩
 ·
  intro a h; simp [dF] at h
 intro k10 x9 S7 H8 h
 replace h:dF a1 (k10 + 1) x9=some r:=h
 replace H8:Has aI S7 []:=H8
 unfold dF at h
 refine ax.seq ?_
 refine ax.seq ?_
 refine ax.region E.obj rfl ?_
 refine ah.val rfl (ae rfl) rfl ?_
 refine ah.val rfl (ae rfl) rfl ?_
 refine ah.val rfl (gJ rfl (gV zU) rfl) rfl ?_
 refine ah.val rfl (au rfl rfl bJ) rfl ?_
 refine ah.nil ?_
 refine ax.cond rfl (fun hb11=>?_) (fun hb11=>?_)
 ·
  replace h:=bO hb11 h
  refine ax.skip ?_
  refine ax.seq ?_
  refine ax.block ?_
  refine ax.seq ?_
  refine ax.region E.obj rfl ?_
  refine ah.val rfl (ae rfl) rfl ?_
  refine ah.val rfl (ae rfl) rfl ?_
  obtain ⟨z12,hzz12,h⟩:=bind_some h
  refine ah.val rfl (nA rfl rfl (iJ hzz12).1 zU (iJ hzz12).2) rfl ?_
  refine ah.val rfl (au rfl rfl bJ) rfl ?_
  refine ah.val rfl (ae rfl) rfl ?_
  obtain ⟨z14,hzz14,h⟩:=bind_some h
  refine ah.aZ 5 19 (.d (.bool z14)) ?_ ?_
  ·
   rcases Bool.eq_false_or_eq_true ((decide ((z12.toNat:Int) < 97))) with hB13 | hB13
   ·
    refine ah.bool hB13 ?_
    refine ah.no rfl rfl ?_
    refine ah.no rfl rfl ?_
    refine ah.no rfl rfl ?_
    refine ah.no rfl rfl ?_
    refine ah.val rfl (ay (b:=true) rfl rfl) rfl ?_
    replace hzz14:=bO hB13 hzz14
    cases hzz14
    exact ah.nil ⟨_,rfl,(aa.put (aa.push rfl (aa.push rfl (aa.push rfl (aa.push rfl (aa.put (.refl _) (Less.eq (by rw [hB13]))))))) (.refl _))⟩
   refine ah.bool hB13 ?_
   replace hzz14:=bQ hB13 hzz14
   refine ah.val rfl (ae rfl) rfl ?_
   refine ah.val rfl (ae rfl) rfl ?_
   obtain ⟨z15,hzz15,hzz14⟩:=bind_some hzz14
   refine ah.val rfl (nA rfl rfl (iJ hzz15).1 zU (iJ hzz15).2) rfl ?_
   refine ah.val rfl (au rfl rfl fJ) rfl ?_
   refine ah.val rfl (ay (b:=false) rfl rfl) rfl ?_
   cases hzz14
   exact ah.nil ⟨_,rfl,(aa.put (aa.push rfl (aa.push rfl (aa.push rfl (aa.push rfl (aa.put (.refl _) (Less.eq (by rw [hB13]))))))) (.refl _))⟩
  refine ah.val rfl (ae rfl) rfl ?_
  obtain ⟨z17,hzz17,h⟩:=bind_some h
  refine ah.aZ 11 31 (.d (.bool z17)) ?_ ?_
  ·
   rcases Bool.eq_false_or_eq_true (z14) with hB16 | hB16
   ·
    refine ah.bool hB16 ?_
    replace hzz17:=bO hB16 hzz17
    refine ah.val rfl (ae rfl) rfl ?_
    refine ah.val rfl (ae rfl) rfl ?_
    obtain ⟨z18,hzz18,hzz17⟩:=bind_some hzz17
    refine ah.val rfl (nA rfl rfl (iJ hzz18).1 zU (iJ hzz18).2) rfl ?_
    refine ah.val rfl (au rfl rfl bJ) rfl ?_
    refine ah.val rfl (ae rfl) rfl ?_
    obtain ⟨z20,hzz20,hzz17⟩:=bind_some hzz17
    refine ah.aZ 5 30 (.d (.bool z20)) ?_ ?_
    ·
     rcases Bool.eq_false_or_eq_true ((decide ((z18.toNat:Int) < 48))) with hB19 | hB19
     ·
      refine ah.bool hB19 ?_
      refine ah.no rfl rfl ?_
      refine ah.no rfl rfl ?_
      refine ah.no rfl rfl ?_
      refine ah.no rfl rfl ?_
      refine ah.val rfl (ay (b:=true) rfl rfl) rfl ?_
      replace hzz20:=bO hB19 hzz20
      cases hzz20
      exact ah.nil ⟨_,rfl,(aa.put (aa.push rfl (aa.push rfl (aa.push rfl (aa.push rfl (aa.put (.refl _) (Less.eq (by rw [hB19]))))))) (.refl _))⟩
     refine ah.bool hB19 ?_
     replace hzz20:=bQ hB19 hzz20
     refine ah.val rfl (ae rfl) rfl ?_
     refine ah.val rfl (ae rfl) rfl ?_
     obtain ⟨z21,hzz21,hzz20⟩:=bind_some hzz20
     refine ah.val rfl (nA rfl rfl (iJ hzz21).1 zU (iJ hzz21).2) rfl ?_
     refine ah.val rfl (au rfl rfl fJ) rfl ?_
     refine ah.val rfl (ay (b:=false) rfl rfl) rfl ?_
     cases hzz20
     exact ah.nil ⟨_,rfl,(aa.put (aa.push rfl (aa.push rfl (aa.push rfl (aa.push rfl (aa.put (.refl _) (Less.eq (by rw [hB19]))))))) (.refl _))⟩
    refine ah.val rfl (ay (b:=true) rfl rfl) rfl ?_
    cases hzz17
    exact ah.nil ⟨_,rfl,(aa.put (aa.push rfl (aa.push rfl (aa.push rfl (aa.push rfl (aa.push rfl (aa.push rfl (aa.put (.refl _) (Less.eq (by rw [hB16]))))))))) (.refl _))⟩
   refine ah.bool hB16 ?_
   refine ah.no rfl rfl ?_
   refine ah.no rfl rfl ?_
   refine ah.no rfl rfl ?_
   refine ah.no rfl rfl ?_
   refine ah.no rfl rfl ?_
   refine ah.no rfl rfl ?_
   refine ah.no rfl rfl ?_
   refine ah.no rfl rfl ?_
   refine ah.no rfl rfl ?_
   refine ah.no rfl rfl ?_
   refine ah.val rfl (ay (b:=false) rfl rfl) rfl ?_
   replace hzz17:=bQ hB16 hzz17
   cases hzz17
   exact ah.nil ⟨_,rfl,(aa.put (aa.push rfl (aa.push rfl (aa.push rfl (aa.push rfl (aa.push rfl (aa.push rfl (aa.push rfl (aa.push rfl (aa.push rfl (aa.push rfl (aa.put (.refl _) (Less.eq (by rw [hB16]))))))))))))) (.refl _))⟩
  refine ah.nil ?_
  refine ax.cond rfl (fun hb22=>?_) (fun hb22=>?_)
  ·
   replace h:=bO hb22 h
   refine ax.seq ?_
   refine ax.region E.obj rfl ?_
   refine ah.val rfl (ai rfl) rfl ?_
   refine ah.nil ?_
   have hr:=Option.some.inj h
   subst hr
   exact ax.ret ⟨_,rfl,rfl,gL (aF.eq .nil)⟩
  replace h:=bQ hb22 h
  refine ax.skip ?_
  refine ax.region E.obj rfl ?_
  refine ah.val rfl (ae rfl) rfl ?_
  refine ah.val rfl (au rfl rfl bq) rfl ?_
  refine ah.val rfl (ai rfl) rfl ?_
  refine ah.nil ?_
  exact ⟨(IntKind.wrap .i64 (x9 + 1)),_,_,S7,.refl _ _,.refl _,(aa.r rfl (aa.r rfl aa.nil)),H8.sl [] rfl rfl,h⟩
 replace h:=bQ hb11 h
 refine ax.exit ?_
 refine ax.seq ?_
 refine ax.region E.obj rfl ?_
 refine ah.val rfl (ae rfl) rfl ?_
 refine ah.val rfl (gJ rfl (gV zU) rfl) rfl ?_
 refine ah.val rfl (au rfl rfl kz) rfl ?_
 refine ah.val rfl (ae rfl) rfl ?_
 refine ah.aZ 4 39 (.d (.bool ((decide (1 ≤ ((a1).length:Int))) && (decide (((a1).length:Int) ≤ 16))))) ?_ ?_
 ·
  rcases Bool.eq_false_or_eq_true ((decide (1 ≤ ((a1).length:Int)))) with hB23 | hB23
  ·
   refine ah.bool hB23 ?_
   refine ah.val rfl (ae rfl) rfl ?_
   refine ah.val rfl (gJ rfl (gV zU) rfl) rfl ?_
   refine ah.val rfl (au rfl rfl iG) rfl ?_
   refine ah.val rfl (ay (b:=true) rfl rfl) rfl ?_
   exact ah.nil ⟨_,rfl,(aa.put (aa.push rfl (aa.push rfl (aa.push rfl (aa.put (.refl _) (Less.eq (by rw [hB23])))))) (Less.eq (by rw [hB23]; rw [Bool.true_and])))⟩
  refine ah.bool hB23 ?_
  refine ah.no rfl rfl ?_
  refine ah.no rfl rfl ?_
  refine ah.no rfl rfl ?_
  refine ah.val rfl (ay (b:=false) rfl rfl) rfl ?_
  exact ah.nil ⟨_,rfl,(aa.put (aa.push rfl (aa.push rfl (aa.push rfl (aa.put (.refl _) (Less.eq (by rw [hB23])))))) (Less.eq (by rw [hB23]; rw [Bool.false_and])))⟩
 refine ah.val rfl (ai rfl) rfl ?_
 refine ah.nil ?_
 have hr:=Option.some.inj h
 subst hr
 exact ax.ret ⟨_,rfl,rfl,gL (aF.eq .nil)⟩
set_option maxRecDepth 20000 in
set_option maxHeartbeats 4000000 in
theorem jB:∀ (n:Nat) (a1:Tree) (r:(Int × Int × Bool)),bz n a1=some r→di R cfg.P 41 [(az a1)] (.tup [.d (.int .i64 r.1),.d (.int .i64 r.2.1),.d (.bool r.2.2)])
 | 0,a1,r,h=>by simp [bz] at h
 | n + 1,a1,r,h=>by
  have ih:=jB n
  unfold bz at h
  refine di.of_wp E.obj.toObjOk (C:=cfg) Tryd.func41 rfl Kh rfl ?_
  have H0:Has aI aI []:=Has.pure
  refine ax.seq ?_
  refine ax.region E.obj rfl ?_
  refine ah.box H0 rfl rfl rfl (Tree.bD _) rfl (fun b2 S3 H4=>?_)
  refine ah.val rfl (ai rfl) rfl ?_
  refine ah.val rfl (ai rfl) rfl ?_
  refine ah.val rfl (ai rfl) rfl ?_
  refine ah.nil ?_
  refine ax.seq ?_
  refine ax.seq ?_
  refine ax.region E.obj rfl ?_
  refine ah.val rfl (aj rfl mY kI rfl) rfl ?_
  refine ah.val rfl (av H4 (i:=0) rfl rfl (aA j5 rfl)) rfl ?_
  refine ah.val rfl (au rfl rfl gG) rfl ?_
  refine ah.nil ?_
  refine ax.cond rfl (fun hb5=>?_) (fun hb5=>?_)
  ·
   replace h:=bO hb5 h
   refine ax.join (B:=aI) (α:=Int × Int × Bool) (fun a=>dB a.1 a.2.1 a.2.2=some r) (fun a=>[(2,(.d (.int .i64 a.1))),(3,(.d (.int .i64 a.2.1))),(4,(.d (.bool a.2.2)))]) (fun a=>[]) ?_ ?_
   ·
    intro a S6 H7 h
    obtain ⟨x8,x9,x10⟩:=a
    replace h:dB x8 x9 x10=some r:=h
    replace H7:Has aI S6 []:=H7
    unfold dB at h
    have hr:=Option.some.inj h
    subst hr
    exact ax.ret ⟨_,rfl,rfl,vg (vs:=[(.d (.int .i64 x8)),(.d (.int .i64 x9)),(.d (.bool x10))]) (ds:=[(.int .i64 x8),(.int .i64 x9),(.bool x10)]) (aF.eq (aF.eq (aF.eq .nil)))⟩
   rcases (Bool.eq_false_or_eq_true ((a1.Key == []))).symm with hb12 | hb12
   ·
    replace h:=bQ hb12 h
    refine ax.jH E.obj nQ Jc [(2,some 21),(3,some 22),(4,some 23)] (by kernel_rfl) [] (by decide) [some (.ptr b2 0 1),some (.d (.str a1.Key)),some (.d (.bool (a1.Key == []))),some (.d (.bool false)),some (.tup []),some (.tup []),some (.tup []),some (.tup []),some (.d (.bool false)),some (.d (.bool false)),some (.tup []),some (.tup []),some (.tup []),some (.tup []),some (.d (.bool false)),some (.d (.bool false)),some (.tup []),some (.tup []),some (.tup []),some (.tup []),some (.d (.bool false)),some (.d (.int .i64 1)),some (.d (.int .i64 1)),some (.d (.bool false))] ?_
    refine ⟨[0,1,2,3,4,5,6,7,8,9,10,11,12,13,14,15,16,17,18,19,20,21,22,23],by kernel_rfl,?_,_,rfl,?_⟩
    ·
     refine .v rfl rfl rfl rfl (aj rfl mh kI rfl) ?_
     refine .v rfl rfl rfl rfl (av H4 (i:=0) rfl rfl (aA j5 rfl)) ?_
     refine .v rfl rfl rfl rfl (au rfl rfl gG) ?_
     refine .cons rfl rfl rfl (.val rfl (ae rfl) (.eq (by rw [hb12]))) ?_
     refine .cons rfl rfl rfl (.no rfl (.refl _)) ?_
     refine .cons rfl rfl rfl (.no rfl (.refl _)) ?_
     refine .cons rfl rfl rfl (.no rfl (.refl _)) ?_
     refine .cons rfl rfl rfl (.no rfl (.refl _)) ?_
     refine .v rfl rfl rfl rfl (ay (b:=false) rfl rfl) ?_
     refine .v rfl rfl rfl rfl (ae rfl) ?_
     refine .cons rfl rfl rfl (.no rfl (.refl _)) ?_
     refine .cons rfl rfl rfl (.no rfl (.refl _)) ?_
     refine .cons rfl rfl rfl (.no rfl (.refl _)) ?_
     refine .cons rfl rfl rfl (.no rfl (.refl _)) ?_
     refine .v rfl rfl rfl rfl (ay (b:=false) rfl rfl) ?_
     refine .v rfl rfl rfl rfl (ae rfl) ?_
     refine .cons rfl rfl rfl (.no rfl (.refl _)) ?_
     refine .cons rfl rfl rfl (.no rfl (.refl _)) ?_
     refine .cons rfl rfl rfl (.no rfl (.refl _)) ?_
     refine .cons rfl rfl rfl (.no rfl (.refl _)) ?_
     refine .v rfl rfl rfl rfl (ay (b:=false) rfl rfl) ?_
     refine .v rfl rfl rfl rfl (ai rfl) ?_
     refine .v rfl rfl rfl rfl (ai rfl) ?_
     refine .v rfl rfl rfl rfl (ai rfl) ?_
     exact .nil
    exact ⟨⟨1,1,false⟩,_,_,S3,.refl _ _,.refl _,(aa.r rfl (aa.r rfl (aa.r rfl aa.nil))),H4.sl [] rfl rfl,h⟩
   replace h:=bO hb12 h
   rcases (Bool.eq_false_or_eq_true ((((a1.aH).length:Int) == 0))).symm with hb13 | hb13
   ·
    replace h:=bQ hb13 h
    refine ax.jH E.obj nQ Jc [(2,some 21),(3,some 22),(4,some 23)] (by kernel_rfl) [] (by decide) [some (.ptr b2 0 1),some (.d (.str a1.Key)),some (.d (.bool (a1.Key == []))),some (.d (.bool true)),some (.ptr b2 0 3),some (.d (.sl ((a1.aH).map aB) false)),some (.d (.int .i64 ((a1.aH).length:Int))),some (.d (.bool (((a1.aH).length:Int) == 0))),some (.d (.bool (((a1.aH).length:Int) == 0))),some (.d (.bool false)),some (.tup []),some (.tup []),some (.tup []),some (.tup []),some (.d (.bool false)),some (.d (.bool false)),some (.tup []),some (.tup []),some (.tup []),some (.tup []),some (.d (.bool false)),some (.d (.int .i64 1)),some (.d (.int .i64 1)),some (.d (.bool false))] ?_
    refine ⟨[0,1,2,3,4,5,6,7,8,9,10,11,12,13,14,15,16,17,18,19,20,21,22,23],by kernel_rfl,?_,_,rfl,?_⟩
    ·
     refine .v rfl rfl rfl rfl (aj rfl mh kI rfl) ?_
     refine .v rfl rfl rfl rfl (av H4 (i:=0) rfl rfl (aA j5 rfl)) ?_
     refine .v rfl rfl rfl rfl (au rfl rfl gG) ?_
     refine .cons rfl rfl rfl (.val rfl (ae rfl) (.eq (by rw [hb12]))) ?_
     refine .v rfl rfl rfl rfl (aj rfl oK tK rfl) ?_
     refine .v rfl rfl rfl rfl (av H4 (i:=0) rfl rfl (aA ve rfl)) ?_
     refine .v rfl rfl rfl rfl (aO rfl xH) ?_
     refine .v rfl rfl rfl rfl (au rfl rfl aU) ?_
     refine .v rfl rfl rfl rfl (ay (b:=true) rfl rfl) ?_
     refine .cons rfl rfl rfl (.val rfl (ae rfl) (.eq (by rw [hb13]))) ?_
     refine .cons rfl rfl rfl (.no rfl (.refl _)) ?_
     refine .cons rfl rfl rfl (.no rfl (.refl _)) ?_
     refine .cons rfl rfl rfl (.no rfl (.refl _)) ?_
     refine .cons rfl rfl rfl (.no rfl (.refl _)) ?_
     refine .v rfl rfl rfl rfl (ay (b:=false) rfl rfl) ?_
     refine .v rfl rfl rfl rfl (ae rfl) ?_
     refine .cons rfl rfl rfl (.no rfl (.refl _)) ?_
     refine .cons rfl rfl rfl (.no rfl (.refl _)) ?_
     refine .cons rfl rfl rfl (.no rfl (.refl _)) ?_
     refine .cons rfl rfl rfl (.no rfl (.refl _)) ?_
     refine .v rfl rfl rfl rfl (ay (b:=false) rfl rfl) ?_
     refine .v rfl rfl rfl rfl (ai rfl) ?_
     refine .v rfl rfl rfl rfl (ai rfl) ?_
     refine .v rfl rfl rfl rfl (ai rfl) ?_
     exact .nil
    exact ⟨⟨1,1,false⟩,_,_,S3,.refl _ _,.refl _,(aa.r rfl (aa.r rfl (aa.r rfl aa.nil))),H4.sl [] rfl rfl,h⟩
   replace h:=bO hb13 h
   rcases (Bool.eq_false_or_eq_true ((((a1.Kids).length:Int) == 0))).symm with hb14 | hb14
   ·
    replace h:=bQ hb14 h
    refine ax.jH E.obj nQ Jc [(2,some 21),(3,some 22),(4,some 23)] (by kernel_rfl) [] (by decide) [some (.ptr b2 0 1),some (.d (.str a1.Key)),some (.d (.bool (a1.Key == []))),some (.d (.bool true)),some (.ptr b2 0 3),some (.d (.sl ((a1.aH).map aB) false)),some (.d (.int .i64 ((a1.aH).length:Int))),some (.d (.bool (((a1.aH).length:Int) == 0))),some (.d (.bool (((a1.aH).length:Int) == 0))),some (.d (.bool true)),some (.ptr b2 0 4),some (.d (.sl ((a1.Kids).map az) false)),some (.d (.int .i64 ((a1.Kids).length:Int))),some (.d (.bool (((a1.Kids).length:Int) == 0))),some (.d (.bool (((a1.Kids).length:Int) == 0))),some (.d (.bool false)),some (.tup []),some (.tup []),some (.tup []),some (.tup []),some (.d (.bool false)),some (.d (.int .i64 1)),some (.d (.int .i64 1)),some (.d (.bool false))] ?_
    refine ⟨[0,1,2,3,4,5,6,7,8,9,10,11,12,13,14,15,16,17,18,19,20,21,22,23],by kernel_rfl,?_,_,rfl,?_⟩
    ·
     refine .v rfl rfl rfl rfl (aj rfl mh kI rfl) ?_
     refine .v rfl rfl rfl rfl (av H4 (i:=0) rfl rfl (aA j5 rfl)) ?_
     refine .v rfl rfl rfl rfl (au rfl rfl gG) ?_
     refine .cons rfl rfl rfl (.val rfl (ae rfl) (.eq (by rw [hb12]))) ?_
     refine .v rfl rfl rfl rfl (aj rfl oK tK rfl) ?_
     refine .v rfl rfl rfl rfl (av H4 (i:=0) rfl rfl (aA ve rfl)) ?_
     refine .v rfl rfl rfl rfl (aO rfl xH) ?_
     refine .v rfl rfl rfl rfl (au rfl rfl aU) ?_
     refine .v rfl rfl rfl rfl (ay (b:=true) rfl rfl) ?_
     refine .cons rfl rfl rfl (.val rfl (ae rfl) (.eq (by rw [hb13]))) ?_
     refine .v rfl rfl rfl rfl (aj rfl j3 sK rfl) ?_
     refine .v rfl rfl rfl rfl (av H4 (i:=0) rfl rfl (aA sZ rfl)) ?_
     refine .v rfl rfl rfl rfl (aO rfl pO) ?_
     refine .v rfl rfl rfl rfl (au rfl rfl aU) ?_
     refine .v rfl rfl rfl rfl (ay (b:=true) rfl rfl) ?_
     refine .cons rfl rfl rfl (.val rfl (ae rfl) (.eq (by rw [hb14]))) ?_
     refine .cons rfl rfl rfl (.no rfl (.refl _)) ?_
     refine .cons rfl rfl rfl (.no rfl (.refl _)) ?_
     refine .cons rfl rfl rfl (.no rfl (.refl _)) ?_
     refine .cons rfl rfl rfl (.no rfl (.refl _)) ?_
     refine .v rfl rfl rfl rfl (ay (b:=false) rfl rfl) ?_
     refine .v rfl rfl rfl rfl (ai rfl) ?_
     refine .v rfl rfl rfl rfl (ai rfl) ?_
     refine .v rfl rfl rfl rfl (ai rfl) ?_
     exact .nil
    exact ⟨⟨1,1,false⟩,_,_,S3,.refl _ _,.refl _,(aa.r rfl (aa.r rfl (aa.r rfl aa.nil))),H4.sl [] rfl rfl,h⟩
   replace h:=bO hb14 h
   refine ax.jH E.obj nQ Jc [(2,some 21),(3,some 22),(4,some 23)] (by kernel_rfl) [] (by decide) [some (.ptr b2 0 1),some (.d (.str a1.Key)),some (.d (.bool (a1.Key == []))),some (.d (.bool true)),some (.ptr b2 0 3),some (.d (.sl ((a1.aH).map aB) false)),some (.d (.int .i64 ((a1.aH).length:Int))),some (.d (.bool (((a1.aH).length:Int) == 0))),some (.d (.bool (((a1.aH).length:Int) == 0))),some (.d (.bool true)),some (.ptr b2 0 4),some (.d (.sl ((a1.Kids).map az) false)),some (.d (.int .i64 ((a1.Kids).length:Int))),some (.d (.bool (((a1.Kids).length:Int) == 0))),some (.d (.bool (((a1.Kids).length:Int) == 0))),some (.d (.bool true)),some (.ptr b2 0 2),some (.d (.str a1.Text)),some (.d (.int .i64 ((a1.Text).length:Int))),some (.d (.bool (decide (((a1.Text).length:Int) ≤ 64)))),some (.d (.bool (decide (((a1.Text).length:Int) ≤ 64)))),some (.d (.int .i64 1)),some (.d (.int .i64 1)),some (.d (.bool (decide (((a1.Text).length:Int) ≤ 64))))] ?_
   refine ⟨[0,1,2,3,4,5,6,7,8,9,10,11,12,13,14,15,16,17,18,19,20,21,22,23],by kernel_rfl,?_,_,rfl,?_⟩
   ·
    refine .v rfl rfl rfl rfl (aj rfl mh kI rfl) ?_
    refine .v rfl rfl rfl rfl (av H4 (i:=0) rfl rfl (aA j5 rfl)) ?_
    refine .v rfl rfl rfl rfl (au rfl rfl gG) ?_
    refine .cons rfl rfl rfl (.val rfl (ae rfl) (.eq (by rw [hb12]))) ?_
    refine .v rfl rfl rfl rfl (aj rfl oK tK rfl) ?_
    refine .v rfl rfl rfl rfl (av H4 (i:=0) rfl rfl (aA ve rfl)) ?_
    refine .v rfl rfl rfl rfl (aO rfl xH) ?_
    refine .v rfl rfl rfl rfl (au rfl rfl aU) ?_
    refine .v rfl rfl rfl rfl (ay (b:=true) rfl rfl) ?_
    refine .cons rfl rfl rfl (.val rfl (ae rfl) (.eq (by rw [hb13]))) ?_
    refine .v rfl rfl rfl rfl (aj rfl j3 sK rfl) ?_
    refine .v rfl rfl rfl rfl (av H4 (i:=0) rfl rfl (aA sZ rfl)) ?_
    refine .v rfl rfl rfl rfl (aO rfl pO) ?_
    refine .v rfl rfl rfl rfl (au rfl rfl aU) ?_
    refine .v rfl rfl rfl rfl (ay (b:=true) rfl rfl) ?_
    refine .cons rfl rfl rfl (.val rfl (ae rfl) (.eq (by rw [hb14]))) ?_
    refine .v rfl rfl rfl rfl (aj rfl tC kI rfl) ?_
    refine .v rfl rfl rfl rfl (av H4 (i:=0) rfl rfl (aA j5 rfl)) ?_
    refine .v rfl rfl rfl rfl (gJ rfl (gV zU) rfl) ?_
    refine .v rfl rfl rfl rfl (au rfl rfl iG) ?_
    refine .v rfl rfl rfl rfl (ay (b:=true) rfl rfl) ?_
    refine .v rfl rfl rfl rfl (ai rfl) ?_
    refine .v rfl rfl rfl rfl (ai rfl) ?_
    refine .v rfl rfl rfl rfl (ai rfl) ?_
    exact .nil
   exact ⟨⟨1,1,(decide (((a1.Text).length:Int) ≤ 64))⟩,_,_,S3,.refl _ _,.refl _,(aa.r rfl (aa.r rfl (aa.r rfl aa.nil))),H4.sl [] rfl rfl,h⟩
  replace h:=bQ hb5 h
  refine ax.skip ?_
  refine ax.seq ?_
  refine ax.seq ?_
  refine ax.region E.obj rfl ?_
  refine ah.val rfl (aj rfl mY kI rfl) rfl ?_
  refine ah.val rfl (av H4 (i:=0) rfl rfl (aA j5 rfl)) rfl ?_
  obtain ⟨z15,hzz15,h⟩:=bind_some h
  refine ah.ret rfl (aC rfl rfl) (ql E _ _ _ hzz15 _ _ (aF.eq .nil)) rfl ?_
  refine ah.val rfl (dW rfl) rfl ?_
  refine ah.val rfl (ae rfl) rfl ?_
  refine ah.aZ 4 47 (.d (.bool ((!z15) || (!(a1.Text == []))))) ?_ ?_
  ·
   rcases Bool.eq_false_or_eq_true ((!z15)) with hB16 | hB16
   ·
    refine ah.bool hB16 ?_
    refine ah.no rfl rfl ?_
    refine ah.no rfl rfl ?_
    refine ah.no rfl rfl ?_
    refine ah.val rfl (ay (b:=true) rfl rfl) rfl ?_
    exact ah.nil ⟨_,rfl,(aa.put (aa.push rfl (aa.push rfl (aa.push rfl (aa.put (.refl _) (Less.eq (by rw [hB16])))))) (Less.eq (by rw [hB16]; rw [Bool.true_or])))⟩
   refine ah.bool hB16 ?_
   refine ah.val rfl (aj rfl tC kI rfl) rfl ?_
   refine ah.val rfl (av H4 (i:=0) rfl rfl (aA j5 rfl)) rfl ?_
   refine ah.val rfl (au rfl rfl jc) rfl ?_
   refine ah.val rfl (ay (b:=false) rfl rfl) rfl ?_
   exact ah.nil ⟨_,rfl,(aa.put (aa.push rfl (aa.push rfl (aa.push rfl (aa.put (.refl _) (Less.eq (by rw [hB16])))))) (Less.eq (by rw [hB16]; rw [Bool.false_or])))⟩
  refine ah.val rfl (ae rfl) rfl ?_
  refine ah.aZ 5 53 (.d (.bool (((!z15) || (!(a1.Text == []))) || (decide (24 < ((a1.Kids).length:Int)))))) ?_ ?_
  ·
   rcases Bool.eq_false_or_eq_true (((!z15) || (!(a1.Text == [])))) with hB17 | hB17
   ·
    refine ah.bool hB17 ?_
    refine ah.no rfl rfl ?_
    refine ah.no rfl rfl ?_
    refine ah.no rfl rfl ?_
    refine ah.no rfl rfl ?_
    refine ah.val rfl (ay (b:=true) rfl rfl) rfl ?_
    exact ah.nil ⟨_,rfl,(aa.put (aa.push rfl (aa.push rfl (aa.push rfl (aa.push rfl (aa.put (.refl _) (Less.eq (by rw [hB17]))))))) (Less.eq (by rw [hB17]; rw [Bool.true_or])))⟩
   refine ah.bool hB17 ?_
   refine ah.val rfl (aj rfl j3 sK rfl) rfl ?_
   refine ah.val rfl (av H4 (i:=0) rfl rfl (aA sZ rfl)) rfl ?_
   refine ah.val rfl (aO rfl pO) rfl ?_
   refine ah.val rfl (au rfl rfl fJ) rfl ?_
   refine ah.val rfl (ay (b:=false) rfl rfl) rfl ?_
   exact ah.nil ⟨_,rfl,(aa.put (aa.push rfl (aa.push rfl (aa.push rfl (aa.push rfl (aa.put (.refl _) (Less.eq (by rw [hB17]))))))) (Less.eq (by rw [hB17]; rw [Bool.false_or])))⟩
  refine ah.val rfl (ae rfl) rfl ?_
  refine ah.aZ 5 59 (.d (.bool ((((!z15) || (!(a1.Text == []))) || (decide (24 < ((a1.Kids).length:Int)))) || (decide (64 < ((a1.Key).length:Int)))))) ?_ ?_
  ·
   rcases Bool.eq_false_or_eq_true ((((!z15) || (!(a1.Text == []))) || (decide (24 < ((a1.Kids).length:Int))))) with hB18 | hB18
   ·
    refine ah.bool hB18 ?_
    refine ah.no rfl rfl ?_
    refine ah.no rfl rfl ?_
    refine ah.no rfl rfl ?_
    refine ah.no rfl rfl ?_
    refine ah.val rfl (ay (b:=true) rfl rfl) rfl ?_
    exact ah.nil ⟨_,rfl,(aa.put (aa.push rfl (aa.push rfl (aa.push rfl (aa.push rfl (aa.put (.refl _) (Less.eq (by rw [hB18]))))))) (Less.eq (by rw [hB18]; rw [Bool.true_or])))⟩
   refine ah.bool hB18 ?_
   refine ah.val rfl (aj rfl mh kI rfl) rfl ?_
   refine ah.val rfl (av H4 (i:=0) rfl rfl (aA j5 rfl)) rfl ?_
   refine ah.val rfl (gJ rfl (gV zU) rfl) rfl ?_
   refine ah.val rfl (au rfl rfl fJ) rfl ?_
   refine ah.val rfl (ay (b:=false) rfl rfl) rfl ?_
   exact ah.nil ⟨_,rfl,(aa.put (aa.push rfl (aa.push rfl (aa.push rfl (aa.push rfl (aa.put (.refl _) (Less.eq (by rw [hB18]))))))) (Less.eq (by rw [hB18]; rw [Bool.false_or])))⟩
  refine ah.nil ?_
  refine ax.cond rfl (fun hb19=>?_) (fun hb19=>?_)
  ·
   replace h:=bO hb19 h
   refine ax.seq ?_
   refine ax.region E.obj rfl ?_
   refine ah.val rfl (ai rfl) rfl ?_
   refine ah.val rfl (ai rfl) rfl ?_
   refine ah.val rfl (ai rfl) rfl ?_
   refine ah.nil ?_
   have hr:=Option.some.inj h
   subst hr
   exact ax.ret ⟨_,rfl,rfl,vg (vs:=[(.d (.int .i64 0)),(.d (.int .i64 0)),(.d (.bool false))]) (ds:=[(.int .i64 0),(.int .i64 0),(.bool false)]) (aF.eq (aF.eq (aF.eq .nil)))⟩
  replace h:=bQ hb19 h
  refine ax.skip ?_
  refine ax.seq ?_
  refine ax.region E.obj rfl ?_
  refine ah.makeMap D.str D.bool H4 rfl Fv rfl (fun b20 S21 H22=>?_)
  refine ah.val rfl (ai rfl) rfl ?_
  refine ah.nil ?_
  refine ax.seq ?_
  refine ax.seq ?_
  refine ax.region E.obj rfl ?_
  refine ah.val rfl (aj rfl oK tK rfl) rfl ?_
  refine ah.val rfl (av H22 (i:=1) rfl rfl (aA ve rfl)) rfl ?_
  refine ah.val rfl (aO rfl xH) rfl ?_
  refine ah.val rfl (ae rfl) rfl ?_
  refine ah.nil ?_
  refine ax.block ?_
  refine lV.start (B:=aI) (α:=(List (Str × Bool)) × Int) (fun k a=>bP n (bz n) a1 k a.1 a.2=some r) (fun a=>[(1,(.ptr b2 0 0)),(5,(.map b20)),(62,(.d (.sl ((a1.aH).map aB) false))),(63,(.d (.int .i64 ((a1.aH).length:Int)))),(64,(.d (.int .i64 a.2)))]) (fun a=>[.map b20 (mD D.str D.bool a.1),.box b2 [(.d (.str a1.Tag)),(.d (.str a1.Key)),(.d (.str a1.Text)),(.d (.sl ((a1.aH).map aB) false)),(.d (.sl ((a1.Kids).map az) false))]]) ?_ ?_ n ⟨⟨[],0⟩,_,_,S21,.refl _ _,.refl _,(aa.r rfl (aa.r rfl (aa.r rfl (aa.r rfl (aa.r rfl aa.nil))))),H22.sl [0,1] rfl rfl,h⟩
  ·
   intro a h; simp [bP] at h
  intro k33 a S29 H30 h
  obtain ⟨x31,x32⟩:=a
  replace h:bP n (bz n) a1 (k33 + 1) x31 x32=some r:=h
  replace H30:Has aI S29 [.map b20 (mD D.str D.bool x31),.box b2 [(.d (.str a1.Tag)),(.d (.str a1.Key)),(.d (.str a1.Text)),(.d (.sl ((a1.aH).map aB) false)),(.d (.sl ((a1.Kids).map az) false))]]:=H30
  unfold bP at h
  refine ax.seq ?_
  refine ax.region E.obj rfl ?_
  refine ah.val rfl (au rfl rfl bJ) rfl ?_
  refine ah.nil ?_
  refine ax.seq ?_
  refine ax.cond rfl (fun hb34=>?_) (fun hb34=>?_)
  ·
   replace h:=bO hb34 h
   refine ax.skip ?_
   refine ax.seq ?_
   refine ax.block ?_
   refine ax.seq ?_
   refine ax.region E.obj rfl ?_
   obtain ⟨z35,hzz35,h⟩:=bind_some h
   refine ah.val rfl (bA rfl rfl (cZ (enc:=aB) hzz35 zx Cu ((Attr.len _).trans pG.symm))) rfl ?_
   refine ah.val rfl (aV rfl (Attr.ib Et pG)) rfl ?_
   refine ah.alloc H30 rfl Ip Gm rfl rfl (fun b36 S37 H38=>?_)
   refine ah.store H38 (i:=0) rfl rfl rfl rfl (Attr.bD _) rfl pG rfl Cu rfl rfl rfl (fun S39 H40=>?_)
   refine ah.nil ?_
   refine ax.seq ?_
   refine ax.seq ?_
   refine ax.region E.obj rfl ?_
   refine ah.val rfl (aj rfl pV kI rfl) rfl ?_
   refine ah.val rfl (av H40 (i:=0) rfl rfl (aA j5 rfl)) rfl ?_
   refine ah.val rfl (gJ rfl (gV zU) rfl) rfl ?_
   refine ah.val rfl (au rfl rfl bJ) rfl ?_
   refine ah.val rfl (ae rfl) rfl ?_
   refine ah.aZ 5 77 (.d (.bool ((decide (((z35.Name).length:Int) < 1)) || (decide (64 < ((z35.Name).length:Int)))))) ?_ ?_
   ·
    rcases Bool.eq_false_or_eq_true ((decide (((z35.Name).length:Int) < 1))) with hB41 | hB41
    ·
     refine ah.bool hB41 ?_
     refine ah.no rfl rfl ?_
     refine ah.no rfl rfl ?_
     refine ah.no rfl rfl ?_
     refine ah.no rfl rfl ?_
     refine ah.val rfl (ay (b:=true) rfl rfl) rfl ?_
     exact ah.nil ⟨_,rfl,(aa.put (aa.push rfl (aa.push rfl (aa.push rfl (aa.push rfl (aa.put (.refl _) (Less.eq (by rw [hB41]))))))) (Less.eq (by rw [hB41]; rw [Bool.true_or])))⟩
    refine ah.bool hB41 ?_
    refine ah.val rfl (aj rfl pV kI rfl) rfl ?_
    refine ah.val rfl (av H40 (i:=0) rfl rfl (aA j5 rfl)) rfl ?_
    refine ah.val rfl (gJ rfl (gV zU) rfl) rfl ?_
    refine ah.val rfl (au rfl rfl fJ) rfl ?_
    refine ah.val rfl (ay (b:=false) rfl rfl) rfl ?_
    exact ah.nil ⟨_,rfl,(aa.put (aa.push rfl (aa.push rfl (aa.push rfl (aa.push rfl (aa.put (.refl _) (Less.eq (by rw [hB41]))))))) (Less.eq (by rw [hB41]; rw [Bool.false_or])))⟩
   refine ah.val rfl (ae rfl) rfl ?_
   refine ah.aZ 5 83 (.d (.bool (((decide (((z35.Name).length:Int) < 1)) || (decide (64 < ((z35.Name).length:Int)))) || (decide (64 < ((z35.Value).length:Int)))))) ?_ ?_
   ·
    rcases Bool.eq_false_or_eq_true (((decide (((z35.Name).length:Int) < 1)) || (decide (64 < ((z35.Name).length:Int))))) with hB42 | hB42
    ·
     refine ah.bool hB42 ?_
     refine ah.no rfl rfl ?_
     refine ah.no rfl rfl ?_
     refine ah.no rfl rfl ?_
     refine ah.no rfl rfl ?_
     refine ah.val rfl (ay (b:=true) rfl rfl) rfl ?_
     exact ah.nil ⟨_,rfl,(aa.put (aa.push rfl (aa.push rfl (aa.push rfl (aa.push rfl (aa.put (.refl _) (Less.eq (by rw [hB42]))))))) (Less.eq (by rw [hB42]; rw [Bool.true_or])))⟩
    refine ah.bool hB42 ?_
    refine ah.val rfl (aj rfl FU kI rfl) rfl ?_
    refine ah.val rfl (av H40 (i:=0) rfl rfl (aA j5 rfl)) rfl ?_
    refine ah.val rfl (gJ rfl (gV zU) rfl) rfl ?_
    refine ah.val rfl (au rfl rfl fJ) rfl ?_
    refine ah.val rfl (ay (b:=false) rfl rfl) rfl ?_
    exact ah.nil ⟨_,rfl,(aa.put (aa.push rfl (aa.push rfl (aa.push rfl (aa.push rfl (aa.put (.refl _) (Less.eq (by rw [hB42]))))))) (Less.eq (by rw [hB42]; rw [Bool.false_or])))⟩
   refine ah.val rfl (ae rfl) rfl ?_
   refine ah.aZ 5 89 (.d (.bool ((((decide (((z35.Name).length:Int) < 1)) || (decide (64 < ((z35.Name).length:Int)))) || (decide (64 < ((z35.Value).length:Int)))) || (r9 x31 z35.Name false)))) ?_ ?_
   ·
    rcases Bool.eq_false_or_eq_true ((((decide (((z35.Name).length:Int) < 1)) || (decide (64 < ((z35.Name).length:Int)))) || (decide (64 < ((z35.Value).length:Int))))) with hB43 | hB43
    ·
     refine ah.bool hB43 ?_
     refine ah.no rfl rfl ?_
     refine ah.no rfl rfl ?_
     refine ah.no rfl rfl ?_
     refine ah.no rfl rfl ?_
     refine ah.val rfl (ay (b:=true) rfl rfl) rfl ?_
     exact ah.nil ⟨_,rfl,(aa.put (aa.push rfl (aa.push rfl (aa.push rfl (aa.push rfl (aa.put (.refl _) (Less.eq (by rw [hB43]))))))) (Less.eq (by rw [hB43]; rw [Bool.true_or])))⟩
    refine ah.bool hB43 ?_
    refine ah.val rfl (ae rfl) rfl ?_
    refine ah.val rfl (aj rfl pV kI rfl) rfl ?_
    refine ah.val rfl (av H40 (i:=0) rfl rfl (aA j5 rfl)) rfl ?_
    refine ah.val rfl (zP (ek:=D.str) (ev:=D.bool) (k:=z35.Name) (z:=false) H40 (i:=1) rfl rfl rfl Fv (F7 KF) KL) rfl ?_
    refine ah.val rfl (ay (b:=false) rfl rfl) rfl ?_
    exact ah.nil ⟨_,rfl,(aa.put (aa.push rfl (aa.push rfl (aa.push rfl (aa.push rfl (aa.put (.refl _) (Less.eq (by rw [hB43]))))))) (Less.eq (by rw [hB43]; rw [Bool.false_or])))⟩
   refine ah.nil ?_
   refine ax.cond rfl (fun hb44=>?_) (fun hb44=>?_)
   ·
    replace h:=bO hb44 h
    refine ax.seq ?_
    refine ax.region E.obj rfl ?_
    refine ah.val rfl (ai rfl) rfl ?_
    refine ah.val rfl (ai rfl) rfl ?_
    refine ah.val rfl (ai rfl) rfl ?_
    refine ah.nil ?_
    have hr:=Option.some.inj h
    subst hr
    exact ax.ret ⟨_,rfl,rfl,vg (vs:=[(.d (.int .i64 0)),(.d (.int .i64 0)),(.d (.bool false))]) (ds:=[(.int .i64 0),(.int .i64 0),(.bool false)]) (aF.eq (aF.eq (aF.eq .nil)))⟩
   replace h:=bQ hb44 h
   refine ax.skip ?_
   refine ax.region E.obj rfl ?_
   refine ah.val rfl (ae rfl) rfl ?_
   refine ah.val rfl (aj rfl pV kI rfl) rfl ?_
   refine ah.val rfl (av H40 (i:=0) rfl rfl (aA j5 rfl)) rfl ?_
   refine ah.mapUpdate (ek:=D.str) (ev:=D.bool) (k:=z35.Name) (v:=true) H40 rfl (i:=1) rfl rfl rfl rfl Fv (F7 KF) (fun S45 H46=>?_)
   refine ah.nil ?_
   refine ax.region E.obj rfl ?_
   refine ah.val rfl (au rfl rfl bq) rfl ?_
   refine ah.val rfl (ae rfl) rfl ?_
   refine ah.nil ?_
   exact ⟨⟨(wM x31 z35.Name true),(IntKind.wrap .i64 (x32 + 1))⟩,_,_,S45,.refl _ _,.refl _,(aa.r rfl (aa.r rfl (aa.r rfl (aa.r rfl (aa.r rfl aa.nil))))),H46.sl [1,2] rfl rfl,h⟩
  replace h:=bQ hb34 h
  refine ax.exit ?_
  refine ax.seq ?_
  refine ax.region E.obj rfl ?_
  refine ah.val rfl (ai rfl) rfl ?_
  refine ah.val rfl (ai rfl) rfl ?_
  refine ah.nil ?_
  refine ax.seq ?_
  refine ax.seq ?_
  refine ax.region E.obj rfl ?_
  refine ah.val rfl (aj rfl j3 sK rfl) rfl ?_
  refine ah.val rfl (av H30 (i:=1) rfl rfl (aA sZ rfl)) rfl ?_
  refine ah.val rfl (aO rfl pO) rfl ?_
  refine ah.val rfl (ae rfl) rfl ?_
  refine ah.nil ?_
  refine ax.block ?_
  refine lV.start (B:=aI) (α:=Int × Int × Int) (fun k a=>bE (bz n) a1 k a.1 a.2.1 a.2.2=some r) (fun a=>[(8,(.d (.int .i64 a.1))),(9,(.d (.int .i64 a.2.1))),(95,(.d (.sl ((a1.Kids).map az) false))),(96,(.d (.int .i64 ((a1.Kids).length:Int)))),(97,(.d (.int .i64 a.2.2)))]) (fun a=>[]) ?_ ?_ n ⟨⟨1,1,0⟩,_,_,S29,.refl _ _,.refl _,(aa.r rfl (aa.r rfl (aa.r rfl (aa.r rfl (aa.r rfl aa.nil))))),H30.sl [] rfl rfl,h⟩
  ·
   intro a h; simp [bE] at h
  intro k59 a S54 H55 h
  obtain ⟨x56,x57,x58⟩:=a
  replace h:bE (bz n) a1 (k59 + 1) x56 x57 x58=some r:=h
  replace H55:Has aI S54 []:=H55
  unfold bE at h
  refine ax.seq ?_
  refine ax.region E.obj rfl ?_
  refine ah.val rfl (au rfl rfl bJ) rfl ?_
  refine ah.nil ?_
  refine ax.seq ?_
  refine ax.cond rfl (fun hb60=>?_) (fun hb60=>?_)
  ·
   replace h:=bO hb60 h
   refine ax.skip ?_
   refine ax.seq ?_
   refine ax.block ?_
   refine ax.seq ?_
   refine ax.region E.obj rfl ?_
   obtain ⟨z61,hzz61,h⟩:=bind_some h
   refine ah.val rfl (bA rfl rfl (cZ (enc:=az) hzz61 jI jY ((Tree.len _).trans dO.symm))) rfl ?_
   refine ah.val rfl (aV rfl (Tree.ib iq dO)) rfl ?_
   refine ah.alloc H55 rfl uf iA rfl rfl (fun b62 S63 H64=>?_)
   refine ah.store H64 (i:=0) rfl rfl rfl rfl (Tree.bD _) rfl dO rfl jY rfl rfl rfl (fun S65 H66=>?_)
   refine ah.nil ?_
   refine ax.seq ?_
   refine ax.region E.obj rfl ?_
   refine ah.val rfl (av H66 (i:=0) rfl rfl (aW iq dO rfl)) rfl ?_
   refine ah.less (Less.agg' (d:=az z61) (ak.eq rfl (ak.eq rfl (ak.eq rfl (ak.eq rfl (ak.eq rfl .nil))))) ((Tree.eq _).trans rfl)) ?_
   obtain ⟨z67,hzz67,h⟩:=bind_some h
   refine ah.ret rfl (aC rfl rfl) (ih _ _ hzz67 _ _ (aF.eq .nil)) rfl ?_
   refine ah.val rfl (ae rfl) rfl ?_
   refine ah.val rfl (aN rfl rfl) rfl ?_
   refine ah.val rfl (aN rfl rfl) rfl ?_
   refine ah.val rfl (aN rfl rfl) rfl ?_
   refine ah.val rfl (ai rfl) rfl ?_
   refine ah.val rfl (ai rfl) rfl ?_
   refine ah.val rfl (ai rfl) rfl ?_
   refine ah.nil ?_
   refine ax.seq ?_
   refine ax.seq ?_
   refine ax.region E.obj rfl ?_
   refine ah.val rfl (ae rfl) rfl ?_
   refine ah.val rfl (dW rfl) rfl ?_
   refine ah.nil ?_
   refine ax.cond rfl (fun hb68=>?_) (fun hb68=>?_)
   ·
    replace h:=bO hb68 h
    refine ax.seq ?_
    refine ax.region E.obj rfl ?_
    refine ah.val rfl (ai rfl) rfl ?_
    refine ah.val rfl (ai rfl) rfl ?_
    refine ah.val rfl (ai rfl) rfl ?_
    refine ah.nil ?_
    have hr:=Option.some.inj h
    subst hr
    exact ax.ret ⟨_,rfl,rfl,vg (vs:=[(.d (.int .i64 0)),(.d (.int .i64 0)),(.d (.bool false))]) (ds:=[(.int .i64 0),(.int .i64 0),(.bool false)]) (aF.eq (aF.eq (aF.eq .nil)))⟩
   replace h:=bQ hb68 h
   refine ax.skip ?_
   refine ax.region E.obj rfl ?_
   refine ah.val rfl (ae rfl) rfl ?_
   refine ah.val rfl (ae rfl) rfl ?_
   refine ah.val rfl (au rfl rfl bq) rfl ?_
   refine ah.val rfl (ae rfl) rfl ?_
   refine ah.val rfl (ae rfl) rfl ?_
   refine ah.val rfl (au rfl rfl bq) rfl ?_
   refine ah.val rfl (p9 rfl rfl) rfl ?_
   refine ah.val rfl (ai rfl) rfl ?_
   refine ah.val rfl (ai rfl) rfl ?_
   refine ah.nil ?_
   refine ax.region E.obj rfl ?_
   refine ah.val rfl (au rfl rfl bq) rfl ?_
   refine ah.val rfl (ae rfl) rfl ?_
   refine ah.nil ?_
   exact ⟨⟨(IntKind.wrap .i64 (x56 + z67.1)),(lQ x57 (IntKind.wrap .i64 (z67.2.1 + 1))),(IntKind.wrap .i64 (x58 + 1))⟩,_,_,S65,.refl _ _,.refl _,(aa.r rfl (aa.r rfl (aa.r rfl (aa.r rfl (aa.r rfl aa.nil))))),H66.sl [] rfl rfl,h⟩
  replace h:=bQ hb60 h
  refine ax.exit ?_
  refine ax.seq ?_
  refine ax.region E.obj rfl ?_
  refine ah.val rfl (ae rfl) rfl ?_
  refine ah.val rfl (ae rfl) rfl ?_
  refine ah.val rfl (ai rfl) rfl ?_
  refine ah.val rfl (ai rfl) rfl ?_
  refine ah.val rfl (ai rfl) rfl ?_
  refine ah.nil ?_
  have hr:=Option.some.inj h
  subst hr
  exact ax.ret ⟨_,rfl,rfl,vg (vs:=[(.d (.int .i64 x56)),(.d (.int .i64 x57)),(.d (.bool true))]) (ds:=[(.int .i64 x56),(.int .i64 x57),(.bool true)]) (aF.eq (aF.eq (aF.eq .nil)))⟩
set_option maxRecDepth 20000 in
set_option maxHeartbeats 4000000 in
theorem oG (n:Nat) (a1:aT) (a2:(List Int)) (a3:(List dQ)) (r:(Tree × Int)) (h:gM n a1 a2 a3=some r):di R cfg.P 15 [(aD a1),(.sl ((a2).map (D.int .i64)) false),(.sl ((a3).map aJ) false)] (.tup [.d (az r.1),.d (.int .i64 r.2)]):=by
 unfold gM at h
 refine di.of_wp E.obj.toObjOk (C:=cfg) Tryd.func15 rfl JK rfl ?_
 have H0:Has aI aI []:=Has.pure
 refine ax.seq ?_
 refine ax.region E.obj rfl ?_
 refine ah.box H0 rfl rfl rfl (aT.bD _) rfl (fun b4 S5 H6=>?_)
 refine ah.alloc H6 rfl uf iA rfl rfl (fun b7 S8 H9=>?_)
 refine ah.val rfl (ai rfl) rfl ?_
 refine ah.nil ?_
 refine ax.seq ?_
 refine ax.region E.obj rfl ?_
 refine ah.alloc H9 rfl K3 Io rfl rfl (fun b10 S11 H12=>?_)
 refine ah.store H12 (i:=0) rfl rfl rfl rfl rfl rfl tu rfl C9 rfl rfl rfl (fun S13 H14=>?_)
 refine ah.nil ?_
 refine ax.seq ?_
 refine ax.region E.obj rfl ?_
 refine ah.val rfl (av H14 (i:=2) rfl rfl (aW gY dY rfl)) rfl ?_
 refine ah.less (Less.agg' (d:=aD a1) (ak.eq rfl (ak.eq rfl (ak.eq rfl (ak.eq rfl (ak.eq rfl (ak.eq rfl .nil)))))) ((aT.eq _).trans rfl)) ?_
 refine ah.val rfl (ae rfl) rfl ?_
 refine ah.val rfl (ae rfl) rfl ?_
 obtain ⟨z15,hzz15,h⟩:=bind_some h
 refine ah.Ei (ins:=[.box b10 [(.d (.int .i64 0))]]) (more:=[.box b7 [(.d (.str [])),(.d (.str [])),(.d (.str [])),(.d .aY),(.d .aY)],.box b4 [(.d (.int .i64 a1.Kind)),(.d (.int .i64 a1.N)),(.d (.str a1.Tag)),(.d (.str a1.Text)),(.d (.sl ((a1.aH).map aB) false)),(.d (.sl ((a1.Kids).map aD) false))]]) (H14.sl [0,1,2] rfl rfl) rfl (aC rfl rfl) (lY E n _ _ _ _ _ hzz15 b10) (.cons (.refl _) (.cons (.refl _) (.cons (.refl _) (.cons (.refl _) .nil)))) rfl ?_
 rintro _ S16 _ ⟨rfl,rfl⟩ H17
 replace H17:Has aI S16 [.box b10 [(.d (.int .i64 z15.2.2))],.box b7 [(.d (.str [])),(.d (.str [])),(.d (.str [])),(.d .aY),(.d .aY)],.box b4 [(.d (.int .i64 a1.Kind)),(.d (.int .i64 a1.N)),(.d (.str a1.Tag)),(.d (.str a1.Text)),(.d (.sl ((a1.aH).map aB) false)),(.d (.sl ((a1.Kids).map aD) false))]]:=H17
 refine ah.val rfl (ae rfl) rfl ?_
 refine ah.val rfl (aN rfl rfl) rfl ?_
 refine ah.val rfl (aN rfl rfl) rfl ?_
 refine ah.val rfl (ai rfl) rfl ?_
 refine ah.val rfl (ai rfl) rfl ?_
 refine ah.nil ?_
 refine ax.seq ?_
 refine ax.seq ?_
 refine ax.region E.obj rfl ?_
 refine ah.val rfl (ae rfl) rfl ?_
 refine ah.val rfl (dW rfl) rfl ?_
 refine ah.val rfl (ae rfl) rfl ?_
 refine ah.aZ 4 27 (.d (.bool ((!z15.2.1) || (((z15.1).length:Int) != 1)))) ?_ ?_
 ·
  rcases Bool.eq_false_or_eq_true ((!z15.2.1)) with hB18 | hB18
  ·
   refine ah.bool hB18 ?_
   refine ah.no rfl rfl ?_
   refine ah.no rfl rfl ?_
   refine ah.no rfl rfl ?_
   refine ah.val rfl (ay (b:=true) rfl rfl) rfl ?_
   exact ah.nil ⟨_,rfl,(aa.put (aa.push rfl (aa.push rfl (aa.push rfl (aa.put (.refl _) (Less.eq (by rw [hB18])))))) (Less.eq (by rw [hB18]; rw [Bool.true_or])))⟩
  refine ah.bool hB18 ?_
  refine ah.val rfl (ae rfl) rfl ?_
  refine ah.val rfl (aO rfl pO) rfl ?_
  refine ah.val rfl (au rfl rfl jl) rfl ?_
  refine ah.val rfl (ay (b:=false) rfl rfl) rfl ?_
  exact ah.nil ⟨_,rfl,(aa.put (aa.push rfl (aa.push rfl (aa.push rfl (aa.put (.refl _) (Less.eq (by rw [hB18])))))) (Less.eq (by rw [hB18]; rw [Bool.false_or])))⟩
 refine ah.val rfl (ae rfl) rfl ?_
 obtain ⟨z20,hzz20,h⟩:=bind_some h
 refine ah.aZ 6 34 (.d (.bool z20)) ?_ ?_
 ·
  rcases Bool.eq_false_or_eq_true (((!z15.2.1) || (((z15.1).length:Int) != 1))) with hB19 | hB19
  ·
   refine ah.bool hB19 ?_
   refine ah.no rfl rfl ?_
   refine ah.no rfl rfl ?_
   refine ah.no rfl rfl ?_
   refine ah.no rfl rfl ?_
   refine ah.no rfl rfl ?_
   refine ah.val rfl (ay (b:=true) rfl rfl) rfl ?_
   replace hzz20:=bO hB19 hzz20
   cases hzz20
   exact ah.nil ⟨_,rfl,(aa.put (aa.push rfl (aa.push rfl (aa.push rfl (aa.push rfl (aa.push rfl (aa.put (.refl _) (Less.eq (by rw [hB19])))))))) (.refl _))⟩
  refine ah.bool hB19 ?_
  replace hzz20:=bQ hB19 hzz20
  refine ah.val rfl (ae rfl) rfl ?_
  obtain ⟨z21,hzz21,hzz20⟩:=bind_some hzz20
  refine ah.val rfl (bA rfl rfl (cZ (enc:=az) hzz21 jI jY ((Tree.len _).trans dO.symm))) rfl ?_
  refine ah.val rfl (lN rfl mY kI rfl) rfl ?_
  refine ah.val rfl (aV rfl (by rw [Tree.cells]; exact fQ j5 rfl)) rfl ?_
  refine ah.val rfl (au rfl rfl gG) rfl ?_
  refine ah.val rfl (ay (b:=false) rfl rfl) rfl ?_
  cases hzz20
  exact ah.nil ⟨_,rfl,(aa.put (aa.push rfl (aa.push rfl (aa.push rfl (aa.push rfl (aa.push rfl (aa.put (.refl _) (Less.eq (by rw [hB19])))))))) (.refl _))⟩
 refine ah.nil ?_
 refine ax.cond rfl (fun hb22=>?_) (fun hb22=>?_)
 ·
  replace h:=bO hb22 h
  refine ax.seq ?_
  refine ax.region E.obj rfl ?_
  refine ah.val rfl (bW (cs:=[(.d (.str [])),(.d (.str [])),(.d (.str [])),(.d .aY),(.d .aY)]) iA rfl (cK) rfl) rfl ?_
  refine ah.less (Less.agg' (d:=az (Tree.mk [] [] [] [] [])) (ak.eq rfl (ak.eq rfl (ak.eq rfl (ak.dV rfl (.aY false) rfl rfl (ak.dV rfl (.aY false) rfl rfl .nil))))) ((Tree.eq _).trans rfl)) ?_
  refine ah.store H17 (i:=1) rfl rfl rfl rfl (Tree.bD _) rfl dO rfl jY rfl rfl rfl (fun S23 H24=>?_)
  refine ah.val rfl (ai rfl) rfl ?_
  refine ah.nil ?_
  have hr:=Option.some.inj h
  subst hr
  exact ax.ret ⟨_,lh H24 (i:=1) rfl rfl rfl (aW iq dO rfl) rfl,rfl,vg (aF.seq (aF.mr (d:=az (Tree.mk [] [] [] [] [])) (ak.eq rfl (ak.eq rfl (ak.eq rfl (ak.eq rfl (ak.eq rfl .nil))))) ((Tree.eq _).trans rfl)) (aF.eq .nil))⟩
 replace h:=bQ hb22 h
 refine ax.skip ?_
 refine ax.seq ?_
 refine ax.region E.obj rfl ?_
 refine ah.val rfl (ae rfl) rfl ?_
 obtain ⟨z25,hzz25,h⟩:=bind_some h
 refine ah.val rfl (bA rfl rfl (cZ (enc:=az) hzz25 jI jY ((Tree.len _).trans dO.symm))) rfl ?_
 refine ah.val rfl (aV rfl (Tree.ib iq dO)) rfl ?_
 obtain ⟨z26,hzz26,h⟩:=bind_some h
 refine ah.ret rfl (aC rfl rfl) (jB E _ _ _ hzz26 _ _ (aF.eq .nil)) rfl ?_
 refine ah.val rfl (ae rfl) rfl ?_
 refine ah.val rfl (aN rfl rfl) rfl ?_
 refine ah.val rfl (aN rfl rfl) rfl ?_
 refine ah.val rfl (aN rfl rfl) rfl ?_
 refine ah.val rfl (ai rfl) rfl ?_
 refine ah.val rfl (ai rfl) rfl ?_
 refine ah.val rfl (ai rfl) rfl ?_
 refine ah.nil ?_
 refine ax.seq ?_
 refine ax.seq ?_
 refine ax.region E.obj rfl ?_
 refine ah.val rfl (ae rfl) rfl ?_
 refine ah.val rfl (dW rfl) rfl ?_
 refine ah.val rfl (ae rfl) rfl ?_
 refine ah.aZ 3 49 (.d (.bool ((!z26.2.2) || (decide (60 < z26.1))))) ?_ ?_
 ·
  rcases Bool.eq_false_or_eq_true ((!z26.2.2)) with hB27 | hB27
  ·
   refine ah.bool hB27 ?_
   refine ah.no rfl rfl ?_
   refine ah.no rfl rfl ?_
   refine ah.val rfl (ay (b:=true) rfl rfl) rfl ?_
   exact ah.nil ⟨_,rfl,(aa.put (aa.push rfl (aa.push rfl (aa.put (.refl _) (Less.eq (by rw [hB27]))))) (Less.eq (by rw [hB27]; rw [Bool.true_or])))⟩
  refine ah.bool hB27 ?_
  refine ah.val rfl (ae rfl) rfl ?_
  refine ah.val rfl (au rfl rfl fJ) rfl ?_
  refine ah.val rfl (ay (b:=false) rfl rfl) rfl ?_
  exact ah.nil ⟨_,rfl,(aa.put (aa.push rfl (aa.push rfl (aa.put (.refl _) (Less.eq (by rw [hB27]))))) (Less.eq (by rw [hB27]; rw [Bool.false_or])))⟩
 refine ah.val rfl (ae rfl) rfl ?_
 refine ah.aZ 3 53 (.d (.bool (((!z26.2.2) || (decide (60 < z26.1))) || (decide (12 < z26.2.1))))) ?_ ?_
 ·
  rcases Bool.eq_false_or_eq_true (((!z26.2.2) || (decide (60 < z26.1)))) with hB28 | hB28
  ·
   refine ah.bool hB28 ?_
   refine ah.no rfl rfl ?_
   refine ah.no rfl rfl ?_
   refine ah.val rfl (ay (b:=true) rfl rfl) rfl ?_
   exact ah.nil ⟨_,rfl,(aa.put (aa.push rfl (aa.push rfl (aa.put (.refl _) (Less.eq (by rw [hB28]))))) (Less.eq (by rw [hB28]; rw [Bool.true_or])))⟩
  refine ah.bool hB28 ?_
  refine ah.val rfl (ae rfl) rfl ?_
  refine ah.val rfl (au rfl rfl fJ) rfl ?_
  refine ah.val rfl (ay (b:=false) rfl rfl) rfl ?_
  exact ah.nil ⟨_,rfl,(aa.put (aa.push rfl (aa.push rfl (aa.put (.refl _) (Less.eq (by rw [hB28]))))) (Less.eq (by rw [hB28]; rw [Bool.false_or])))⟩
 refine ah.nil ?_
 refine ax.cond rfl (fun hb29=>?_) (fun hb29=>?_)
 ·
  replace h:=bO hb29 h
  refine ax.seq ?_
  refine ax.region E.obj rfl ?_
  refine ah.val rfl (bW (cs:=[(.d (.str [])),(.d (.str [])),(.d (.str [])),(.d .aY),(.d .aY)]) iA rfl (cK) rfl) rfl ?_
  refine ah.less (Less.agg' (d:=az (Tree.mk [] [] [] [] [])) (ak.eq rfl (ak.eq rfl (ak.eq rfl (ak.dV rfl (.aY false) rfl rfl (ak.dV rfl (.aY false) rfl rfl .nil))))) ((Tree.eq _).trans rfl)) ?_
  refine ah.store H17 (i:=1) rfl rfl rfl rfl (Tree.bD _) rfl dO rfl jY rfl rfl rfl (fun S30 H31=>?_)
  refine ah.val rfl (ai rfl) rfl ?_
  refine ah.nil ?_
  have hr:=Option.some.inj h
  subst hr
  exact ax.ret ⟨_,lh H31 (i:=1) rfl rfl rfl (aW iq dO rfl) rfl,rfl,vg (aF.seq (aF.mr (d:=az (Tree.mk [] [] [] [] [])) (ak.eq rfl (ak.eq rfl (ak.eq rfl (ak.eq rfl (ak.eq rfl .nil))))) ((Tree.eq _).trans rfl)) (aF.eq .nil))⟩
 replace h:=bQ hb29 h
 refine ax.skip ?_
 refine ax.seq ?_
 refine ax.region E.obj rfl ?_
 refine ah.val rfl (ae rfl) rfl ?_
 obtain ⟨z32,hzz32,h⟩:=bind_some h
 refine ah.val rfl (bA rfl rfl (cZ (enc:=az) hzz32 jI jY ((Tree.len _).trans dO.symm))) rfl ?_
 refine ah.val rfl (aV rfl (Tree.ib iq dO)) rfl ?_
 refine ah.store H17 (i:=1) rfl rfl rfl rfl (Tree.bD _) rfl dO rfl jY rfl rfl rfl (fun S33 H34=>?_)
 refine ah.val rfl (ai rfl) rfl ?_
 refine ah.nil ?_
 have hr:=Option.some.inj h
 subst hr
 exact ax.ret ⟨_,lh H34 (i:=1) rfl rfl rfl (aW iq dO rfl) rfl,rfl,vg (aF.seq (aF.mr (d:=az z32) (ak.eq rfl (ak.eq rfl (ak.eq rfl (ak.eq rfl (ak.eq rfl .nil))))) ((Tree.eq _).trans rfl)) (aF.eq .nil))⟩
set_option maxRecDepth 20000 in
set_option maxHeartbeats 4000000 in
theorem og (n:Nat) (a1:(List Int)) (a2:(List Int)) (r:Bool) (h:gz n a1 a2=some r):di R cfg.P 27 [(.sl ((a1).map (D.int .i64)) false),(.sl ((a2).map (D.int .i64)) false)] (.d (.bool r)):=by
 unfold gz at h
 refine di.of_wp E.obj.toObjOk (C:=cfg) Tryd.func27 rfl Jf rfl ?_
 have H0:Has aI aI []:=Has.pure
 refine ax.seq ?_
 refine ax.region E.obj rfl ?_
 refine ah.val rfl (ai rfl) rfl ?_
 refine ah.nil ?_
 refine ax.seq ?_
 refine ax.seq ?_
 refine ax.region E.obj rfl ?_
 refine ah.val rfl (ae rfl) rfl ?_
 refine ah.val rfl (aO rfl oF) rfl ?_
 refine ah.val rfl (ae rfl) rfl ?_
 refine ah.val rfl (aO rfl oF) rfl ?_
 refine ah.val rfl (au rfl rfl jl) rfl ?_
 refine ah.nil ?_
 refine ax.cond rfl (fun hb3=>?_) (fun hb3=>?_)
 ·
  replace h:=bO hb3 h
  refine ax.seq ?_
  refine ax.region E.obj rfl ?_
  refine ah.val rfl (ai rfl) rfl ?_
  refine ah.nil ?_
  have hr:=Option.some.inj h
  subst hr
  exact ax.ret ⟨_,rfl,rfl,gL (aF.eq .nil)⟩
 replace h:=bQ hb3 h
 refine ax.skip ?_
 refine ax.seq ?_
 refine ax.seq ?_
 refine ax.region E.obj rfl ?_
 refine ah.val rfl (ai rfl) rfl ?_
 refine ah.nil ?_
 refine ax.block ?_
 refine lV.start (B:=aI) (α:=Int) (fun k a=>cz a1 a2 k a=some r) (fun a=>[(0,(.d (.sl ((a1).map (D.int .i64)) false))),(1,(.d (.sl ((a2).map (D.int .i64)) false))),(5,(.d (.int .i64 a)))]) (fun a=>[]) ?_ ?_ n ⟨0,_,_,aI,.refl _ _,.refl _,(aa.r rfl (aa.r rfl (aa.r rfl aa.nil))),H0.sl [] rfl rfl,h⟩
 ·
  intro a h; simp [cz] at h
 intro k12 x11 S9 H10 h
 replace h:cz a1 a2 (k12 + 1) x11=some r:=h
 replace H10:Has aI S9 []:=H10
 unfold cz at h
 refine ax.seq ?_
 refine ax.seq ?_
 refine ax.region E.obj rfl ?_
 refine ah.val rfl (ae rfl) rfl ?_
 refine ah.val rfl (ae rfl) rfl ?_
 refine ah.val rfl (aO rfl oF) rfl ?_
 refine ah.val rfl (au rfl rfl bJ) rfl ?_
 refine ah.nil ?_
 refine ax.cond rfl (fun hb13=>?_) (fun hb13=>?_)
 ·
  replace h:=bO hb13 h
  refine ax.skip ?_
  refine ax.seq ?_
  refine ax.block ?_
  refine ax.seq ?_
  obtain ⟨z14,hzz14,h⟩:=bind_some h
  obtain ⟨z15,hzz15,h⟩:=bind_some h
  refine ax.jH E.obj nQ KE [(0,none),(1,none),(5,none),(25,some 8)] (by kernel_rfl) [] (by decide) [some (.d (.sl ((a1).map (D.int .i64)) false)),some (.d (.int .i64 x11)),some (.eptr (.int .i64 z14) 0),some (.d (.int .i64 z14)),some (.d (.sl ((a2).map (D.int .i64)) false)),some (.d (.int .i64 x11)),some (.eptr (.int .i64 z15) 0),some (.d (.int .i64 z15)),some (.d (.bool (z14 != z15)))] ?_
  refine ⟨[0,1,2,3,4,5,6,7,8],by kernel_rfl,?_,_,rfl,?_⟩
  ·
   refine .v rfl rfl rfl rfl (ae rfl) ?_
   refine .v rfl rfl rfl rfl (ae rfl) ?_
   refine .v rfl rfl rfl rfl (bA rfl rfl (cZ (enc:=(D.int .i64)) hzz14 mH C9 (((fun _=>rfl) _).trans tu.symm))) ?_
   refine .v rfl rfl rfl rfl (aV rfl (fQ jL rfl)) ?_
   refine .v rfl rfl rfl rfl (ae rfl) ?_
   refine .v rfl rfl rfl rfl (ae rfl) ?_
   refine .v rfl rfl rfl rfl (bA rfl rfl (cZ (enc:=(D.int .i64)) hzz15 mH C9 (((fun _=>rfl) _).trans tu.symm))) ?_
   refine .v rfl rfl rfl rfl (aV rfl (fQ jL rfl)) ?_
   refine .v rfl rfl rfl rfl (au rfl rfl jl) ?_
   exact .nil
  refine ax.cond rfl (fun hb16=>?_) (fun hb16=>?_)
  ·
   replace h:=bO hb16 h
   refine ax.seq ?_
   refine ax.region E.obj rfl ?_
   refine ah.val rfl (ai rfl) rfl ?_
   refine ah.nil ?_
   have hr:=Option.some.inj h
   subst hr
   exact ax.ret ⟨_,rfl,rfl,gL (aF.eq .nil)⟩
  replace h:=bQ hb16 h
  refine ax.skip ?_
  refine ax.region E.obj rfl ?_
  refine ah.val rfl (ae rfl) rfl ?_
  refine ah.val rfl (au rfl rfl bq) rfl ?_
  refine ah.val rfl (ai rfl) rfl ?_
  refine ah.nil ?_
  exact ⟨(IntKind.wrap .i64 (x11 + 1)),_,_,S9,.refl _ _,.refl _,(aa.r rfl (aa.r rfl (aa.r rfl aa.nil))),H10.sl [] rfl rfl,h⟩
 replace h:=bQ hb13 h
 refine ax.exit ?_
 refine ax.seq ?_
 refine ax.region E.obj rfl ?_
 refine ah.val rfl (ai rfl) rfl ?_
 refine ah.nil ?_
 have hr:=Option.some.inj h
 subst hr
 exact ax.ret ⟨_,rfl,rfl,gL (aF.eq .nil)⟩
set_option maxRecDepth 20000 in
set_option maxHeartbeats 4000000 in
theorem ng (n:Nat) (a1:(List Int)) (a2:(List Int)) (a3:Int) (r:Bool) (h:fI n a1 a2 a3=some r):di R cfg.P 16 [(.sl ((a1).map (D.int .i64)) false),(.sl ((a2).map (D.int .i64)) false),(.int .i64 a3)] (.d (.bool r)):=by
 unfold fI at h
 refine di.of_wp E.obj.toObjOk (C:=cfg) Tryd.func16 rfl JJ rfl ?_
 have H0:Has aI aI []:=Has.pure
 refine ax.seq ?_
 refine ax.region E.obj rfl ?_
 refine ah.val rfl (ai rfl) rfl ?_
 refine ah.nil ?_
 refine ax.seq ?_
 refine ax.seq ?_
 refine ax.region E.obj rfl ?_
 refine ah.val rfl (ae rfl) rfl ?_
 refine ah.val rfl (aO rfl oF) rfl ?_
 refine ah.val rfl (ae rfl) rfl ?_
 refine ah.val rfl (aO rfl oF) rfl ?_
 refine ah.val rfl (au rfl rfl bq) rfl ?_
 refine ah.val rfl (au rfl rfl jl) rfl ?_
 refine ah.val rfl (ae rfl) rfl ?_
 obtain ⟨z5,hzz5,h⟩:=bind_some h
 refine ah.aZ 8 22 (.d (.bool z5)) ?_ ?_
 ·
  rcases Bool.eq_false_or_eq_true ((((a1).length:Int) != (IntKind.wrap .i64 (((a2).length:Int) + 80)))) with hB4 | hB4
  ·
   refine ah.bool hB4 ?_
   refine ah.no rfl rfl ?_
   refine ah.no rfl rfl ?_
   refine ah.no rfl rfl ?_
   refine ah.no rfl rfl ?_
   refine ah.no rfl rfl ?_
   refine ah.no rfl rfl ?_
   refine ah.no rfl rfl ?_
   refine ah.val rfl (ay (b:=true) rfl rfl) rfl ?_
   replace hzz5:=bO hB4 hzz5
   cases hzz5
   exact ah.nil ⟨_,rfl,(aa.put (aa.push rfl (aa.push rfl (aa.push rfl (aa.push rfl (aa.push rfl (aa.push rfl (aa.push rfl (aa.put (.refl _) (Less.eq (by rw [hB4])))))))))) (.refl _))⟩
  refine ah.bool hB4 ?_
  replace hzz5:=bQ hB4 hzz5
  refine ah.val rfl (ae rfl) rfl ?_
  refine ah.val rfl (ae rfl) rfl ?_
  refine ah.val rfl (aO rfl oF) rfl ?_
  obtain ⟨z6,hzz6,hzz5⟩:=bind_some hzz5
  refine ah.val rfl (kR rfl rfl mH GL (fun z=>((fun _=>rfl) z).trans tu.symm) hzz6) rfl ?_
  refine ah.val rfl (ae rfl) rfl ?_
  obtain ⟨z7,hzz7,hzz5⟩:=bind_some hzz5
  refine ah.ret rfl (aC rfl rfl) (og E _ _ _ _ hzz7 _ _ (aF.eq (aF.eq .nil))) rfl ?_
  refine ah.val rfl (dW rfl) rfl ?_
  refine ah.val rfl (ay (b:=false) rfl rfl) rfl ?_
  cases hzz5
  exact ah.nil ⟨_,rfl,(aa.put (aa.push rfl (aa.push rfl (aa.push rfl (aa.push rfl (aa.push rfl (aa.push rfl (aa.push rfl (aa.put (.refl _) (Less.eq (by rw [hB4])))))))))) (.refl _))⟩
 refine ah.nil ?_
 refine ax.cond rfl (fun hb8=>?_) (fun hb8=>?_)
 ·
  replace h:=bO hb8 h
  refine ax.seq ?_
  refine ax.region E.obj rfl ?_
  refine ah.val rfl (ai rfl) rfl ?_
  refine ah.nil ?_
  have hr:=Option.some.inj h
  subst hr
  exact ax.ret ⟨_,rfl,rfl,gL (aF.eq .nil)⟩
 replace h:=bQ hb8 h
 refine ax.skip ?_
 refine ax.seq ?_
 refine ax.seq ?_
 refine ax.region E.obj rfl ?_
 refine ah.val rfl (ae rfl) rfl ?_
 refine ah.val rfl (aO rfl oF) rfl ?_
 refine ah.val rfl (ai rfl) rfl ?_
 refine ah.nil ?_
 refine ax.block ?_
 refine lV.start (B:=aI) (α:=Int) (fun k a=>bR a1 a3 k a=some r) (fun a=>[(0,(.d (.sl ((a1).map (D.int .i64)) false))),(2,(.d (.int .i64 a3))),(7,(.d (.int .i64 a)))]) (fun a=>[]) ?_ ?_ n ⟨((a2).length:Int),_,_,aI,.refl _ _,.refl _,(aa.r rfl (aa.r rfl (aa.r rfl aa.nil))),H0.sl [] rfl rfl,h⟩
 ·
  intro a h; simp [bR] at h
 intro k17 x16 S14 H15 h
 replace h:bR a1 a3 (k17 + 1) x16=some r:=h
 replace H15:Has aI S14 []:=H15
 unfold bR at h
 refine ax.seq ?_
 refine ax.seq ?_
 refine ax.region E.obj rfl ?_
 refine ah.val rfl (ae rfl) rfl ?_
 refine ah.val rfl (ae rfl) rfl ?_
 refine ah.val rfl (aO rfl oF) rfl ?_
 refine ah.val rfl (au rfl rfl bJ) rfl ?_
 refine ah.nil ?_
 refine ax.cond rfl (fun hb18=>?_) (fun hb18=>?_)
 ·
  replace h:=bO hb18 h
  refine ax.skip ?_
  refine ax.seq ?_
  refine ax.block ?_
  refine ax.seq ?_
  refine ax.region E.obj rfl ?_
  refine ah.val rfl (ae rfl) rfl ?_
  refine ah.val rfl (ae rfl) rfl ?_
  obtain ⟨z19,hzz19,h⟩:=bind_some h
  refine ah.val rfl (bA rfl rfl (cZ (enc:=(D.int .i64)) hzz19 mH C9 (((fun _=>rfl) _).trans tu.symm))) rfl ?_
  refine ah.val rfl (aV rfl (fQ jL rfl)) rfl ?_
  refine ah.val rfl (ae rfl) rfl ?_
  refine ah.val rfl (au rfl rfl jl) rfl ?_
  refine ah.nil ?_
  refine ax.cond rfl (fun hb20=>?_) (fun hb20=>?_)
  ·
   replace h:=bO hb20 h
   refine ax.seq ?_
   refine ax.region E.obj rfl ?_
   refine ah.val rfl (ai rfl) rfl ?_
   refine ah.nil ?_
   have hr:=Option.some.inj h
   subst hr
   exact ax.ret ⟨_,rfl,rfl,gL (aF.eq .nil)⟩
  replace h:=bQ hb20 h
  refine ax.skip ?_
  refine ax.region E.obj rfl ?_
  refine ah.val rfl (ae rfl) rfl ?_
  refine ah.val rfl (au rfl rfl bq) rfl ?_
  refine ah.val rfl (ai rfl) rfl ?_
  refine ah.nil ?_
  exact ⟨(IntKind.wrap .i64 (x16 + 1)),_,_,S14,.refl _ _,.refl _,(aa.r rfl (aa.r rfl (aa.r rfl aa.nil))),H15.sl [] rfl rfl,h⟩
 replace h:=bQ hb18 h
 refine ax.exit ?_
 refine ax.seq ?_
 refine ax.region E.obj rfl ?_
 refine ah.val rfl (ai rfl) rfl ?_
 refine ah.nil ?_
 have hr:=Option.some.inj h
 subst hr
 exact ax.ret ⟨_,rfl,rfl,gL (aF.eq .nil)⟩
set_option maxRecDepth 20000 in
set_option maxHeartbeats 4000000 in
theorem kX:∀ (n:Nat) (a1:aT) (r:Int),fB n a1=some r→di R cfg.P 17 [(aD a1)] (.d (.int .i64 r))
 | 0,a1,r,h=>by simp [fB] at h
 | n + 1,a1,r,h=>by
  have ih:=kX n
  unfold fB at h
  refine di.of_wp E.obj.toObjOk (C:=cfg) Tryd.func17 rfl Jt rfl ?_
  have H0:Has aI aI []:=Has.pure
  refine ax.seq ?_
  refine ax.region E.obj rfl ?_
  refine ah.box H0 rfl rfl rfl (aT.bD _) rfl (fun b2 S3 H4=>?_)
  refine ah.val rfl (ai rfl) rfl ?_
  refine ah.nil ?_
  refine ax.seq ?_
  refine ax.region E.obj rfl ?_
  refine ah.val rfl (ai rfl) rfl ?_
  refine ah.nil ?_
  refine ax.join (B:=aI) (α:=Int) (fun a=>iZ n (fB n) a1 a=some r) (fun a=>[(1,(.ptr b2 0 0)),(3,(.d (.int .i64 a)))]) (fun a=>[.box b2 [(.d (.int .i64 a1.Kind)),(.d (.int .i64 a1.N)),(.d (.str a1.Tag)),(.d (.str a1.Text)),(.d (.sl ((a1.aH).map aB) false)),(.d (.sl ((a1.Kids).map aD) false))]]) ?_ ?_
  ·
   intro x7 S5 H6 h
   replace h:iZ n (fB n) a1 x7=some r:=h
   replace H6:Has aI S5 [.box b2 [(.d (.int .i64 a1.Kind)),(.d (.int .i64 a1.N)),(.d (.str a1.Tag)),(.d (.str a1.Text)),(.d (.sl ((a1.aH).map aB) false)),(.d (.sl ((a1.Kids).map aD) false))]]:=H6
   unfold iZ at h
   refine ax.seq ?_
   refine ax.seq ?_
   refine ax.region E.obj rfl ?_
   refine ah.val rfl (aj rfl jd pF rfl) rfl ?_
   refine ah.val rfl (av H6 (i:=0) rfl rfl (aA qi rfl)) rfl ?_
   refine ah.val rfl (aO rfl w9) rfl ?_
   refine ah.val rfl (ae rfl) rfl ?_
   refine ah.nil ?_
   refine ax.block ?_
   refine lV.start (B:=aI) (α:=Int × Int) (fun k a=>fK (fB n) a1 k a.1 a.2=some r) (fun a=>[(3,(.d (.int .i64 a.1))),(10,(.d (.sl ((a1.Kids).map aD) false))),(11,(.d (.int .i64 ((a1.Kids).length:Int)))),(12,(.d (.int .i64 a.2)))]) (fun a=>[]) ?_ ?_ n ⟨⟨x7,0⟩,_,_,S5,.refl _ _,.refl _,(aa.r rfl (aa.r rfl (aa.r rfl (aa.r rfl aa.nil)))),H6.sl [] rfl rfl,h⟩
   ·
    intro a h; simp [fK] at h
   intro k19 a S15 H16 h
   obtain ⟨x17,x18⟩:=a
   replace h:fK (fB n) a1 (k19 + 1) x17 x18=some r:=h
   replace H16:Has aI S15 []:=H16
   unfold fK at h
   refine ax.seq ?_
   refine ax.region E.obj rfl ?_
   refine ah.val rfl (au rfl rfl bJ) rfl ?_
   refine ah.nil ?_
   refine ax.seq ?_
   refine ax.cond rfl (fun hb20=>?_) (fun hb20=>?_)
   ·
    replace h:=bO hb20 h
    refine ax.skip ?_
    refine ax.seq ?_
    refine ax.block ?_
    refine ax.seq ?_
    refine ax.region E.obj rfl ?_
    obtain ⟨z21,hzz21,h⟩:=bind_some h
    refine ah.val rfl (bA rfl rfl (cZ (enc:=aD) hzz21 qh mZ ((aT.len _).trans dY.symm))) rfl ?_
    refine ah.val rfl (aV rfl (aT.ib gY dY)) rfl ?_
    refine ah.alloc H16 rfl uB lC rfl rfl (fun b22 S23 H24=>?_)
    refine ah.store H24 (i:=0) rfl rfl rfl rfl (aT.bD _) rfl dY rfl mZ rfl rfl rfl (fun S25 H26=>?_)
    refine ah.nil ?_
    refine ax.region E.obj rfl ?_
    refine ah.val rfl (ae rfl) rfl ?_
    refine ah.val rfl (av H26 (i:=0) rfl rfl (aW gY dY rfl)) rfl ?_
    refine ah.less (Less.agg' (d:=aD z21) (ak.eq rfl (ak.eq rfl (ak.eq rfl (ak.eq rfl (ak.eq rfl (ak.eq rfl .nil)))))) ((aT.eq _).trans rfl)) ?_
    obtain ⟨z27,hzz27,h⟩:=bind_some h
    refine ah.ret rfl (aC rfl rfl) (ih _ _ hzz27 _ _ (aF.eq .nil)) rfl ?_
    refine ah.val rfl (au rfl rfl bq) rfl ?_
    refine ah.val rfl (ai rfl) rfl ?_
    refine ah.nil ?_
    refine ax.region E.obj rfl ?_
    refine ah.val rfl (au rfl rfl bq) rfl ?_
    refine ah.val rfl (ae rfl) rfl ?_
    refine ah.nil ?_
    exact ⟨⟨(IntKind.wrap .i64 (x17 + z27)),(IntKind.wrap .i64 (x18 + 1))⟩,_,_,S25,.refl _ _,.refl _,(aa.r rfl (aa.r rfl (aa.r rfl (aa.r rfl aa.nil)))),H26.sl [] rfl rfl,h⟩
   replace h:=bQ hb20 h
   refine ax.exit ?_
   refine ax.seq ?_
   refine ax.region E.obj rfl ?_
   refine ah.val rfl (ae rfl) rfl ?_
   refine ah.val rfl (ai rfl) rfl ?_
   refine ah.nil ?_
   have hr:=Option.some.inj h
   subst hr
   exact ax.ret ⟨_,rfl,rfl,gL (aF.eq .nil)⟩
  refine ax.seq ?_
  refine ax.region E.obj rfl ?_
  refine ah.val rfl (aj rfl fe l7 rfl) rfl ?_
  refine ah.val rfl (av H4 (i:=0) rfl rfl (aA jL rfl)) rfl ?_
  refine ah.val rfl (au rfl rfl aU) rfl ?_
  refine ah.nil ?_
  refine ax.cond rfl (fun hb28=>?_) (fun hb28=>?_)
  ·
   replace h:=bO hb28 h
   refine ax.region E.obj rfl ?_
   refine ah.val rfl (ai rfl) rfl ?_
   refine ah.nil ?_
   exact ⟨1,_,_,S3,.refl _ _,.refl _,(aa.r rfl (aa.r rfl aa.nil)),H4.sl [0] rfl rfl,h⟩
  replace h:=bQ hb28 h
  refine ax.skip ?_
  exact ⟨0,_,_,S3,.refl _ _,.refl _,(aa.r rfl (aa.r rfl aa.nil)),H4.sl [0] rfl rfl,h⟩
set_option maxRecDepth 20000 in
set_option maxHeartbeats 4000000 in
theorem ik:∀ (n:Nat) (a1:aT) (r:Int),bF n a1=some r→di R cfg.P 18 [(aD a1)] (.d (.int .i64 r))
 | 0,a1,r,h=>by simp [bF] at h
 | n + 1,a1,r,h=>by
  have ih:=ik n
  unfold bF at h
  refine di.of_wp E.obj.toObjOk (C:=cfg) Tryd.func18 rfl Jl rfl ?_
  have H0:Has aI aI []:=Has.pure
  refine ax.seq ?_
  refine ax.region E.obj rfl ?_
  refine ah.box H0 rfl rfl rfl (aT.bD _) rfl (fun b2 S3 H4=>?_)
  refine ah.val rfl (ai rfl) rfl ?_
  refine ah.nil ?_
  refine ax.seq ?_
  refine ax.region E.obj rfl ?_
  refine ah.val rfl (ai rfl) rfl ?_
  refine ah.nil ?_
  refine ax.join (B:=aI) (α:=Int) (fun a=>eY n (bF n) a1 a=some r) (fun a=>[(1,(.ptr b2 0 0)),(3,(.d (.int .i64 a)))]) (fun a=>[.box b2 [(.d (.int .i64 a1.Kind)),(.d (.int .i64 a1.N)),(.d (.str a1.Tag)),(.d (.str a1.Text)),(.d (.sl ((a1.aH).map aB) false)),(.d (.sl ((a1.Kids).map aD) false))]]) ?_ ?_
  ·
   intro x7 S5 H6 h
   replace h:eY n (bF n) a1 x7=some r:=h
   replace H6:Has aI S5 [.box b2 [(.d (.int .i64 a1.Kind)),(.d (.int .i64 a1.N)),(.d (.str a1.Tag)),(.d (.str a1.Text)),(.d (.sl ((a1.aH).map aB) false)),(.d (.sl ((a1.Kids).map aD) false))]]:=H6
   unfold eY at h
   refine ax.seq ?_
   refine ax.seq ?_
   refine ax.region E.obj rfl ?_
   refine ah.val rfl (aj rfl jd pF rfl) rfl ?_
   refine ah.val rfl (av H6 (i:=0) rfl rfl (aA qi rfl)) rfl ?_
   refine ah.val rfl (aO rfl w9) rfl ?_
   refine ah.val rfl (ae rfl) rfl ?_
   refine ah.nil ?_
   refine ax.block ?_
   refine lV.start (B:=aI) (α:=Int × Int) (fun k a=>dx (bF n) a1 k a.1 a.2=some r) (fun a=>[(3,(.d (.int .i64 a.1))),(10,(.d (.sl ((a1.Kids).map aD) false))),(11,(.d (.int .i64 ((a1.Kids).length:Int)))),(12,(.d (.int .i64 a.2)))]) (fun a=>[]) ?_ ?_ n ⟨⟨x7,0⟩,_,_,S5,.refl _ _,.refl _,(aa.r rfl (aa.r rfl (aa.r rfl (aa.r rfl aa.nil)))),H6.sl [] rfl rfl,h⟩
   ·
    intro a h; simp [dx] at h
   intro k19 a S15 H16 h
   obtain ⟨x17,x18⟩:=a
   replace h:dx (bF n) a1 (k19 + 1) x17 x18=some r:=h
   replace H16:Has aI S15 []:=H16
   unfold dx at h
   refine ax.seq ?_
   refine ax.region E.obj rfl ?_
   refine ah.val rfl (au rfl rfl bJ) rfl ?_
   refine ah.nil ?_
   refine ax.seq ?_
   refine ax.cond rfl (fun hb20=>?_) (fun hb20=>?_)
   ·
    replace h:=bO hb20 h
    refine ax.skip ?_
    refine ax.seq ?_
    refine ax.block ?_
    refine ax.seq ?_
    refine ax.region E.obj rfl ?_
    obtain ⟨z21,hzz21,h⟩:=bind_some h
    refine ah.val rfl (bA rfl rfl (cZ (enc:=aD) hzz21 qh mZ ((aT.len _).trans dY.symm))) rfl ?_
    refine ah.val rfl (aV rfl (aT.ib gY dY)) rfl ?_
    refine ah.alloc H16 rfl uB lC rfl rfl (fun b22 S23 H24=>?_)
    refine ah.store H24 (i:=0) rfl rfl rfl rfl (aT.bD _) rfl dY rfl mZ rfl rfl rfl (fun S25 H26=>?_)
    refine ah.nil ?_
    refine ax.region E.obj rfl ?_
    refine ah.val rfl (ae rfl) rfl ?_
    refine ah.val rfl (av H26 (i:=0) rfl rfl (aW gY dY rfl)) rfl ?_
    refine ah.less (Less.agg' (d:=aD z21) (ak.eq rfl (ak.eq rfl (ak.eq rfl (ak.eq rfl (ak.eq rfl (ak.eq rfl .nil)))))) ((aT.eq _).trans rfl)) ?_
    obtain ⟨z27,hzz27,h⟩:=bind_some h
    refine ah.ret rfl (aC rfl rfl) (ih _ _ hzz27 _ _ (aF.eq .nil)) rfl ?_
    refine ah.val rfl (au rfl rfl bq) rfl ?_
    refine ah.val rfl (ai rfl) rfl ?_
    refine ah.nil ?_
    refine ax.region E.obj rfl ?_
    refine ah.val rfl (au rfl rfl bq) rfl ?_
    refine ah.val rfl (ae rfl) rfl ?_
    refine ah.nil ?_
    exact ⟨⟨(IntKind.wrap .i64 (x17 + z27)),(IntKind.wrap .i64 (x18 + 1))⟩,_,_,S25,.refl _ _,.refl _,(aa.r rfl (aa.r rfl (aa.r rfl (aa.r rfl aa.nil)))),H26.sl [] rfl rfl,h⟩
   replace h:=bQ hb20 h
   refine ax.exit ?_
   refine ax.seq ?_
   refine ax.region E.obj rfl ?_
   refine ah.val rfl (ae rfl) rfl ?_
   refine ah.val rfl (ai rfl) rfl ?_
   refine ah.nil ?_
   have hr:=Option.some.inj h
   subst hr
   exact ax.ret ⟨_,rfl,rfl,gL (aF.eq .nil)⟩
  refine ax.seq ?_
  refine ax.region E.obj rfl ?_
  refine ah.val rfl (aj rfl fe l7 rfl) rfl ?_
  refine ah.val rfl (av H4 (i:=0) rfl rfl (aA jL rfl)) rfl ?_
  refine ah.val rfl (au rfl rfl aU) rfl ?_
  refine ah.nil ?_
  refine ax.cond rfl (fun hb28=>?_) (fun hb28=>?_)
  ·
   replace h:=bO hb28 h
   refine ax.region E.obj rfl ?_
   refine ah.val rfl (ai rfl) rfl ?_
   refine ah.nil ?_
   exact ⟨1,_,_,S3,.refl _ _,.refl _,(aa.r rfl (aa.r rfl aa.nil)),H4.sl [0] rfl rfl,h⟩
  replace h:=bQ hb28 h
  refine ax.skip ?_
  exact ⟨0,_,_,S3,.refl _ _,.refl _,(aa.r rfl (aa.r rfl aa.nil)),H4.sl [0] rfl rfl,h⟩
set_option maxRecDepth 20000 in
set_option maxHeartbeats 4000000 in
theorem jT:∀ (n:Nat) (a1:aT) (a2:Int) (a3:Bool) (r:(Int × Int × Bool)),cB n a1 a2 a3=some r→di R cfg.P 42 [(aD a1),(.int .i64 a2),(.bool a3)] (.tup [.d (.int .i64 r.1),.d (.int .i64 r.2.1),.d (.bool r.2.2)])
 | 0,a1,a2,a3,r,h=>by simp [cB] at h
 | n + 1,a1,a2,a3,r,h=>by
  have ih:=jT n
  unfold cB at h
  refine di.of_wp E.obj.toObjOk (C:=cfg) Tryd.func42 rfl JF rfl ?_
  have H0:Has aI aI []:=Has.pure
  refine ax.seq ?_
  refine ax.region E.obj rfl ?_
  refine ah.box H0 rfl rfl rfl (aT.bD _) rfl (fun b4 S5 H6=>?_)
  refine ah.val rfl (ai rfl) rfl ?_
  refine ah.val rfl (ai rfl) rfl ?_
  refine ah.val rfl (ai rfl) rfl ?_
  refine ah.nil ?_
  refine ax.seq ?_
  refine ax.region E.obj rfl ?_
  refine ah.val rfl (aj rfl fe l7 rfl) rfl ?_
  refine ah.val rfl (av H6 (i:=0) rfl rfl (aA jL rfl)) rfl ?_
  refine ah.val rfl (au rfl rfl aU) rfl ?_
  refine ah.val rfl (ae rfl) rfl ?_
  refine ah.aZ 4 25 (.d (.bool ((a1.Kind == 3) || (a1.Kind == 5)))) ?_ ?_
  ·
   rcases Bool.eq_false_or_eq_true ((a1.Kind == 3)) with hB7 | hB7
   ·
    refine ah.bool hB7 ?_
    refine ah.no rfl rfl ?_
    refine ah.no rfl rfl ?_
    refine ah.no rfl rfl ?_
    refine ah.val rfl (ay (b:=true) rfl rfl) rfl ?_
    exact ah.nil ⟨_,rfl,(aa.put (aa.push rfl (aa.push rfl (aa.push rfl (aa.put (.refl _) (Less.eq (by rw [hB7])))))) (Less.eq (by rw [hB7]; rw [Bool.true_or])))⟩
   refine ah.bool hB7 ?_
   refine ah.val rfl (aj rfl fe l7 rfl) rfl ?_
   refine ah.val rfl (av H6 (i:=0) rfl rfl (aA jL rfl)) rfl ?_
   refine ah.val rfl (au rfl rfl aU) rfl ?_
   refine ah.val rfl (ay (b:=false) rfl rfl) rfl ?_
   exact ah.nil ⟨_,rfl,(aa.put (aa.push rfl (aa.push rfl (aa.push rfl (aa.put (.refl _) (Less.eq (by rw [hB7])))))) (Less.eq (by rw [hB7]; rw [Bool.false_or])))⟩
  refine ah.val rfl (ae rfl) rfl ?_
  refine ah.aZ 4 30 (.d (.bool (((a1.Kind == 3) || (a1.Kind == 5)) || (a1.Kind == 6)))) ?_ ?_
  ·
   rcases Bool.eq_false_or_eq_true (((a1.Kind == 3) || (a1.Kind == 5))) with hB8 | hB8
   ·
    refine ah.bool hB8 ?_
    refine ah.no rfl rfl ?_
    refine ah.no rfl rfl ?_
    refine ah.no rfl rfl ?_
    refine ah.val rfl (ay (b:=true) rfl rfl) rfl ?_
    exact ah.nil ⟨_,rfl,(aa.put (aa.push rfl (aa.push rfl (aa.push rfl (aa.put (.refl _) (Less.eq (by rw [hB8])))))) (Less.eq (by rw [hB8]; rw [Bool.true_or])))⟩
   refine ah.bool hB8 ?_
   refine ah.val rfl (aj rfl fe l7 rfl) rfl ?_
   refine ah.val rfl (av H6 (i:=0) rfl rfl (aA jL rfl)) rfl ?_
   refine ah.val rfl (au rfl rfl aU) rfl ?_
   refine ah.val rfl (ay (b:=false) rfl rfl) rfl ?_
   exact ah.nil ⟨_,rfl,(aa.put (aa.push rfl (aa.push rfl (aa.push rfl (aa.put (.refl _) (Less.eq (by rw [hB8])))))) (Less.eq (by rw [hB8]; rw [Bool.false_or])))⟩
  refine ah.val rfl (ai rfl) rfl ?_
  refine ah.nil ?_
  refine ax.seq ?_
  refine ax.region E.obj rfl ?_
  refine ah.val rfl (aj rfl fe l7 rfl) rfl ?_
  refine ah.val rfl (av H6 (i:=0) rfl rfl (aA jL rfl)) rfl ?_
  refine ah.val rfl (au rfl rfl kz) rfl ?_
  refine ah.val rfl (ae rfl) rfl ?_
  refine ah.aZ 4 38 (.d (.bool ((decide (1 ≤ a1.Kind)) && (decide (a1.Kind ≤ 7))))) ?_ ?_
  ·
   rcases Bool.eq_false_or_eq_true ((decide (1 ≤ a1.Kind))) with hB9 | hB9
   ·
    refine ah.bool hB9 ?_
    refine ah.val rfl (aj rfl fe l7 rfl) rfl ?_
    refine ah.val rfl (av H6 (i:=0) rfl rfl (aA jL rfl)) rfl ?_
    refine ah.val rfl (au rfl rfl iG) rfl ?_
    refine ah.val rfl (ay (b:=true) rfl rfl) rfl ?_
    exact ah.nil ⟨_,rfl,(aa.put (aa.push rfl (aa.push rfl (aa.push rfl (aa.put (.refl _) (Less.eq (by rw [hB9])))))) (Less.eq (by rw [hB9]; rw [Bool.true_and])))⟩
   refine ah.bool hB9 ?_
   refine ah.no rfl rfl ?_
   refine ah.no rfl rfl ?_
   refine ah.no rfl rfl ?_
   refine ah.val rfl (ay (b:=false) rfl rfl) rfl ?_
   exact ah.nil ⟨_,rfl,(aa.put (aa.push rfl (aa.push rfl (aa.push rfl (aa.put (.refl _) (Less.eq (by rw [hB9])))))) (Less.eq (by rw [hB9]; rw [Bool.false_and])))⟩
  refine ah.val rfl (ae rfl) rfl ?_
  refine ah.aZ 14 53 (.d (.bool (((decide (1 ≤ a1.Kind)) && (decide (a1.Kind ≤ 7))) && ((!(((a1.Kind == 3) || (a1.Kind == 5)) || (a1.Kind == 6))) || ((decide (0 ≤ a1.N)) && (decide (a1.N < a2))))))) ?_ ?_
  ·
   rcases Bool.eq_false_or_eq_true (((decide (1 ≤ a1.Kind)) && (decide (a1.Kind ≤ 7)))) with hB10 | hB10
   ·
    refine ah.bool hB10 ?_
    refine ah.val rfl (ae rfl) rfl ?_
    refine ah.val rfl (dW rfl) rfl ?_
    refine ah.val rfl (ae rfl) rfl ?_
    refine ah.aZ 10 52 (.d (.bool ((!(((a1.Kind == 3) || (a1.Kind == 5)) || (a1.Kind == 6))) || ((decide (0 ≤ a1.N)) && (decide (a1.N < a2)))))) ?_ ?_
    ·
     rcases Bool.eq_false_or_eq_true ((!(((a1.Kind == 3) || (a1.Kind == 5)) || (a1.Kind == 6)))) with hB11 | hB11
     ·
      refine ah.bool hB11 ?_
      refine ah.no rfl rfl ?_
      refine ah.no rfl rfl ?_
      refine ah.no rfl rfl ?_
      refine ah.no rfl rfl ?_
      refine ah.no rfl rfl ?_
      refine ah.no rfl rfl ?_
      refine ah.no rfl rfl ?_
      refine ah.no rfl rfl ?_
      refine ah.no rfl rfl ?_
      refine ah.val rfl (ay (b:=true) rfl rfl) rfl ?_
      exact ah.nil ⟨_,rfl,(aa.put (aa.push rfl (aa.push rfl (aa.push rfl (aa.push rfl (aa.push rfl (aa.push rfl (aa.push rfl (aa.push rfl (aa.push rfl (aa.put (.refl _) (Less.eq (by rw [hB11])))))))))))) (Less.eq (by rw [hB11]; rw [Bool.true_or])))⟩
     refine ah.bool hB11 ?_
     refine ah.val rfl (aj rfl mW l7 rfl) rfl ?_
     refine ah.val rfl (av H6 (i:=0) rfl rfl (aA jL rfl)) rfl ?_
     refine ah.val rfl (au rfl rfl kz) rfl ?_
     refine ah.val rfl (ae rfl) rfl ?_
     refine ah.aZ 5 51 (.d (.bool ((decide (0 ≤ a1.N)) && (decide (a1.N < a2))))) ?_ ?_
     ·
      rcases Bool.eq_false_or_eq_true ((decide (0 ≤ a1.N))) with hB12 | hB12
      ·
       refine ah.bool hB12 ?_
       refine ah.val rfl (aj rfl mW l7 rfl) rfl ?_
       refine ah.val rfl (av H6 (i:=0) rfl rfl (aA jL rfl)) rfl ?_
       refine ah.val rfl (ae rfl) rfl ?_
       refine ah.val rfl (au rfl rfl bJ) rfl ?_
       refine ah.val rfl (ay (b:=true) rfl rfl) rfl ?_
       exact ah.nil ⟨_,rfl,(aa.put (aa.push rfl (aa.push rfl (aa.push rfl (aa.push rfl (aa.put (.refl _) (Less.eq (by rw [hB12]))))))) (Less.eq (by rw [hB12]; rw [Bool.true_and])))⟩
      refine ah.bool hB12 ?_
      refine ah.no rfl rfl ?_
      refine ah.no rfl rfl ?_
      refine ah.no rfl rfl ?_
      refine ah.no rfl rfl ?_
      refine ah.val rfl (ay (b:=false) rfl rfl) rfl ?_
      exact ah.nil ⟨_,rfl,(aa.put (aa.push rfl (aa.push rfl (aa.push rfl (aa.push rfl (aa.put (.refl _) (Less.eq (by rw [hB12]))))))) (Less.eq (by rw [hB12]; rw [Bool.false_and])))⟩
     refine ah.val rfl (ay (b:=false) rfl rfl) rfl ?_
     exact ah.nil ⟨_,rfl,(aa.put (aa.push rfl (aa.push rfl (aa.push rfl (aa.push rfl (aa.push rfl (aa.put (.refl _) (Less.eq (by rw [hB11])))))))) (Less.eq (by rw [hB11]; rw [Bool.false_or])))⟩
    refine ah.val rfl (ay (b:=true) rfl rfl) rfl ?_
    exact ah.nil ⟨_,rfl,(aa.put (aa.push rfl (aa.push rfl (aa.push rfl (aa.push rfl (aa.put (.refl _) (Less.eq (by rw [hB10]))))))) (Less.eq (by rw [hB10]; rw [Bool.true_and])))⟩
   refine ah.bool hB10 ?_
   refine ah.no rfl rfl ?_
   refine ah.no rfl rfl ?_
   refine ah.no rfl rfl ?_
   refine ah.no rfl rfl ?_
   refine ah.no rfl rfl ?_
   refine ah.no rfl rfl ?_
   refine ah.no rfl rfl ?_
   refine ah.no rfl rfl ?_
   refine ah.no rfl rfl ?_
   refine ah.no rfl rfl ?_
   refine ah.no rfl rfl ?_
   refine ah.no rfl rfl ?_
   refine ah.no rfl rfl ?_
   refine ah.val rfl (ay (b:=false) rfl rfl) rfl ?_
   exact ah.nil ⟨_,rfl,(aa.put (aa.push rfl (aa.push rfl (aa.push rfl (aa.push rfl (aa.push rfl (aa.push rfl (aa.push rfl (aa.push rfl (aa.push rfl (aa.push rfl (aa.push rfl (aa.push rfl (aa.push rfl (aa.put (.refl _) (Less.eq (by rw [hB10])))))))))))))))) (Less.eq (by rw [hB10]; rw [Bool.false_and])))⟩
  refine ah.val rfl (ae rfl) rfl ?_
  refine ah.aZ 8 62 (.d (.bool ((((decide (1 ≤ a1.Kind)) && (decide (a1.Kind ≤ 7))) && ((!(((a1.Kind == 3) || (a1.Kind == 5)) || (a1.Kind == 6))) || ((decide (0 ≤ a1.N)) && (decide (a1.N < a2))))) && (!((a1.Kind == 7) && a3))))) ?_ ?_
  ·
   rcases Bool.eq_false_or_eq_true ((((decide (1 ≤ a1.Kind)) && (decide (a1.Kind ≤ 7))) && ((!(((a1.Kind == 3) || (a1.Kind == 5)) || (a1.Kind == 6))) || ((decide (0 ≤ a1.N)) && (decide (a1.N < a2)))))) with hB13 | hB13
   ·
    refine ah.bool hB13 ?_
    refine ah.val rfl (aj rfl fe l7 rfl) rfl ?_
    refine ah.val rfl (av H6 (i:=0) rfl rfl (aA jL rfl)) rfl ?_
    refine ah.val rfl (au rfl rfl aU) rfl ?_
    refine ah.val rfl (ae rfl) rfl ?_
    refine ah.aZ 2 60 (.d (.bool ((a1.Kind == 7) && a3))) ?_ ?_
    ·
     rcases Bool.eq_false_or_eq_true ((a1.Kind == 7)) with hB14 | hB14
     ·
      refine ah.bool hB14 ?_
      refine ah.val rfl (ae rfl) rfl ?_
      refine ah.val rfl (ay (b:=true) rfl rfl) rfl ?_
      exact ah.nil ⟨_,rfl,(aa.put (aa.push rfl (aa.put (.refl _) (Less.eq (by rw [hB14])))) (Less.eq (by rw [hB14]; rw [Bool.true_and])))⟩
     refine ah.bool hB14 ?_
     refine ah.no rfl rfl ?_
     refine ah.val rfl (ay (b:=false) rfl rfl) rfl ?_
     exact ah.nil ⟨_,rfl,(aa.put (aa.push rfl (aa.put (.refl _) (Less.eq (by rw [hB14])))) (Less.eq (by rw [hB14]; rw [Bool.false_and])))⟩
    refine ah.val rfl (dW rfl) rfl ?_
    refine ah.val rfl (ay (b:=true) rfl rfl) rfl ?_
    exact ah.nil ⟨_,rfl,(aa.put (aa.push rfl (aa.push rfl (aa.push rfl (aa.push rfl (aa.push rfl (aa.push rfl (aa.put (.refl _) (Less.eq (by rw [hB13]))))))))) (Less.eq (by rw [hB13]; rw [Bool.true_and])))⟩
   refine ah.bool hB13 ?_
   refine ah.no rfl rfl ?_
   refine ah.no rfl rfl ?_
   refine ah.no rfl rfl ?_
   refine ah.no rfl rfl ?_
   refine ah.no rfl rfl ?_
   refine ah.no rfl rfl ?_
   refine ah.no rfl rfl ?_
   refine ah.val rfl (ay (b:=false) rfl rfl) rfl ?_
   exact ah.nil ⟨_,rfl,(aa.put (aa.push rfl (aa.push rfl (aa.push rfl (aa.push rfl (aa.push rfl (aa.push rfl (aa.push rfl (aa.put (.refl _) (Less.eq (by rw [hB13])))))))))) (Less.eq (by rw [hB13]; rw [Bool.false_and])))⟩
  refine ah.val rfl (ae rfl) rfl ?_
  refine ah.aZ 4 67 (.d (.bool (((((decide (1 ≤ a1.Kind)) && (decide (a1.Kind ≤ 7))) && ((!(((a1.Kind == 3) || (a1.Kind == 5)) || (a1.Kind == 6))) || ((decide (0 ≤ a1.N)) && (decide (a1.N < a2))))) && (!((a1.Kind == 7) && a3))) && (!(a1.Tag == [111,117,116,108,101,116]))))) ?_ ?_
  ·
   rcases Bool.eq_false_or_eq_true (((((decide (1 ≤ a1.Kind)) && (decide (a1.Kind ≤ 7))) && ((!(((a1.Kind == 3) || (a1.Kind == 5)) || (a1.Kind == 6))) || ((decide (0 ≤ a1.N)) && (decide (a1.N < a2))))) && (!((a1.Kind == 7) && a3)))) with hB15 | hB15
   ·
    refine ah.bool hB15 ?_
    refine ah.val rfl (aj rfl oL kI rfl) rfl ?_
    refine ah.val rfl (av H6 (i:=0) rfl rfl (aA j5 rfl)) rfl ?_
    refine ah.val rfl (au rfl rfl jc) rfl ?_
    refine ah.val rfl (ay (b:=true) rfl rfl) rfl ?_
    exact ah.nil ⟨_,rfl,(aa.put (aa.push rfl (aa.push rfl (aa.push rfl (aa.put (.refl _) (Less.eq (by rw [hB15])))))) (Less.eq (by rw [hB15]; rw [Bool.true_and])))⟩
   refine ah.bool hB15 ?_
   refine ah.no rfl rfl ?_
   refine ah.no rfl rfl ?_
   refine ah.no rfl rfl ?_
   refine ah.val rfl (ay (b:=false) rfl rfl) rfl ?_
   exact ah.nil ⟨_,rfl,(aa.put (aa.push rfl (aa.push rfl (aa.push rfl (aa.put (.refl _) (Less.eq (by rw [hB15])))))) (Less.eq (by rw [hB15]; rw [Bool.false_and])))⟩
  refine ah.val rfl (ae rfl) rfl ?_
  refine ah.aZ 20 88 (.d (.bool ((((((decide (1 ≤ a1.Kind)) && (decide (a1.Kind ≤ 7))) && ((!(((a1.Kind == 3) || (a1.Kind == 5)) || (a1.Kind == 6))) || ((decide (0 ≤ a1.N)) && (decide (a1.N < a2))))) && (!((a1.Kind == 7) && a3))) && (!(a1.Tag == [111,117,116,108,101,116]))) && ((((((a1.Kids).length:Int) == 0) || (a1.Kind == 1)) || (a1.Kind == 5)) || (a1.Kind == 6))))) ?_ ?_
  ·
   rcases Bool.eq_false_or_eq_true ((((((decide (1 ≤ a1.Kind)) && (decide (a1.Kind ≤ 7))) && ((!(((a1.Kind == 3) || (a1.Kind == 5)) || (a1.Kind == 6))) || ((decide (0 ≤ a1.N)) && (decide (a1.N < a2))))) && (!((a1.Kind == 7) && a3))) && (!(a1.Tag == [111,117,116,108,101,116])))) with hB16 | hB16
   ·
    refine ah.bool hB16 ?_
    refine ah.val rfl (aj rfl jd pF rfl) rfl ?_
    refine ah.val rfl (av H6 (i:=0) rfl rfl (aA qi rfl)) rfl ?_
    refine ah.val rfl (aO rfl w9) rfl ?_
    refine ah.val rfl (au rfl rfl aU) rfl ?_
    refine ah.val rfl (ae rfl) rfl ?_
    refine ah.aZ 4 77 (.d (.bool ((((a1.Kids).length:Int) == 0) || (a1.Kind == 1)))) ?_ ?_
    ·
     rcases Bool.eq_false_or_eq_true ((((a1.Kids).length:Int) == 0)) with hB17 | hB17
     ·
      refine ah.bool hB17 ?_
      refine ah.no rfl rfl ?_
      refine ah.no rfl rfl ?_
      refine ah.no rfl rfl ?_
      refine ah.val rfl (ay (b:=true) rfl rfl) rfl ?_
      exact ah.nil ⟨_,rfl,(aa.put (aa.push rfl (aa.push rfl (aa.push rfl (aa.put (.refl _) (Less.eq (by rw [hB17])))))) (Less.eq (by rw [hB17]; rw [Bool.true_or])))⟩
     refine ah.bool hB17 ?_
     refine ah.val rfl (aj rfl fe l7 rfl) rfl ?_
     refine ah.val rfl (av H6 (i:=0) rfl rfl (aA jL rfl)) rfl ?_
     refine ah.val rfl (au rfl rfl aU) rfl ?_
     refine ah.val rfl (ay (b:=false) rfl rfl) rfl ?_
     exact ah.nil ⟨_,rfl,(aa.put (aa.push rfl (aa.push rfl (aa.push rfl (aa.put (.refl _) (Less.eq (by rw [hB17])))))) (Less.eq (by rw [hB17]; rw [Bool.false_or])))⟩
    refine ah.val rfl (ae rfl) rfl ?_
    refine ah.aZ 4 82 (.d (.bool (((((a1.Kids).length:Int) == 0) || (a1.Kind == 1)) || (a1.Kind == 5)))) ?_ ?_
    ·
     rcases Bool.eq_false_or_eq_true (((((a1.Kids).length:Int) == 0) || (a1.Kind == 1))) with hB18 | hB18
     ·
      refine ah.bool hB18 ?_
      refine ah.no rfl rfl ?_
      refine ah.no rfl rfl ?_
      refine ah.no rfl rfl ?_
      refine ah.val rfl (ay (b:=true) rfl rfl) rfl ?_
      exact ah.nil ⟨_,rfl,(aa.put (aa.push rfl (aa.push rfl (aa.push rfl (aa.put (.refl _) (Less.eq (by rw [hB18])))))) (Less.eq (by rw [hB18]; rw [Bool.true_or])))⟩
     refine ah.bool hB18 ?_
     refine ah.val rfl (aj rfl fe l7 rfl) rfl ?_
     refine ah.val rfl (av H6 (i:=0) rfl rfl (aA jL rfl)) rfl ?_
     refine ah.val rfl (au rfl rfl aU) rfl ?_
     refine ah.val rfl (ay (b:=false) rfl rfl) rfl ?_
     exact ah.nil ⟨_,rfl,(aa.put (aa.push rfl (aa.push rfl (aa.push rfl (aa.put (.refl _) (Less.eq (by rw [hB18])))))) (Less.eq (by rw [hB18]; rw [Bool.false_or])))⟩
    refine ah.val rfl (ae rfl) rfl ?_
    refine ah.aZ 4 87 (.d (.bool ((((((a1.Kids).length:Int) == 0) || (a1.Kind == 1)) || (a1.Kind == 5)) || (a1.Kind == 6)))) ?_ ?_
    ·
     rcases Bool.eq_false_or_eq_true ((((((a1.Kids).length:Int) == 0) || (a1.Kind == 1)) || (a1.Kind == 5))) with hB19 | hB19
     ·
      refine ah.bool hB19 ?_
      refine ah.no rfl rfl ?_
      refine ah.no rfl rfl ?_
      refine ah.no rfl rfl ?_
      refine ah.val rfl (ay (b:=true) rfl rfl) rfl ?_
      exact ah.nil ⟨_,rfl,(aa.put (aa.push rfl (aa.push rfl (aa.push rfl (aa.put (.refl _) (Less.eq (by rw [hB19])))))) (Less.eq (by rw [hB19]; rw [Bool.true_or])))⟩
     refine ah.bool hB19 ?_
     refine ah.val rfl (aj rfl fe l7 rfl) rfl ?_
     refine ah.val rfl (av H6 (i:=0) rfl rfl (aA jL rfl)) rfl ?_
     refine ah.val rfl (au rfl rfl aU) rfl ?_
     refine ah.val rfl (ay (b:=false) rfl rfl) rfl ?_
     exact ah.nil ⟨_,rfl,(aa.put (aa.push rfl (aa.push rfl (aa.push rfl (aa.put (.refl _) (Less.eq (by rw [hB19])))))) (Less.eq (by rw [hB19]; rw [Bool.false_or])))⟩
    refine ah.val rfl (ay (b:=true) rfl rfl) rfl ?_
    exact ah.nil ⟨_,rfl,(aa.put (aa.push rfl (aa.push rfl (aa.push rfl (aa.push rfl (aa.push rfl (aa.push rfl (aa.push rfl (aa.push rfl (aa.push rfl (aa.push rfl (aa.put (.refl _) (Less.eq (by rw [hB16]))))))))))))) (Less.eq (by rw [hB16]; rw [Bool.true_and])))⟩
   refine ah.bool hB16 ?_
   refine ah.no rfl rfl ?_
   refine ah.no rfl rfl ?_
   refine ah.no rfl rfl ?_
   refine ah.no rfl rfl ?_
   refine ah.no rfl rfl ?_
   refine ah.no rfl rfl ?_
   refine ah.no rfl rfl ?_
   refine ah.no rfl rfl ?_
   refine ah.no rfl rfl ?_
   refine ah.no rfl rfl ?_
   refine ah.no rfl rfl ?_
   refine ah.no rfl rfl ?_
   refine ah.no rfl rfl ?_
   refine ah.no rfl rfl ?_
   refine ah.no rfl rfl ?_
   refine ah.no rfl rfl ?_
   refine ah.no rfl rfl ?_
   refine ah.no rfl rfl ?_
   refine ah.no rfl rfl ?_
   refine ah.val rfl (ay (b:=false) rfl rfl) rfl ?_
   exact ah.nil ⟨_,rfl,(aa.put (aa.push rfl (aa.push rfl (aa.push rfl (aa.push rfl (aa.push rfl (aa.push rfl (aa.push rfl (aa.push rfl (aa.push rfl (aa.push rfl (aa.push rfl (aa.push rfl (aa.push rfl (aa.push rfl (aa.push rfl (aa.push rfl (aa.push rfl (aa.push rfl (aa.push rfl (aa.put (.refl _) (Less.eq (by rw [hB16])))))))))))))))))))))) (Less.eq (by rw [hB16]; rw [Bool.false_and])))⟩
  refine ah.val rfl (ai rfl) rfl ?_
  refine ah.nil ?_
  refine ax.seq ?_
  refine ax.region E.obj rfl ?_
  refine ah.val rfl (ai rfl) rfl ?_
  refine ah.val rfl (ai rfl) rfl ?_
  refine ah.nil ?_
  refine ax.seq ?_
  refine ax.seq ?_
  refine ax.region E.obj rfl ?_
  refine ah.val rfl (aj rfl jd pF rfl) rfl ?_
  refine ah.val rfl (av H6 (i:=0) rfl rfl (aA qi rfl)) rfl ?_
  refine ah.val rfl (aO rfl w9) rfl ?_
  refine ah.val rfl (ae rfl) rfl ?_
  refine ah.nil ?_
  refine ax.block ?_
  refine lV.start (B:=aI) (α:=Bool × Int × Int × Int) (fun k a=>bN (cB n) a1 a2 a3 k a.1 a.2.1 a.2.2.1 a.2.2.2=some r) (fun a=>[(1,(.d (.int .i64 a2))),(2,(.d (.bool a3))),(3,(.ptr b4 0 0)),(10,(.d (.bool a.1))),(11,(.d (.int .i64 a.2.1))),(12,(.d (.int .i64 a.2.2.1))),(90,(.d (.sl ((a1.Kids).map aD) false))),(91,(.d (.int .i64 ((a1.Kids).length:Int)))),(92,(.d (.int .i64 a.2.2.2)))]) (fun a=>[.box b4 [(.d (.int .i64 a1.Kind)),(.d (.int .i64 a1.N)),(.d (.str a1.Tag)),(.d (.str a1.Text)),(.d (.sl ((a1.aH).map aB) false)),(.d (.sl ((a1.Kids).map aD) false))]]) ?_ ?_ n ⟨⟨((((((decide (1 ≤ a1.Kind)) && (decide (a1.Kind ≤ 7))) && ((!(((a1.Kind == 3) || (a1.Kind == 5)) || (a1.Kind == 6))) || ((decide (0 ≤ a1.N)) && (decide (a1.N < a2))))) && (!((a1.Kind == 7) && a3))) && (!(a1.Tag == [111,117,116,108,101,116]))) && ((((((a1.Kids).length:Int) == 0) || (a1.Kind == 1)) || (a1.Kind == 5)) || (a1.Kind == 6))),1,1,0⟩,_,_,S5,.refl _ _,.refl _,(aa.r rfl (aa.r rfl (aa.r rfl (aa.r rfl (aa.r rfl (aa.r rfl (aa.r rfl (aa.r rfl (aa.r rfl aa.nil))))))))),H6.sl [0] rfl rfl,h⟩
  ·
   intro a h; simp [bN] at h
  intro k34 a S28 H29 h
  obtain ⟨x30,x31,x32,x33⟩:=a
  replace h:bN (cB n) a1 a2 a3 (k34 + 1) x30 x31 x32 x33=some r:=h
  replace H29:Has aI S28 [.box b4 [(.d (.int .i64 a1.Kind)),(.d (.int .i64 a1.N)),(.d (.str a1.Tag)),(.d (.str a1.Text)),(.d (.sl ((a1.aH).map aB) false)),(.d (.sl ((a1.Kids).map aD) false))]]:=H29
  unfold bN at h
  refine ax.seq ?_
  refine ax.region E.obj rfl ?_
  refine ah.val rfl (au rfl rfl bJ) rfl ?_
  refine ah.nil ?_
  refine ax.seq ?_
  refine ax.cond rfl (fun hb35=>?_) (fun hb35=>?_)
  ·
   replace h:=bO hb35 h
   refine ax.skip ?_
   refine ax.seq ?_
   refine ax.block ?_
   refine ax.seq ?_
   refine ax.region E.obj rfl ?_
   obtain ⟨z36,hzz36,h⟩:=bind_some h
   refine ah.val rfl (bA rfl rfl (cZ (enc:=aD) hzz36 qh mZ ((aT.len _).trans dY.symm))) rfl ?_
   refine ah.val rfl (aV rfl (aT.ib gY dY)) rfl ?_
   refine ah.alloc H29 rfl uB lC rfl rfl (fun b37 S38 H39=>?_)
   refine ah.store H39 (i:=0) rfl rfl rfl rfl (aT.bD _) rfl dY rfl mZ rfl rfl rfl (fun S40 H41=>?_)
   refine ah.nil ?_
   refine ax.seq ?_
   refine ax.region E.obj rfl ?_
   refine ah.val rfl (av H41 (i:=0) rfl rfl (aW gY dY rfl)) rfl ?_
   refine ah.less (Less.agg' (d:=aD z36) (ak.eq rfl (ak.eq rfl (ak.eq rfl (ak.eq rfl (ak.eq rfl (ak.eq rfl .nil)))))) ((aT.eq _).trans rfl)) ?_
   refine ah.val rfl (ae rfl) rfl ?_
   refine ah.val rfl (ae rfl) rfl ?_
   refine ah.val rfl (ae rfl) rfl ?_
   refine ah.aZ 4 104 (.d (.bool (a3 || (a1.Kind == 5)))) ?_ ?_
   ·
    rcases Bool.eq_false_or_eq_true (a3) with hB42 | hB42
    ·
     refine ah.bool hB42 ?_
     refine ah.no rfl rfl ?_
     refine ah.no rfl rfl ?_
     refine ah.no rfl rfl ?_
     refine ah.val rfl (ay (b:=true) rfl rfl) rfl ?_
     exact ah.nil ⟨_,rfl,(aa.put (aa.push rfl (aa.push rfl (aa.push rfl (aa.put (.refl _) (Less.eq (by rw [hB42])))))) (Less.eq (by rw [hB42]; rw [Bool.true_or])))⟩
    refine ah.bool hB42 ?_
    refine ah.val rfl (aj rfl fe l7 rfl) rfl ?_
    refine ah.val rfl (av H41 (i:=1) rfl rfl (aA jL rfl)) rfl ?_
    refine ah.val rfl (au rfl rfl aU) rfl ?_
    refine ah.val rfl (ay (b:=false) rfl rfl) rfl ?_
    exact ah.nil ⟨_,rfl,(aa.put (aa.push rfl (aa.push rfl (aa.push rfl (aa.put (.refl _) (Less.eq (by rw [hB42])))))) (Less.eq (by rw [hB42]; rw [Bool.false_or])))⟩
   refine ah.val rfl (ae rfl) rfl ?_
   refine ah.aZ 4 109 (.d (.bool ((a3 || (a1.Kind == 5)) || (a1.Kind == 6)))) ?_ ?_
   ·
    rcases Bool.eq_false_or_eq_true ((a3 || (a1.Kind == 5))) with hB43 | hB43
    ·
     refine ah.bool hB43 ?_
     refine ah.no rfl rfl ?_
     refine ah.no rfl rfl ?_
     refine ah.no rfl rfl ?_
     refine ah.val rfl (ay (b:=true) rfl rfl) rfl ?_
     exact ah.nil ⟨_,rfl,(aa.put (aa.push rfl (aa.push rfl (aa.push rfl (aa.put (.refl _) (Less.eq (by rw [hB43])))))) (Less.eq (by rw [hB43]; rw [Bool.true_or])))⟩
    refine ah.bool hB43 ?_
    refine ah.val rfl (aj rfl fe l7 rfl) rfl ?_
    refine ah.val rfl (av H41 (i:=1) rfl rfl (aA jL rfl)) rfl ?_
    refine ah.val rfl (au rfl rfl aU) rfl ?_
    refine ah.val rfl (ay (b:=false) rfl rfl) rfl ?_
    exact ah.nil ⟨_,rfl,(aa.put (aa.push rfl (aa.push rfl (aa.push rfl (aa.put (.refl _) (Less.eq (by rw [hB43])))))) (Less.eq (by rw [hB43]; rw [Bool.false_or])))⟩
   obtain ⟨z44,hzz44,h⟩:=bind_some h
   refine ah.ret rfl (aC rfl rfl) (ih _ _ _ _ hzz44 _ _ (aF.eq (aF.eq (aF.eq .nil)))) rfl ?_
   refine ah.val rfl (ae rfl) rfl ?_
   refine ah.val rfl (aN rfl rfl) rfl ?_
   refine ah.val rfl (aN rfl rfl) rfl ?_
   refine ah.val rfl (aN rfl rfl) rfl ?_
   refine ah.val rfl (ai rfl) rfl ?_
   refine ah.val rfl (ai rfl) rfl ?_
   refine ah.val rfl (ai rfl) rfl ?_
   refine ah.nil ?_
   refine ax.region E.obj rfl ?_
   refine ah.val rfl (ae rfl) rfl ?_
   refine ah.val rfl (ae rfl) rfl ?_
   refine ah.val rfl (au rfl rfl bq) rfl ?_
   refine ah.val rfl (ae rfl) rfl ?_
   refine ah.val rfl (ae rfl) rfl ?_
   refine ah.val rfl (au rfl rfl bq) rfl ?_
   refine ah.val rfl (p9 rfl rfl) rfl ?_
   refine ah.val rfl (ae rfl) rfl ?_
   refine ah.val rfl (ae rfl) rfl ?_
   refine ah.aZ 2 124 (.d (.bool (x30 && z44.2.2))) ?_ ?_
   ·
    rcases Bool.eq_false_or_eq_true (x30) with hB45 | hB45
    ·
     refine ah.bool hB45 ?_
     refine ah.val rfl (ae rfl) rfl ?_
     refine ah.val rfl (ay (b:=true) rfl rfl) rfl ?_
     exact ah.nil ⟨_,rfl,(aa.put (aa.push rfl (aa.put (.refl _) (Less.eq (by rw [hB45])))) (Less.eq (by rw [hB45]; rw [Bool.true_and])))⟩
    refine ah.bool hB45 ?_
    refine ah.no rfl rfl ?_
    refine ah.val rfl (ay (b:=false) rfl rfl) rfl ?_
    exact ah.nil ⟨_,rfl,(aa.put (aa.push rfl (aa.put (.refl _) (Less.eq (by rw [hB45])))) (Less.eq (by rw [hB45]; rw [Bool.false_and])))⟩
   refine ah.val rfl (ai rfl) rfl ?_
   refine ah.val rfl (ai rfl) rfl ?_
   refine ah.val rfl (ai rfl) rfl ?_
   refine ah.nil ?_
   refine ax.region E.obj rfl ?_
   refine ah.val rfl (au rfl rfl bq) rfl ?_
   refine ah.val rfl (ae rfl) rfl ?_
   refine ah.nil ?_
   exact ⟨⟨(x30 && z44.2.2),(IntKind.wrap .i64 (x31 + z44.1)),(lQ x32 (IntKind.wrap .i64 (z44.2.1 + 1))),(IntKind.wrap .i64 (x33 + 1))⟩,_,_,S40,.refl _ _,.refl _,(aa.r rfl (aa.r rfl (aa.r rfl (aa.r rfl (aa.r rfl (aa.r rfl (aa.r rfl (aa.r rfl (aa.r rfl aa.nil))))))))),H41.sl [1] rfl rfl,h⟩
  replace h:=bQ hb35 h
  refine ax.exit ?_
  refine ax.seq ?_
  refine ax.region E.obj rfl ?_
  refine ah.val rfl (ae rfl) rfl ?_
  refine ah.val rfl (ae rfl) rfl ?_
  refine ah.val rfl (ae rfl) rfl ?_
  refine ah.val rfl (ai rfl) rfl ?_
  refine ah.val rfl (ai rfl) rfl ?_
  refine ah.val rfl (ai rfl) rfl ?_
  refine ah.nil ?_
  have hr:=Option.some.inj h
  subst hr
  exact ax.ret ⟨_,rfl,rfl,vg (vs:=[(.d (.int .i64 x31)),(.d (.int .i64 x32)),(.d (.bool x30))]) (ds:=[(.int .i64 x31),(.int .i64 x32),(.bool x30)]) (aF.eq (aF.eq (aF.eq .nil)))⟩
set_option maxRecDepth 20000 in
set_option maxHeartbeats 4000000 in
theorem jG (n:Nat) (a1:aT) (a2:Int) (r:Bool) (h:fV n a1 a2=some r):di R cfg.P 19 [(aD a1),(.int .i64 a2)] (.d (.bool r)):=by
 unfold fV at h
 refine di.of_wp E.obj.toObjOk (C:=cfg) Tryd.func19 rfl Km rfl ?_
 have H0:Has aI aI []:=Has.pure
 refine ax.seq ?_
 refine ax.region E.obj rfl ?_
 refine ah.box H0 rfl rfl rfl (aT.bD _) rfl (fun b3 S4 H5=>?_)
 refine ah.val rfl (ai rfl) rfl ?_
 refine ah.nil ?_
 refine ax.seq ?_
 refine ax.region E.obj rfl ?_
 refine ah.val rfl (av H5 (i:=0) rfl rfl (aW gY dY rfl)) rfl ?_
 refine ah.less (Less.agg' (d:=aD a1) (ak.eq rfl (ak.eq rfl (ak.eq rfl (ak.eq rfl (ak.eq rfl (ak.eq rfl .nil)))))) ((aT.eq _).trans rfl)) ?_
 refine ah.val rfl (ae rfl) rfl ?_
 obtain ⟨z6,hzz6,h⟩:=bind_some h
 refine ah.ret rfl (aC rfl rfl) (jT E _ _ _ _ _ hzz6 _ _ (aF.eq (aF.eq (aF.eq .nil)))) rfl ?_
 refine ah.val rfl (ae rfl) rfl ?_
 refine ah.val rfl (aN rfl rfl) rfl ?_
 refine ah.val rfl (aN rfl rfl) rfl ?_
 refine ah.val rfl (aN rfl rfl) rfl ?_
 refine ah.val rfl (ai rfl) rfl ?_
 refine ah.val rfl (ai rfl) rfl ?_
 refine ah.val rfl (ai rfl) rfl ?_
 refine ah.nil ?_
 refine ax.seq ?_
 refine ax.region E.obj rfl ?_
 refine ah.val rfl (ae rfl) rfl ?_
 refine ah.val rfl (ae rfl) rfl ?_
 refine ah.aZ 4 20 (.d (.bool (z6.2.2 && (a1.Kind == 1)))) ?_ ?_
 ·
  rcases Bool.eq_false_or_eq_true (z6.2.2) with hB7 | hB7
  ·
   refine ah.bool hB7 ?_
   refine ah.val rfl (aj rfl fe l7 rfl) rfl ?_
   refine ah.val rfl (av H5 (i:=0) rfl rfl (aA jL rfl)) rfl ?_
   refine ah.val rfl (au rfl rfl aU) rfl ?_
   refine ah.val rfl (ay (b:=true) rfl rfl) rfl ?_
   exact ah.nil ⟨_,rfl,(aa.put (aa.push rfl (aa.push rfl (aa.push rfl (aa.put (.refl _) (Less.eq (by rw [hB7])))))) (Less.eq (by rw [hB7]; rw [Bool.true_and])))⟩
  refine ah.bool hB7 ?_
  refine ah.no rfl rfl ?_
  refine ah.no rfl rfl ?_
  refine ah.no rfl rfl ?_
  refine ah.val rfl (ay (b:=false) rfl rfl) rfl ?_
  exact ah.nil ⟨_,rfl,(aa.put (aa.push rfl (aa.push rfl (aa.push rfl (aa.put (.refl _) (Less.eq (by rw [hB7])))))) (Less.eq (by rw [hB7]; rw [Bool.false_and])))⟩
 refine ah.val rfl (ae rfl) rfl ?_
 refine ah.aZ 3 24 (.d (.bool ((z6.2.2 && (a1.Kind == 1)) && (decide (z6.1 ≤ 60))))) ?_ ?_
 ·
  rcases Bool.eq_false_or_eq_true ((z6.2.2 && (a1.Kind == 1))) with hB8 | hB8
  ·
   refine ah.bool hB8 ?_
   refine ah.val rfl (ae rfl) rfl ?_
   refine ah.val rfl (au rfl rfl iG) rfl ?_
   refine ah.val rfl (ay (b:=true) rfl rfl) rfl ?_
   exact ah.nil ⟨_,rfl,(aa.put (aa.push rfl (aa.push rfl (aa.put (.refl _) (Less.eq (by rw [hB8]))))) (Less.eq (by rw [hB8]; rw [Bool.true_and])))⟩
  refine ah.bool hB8 ?_
  refine ah.no rfl rfl ?_
  refine ah.no rfl rfl ?_
  refine ah.val rfl (ay (b:=false) rfl rfl) rfl ?_
  exact ah.nil ⟨_,rfl,(aa.put (aa.push rfl (aa.push rfl (aa.put (.refl _) (Less.eq (by rw [hB8]))))) (Less.eq (by rw [hB8]; rw [Bool.false_and])))⟩
 refine ah.val rfl (ae rfl) rfl ?_
 refine ah.aZ 3 28 (.d (.bool (((z6.2.2 && (a1.Kind == 1)) && (decide (z6.1 ≤ 60))) && (decide (z6.2.1 ≤ 12))))) ?_ ?_
 ·
  rcases Bool.eq_false_or_eq_true (((z6.2.2 && (a1.Kind == 1)) && (decide (z6.1 ≤ 60)))) with hB9 | hB9
  ·
   refine ah.bool hB9 ?_
   refine ah.val rfl (ae rfl) rfl ?_
   refine ah.val rfl (au rfl rfl iG) rfl ?_
   refine ah.val rfl (ay (b:=true) rfl rfl) rfl ?_
   exact ah.nil ⟨_,rfl,(aa.put (aa.push rfl (aa.push rfl (aa.put (.refl _) (Less.eq (by rw [hB9]))))) (Less.eq (by rw [hB9]; rw [Bool.true_and])))⟩
  refine ah.bool hB9 ?_
  refine ah.no rfl rfl ?_
  refine ah.no rfl rfl ?_
  refine ah.val rfl (ay (b:=false) rfl rfl) rfl ?_
  exact ah.nil ⟨_,rfl,(aa.put (aa.push rfl (aa.push rfl (aa.put (.refl _) (Less.eq (by rw [hB9]))))) (Less.eq (by rw [hB9]; rw [Bool.false_and])))⟩
 refine ah.val rfl (ai rfl) rfl ?_
 refine ah.nil ?_
 have hr:=Option.some.inj h
 subst hr
 exact ax.ret ⟨_,rfl,rfl,gL (aF.eq .nil)⟩
set_option maxRecDepth 20000 in
set_option maxHeartbeats 4000000 in
theorem xw (n:Nat) (a1:fw) (a2:(List Int)) (a3:(List dQ)) (a4:Int) (r:Bool) (h:gP n a1 a2 a3 a4=some r):di R cfg.P 5 [(jM a1),(.sl ((a2).map (D.int .i64)) false),(.sl ((a3).map aJ) false),(.int .i64 a4)] (.d (.bool r)):=by
 unfold gP at h
 refine di.of_wp E.obj.toObjOk (C:=cfg) Tryd.func5 rfl KQ rfl ?_
 have H0:Has aI aI []:=Has.pure
 refine ax.seq ?_
 refine ax.region E.obj rfl ?_
 refine ah.box H0 rfl rfl rfl (fw.bD _) rfl (fun b5 S6 H7=>?_)
 refine ah.val rfl (ai rfl) rfl ?_
 refine ah.nil ?_
 refine ax.seq ?_
 refine ax.region E.obj rfl ?_
 refine ah.val rfl (av H7 (i:=0) rfl rfl (aW J3 JN rfl)) rfl ?_
 refine ah.less (Less.agg' (d:=jM a1) (ak.eq rfl (ak.eq rfl (ak.eq rfl (ak.eq rfl .nil)))) ((fw.eq _).trans rfl)) ?_
 obtain ⟨z8,hzz8,h⟩:=bind_some h
 refine ah.ret rfl (aC rfl rfl) (nU E _ _ _ hzz8 _ _ (aF.eq .nil)) rfl ?_
 refine ah.alloc H7 rfl uB lC rfl rfl (fun b9 S10 H11=>?_)
 refine ah.store H11 (i:=0) rfl rfl rfl rfl (aT.bD _) rfl dY rfl mZ rfl rfl rfl (fun S12 H13=>?_)
 refine ah.nil ?_
 refine ax.seq ?_
 refine ax.region E.obj rfl ?_
 refine ah.val rfl (nY Cc mH jL) rfl ?_
 refine ah.val rfl (ae rfl) rfl ?_
 refine ah.val rfl (ae rfl) rfl ?_
 refine ah.val rfl (aO rfl oF) rfl ?_
 refine ah.val rfl (Br rfl rfl) rfl ?_
 obtain ⟨z14,hzz14,h⟩:=bind_some h
 refine ah.val rfl (kR rfl rfl mH GL (fun z=>((fun _=>rfl) z).trans tu.symm) hzz14) rfl ?_
 have H15:=H13.zk (([]).map (D.int .i64))
 obtain ⟨z16,hzz16,h⟩:=bind_some h
 refine ah.append (xs:=([]).map (D.int .i64)) (ys:=(z14).map (D.int .i64)) (zs:=(z16).map (D.int .i64)) H15 rfl rfl rfl (i:=0) rfl rfl Cc IM mH (iL hzz16) Jn rfl (dK (enc:=(D.int .i64)) (fun _=>tu.symm) _) (dK (enc:=(D.int .i64)) (fun _=>tu.symm) _) KH rfl (mM hzz16) (fun v17 S18 H19=>?_)
 refine ah.val rfl (ai rfl) rfl ?_
 refine ah.nil ?_
 refine ax.seq ?_
 refine ax.region E.obj rfl ?_
 refine ah.val rfl (nY IC EP Fu) rfl ?_
 refine ah.val rfl (ae rfl) rfl ?_
 refine ah.val rfl (ae rfl) rfl ?_
 refine ah.val rfl (aO rfl Ij) rfl ?_
 refine ah.val rfl (Br rfl rfl) rfl ?_
 obtain ⟨z20,hzz20,h⟩:=bind_some h
 refine ah.val rfl (kR rfl rfl EP JY (fun z=>(dQ.len z).trans sO.symm) hzz20) rfl ?_
 have H21:=H19.zk (([]).map aJ)
 obtain ⟨z22,hzz22,h⟩:=bind_some h
 refine ah.append (xs:=([]).map aJ) (ys:=(z20).map aJ) (zs:=(z22).map aJ) H21 rfl rfl rfl (i:=0) rfl rfl IC Ke EP (iL hzz22) IG rfl (dK (enc:=aJ) (fun z=>(dQ.len z).trans sO.symm) _) (dK (enc:=aJ) (fun z=>(dQ.len z).trans sO.symm) _) I5 rfl (mM hzz22) (fun v23 S24 H25=>?_)
 refine ah.val rfl (ai rfl) rfl ?_
 refine ah.nil ?_
 refine ax.seq ?_
 refine ax.region E.obj rfl ?_
 refine ah.val rfl (ae rfl) rfl ?_
 obtain ⟨z26,hzz26,h⟩:=bind_some h
 refine ah.ret rfl (aC rfl rfl) (nR E _ _ _ _ hzz26 _ _ (aF.grow H25 (i:=1) rfl (aF.eq .nil))) rfl ?_
 refine ah.val rfl (ai rfl) rfl ?_
 refine ah.nil ?_
 refine ax.seq ?_
 obtain ⟨z27,hzz27,h⟩:=bind_some h
 obtain ⟨z28,hzz28,h⟩:=bind_some h
 refine ax.jH E.obj nQ JI [(3,none),(9,none),(10,none),(11,none),(12,none),(13,some 10),(14,some 12)] (by kernel_rfl) [10,11] (by decide) [some (.d (aD z8)),some (.d (.sl ((z26).map (D.int .i64)) false)),some v17,some (.d (.int .i64 ((z16).length:Int))),some (.d (.sl ((z27).map (D.int .i64)) false)),some v23,some (.tup [(.d (az z28.1)),(.d (.int .i64 z28.2))]),some (.tup [(.d (az z28.1)),(.d (.int .i64 z28.2))]),some (.d (az z28.1)),some (.d (.int .i64 z28.2)),none,none,none] ?_
 refine ⟨[0,1,2,3,4,5,6,7,8,9],by kernel_rfl,?_,_,_,rfl,rfl,.step ?_⟩
 ·
  refine .cons rfl rfl rfl (.step ?_) ?_
  ·
   refine ah.val rfl (av H25 (i:=2) rfl rfl (aW gY dY rfl)) rfl ?_
   refine ah.less (Less.agg' (d:=aD z8) (ak.eq rfl (ak.eq rfl (ak.eq rfl (ak.eq rfl (ak.eq rfl (ak.eq rfl .nil)))))) ((aT.eq _).trans rfl)) ?_
   exact ah.nil ⟨_,_,rfl,fun _ ht=>by cases ht; exact ⟨rfl,.refl _⟩⟩
  refine .v rfl rfl rfl rfl (ae rfl) ?_
  refine .v rfl rfl rfl rfl (ae rfl) ?_
  refine .v rfl rfl rfl rfl (uh H25 (i:=1) rfl rfl oF) ?_
  refine .v rfl rfl rfl rfl (kR rfl rfl mH GL (fun z=>((fun _=>rfl) z).trans tu.symm) hzz27) ?_
  refine .v rfl rfl rfl rfl (ae rfl) ?_
  refine .cons rfl rfl rfl (.step ?_) ?_
  ·
   refine ah.ret rfl (aC rfl rfl) (ku E _ _ _ _ _ hzz28 _ _ (aF.eq (aF.eq (aF.grow H25 (i:=0) rfl .nil)))) rfl ?_
   exact ah.nil ⟨_,_,rfl,fun _ ht=>by cases ht; exact ⟨rfl,.refl _⟩⟩
  refine .v rfl rfl rfl rfl (ae rfl) ?_
  refine .v rfl rfl rfl rfl (aN rfl rfl) ?_
  refine .v rfl rfl rfl rfl (aN rfl rfl) ?_
  exact .nil
 refine ah.alloc H25 rfl uf iA rfl rfl (fun b34 S35 H36=>?_)
 refine ah.nil ⟨_,_,_,rfl,(fun _ ht=>by cases ht; rfl),_,(.q (.q (.o (.o (.w (.ptr b34 0 0) (.n (.n .nil))))))),(fun _ ht=>by cases ht; exact ⟨_,rfl,.refl _⟩),?_⟩
 refine ⟨[0,1,2,3,4,5,6,7,8,9],by kernel_rfl,?_,_,_,rfl,rfl,.step ?_⟩
 ·
  refine .cons rfl rfl rfl (.step ?_) ?_
  ·
   refine ah.val rfl (av H36 (i:=3) rfl rfl (aW gY dY rfl)) rfl ?_
   refine ah.less (Less.agg' (d:=aD z8) (ak.eq rfl (ak.eq rfl (ak.eq rfl (ak.eq rfl (ak.eq rfl (ak.eq rfl .nil)))))) ((aT.eq _).trans rfl)) ?_
   exact ah.nil ⟨_,_,rfl,fun _ ht=>by cases ht; exact ⟨rfl,.refl _⟩⟩
  refine .v rfl rfl rfl rfl (ae rfl) ?_
  refine .v rfl rfl rfl rfl (ae rfl) ?_
  refine .v rfl rfl rfl rfl (uh H36 (i:=2) rfl rfl oF) ?_
  refine .v rfl rfl rfl rfl (kR rfl rfl mH GL (fun z=>((fun _=>rfl) z).trans tu.symm) hzz27) ?_
  refine .v rfl rfl rfl rfl (ae rfl) ?_
  refine .cons rfl rfl rfl (.step ?_) ?_
  ·
   refine ah.ret rfl (aC rfl rfl) (ku E _ _ _ _ _ hzz28 _ _ (aF.eq (aF.eq (aF.grow H36 (i:=1) rfl .nil)))) rfl ?_
   exact ah.nil ⟨_,_,rfl,fun _ ht=>by cases ht; exact ⟨rfl,.refl _⟩⟩
  refine .v rfl rfl rfl rfl (ae rfl) ?_
  refine .v rfl rfl rfl rfl (aN rfl rfl) ?_
  refine .v rfl rfl rfl rfl (aN rfl rfl) ?_
  exact .nil
 refine ah.store H36 (i:=0) rfl rfl rfl rfl (Tree.bD _) rfl dO rfl jY rfl rfl rfl (fun S37 H38=>?_)
 refine ah.nil ⟨_,.any,_,rfl,(fun _ ht=>by cases ht),_,(.q (.q (.o (.o (.o (.w .any (.w (.d (.int .i64 z28.2)) .nil))))))),(fun _ ht=>by cases ht),?_⟩
 refine ⟨[9,12],by kernel_rfl,?_,_,rfl,?_⟩
 ·
  refine .v rfl rfl rfl rfl (aN rfl rfl) ?_
  refine .v rfl rfl rfl rfl (ai rfl) ?_
  exact .nil
 refine ax.seq ?_
 refine ax.region E.obj rfl ?_
 refine ah.val rfl (av H38 (i:=3) rfl rfl (aW gY dY rfl)) rfl ?_
 refine ah.less (Less.agg' (d:=aD z8) (ak.eq rfl (ak.eq rfl (ak.eq rfl (ak.eq rfl (ak.eq rfl (ak.eq rfl .nil)))))) ((aT.eq _).trans rfl)) ?_
 refine ah.val rfl (ae rfl) rfl ?_
 refine ah.val rfl (ae rfl) rfl ?_
 obtain ⟨z39,hzz39,h⟩:=bind_some h
 refine ah.ret rfl (aC rfl rfl) (oG E _ _ _ _ _ hzz39 _ _ (aF.eq (aF.grow H38 (i:=2) rfl (aF.grow H38 (i:=1) rfl .nil)))) rfl ?_
 refine ah.val rfl (ae rfl) rfl ?_
 refine ah.val rfl (aN rfl rfl) rfl ?_
 refine ah.val rfl (aN rfl rfl) rfl ?_
 refine ah.alloc H38 rfl uf iA rfl rfl (fun b40 S41 H42=>?_)
 refine ah.store H42 (i:=0) rfl rfl rfl rfl (Tree.bD _) rfl dO rfl jY rfl rfl rfl (fun S43 H44=>?_)
 refine ah.val rfl (ai rfl) rfl ?_
 refine ah.nil ?_
 refine ax.seq ?_
 refine ax.seq ?_
 refine ax.region E.obj rfl ?_
 refine ah.val rfl (ae rfl) rfl ?_
 refine ah.val rfl (ae rfl) rfl ?_
 refine ah.val rfl (au rfl rfl jl) rfl ?_
 refine ah.val rfl (ae rfl) rfl ?_
 obtain ⟨z46,hzz46,h⟩:=bind_some h
 refine ah.aZ 5 60 (.d (.bool z46)) ?_ ?_
 ·
  rcases Bool.eq_false_or_eq_true ((z28.2 != z39.2)) with hB45 | hB45
  ·
   refine ah.bool hB45 ?_
   refine ah.no rfl rfl ?_
   refine ah.no rfl rfl ?_
   refine ah.no rfl rfl ?_
   refine ah.no rfl rfl ?_
   refine ah.val rfl (ay (b:=true) rfl rfl) rfl ?_
   replace hzz46:=bO hB45 hzz46
   cases hzz46
   exact ah.nil ⟨_,rfl,(aa.put (aa.push rfl (aa.push rfl (aa.push rfl (aa.push rfl (aa.put (.refl _) (Less.eq (by rw [hB45]))))))) (.refl _))⟩
  refine ah.bool hB45 ?_
  replace hzz46:=bQ hB45 hzz46
  refine ah.val rfl (av H44 (i:=1) rfl rfl (aW iq dO rfl)) rfl ?_
  refine ah.less (Less.agg' (d:=az z28.1) (ak.eq rfl (ak.eq rfl (ak.eq rfl (ak.eq rfl (ak.eq rfl .nil))))) ((Tree.eq _).trans rfl)) ?_
  refine ah.val rfl (av H44 (i:=0) rfl rfl (aW iq dO rfl)) rfl ?_
  refine ah.less (Less.agg' (d:=az z39.1) (ak.eq rfl (ak.eq rfl (ak.eq rfl (ak.eq rfl (ak.eq rfl .nil))))) ((Tree.eq _).trans rfl)) ?_
  obtain ⟨z47,hzz47,hzz46⟩:=bind_some hzz46
  refine ah.ret rfl (aC rfl rfl) (ji E _ _ _ _ hzz47 _ _ (aF.eq (aF.eq .nil))) rfl ?_
  refine ah.val rfl (dW rfl) rfl ?_
  refine ah.val rfl (ay (b:=false) rfl rfl) rfl ?_
  cases hzz46
  exact ah.nil ⟨_,rfl,(aa.put (aa.push rfl (aa.push rfl (aa.push rfl (aa.push rfl (aa.put (.refl _) (Less.eq (by rw [hB45]))))))) (.refl _))⟩
 refine ah.val rfl (ae rfl) rfl ?_
 obtain ⟨z49,hzz49,h⟩:=bind_some h
 refine ah.aZ 5 66 (.d (.bool z49)) ?_ ?_
 ·
  rcases Bool.eq_false_or_eq_true (z46) with hB48 | hB48
  ·
   refine ah.bool hB48 ?_
   refine ah.no rfl rfl ?_
   refine ah.no rfl rfl ?_
   refine ah.no rfl rfl ?_
   refine ah.no rfl rfl ?_
   refine ah.val rfl (ay (b:=true) rfl rfl) rfl ?_
   replace hzz49:=bO hB48 hzz49
   cases hzz49
   exact ah.nil ⟨_,rfl,(aa.put (aa.push rfl (aa.push rfl (aa.push rfl (aa.push rfl (aa.put (.refl _) (Less.eq (by rw [hB48]))))))) (.refl _))⟩
  refine ah.bool hB48 ?_
  replace hzz49:=bQ hB48 hzz49
  refine ah.val rfl (ae rfl) rfl ?_
  refine ah.val rfl (ae rfl) rfl ?_
  obtain ⟨z50,hzz50,hzz49⟩:=bind_some hzz49
  refine ah.ret rfl (aC rfl rfl) (ng E _ _ _ _ _ hzz50 _ _ (aF.eq (aF.grow H44 (i:=3) rfl (aF.eq .nil)))) rfl ?_
  refine ah.val rfl (dW rfl) rfl ?_
  refine ah.val rfl (ay (b:=false) rfl rfl) rfl ?_
  cases hzz49
  exact ah.nil ⟨_,rfl,(aa.put (aa.push rfl (aa.push rfl (aa.push rfl (aa.push rfl (aa.put (.refl _) (Less.eq (by rw [hB48]))))))) (.refl _))⟩
 refine ah.nil ?_
 refine ax.cond rfl (fun hb51=>?_) (fun hb51=>?_)
 ·
  replace h:=bO hb51 h
  refine ax.seq ?_
  refine ax.region E.obj rfl ?_
  refine ah.val rfl (ai rfl) rfl ?_
  refine ah.nil ?_
  have hr:=Option.some.inj h
  subst hr
  exact ax.ret ⟨_,rfl,rfl,gL (aF.eq .nil)⟩
 replace h:=bQ hb51 h
 refine ax.skip ?_
 refine ax.join (B:=aI) (α:=Bool) (fun a=>dN a=some r) (fun a=>[(8,(.d (.bool a)))]) (fun a=>[]) ?_ ?_
 ·
  intro x54 S52 H53 h
  replace h:dN x54=some r:=h
  replace H53:Has aI S52 []:=H53
  unfold dN at h
  have hr:=Option.some.inj h
  subst hr
  exact ax.ret ⟨_,rfl,rfl,gL (aF.eq .nil)⟩
 obtain ⟨z56,hzz56,h⟩:=bind_some h
 obtain ⟨z57,hzz57,h⟩:=bind_some h
 rcases (Bool.eq_false_or_eq_true ((z56 == z57))).symm with hb58 | hb58
 ·
  replace h:=bQ hb58 h
  refine ax.jH E.obj nQ Ii [(8,some 17)] (by kernel_rfl) [] (by decide) [some (.d (aD z8)),some (.d (.int .i64 z56)),some (.d (aD z8)),some (.d (.int .i64 z57)),some (.d (.bool (z56 == z57))),some (.d (.bool false)),some (.tup []),some (.tup []),some (.tup []),some (.tup []),some (.tup []),some (.tup []),some (.tup []),some (.d (.bool false)),some (.d (.bool false)),some (.tup []),some (.d (.bool false)),some (.d (.bool false))] ?_
  refine ⟨[0,1,2,3,4,5,6,7,8,9,10,11,12,13,14,15,16,17],by kernel_rfl,?_,_,rfl,?_⟩
  ·
   refine .cons rfl rfl rfl (.step ?_) ?_
   ·
    refine ah.val rfl (av H44 (i:=4) rfl rfl (aW gY dY rfl)) rfl ?_
    refine ah.less (Less.agg' (d:=aD z8) (ak.eq rfl (ak.eq rfl (ak.eq rfl (ak.eq rfl (ak.eq rfl (ak.eq rfl .nil)))))) ((aT.eq _).trans rfl)) ?_
    exact ah.nil ⟨_,_,rfl,fun _ ht=>by cases ht; exact ⟨rfl,.refl _⟩⟩
   refine .cons rfl rfl rfl (.step ?_) ?_
   ·
    refine ah.ret rfl (aC rfl rfl) (kX E _ _ _ hzz56 _ _ (aF.eq .nil)) rfl ?_
    exact ah.nil ⟨_,_,rfl,fun _ ht=>by cases ht; exact ⟨rfl,.refl _⟩⟩
   refine .cons rfl rfl rfl (.step ?_) ?_
   ·
    refine ah.val rfl (av H44 (i:=4) rfl rfl (aW gY dY rfl)) rfl ?_
    refine ah.less (Less.agg' (d:=aD z8) (ak.eq rfl (ak.eq rfl (ak.eq rfl (ak.eq rfl (ak.eq rfl (ak.eq rfl .nil)))))) ((aT.eq _).trans rfl)) ?_
    exact ah.nil ⟨_,_,rfl,fun _ ht=>by cases ht; exact ⟨rfl,.refl _⟩⟩
   refine .cons rfl rfl rfl (.step ?_) ?_
   ·
    refine ah.ret rfl (aC rfl rfl) (ik E _ _ _ hzz57 _ _ (aF.eq .nil)) rfl ?_
    exact ah.nil ⟨_,_,rfl,fun _ ht=>by cases ht; exact ⟨rfl,.refl _⟩⟩
   refine .v rfl rfl rfl rfl (au rfl rfl aU) ?_
   refine .cons rfl rfl rfl (.val rfl (ae rfl) (.eq (by rw [hb58]))) ?_
   refine .cons rfl rfl rfl (.no rfl (.refl _)) ?_
   refine .cons rfl rfl rfl (.no rfl (.refl _)) ?_
   refine .cons rfl rfl rfl (.no rfl (.refl _)) ?_
   refine .cons rfl rfl rfl (.no rfl (.refl _)) ?_
   refine .cons rfl rfl rfl (.no rfl (.refl _)) ?_
   refine .cons rfl rfl rfl (.no rfl (.refl _)) ?_
   refine .cons rfl rfl rfl (.no rfl (.refl _)) ?_
   refine .v rfl rfl rfl rfl (ay (b:=false) rfl rfl) ?_
   refine .v rfl rfl rfl rfl (ae rfl) ?_
   refine .cons rfl rfl rfl (.no rfl (.refl _)) ?_
   refine .v rfl rfl rfl rfl (ay (b:=false) rfl rfl) ?_
   refine .v rfl rfl rfl rfl (ai rfl) ?_
   exact .nil
  exact ⟨false,_,_,S43,.refl _ _,.refl _,(aa.r rfl aa.nil),H44.sl [] rfl rfl,h⟩
 replace h:=bO hb58 h
 obtain ⟨z59,hzz59,h⟩:=bind_some h
 obtain ⟨z60,hzz60,h⟩:=bind_some h
 rcases (Bool.eq_false_or_eq_true ((z59 == z60))).symm with hb61 | hb61
 ·
  replace h:=bQ hb61 h
  refine ax.jH E.obj nQ Ii [(8,some 17)] (by kernel_rfl) [] (by decide) [some (.d (aD z8)),some (.d (.int .i64 z56)),some (.d (aD z8)),some (.d (.int .i64 z57)),some (.d (.bool (z56 == z57))),some (.d (.bool true)),some (.d (aD z8)),some (.d (.int .i64 a4)),some (.d (.bool z59)),some (.d (aD z8)),some (.d (.int .i64 a4)),some (.d (.bool z60)),some (.d (.bool (z59 == z60))),some (.d (.bool (z59 == z60))),some (.d (.bool false)),some (.tup []),some (.d (.bool false)),some (.d (.bool false))] ?_
  refine ⟨[0,1,2,3,4,5,6,7,8,9,10,11,12,13,14,15,16,17],by kernel_rfl,?_,_,rfl,?_⟩
  ·
   refine .cons rfl rfl rfl (.step ?_) ?_
   ·
    refine ah.val rfl (av H44 (i:=4) rfl rfl (aW gY dY rfl)) rfl ?_
    refine ah.less (Less.agg' (d:=aD z8) (ak.eq rfl (ak.eq rfl (ak.eq rfl (ak.eq rfl (ak.eq rfl (ak.eq rfl .nil)))))) ((aT.eq _).trans rfl)) ?_
    exact ah.nil ⟨_,_,rfl,fun _ ht=>by cases ht; exact ⟨rfl,.refl _⟩⟩
   refine .cons rfl rfl rfl (.step ?_) ?_
   ·
    refine ah.ret rfl (aC rfl rfl) (kX E _ _ _ hzz56 _ _ (aF.eq .nil)) rfl ?_
    exact ah.nil ⟨_,_,rfl,fun _ ht=>by cases ht; exact ⟨rfl,.refl _⟩⟩
   refine .cons rfl rfl rfl (.step ?_) ?_
   ·
    refine ah.val rfl (av H44 (i:=4) rfl rfl (aW gY dY rfl)) rfl ?_
    refine ah.less (Less.agg' (d:=aD z8) (ak.eq rfl (ak.eq rfl (ak.eq rfl (ak.eq rfl (ak.eq rfl (ak.eq rfl .nil)))))) ((aT.eq _).trans rfl)) ?_
    exact ah.nil ⟨_,_,rfl,fun _ ht=>by cases ht; exact ⟨rfl,.refl _⟩⟩
   refine .cons rfl rfl rfl (.step ?_) ?_
   ·
    refine ah.ret rfl (aC rfl rfl) (ik E _ _ _ hzz57 _ _ (aF.eq .nil)) rfl ?_
    exact ah.nil ⟨_,_,rfl,fun _ ht=>by cases ht; exact ⟨rfl,.refl _⟩⟩
   refine .v rfl rfl rfl rfl (au rfl rfl aU) ?_
   refine .cons rfl rfl rfl (.val rfl (ae rfl) (.eq (by rw [hb58]))) ?_
   refine .cons rfl rfl rfl (.step ?_) ?_
   ·
    refine ah.val rfl (av H44 (i:=4) rfl rfl (aW gY dY rfl)) rfl ?_
    refine ah.less (Less.agg' (d:=aD z8) (ak.eq rfl (ak.eq rfl (ak.eq rfl (ak.eq rfl (ak.eq rfl (ak.eq rfl .nil)))))) ((aT.eq _).trans rfl)) ?_
    exact ah.nil ⟨_,_,rfl,fun _ ht=>by cases ht; exact ⟨rfl,.refl _⟩⟩
   refine .v rfl rfl rfl rfl (ae rfl) ?_
   refine .cons rfl rfl rfl (.step ?_) ?_
   ·
    refine ah.ret rfl (aC rfl rfl) (kV E _ _ _ _ hzz59 _ _ (aF.eq (aF.eq .nil))) rfl ?_
    exact ah.nil ⟨_,_,rfl,fun _ ht=>by cases ht; exact ⟨rfl,.refl _⟩⟩
   refine .cons rfl rfl rfl (.step ?_) ?_
   ·
    refine ah.val rfl (av H44 (i:=4) rfl rfl (aW gY dY rfl)) rfl ?_
    refine ah.less (Less.agg' (d:=aD z8) (ak.eq rfl (ak.eq rfl (ak.eq rfl (ak.eq rfl (ak.eq rfl (ak.eq rfl .nil)))))) ((aT.eq _).trans rfl)) ?_
    exact ah.nil ⟨_,_,rfl,fun _ ht=>by cases ht; exact ⟨rfl,.refl _⟩⟩
   refine .v rfl rfl rfl rfl (ae rfl) ?_
   refine .cons rfl rfl rfl (.step ?_) ?_
   ·
    refine ah.ret rfl (aC rfl rfl) (jG E _ _ _ _ hzz60 _ _ (aF.eq (aF.eq .nil))) rfl ?_
    exact ah.nil ⟨_,_,rfl,fun _ ht=>by cases ht; exact ⟨rfl,.refl _⟩⟩
   refine .v rfl rfl rfl rfl (au rfl rfl (yN KN)) ?_
   refine .v rfl rfl rfl rfl (ay (b:=true) rfl rfl) ?_
   refine .cons rfl rfl rfl (.val rfl (ae rfl) (.eq (by rw [hb61]))) ?_
   refine .cons rfl rfl rfl (.no rfl (.refl _)) ?_
   refine .v rfl rfl rfl rfl (ay (b:=false) rfl rfl) ?_
   refine .v rfl rfl rfl rfl (ai rfl) ?_
   exact .nil
  exact ⟨false,_,_,S43,.refl _ _,.refl _,(aa.r rfl aa.nil),H44.sl [] rfl rfl,h⟩
 replace h:=bO hb61 h
 obtain ⟨z62,hzz62,h⟩:=bind_some h
 refine ax.jH E.obj nQ Ii [(8,some 17)] (by kernel_rfl) [] (by decide) [some (.d (aD z8)),some (.d (.int .i64 z56)),some (.d (aD z8)),some (.d (.int .i64 z57)),some (.d (.bool (z56 == z57))),some (.d (.bool true)),some (.d (aD z8)),some (.d (.int .i64 a4)),some (.d (.bool z59)),some (.d (aD z8)),some (.d (.int .i64 a4)),some (.d (.bool z60)),some (.d (.bool (z59 == z60))),some (.d (.bool (z59 == z60))),some (.d (.bool true)),some (.d (.bool z62)),some (.d (.bool z62)),some (.d (.bool z62))] ?_
 refine ⟨[0,1,2,3,4,5,6,7,8,9,10,11,12,13,14,15,16,17],by kernel_rfl,?_,_,rfl,?_⟩
 ·
  refine .cons rfl rfl rfl (.step ?_) ?_
  ·
   refine ah.val rfl (av H44 (i:=4) rfl rfl (aW gY dY rfl)) rfl ?_
   refine ah.less (Less.agg' (d:=aD z8) (ak.eq rfl (ak.eq rfl (ak.eq rfl (ak.eq rfl (ak.eq rfl (ak.eq rfl .nil)))))) ((aT.eq _).trans rfl)) ?_
   exact ah.nil ⟨_,_,rfl,fun _ ht=>by cases ht; exact ⟨rfl,.refl _⟩⟩
  refine .cons rfl rfl rfl (.step ?_) ?_
  ·
   refine ah.ret rfl (aC rfl rfl) (kX E _ _ _ hzz56 _ _ (aF.eq .nil)) rfl ?_
   exact ah.nil ⟨_,_,rfl,fun _ ht=>by cases ht; exact ⟨rfl,.refl _⟩⟩
  refine .cons rfl rfl rfl (.step ?_) ?_
  ·
   refine ah.val rfl (av H44 (i:=4) rfl rfl (aW gY dY rfl)) rfl ?_
   refine ah.less (Less.agg' (d:=aD z8) (ak.eq rfl (ak.eq rfl (ak.eq rfl (ak.eq rfl (ak.eq rfl (ak.eq rfl .nil)))))) ((aT.eq _).trans rfl)) ?_
   exact ah.nil ⟨_,_,rfl,fun _ ht=>by cases ht; exact ⟨rfl,.refl _⟩⟩
  refine .cons rfl rfl rfl (.step ?_) ?_
  ·
   refine ah.ret rfl (aC rfl rfl) (ik E _ _ _ hzz57 _ _ (aF.eq .nil)) rfl ?_
   exact ah.nil ⟨_,_,rfl,fun _ ht=>by cases ht; exact ⟨rfl,.refl _⟩⟩
  refine .v rfl rfl rfl rfl (au rfl rfl aU) ?_
  refine .cons rfl rfl rfl (.val rfl (ae rfl) (.eq (by rw [hb58]))) ?_
  refine .cons rfl rfl rfl (.step ?_) ?_
  ·
   refine ah.val rfl (av H44 (i:=4) rfl rfl (aW gY dY rfl)) rfl ?_
   refine ah.less (Less.agg' (d:=aD z8) (ak.eq rfl (ak.eq rfl (ak.eq rfl (ak.eq rfl (ak.eq rfl (ak.eq rfl .nil)))))) ((aT.eq _).trans rfl)) ?_
   exact ah.nil ⟨_,_,rfl,fun _ ht=>by cases ht; exact ⟨rfl,.refl _⟩⟩
  refine .v rfl rfl rfl rfl (ae rfl) ?_
  refine .cons rfl rfl rfl (.step ?_) ?_
  ·
   refine ah.ret rfl (aC rfl rfl) (kV E _ _ _ _ hzz59 _ _ (aF.eq (aF.eq .nil))) rfl ?_
   exact ah.nil ⟨_,_,rfl,fun _ ht=>by cases ht; exact ⟨rfl,.refl _⟩⟩
  refine .cons rfl rfl rfl (.step ?_) ?_
  ·
   refine ah.val rfl (av H44 (i:=4) rfl rfl (aW gY dY rfl)) rfl ?_
   refine ah.less (Less.agg' (d:=aD z8) (ak.eq rfl (ak.eq rfl (ak.eq rfl (ak.eq rfl (ak.eq rfl (ak.eq rfl .nil)))))) ((aT.eq _).trans rfl)) ?_
   exact ah.nil ⟨_,_,rfl,fun _ ht=>by cases ht; exact ⟨rfl,.refl _⟩⟩
  refine .v rfl rfl rfl rfl (ae rfl) ?_
  refine .cons rfl rfl rfl (.step ?_) ?_
  ·
   refine ah.ret rfl (aC rfl rfl) (jG E _ _ _ _ hzz60 _ _ (aF.eq (aF.eq .nil))) rfl ?_
   exact ah.nil ⟨_,_,rfl,fun _ ht=>by cases ht; exact ⟨rfl,.refl _⟩⟩
  refine .v rfl rfl rfl rfl (au rfl rfl (yN KN)) ?_
  refine .v rfl rfl rfl rfl (ay (b:=true) rfl rfl) ?_
  refine .cons rfl rfl rfl (.val rfl (ae rfl) (.eq (by rw [hb61]))) ?_
  refine .cons rfl rfl rfl (.step ?_) ?_
  ·
   refine ah.ret rfl (aC rfl rfl) (nS E _  _ hzz62 _ _ .nil) rfl ?_
   exact ah.nil ⟨_,_,rfl,fun _ ht=>by cases ht; exact ⟨rfl,.refl _⟩⟩
  refine .v rfl rfl rfl rfl (ay (b:=true) rfl rfl) ?_
  refine .v rfl rfl rfl rfl (ai rfl) ?_
  exact .nil
 exact ⟨z62,_,_,S43,.refl _ _,.refl _,(aa.r rfl aa.nil),H44.sl [] rfl rfl,h⟩
end
end Pr
end Go.Ev

namespace Go.Ev
namespace Pr
set_option linter.unusedVariables false
set_option linter.unusedSimpArgs false
theorem kJ {n:Int} (h0:-9223372036854775808 ≤ n) (h1:n ≤ 9223372036854775807):IntKind.wrap .i64 n=n:=Go.IntWalk.i64_in n ⟨h0,h1⟩
theorem jK {α:Type} (l:List α) (i:Nat):idx l (i:Int)=l[i]?:=by
 unfold idx
 rw [if_pos (by omega)]
 simp
theorem fH {α:Type} {l done rest:List α} {z:α} (h:l=done ++ z :: rest):idx l (done.length:Int)=some z:=by
 rw [jK,h]; simp
theorem uC {α:Type} (l:List α) {i:Int} (h0:0 ≤ i) (h1:i < l.length):∃ x,idx l i=some x∧x ∈ l∧l[i.toNat]? = some x:=by
 obtain ⟨j,rfl⟩:=Int.eq_ofNat_of_zero_le h0
 have hj:j < l.length:=by omega
 exact ⟨l[j],by rw [jK]; exact List.getElem?_eq_getElem hj,List.getElem_mem hj,by simp [hj]⟩
theorem nO {α:Type} {nb:Nat} {l ys:List α} (h:(l.length + ys.length) * nb ≤ bound):app nb l ys=some (l ++ ys):=by
 unfold app; rw [if_pos h]
theorem Dq {k:IntKind} {a b:Int} (h:b ≠ 0):zM k a b=some (a.tmod b):=by
 unfold zM; rw [if_neg h]
theorem bnd:bound=70368744177664:=rfl
end Pr
end Go.Ev

namespace Go.Ev
namespace Pr
namespace S
set_option linter.unusedVariables false
set_option linter.unusedSimpArgs false
set_option linter.unusedSectionVars false
theorem kL (n:Nat) (a lo hi:Int) (h1:lo ≤ hi) (h2:-1000000000000 ≤ lo) (h3:hi ≤ 1000000000000000):∃ r,dC n a lo hi=some r∧lo ≤ r∧r ≤ hi:=by
 unfold dC
 rw [kJ (n:=hi - lo) (by omega) (by omega),kJ (by omega) (by omega),Dq (by omega),Option.bind_some]
 have k1:=Int.tmod_lt_of_pos a (show 0 < hi - lo + 1 by omega)
 have k2:=Int.lt_tmod_of_pos a (show 0 < hi - lo + 1 by omega)
 unfold eX
 by_cases hz:a.tmod (hi - lo + 1) < 0
 ·
  rw [if_pos (by simpa using hz)]
  rw [kJ (n:=a.tmod (hi - lo + 1) + hi) (by omega) (by omega),kJ (n:=a.tmod (hi - lo + 1) + hi - lo) (by omega) (by omega),kJ (n:=a.tmod (hi - lo + 1) + hi - lo + 1) (by omega) (by omega),kJ (by omega) (by omega)]
  exact ⟨_,rfl,by omega,by omega⟩
 ·
  rw [if_neg (by simpa using hz),kJ (by omega) (by omega)]
  exact ⟨_,rfl,by omega,by omega⟩
theorem zb (n:Nat) (l:List Int) (i:Int) (h:0 ≤ i):∃ r,gu n l i=some r:=by
 unfold gu
 by_cases h0:l.length=0
 ·
  rw [if_pos (by simp; exact List.eq_nil_of_length_eq_zero h0)]; exact ⟨_,rfl⟩
 ·
  rw [if_neg (by simp; intro q; exact h0 (by rw [q]; rfl)),Dq (by omega),Option.bind_some]
  have hp:(0:Int) < (l.length:Int):=by omega
  obtain ⟨x,hx,_⟩:=uC l (i:=i.tmod l.length) (Int.tmod_nonneg _ h) (Int.tmod_lt_of_pos _ hp)
  exact ⟨x,by rw [hx]; rfl⟩
mutual
def gW:aT→Nat
 | .mk _ _ _ _ _ ks=>1 + iO ks
def iO:List aT→Nat
 | []=>0
 | t :: l=>gW t + iO l
end
mutual
def lJ:aT→Nat
 | .mk _ _ _ _ _ ks=>1 + jZ ks
def jZ:List aT→Nat
 | []=>0
 | t :: l=>max (lJ t) (jZ l)
end
theorem dH (t:aT):gW t=1 + iO t.Kids:=by cases t; rw [gW]; rfl
theorem uu (t:aT):lJ t=1 + jZ t.Kids:=by cases t; rw [lJ]; rfl
theorem jv:∀ (l:List aT),l.length ≤ iO l
 | []=>Nat.le_refl _
 | x :: l=>by
  have:=jv l
  have:=dH x
  simp only [List.length_cons,iO]; omega
theorem yJ:∀ {l:List aT} {z:aT},z ∈ l→gW z ≤ iO l
 | x :: l,z,h=>by
  rcases List.mem_cons.1 h with rfl | h
  ·
   simp only [iO]; omega
  ·
   have:=yJ h
   simp only [iO]; omega
theorem iB {t z:aT} (h:z ∈ t.Kids):gW z < gW t:=by
 have:=yJ h
 have:=dH t; omega
def nI:Str:=[111,117,116,108,101,116]
mutual
def pg (m:Int):aT→Prop
 | .mk k n g x a ks=>(1 ≤ k∧k ≤ m)∧(k ≠ 1→k ≠ 5→k ≠ 6→ks=[])∧(g ≠ nI∧g.length ≤ 16)∧(0 ≤ n∧n ≤ 4)∧a.length ≤ 64∧Iz m ks
def Iz (m:Int):List aT→Prop
 | []=>True
 | t :: l=>pg m t∧Iz m l
end
theorem Dx {m:Int}:∀ {l:List aT},Iz m l↔∀ z ∈ l,pg m z
 | []=>by simp [Iz]
 | t :: l=>by
  rw [Iz,Dx (l:=l)]; simp
theorem wO {m:Int} (t:aT):pg m t↔(1 ≤ t.Kind∧t.Kind ≤ m)∧(t.Kind ≠ 1→t.Kind ≠ 5→t.Kind ≠ 6→t.Kids=[])∧(t.Tag ≠ nI∧t.Tag.length ≤ 16)∧(0 ≤ t.N∧t.N ≤ 4)∧t.aH.length ≤ 64∧(∀ z ∈ t.Kids,pg m z):=by
 cases t
 rw [pg,Dx]; rfl
theorem mq (n:Nat) (self:aT→Option (Int × Int)) (t:aT) (hs:∀ z ∈ t.Kids,self z=some ((gW z:Int),(lJ z:Int))) (hl:gW t < 1000000) (hD:∀ z ∈ t.Kids,lJ z < 1000000):∀ (rest done:List aT) (k a d:Nat),t.Kids=done ++ rest→rest.length < k→a + iO rest < 2000000→d < 1000000 →
  fF self t k (a:Int) (d:Int) (done.length:Int)=some (((a + iO rest:Nat):Int),((max d (jZ rest) + 1:Nat):Int))
 | [],done,k + 1,a,d,h,hk,ha,hd=>by
  rw [fF,if_neg (by rw [h]; simp),kJ (by omega) (by omega)]
  simp [iO,jZ]
 | z :: rest,done,k + 1,a,d,h,hk,ha,hd=>by
  have hlen:done.length < t.Kids.length:=by rw [h]; simp
  have:=jv t.Kids
  have:=dH t
  have hz:z ∈ t.Kids:=by rw [h]; simp
  have hdz:=hD z hz
  simp only [iO] at ha
  rw [fF,if_pos (by rw [decide_eq_true_eq]; omega),fH h,Option.bind_some,hs z hz,Option.bind_some]
  have e:lQ (d:Int) (lJ z:Int)=((max d (lJ z):Nat):Int):=by unfold lQ; split <;> omega
  simp only [e]
  rw [kJ (n:=(a:Int) + (gW z:Int)) (by omega) (by omega),kJ (n:=(done.length:Int) + 1) (by omega) (by omega)]
  have:=mq n self t hs hl hD rest (done ++ [z]) k (a + gW z) (max d (lJ z)) (by simp [h]) (by simp at hk; omega) (by omega) (by omega)
  simp only [List.length_append,List.length_cons,List.length_nil,Nat.zero_add,Int.natCast_add,Int.cast_ofNat_Int] at this
  rw [this]
  simp only [iO,jZ,Option.some.injEq,Prod.mk.injEq]
  refine ⟨by omega,by omega⟩
theorem zt:∀ (m:Nat) (t:aT),gW t ≤ m→lJ t ≤ gW t
 | 0,t,h=>by have:=dH t; omega
 | m + 1,t,h=>by
  rw [dH,uu]
  have:∀ (l:List aT),(∀ z ∈ l,lJ z ≤ gW z)→jZ l ≤ iO l:=by
   intro l
   induction l with
   | nil=>intro _; exact Nat.le_refl _
   | cons z l ih =>
    intro hz
    have h1:=hz z (by simp)
    have h2:=ih (fun y hy=>hz y (by simp [hy]))
    simp only [jZ,iO]; omega
  have:=this t.Kids (fun z hz=>zt m z (by have:=iB hz; omega))
  omega
theorem oD:∀ (m:Nat) (t:aT),gW t ≤ m→m < 1000000→∀ n,m < n→iC n t=some ((gW t:Int),(lJ t:Int))
 | 0,t,h,_,n,_=>by have:=dH t; omega
 | m + 1,t,h,hm,n + 1,hn=>by
  have hk:=dH t
  have hlen:=jv t.Kids
  rw [iC]
  have:=mq n (iC n) t (fun z hz=>oD m z (by have:=iB hz; omega) (by omega) n (by omega)) (by omega) (fun z hz=>by
   have:=zt (gW z) z (Nat.le_refl _)
   have:=iB hz; omega) t.Kids [] n 1 0 rfl (by omega) (by omega) (by omega)
  simp only [List.length_nil,Int.natCast_zero,Int.ofNat_zero,Int.cast_ofNat_Int,Int.natCast_one,Int.ofNat_one] at this
  rw [this,dH,uu]
  simp only [Option.some.injEq,Prod.mk.injEq,true_and]
  omega
def Ia (t:bM):Prop:=(1 ≤ t.Kind∧t.Kind ≤ 7)∧(t.Tag ≠ nI∧t.Tag.length ≤ 16)∧(0 ≤ t.N∧t.N ≤ 4)∧t.aH.length ≤ 64
def opens (t:bM):Prop:=t.Kind=1∨t.Kind=5∨t.Kind=6
structure Wd (nodes:List bM) (under:List Int) (lv:List Nat):Prop where
 lu:under.length=nodes.length
 ll:lv.length=nodes.length
 pos:0 < nodes.length
 le:nodes.length ≤ 13
 ok:∀ (j:Nat) (t:bM),nodes[j]? = some t→Ia t
 root:under[0]? = some (-1)∧lv[0]? = some 1
 par:∀ (j:Nat),0 < j→j < nodes.length→∃ (p:Nat) (t:bM) (v:Nat),under[j]? = some (p:Int)∧p < j∧nodes[p]? = some t∧opens t∧lv[p]? = some v∧lv[j]? = some (v + 1)
 lim:∀ (j v:Nat),lv[j]? = some v→v ≤ 7∧1 ≤ v
section
variable {nodes:List bM} {under:List Int} {lv:List Nat}
theorem Dl (h:Wd nodes under lv):∀ (m j v:Nat),j ≤ m→lv[j]? = some v→∀ (k:Nat) (acc:Int),v + 1 < k→0 ≤ acc→acc + v ≤ 60→dA under k (j:Int) acc=some (acc + v)
 | m,0,v,_,hv,k + 2,acc,hk,h0,h1=>by
  have hr:=h.root
  rw [hr.2] at hv; cases hv
  rw [dA,if_pos (by simp; omega)]
  have:idx under ((0:Nat):Int)=some (-1):=by rw [jK]; exact hr.1
  rw [this,Option.bind_some,kJ (by omega) (by omega),dA,if_neg (by simp)]
  rfl
 | m + 1,j + 1,v,hj,hv,k + 1,acc,hk,h0,h1=>by
  have hjl:j + 1 < nodes.length:=by
   have:=(List.getElem?_eq_some_iff.1 hv).1
   rw [h.ll] at this; exact this
  obtain ⟨p,t,v',hu,hp,_,_,hvp,hvj⟩:=h.par (j + 1) (by omega) hjl
  rw [hv] at hvj; cases hvj
  have hl:=(h.lim (j + 1) (v' + 1) hv).1
  rw [dA,if_pos (by simp; omega)]
  have:idx under ((j + 1:Nat):Int)=some (p:Int):=by rw [jK]; exact hu
  rw [this,Option.bind_some,kJ (by omega) (by omega)]
  rw [Dl h m p v' (by omega) hvp k (acc + 1) (by omega) (by omega) (by omega)]
  congr 1
  push_cast; omega
 | m,0,v,_,hv,1,acc,hk,_,_=>by omega
theorem EL (h:Wd nodes under lv) (n:Nat) (hn:20 < n) {j v:Nat} (hv:lv[j]? = some v):iI n under (j:Int)=some (v:Int):=by
 have hl:=(h.lim j v hv).1
 unfold iI
 rw [Dl h j j v (Nat.le_refl _) hv n 0 (by omega) (by omega) (by omega)]
 simp
def lI (under:List Int) (at_:Nat) (l:List Nat):List Nat:=l.filter fun j=>under[j]? == some (at_:Int)
def wY (nodes:List bM) (under:List Int):Nat→Nat→aT
 | 0,_=>.mk 0 0 [] [] [] []
 | f + 1,j=>match nodes[j]? with
  | some t=>.mk t.Kind t.N t.Tag t.Text t.aH ((lI under j (List.range nodes.length)).map (wY nodes under f))
  | none=>.mk 0 0 [] [] [] []
theorem qz (h:Wd nodes under lv) {j i:Nat} {l:List Nat} (hi:i ∈ lI under j l):i < nodes.length∧j < i∧∃ v,lv[j]? = some v∧lv[i]? = some (v + 1)∧∃ t,nodes[j]? = some t∧opens t:=by
 obtain ⟨_,h2⟩:=List.mem_filter.1 hi
 have h2:=eq_of_beq h2
 have hil:i < nodes.length:=by rw [← h.lu]; exact (List.getElem?_eq_some_iff.1 h2).1
 cases i with
 | zero=>rw [h.root.1] at h2; cases h2
 | succ i =>
  obtain ⟨p,t,v,hu,hp,ht,htg,hvp,hvj⟩:=h.par (i + 1) (by omega) hil
  rw [hu] at h2
  have:p=j:=by have:=Option.some.inj h2; omega
  subst this
  exact ⟨hil,hp,v,hvp,hvj,t,ht,htg⟩
theorem A7 (h:Wd nodes under lv):∀ (f g j:Nat),j < nodes.length→nodes.length ≤ j + f→nodes.length ≤ j + g→wY nodes under f j=wY nodes under g j
 | 0,g,j,hj,hf,_=>by omega
 | f + 1,0,j,hj,_,hg=>by omega
 | f + 1,g + 1,j,hj,hf,hg=>by
  rw [wY,wY]
  split
  ·
   congr 1
   apply List.map_congr_left
   intro i hi
   obtain ⟨h1,h2,_⟩:=qz h hi
   exact A7 h f g i h1 (by omega) (by omega)
  ·
   rfl
def gt (nodes:List bM) (under:List Int) (j:Nat):aT:=wY nodes under (nodes.length + 1) j
theorem Dt (h:Wd nodes under lv) {j:Nat} {t:bM} (ht:nodes[j]? = some t):gt nodes under j=.mk t.Kind t.N t.Tag t.Text t.aH ((lI under j (List.range nodes.length)).map (gt nodes under)):=by
 unfold gt
 rw [wY]
 simp only [ht]
 congr 1
 apply List.map_congr_left
 intro i hi
 obtain ⟨h1,h2,_⟩:=qz h hi
 exact A7 h _ _ i h1 (by omega) (by omega)
theorem uk (h:Wd nodes under lv) (self:List bM→List Int→Int→Option aT) (j:Nat) (z:bM) (hs:∀ i,i < nodes.length→j < i→self nodes under (i:Int)=some (gt nodes under i)):∀ (m i k:Nat) (acc:List aT),nodes.length=i + m→m < k→acc.length ≤ i →
  bV self nodes under (j:Int) z k acc (i:Int)=some (.mk z.Kind z.N z.Tag z.Text z.aH (acc ++ (lI under j (List.range' i m)).map (gt nodes under)))
 | 0,i,k + 1,acc,hm,_,_=>by
  rw [bV,if_neg (by rw [hm]; simp)]
  simp [lI]
 | m + 1,i,k + 1,acc,hm,hk,ha=>by
  have hle:=h.le
  have hil:i < under.length:=by rw [h.lu]; omega
  rw [bV,if_pos (by rw [hm]; simp; omega),jK,List.getElem?_eq_getElem hil,Option.bind_some]
  rw [List.range'_succ]
  by_cases hu:under[i]=(j:Int)
  ·
   have hin:i ∈ lI under j [i]:=by simp [lI,hil,hu]
   obtain ⟨g1,g2,_⟩:=qz h hin
   rw [if_pos (by simpa using hu),hs i g1 g2,Option.bind_some,nO (by rw [bnd]; simp; omega),Option.bind_some]
   unfold eD
   rw [kJ (by omega) (by omega)]
   have:=uk h self j z hs m (i + 1) k (acc ++ [gt nodes under i]) (by omega) (by omega) (by simp; omega)
   push_cast at this
   rw [this]
   have:lI under j (i :: List.range' (i + 1) m)=i :: lI under j (List.range' (i + 1) m):=by
    unfold lI; rw [List.filter_cons,if_pos (by simp [hil,hu])]
   rw [this]; simp
  ·
   rw [if_neg (by simpa using hu)]
   unfold eD
   rw [kJ (by omega) (by omega)]
   have:=uk h self j z hs m (i + 1) k acc (by omega) (by omega) (by omega)
   push_cast at this
   rw [this]
   have:lI under j (i :: List.range' (i + 1) m)=lI under j (List.range' (i + 1) m):=by
    unfold lI; rw [List.filter_cons,if_neg (by simp [hil,hu])]
   rw [this]
theorem Dv (h:Wd nodes under lv):∀ (n j:Nat),j < nodes.length→2 * nodes.length + 2 ≤ j + n→bS n nodes under (j:Int)=some (gt nodes under j)
 | 0,j,hj,hn=>by omega
 | n + 1,j,hj,hn=>by
  rw [bS,jK,List.getElem?_eq_getElem hj,Option.bind_some]
  have:=uk h (bS n) j nodes[j] (fun i hi hji=>Dv h n i hi (by omega)) nodes.length 0 n [] (by omega) (by omega) (by simp)
  rw [show ((0:Nat):Int)=0 from rfl] at this
  rw [this,Dt h (List.getElem?_eq_getElem hj),List.range_eq_range']
  rfl
theorem CW (h:Wd nodes under lv):∀ (m j v:Nat),nodes.length ≤ j + m→lv[j]? = some v→pg 7 (gt nodes under j)∧lJ (gt nodes under j) + v ≤ 8
 | 0,j,v,hm,hv=>by
  have:=(List.getElem?_eq_some_iff.1 hv).1
  rw [h.ll] at this; omega
 | m + 1,j,v,hm,hv=>by
  have hj:j < nodes.length:=by rw [← h.ll]; exact (List.getElem?_eq_some_iff.1 hv).1
  have ht:=List.getElem?_eq_getElem hj
  have hv7:=h.lim j v hv
  rw [Dt h ht]
  have hk:∀ i ∈ lI under j (List.range nodes.length),pg 7 (gt nodes under i)∧lJ (gt nodes under i) + (v + 1) ≤ 8:=fun i hi=>by
   obtain ⟨g1,g2,v',g3,g4,_⟩:=qz h hi
   rw [hv] at g3; cases g3
   exact CW h m i (v + 1) (by omega) g4
  obtain ⟨a1,a2,a3,a4⟩:=h.ok j _ ht
  refine ⟨(wO _).2 ⟨a1,fun q1 q5 q6=>?_,a2,a3,a4,fun z hz=>?_⟩,?_⟩
  ·
   show List.map _ _=[]
   rw [List.map_eq_nil_iff]
   cases hq:lI under j (List.range nodes.length) with
   | nil=>rfl
   | cons i l =>
    obtain ⟨_,_,_,_,_,t,e1,e2⟩:=qz h (l:=List.range nodes.length) (i:=i) (j:=j) (by rw [hq]; simp)
    rw [ht] at e1; cases e1
    rcases e2 with e | e | e
    ·
     exact absurd e q1
    ·
     exact absurd e q5
    ·
     exact absurd e q6
  ·
   obtain ⟨i,hi,rfl⟩:=List.mem_map.1 hz
   exact (hk i hi).1
  ·
   rw [lJ]
   have:∀ (l:List Nat),(∀ i ∈ l,lJ (gt nodes under i) + (v + 1) ≤ 8)→jZ (l.map (gt nodes under)) + (v + 1) ≤ 8:=by
    intro l
    induction l with
    | nil=>intro _; simp only [List.map_nil,jZ]; omega
    | cons i l ih =>
     intro hl
     have h1:=hl i List.mem_cons_self
     have h2:=ih (fun i hi=>hl i (List.mem_cons_of_mem _ hi))
     simp only [List.map_cons,jZ]; omega
   have:=this _ (fun i hi=>(hk i hi).2)
   omega
def jX (p:Nat→Bool) (f:Nat→Nat):List Nat→Nat
 | []=>0
 | i :: l=>(if p i then f i else 0) + jX p f l
theorem rH (f:Nat→aT) (p:Nat→Bool):∀ (l:List Nat),iO ((l.filter p).map f)=jX p (fun i=>gW (f i)) l
 | []=>rfl
 | i :: l=>by
  rw [List.filter_cons,jX]
  by_cases h:p i=true
  ·
   rw [if_pos h,if_pos h,List.map_cons,iO,rH f p l]
  ·
   rw [if_neg h,if_neg h,rH f p l]; omega
theorem uW (f:Nat→Nat) (p q r:Nat→Bool):∀ (l:List Nat),(∀ i ∈ l,p i=(q i || r i)∧(q i && r i)=false)→jX p f l=jX q f l + jX r f l
 | [],_=>rfl
 | i :: l,h=>by
  obtain ⟨h1,h2⟩:=h i List.mem_cons_self
  have ih:=uW f p q r l (fun i hi=>h i (List.mem_cons_of_mem _ hi))
  rw [jX,jX,jX,h1,ih]
  cases hq:q i <;> cases hr:r i <;> simp_all <;> omega
theorem rE (f:Nat→Nat) (p:Nat→Bool):∀ (l:List Nat),(∀ i ∈ l,p i=false)→jX p f l=0
 | [],_=>rfl
 | i :: l,h=>by
  rw [jX,h i List.mem_cons_self,rE f p l (fun i hi=>h i (List.mem_cons_of_mem _ hi))]; simp
theorem yg (f:Nat→Nat) (p:Nat→Bool):∀ (l m:List Nat),jX p f (l ++ m)=jX p f l + jX p f m
 | [],m=>by simp [jX]
 | i :: l,m=>by rw [List.cons_append,jX,jX,yg f p l m]; omega
def ahead (under:List Int) (m:Nat) (j:Nat):Bool:=match under[j]? with
 | some u=>decide (u < (m:Int))
 | none=>false
theorem ES (h:Wd nodes under lv):∀ (d m:Nat),m + d=nodes.length→jX (ahead under m) (fun i=>gW (gt nodes under i)) (List.range' m d)=d
 | 0,m,_=>rfl
 | d + 1,m,hm=>by
  have ih:=ES h d (m + 1) (by omega)
  have hml:m < nodes.length:=by omega
  have hmu:m < under.length:=by rw [h.lu]; exact hml
  rw [List.range'_succ,jX]
  have hself:ahead under m m=true:=by
   unfold ahead
   cases m with
   | zero=>rw [h.root.1]; rfl
   | succ m =>
    obtain ⟨p,_,_,hu,hp,_⟩:=h.par (m + 1) (by omega) hml
    rw [hu]; simp; omega
  rw [if_pos hself,Dt h (List.getElem?_eq_getElem hml),gW]
  unfold lI
  rw [rH]
  have hr:List.range nodes.length=List.range' 0 (m + 1) ++ List.range' (m + 1) d:=by
   have hq:=List.range'_append_1 (s:=0) (m:=m + 1) (n:=d)
   rw [Nat.zero_add] at hq
   rw [List.range_eq_range',hq]
   congr 1; omega
  rw [hr,yg,rE _ _ (List.range' 0 (m + 1)) (fun i hi=>?_)]
  ·
   have hsp:=uW (fun i=>gW (gt nodes under i)) (ahead under (m + 1)) (ahead under m) (fun j=>under[j]? == some (m:Int)) (List.range' (m + 1) d) (fun i hi=>?_)
   ·
    rw [hsp] at ih
    omega
   ·
    have hil:i < under.length:=by
     have:=List.mem_range'_1.1 hi
     rw [h.lu]; omega
    unfold ahead
    rw [List.getElem?_eq_getElem hil]
    generalize under[i]=u
    simp only
    rcases Int.lt_trichotomy u (m:Int) with q | q | q
    ·
     have q1:u < ((m + 1:Nat):Int):=by omega
     have q2:u ≠ (m:Int):=by omega
     simp only [q,q1,decide_true,Bool.true_or,Bool.true_and,true_and]
     simpa using q2
    ·
     subst q
     have q1:(m:Int) < ((m + 1:Nat):Int):=by omega
     have q2:¬ (m:Int) < (m:Int):=by omega
     simp only [q1,q2,decide_true,decide_false,Bool.false_or,Bool.false_and,and_true,beq_self_eq_true]
    ·
     have q1:¬ u < ((m + 1:Nat):Int):=by omega
     have q2:¬ u < (m:Int):=by omega
     have q3:u ≠ (m:Int):=by omega
     simp only [q1,q2,decide_false,Bool.false_or,Bool.false_and,and_true]
     symm; simpa using q3
  ·
   cases hc:under[i]? == some (m:Int) with
   | false=>rfl
   | true =>
    have him:=List.mem_range'_1.1 hi
    obtain ⟨_,q,_⟩:=qz h (l:=[i]) (i:=i) (j:=m) (by simp [lI,hc])
    omega
theorem Hu (h:Wd nodes under lv):gW (gt nodes under 0)=nodes.length:=by
 obtain ⟨d,hd⟩:∃ d,nodes.length=d + 1:=⟨nodes.length - 1,by have:=h.pos; omega⟩
 have:=ES h nodes.length 0 (by omega)
 rw [hd,List.range'_succ,jX] at this
 have h0:ahead under 0 0=true:=by unfold ahead; rw [h.root.1]; rfl
 rw [if_pos h0,rE _ _ _ (fun i hi=>?_)] at this
 ·
  rw [hd]; omega
 ·
  have hi':=List.mem_range'_1.1 hi
  obtain ⟨p,_,_,hu,_⟩:=h.par i (by omega) (by omega)
  unfold ahead
  rw [hu]; simp
end
def words:List Str:=[[97],[98],[105,116,101,109],[120,32,121],[37],[97,47,98],[46,46],[122],[49],[108,105,115,116],[255],[63,61,38]]
def GN:List Str:=[[100,105,118],[112],[108,105],[98]]
def Ih:List Str:=[[105,100],[112,97],[112,98],[108,97,115,116]]
theorem Hm:(words.length:Int)=12:=rfl
theorem AY:∀ s ∈ GN,s ≠ nI∧s.length ≤ 16:=by decide
section
variable {nodes:List bM} {under:List Int} {lv:List Nat}
theorem getElem?_push {α:Type} (l:List α) (x:α) (j:Nat):(l ++ [x])[j]? = if j < l.length then l[j]? else if j=l.length then some x else none:=by
 by_cases h:j < l.length
 ·
  rw [if_pos h,List.getElem?_append_left h]
 ·
  rw [if_neg h,List.getElem?_append_right (by omega)]
  by_cases h2:j=l.length
  ·
   rw [if_pos h2,h2]; simp
  ·
   rw [if_neg h2]
   have:∃ k,j - l.length=k + 1:=⟨j - l.length - 1,by omega⟩
   obtain ⟨k,hk⟩:=this
   rw [hk]; rfl
theorem kE {α:Type} {l:List α} {x y:α} {j:Nat} (h:l[j]? = some y):(l ++ [x])[j]? = some y:=by
 rw [List.getElem?_append_left (List.getElem?_eq_some_iff.1 h).1]; exact h
theorem Gu (h:Wd nodes under lv) (hl:nodes.length ≤ 12) {t:bM} (ht:Ia t) {p v:Nat} {tp:bM} (hp:nodes[p]? = some tp) (htp:opens tp) (hv:lv[p]? = some v) (h6:v ≤ 6):Wd (nodes ++ [t]) (under ++ [(p:Int)]) (lv ++ [v + 1]) where
 lu:=by simp [h.lu]
 ll:=by simp [h.ll]
 pos:=by simp
 le:=by simp; omega
 ok:=fun j u hu=>by
  rw [getElem?_push] at hu
  split at hu
  ·
   exact h.ok j u hu
  ·
   split at hu
   ·
    cases hu; exact ht
   ·
    cases hu
 root:=⟨kE h.root.1,kE h.root.2⟩
 par:=fun j h0 hj=>by
  simp only [List.length_append,List.length_singleton] at hj
  by_cases hjl:j < nodes.length
  ·
   obtain ⟨q,tq,vq,h1,h2,h3,h4,h5,h6⟩:=h.par j h0 hjl
   exact ⟨q,tq,vq,kE h1,h2,kE h3,h4,kE h5,kE h6⟩
  ·
   have hj:j=nodes.length:=by omega
   subst hj
   have hpl:=(List.getElem?_eq_some_iff.1 hp).1
   refine ⟨p,tp,v,?_,hpl,kE hp,htp,kE hv,?_⟩
   ·
    rw [getElem?_push,h.lu,if_neg (by omega),if_pos rfl]
   ·
    rw [getElem?_push,h.ll,if_neg (by omega),if_pos rfl]
 lim:=fun j w hw=>by
  rw [getElem?_push] at hw
  split at hw
  ·
   exact h.lim j w hw
  ·
   split at hw
   ·
    cases hw; omega
   ·
    cases hw
def xg (nodes:List bM):Prop:=∃ t,nodes[0]? = some t∧t.Kind=1
theorem Hg (hl:nodes.length ≤ 12) (hu:under.length ≤ 12) {i:Nat} (hi:i ≤ 20) (again:List bM→List Int→Int→Option aT) (p kd nn:Int) (tag text:Str) (ats:List Attr) :
  bI nodes under (i:Int) again p kd nn tag text ats=again (nodes ++ [⟨kd,nn,tag,text,ats⟩]) (under ++ [p]) ((i + 1:Nat):Int):=by
 unfold bI
 rw [nO (by rw [bnd]; simp; omega),Option.bind_some,nO (by rw [bnd]; simp; omega),Option.bind_some,kJ (by omega) (by omega)]
 rfl
theorem HZ (hl:nodes.length ≤ 12) (hu:under.length ≤ 12) (n:Nat) (k:fw) {i:Nat} (hi:i ≤ 20) (again:List bM→List Int→Int→Option aT) (p:Int) :
  ∃ t,Ia t∧bX n k words nodes under (i:Int) again p=again (nodes ++ [t]) (under ++ [p]) ((i + 1:Nat):Int):=by
 obtain ⟨r1,e1⟩:=zb n k.Kinds (i:Int) (by omega)
 obtain ⟨kd,k1,k2,k3⟩:=kL n r1 1 7 (by omega) (by omega) (by omega)
 obtain ⟨r2,e2⟩:=zb n k.Ns (i:Int) (by omega)
 obtain ⟨nn,n1,n2,n3⟩:=kL n r2 0 4 (by omega) (by omega) (by omega)
 obtain ⟨r3,e3⟩:=zb n k.Texts (i:Int) (by omega)
 have go:=fun (tag text:Str) (ats:List Attr)=>Hg hl hu hi again p kd nn tag text ats
 unfold bX
 rw [e1,Option.bind_some,k1,Option.bind_some,e2,Option.bind_some,n1,Option.bind_some,e3,Option.bind_some]
 simp only []
 have l4:IntKind.wrap .i64 ((([[100,105,118],[112],[108,105],[98]]:List Str).length:Int) - 1)=3:=by rw [kJ (by simp) (by simp)]; rfl
 have l5:IntKind.wrap .i64 ((([[105,100],[112,97],[112,98],[108,97,115,116]]:List Str).length:Int) - 1)=3:=by rw [kJ (by simp) (by simp)]; rfl
 have l12:IntKind.wrap .i64 ((words.length:Int) - 1)=11:=by rw [Hm,kJ (by omega) (by omega)]; rfl
 by_cases c1:kd=1
 ·
  rw [if_pos (by simp [c1]),l4]
  obtain ⟨q,q1,q2,q3⟩:=kL n r3 0 3 (by omega) (by omega) (by omega)
  obtain ⟨tag,t1,t2,_⟩:=uC GN q2 (by show q < 4; omega)
  have t1':idx [[100,105,118],[112],[108,105],[98]] q=some tag:=t1
  rw [q1,Option.bind_some,t1',Option.bind_some]
  by_cases c3:(Hz .i64 r3 3 == 3)=true
  ·
   rw [if_pos c3]
   obtain ⟨r4,e4⟩:∃ r4,Am .i64 r3 4=some r4:=⟨_,by unfold Am; rw [if_neg (by omega)]⟩
   obtain ⟨q',q1',q2',q3'⟩:=kL n r4 0 11 (by omega) (by omega) (by omega)
   obtain ⟨w,w1,_,_⟩:=uC words q2' (by rw [Hm]; omega)
   rw [e4,Option.bind_some,l12,q1',Option.bind_some,w1,Option.bind_some]
   exact ⟨_,⟨⟨k2,k3⟩,AY tag t2,⟨n2,n3⟩,by simp⟩,go _ _ _⟩
  ·
   rw [if_neg c3]
   exact ⟨_,⟨⟨k2,k3⟩,AY tag t2,⟨n2,n3⟩,by simp⟩,go _ _ _⟩
 ·
  rw [if_neg (by simp [c1])]
  by_cases c2:kd=2
  ·
   rw [if_pos (by simp [c2]),l12]
   obtain ⟨q,q1,q2,q3⟩:=kL n r3 0 11 (by omega) (by omega) (by omega)
   obtain ⟨w,w1,_,_⟩:=uC words q2 (by rw [Hm]; omega)
   rw [q1,Option.bind_some,w1,Option.bind_some]
   exact ⟨_,⟨⟨k2,k3⟩,by simp [nI],⟨n2,n3⟩,by simp⟩,go _ _ _⟩
  ·
   rw [if_neg (by simp [c2])]
   by_cases c4:kd=4
   ·
    rw [if_pos (by simp [c4]),l5]
    obtain ⟨q,q1,q2,q3⟩:=kL n r3 0 3 (by omega) (by omega) (by omega)
    obtain ⟨w,w1,_,_⟩:=uC Ih q2 (by show q < 4; omega)
    have w1':idx [[105,100],[112,97],[112,98],[108,97,115,116]] q=some w:=w1
    rw [q1,Option.bind_some,w1',Option.bind_some]
    exact ⟨_,⟨⟨k2,k3⟩,by simp [nI],⟨n2,n3⟩,by simp⟩,go _ _ _⟩
   ·
    rw [if_neg (by simp [c4])]
    exact ⟨_,⟨⟨k2,k3⟩,by simp [nI],⟨n2,n3⟩,by simp⟩,go _ _ _⟩
theorem wK (n:Nat) (hn:100 < n) (k:fw):∀ (m i f:Nat) (nodes:List bM) (under:List Int) (lv:List Nat),Wd nodes under lv→xg nodes→nodes.length=i + 1→i + m=11→m < f →
  ∃ nodes' under' lv',Wd nodes' under' lv'∧xg nodes'∧aQ n k words f nodes under (i:Int)=bS n nodes' under' 0
 | m,i,f + 1,nodes,under,lv,h,hr,hl,hm,hf=>by
  rw [aQ]
  by_cases hc:i < k.Under.length∧i < 11
  ·
   obtain ⟨m,rfl⟩:∃ m',m=m' + 1:=⟨m - 1,by omega⟩
   rw [if_pos (by simp; omega),jK,List.getElem?_eq_getElem hc.1,Option.bind_some]
   rw [kJ (n:=(nodes.length:Int) - 1) (by omega) (by omega)]
   obtain ⟨q,q1,q2,q3⟩:=kL n k.Under[i] 0 ((nodes.length:Int) - 1) (by omega) (by omega) (by omega)
   obtain ⟨t,t1,t2,t3⟩:=uC nodes q2 (by omega)
   rw [q1,Option.bind_some,t1,Option.bind_some]
   have go:∀ (p:Nat) (tp:bM) (v:Nat),nodes[p]? = some tp→opens tp→lv[p]? = some v→v ≤ 6→∃ nodes' under' lv',Wd nodes' under' lv'∧xg nodes'∧bX n k words nodes under (i:Int) (aQ n k words f) (p:Int)=bS n nodes' under' 0:=fun p tp v hp htp hv h6=>by
    obtain ⟨t',k1,k2⟩:=HZ (nodes:=nodes) (under:=under) (i:=i) (by omega) (by rw [h.lu]; omega) n k (by omega) (aQ n k words f) (p:Int)
    have hr':xg (nodes ++ [t']):=by
     obtain ⟨t0,h1,h2⟩:=hr
     exact ⟨t0,kE h1,h2⟩
    obtain ⟨n',u',l',g1,g2,g3⟩:=wK n hn k m (i + 1) f _ _ _ (Gu h (by omega) k1 hp htp hv h6) hr' (by simp; omega) (by omega) (by omega)
    exact ⟨n',u',l',g1,g2,by rw [k2,g3]⟩
   have root:∃ nodes' under' lv',Wd nodes' under' lv'∧xg nodes'∧bX n k words nodes under (i:Int) (aQ n k words f) 0=bS n nodes' under' 0:=by
    obtain ⟨t0,h1,h2⟩:=hr
    exact go 0 t0 1 h1 (.inl h2) h.root.2 (by omega)
   have hqn:q=(q.toNat:Int):=by omega
   by_cases hb:(((t.Kind != 1) && (t.Kind != 5)) && (t.Kind != 6))=true
   ·
    rw [if_pos hb,Option.bind_some,if_pos rfl]
    exact root
   ·
    rw [if_neg hb]
    have ho:opens t:=by
     simp at hb
     unfold opens
     by_cases a:t.Kind=1
     ·
      exact .inl a
     ·
      by_cases b:t.Kind=5
      ·
       exact .inr (.inl b)
      ·
       exact .inr (.inr (hb a b))
    have hql:q.toNat < lv.length:=by rw [h.ll]; exact (List.getElem?_eq_some_iff.1 t3).1
    have hv:=List.getElem?_eq_getElem hql
    have hd:=EL h n (by omega) hv
    rw [← hqn] at hd
    rw [hd,Option.bind_some,Option.bind_some]
    by_cases h5:5 < lv[q.toNat]
    ·
     rw [if_pos (by rw [decide_eq_true_eq]; omega)]
     exact root
    ·
     rw [if_neg (by rw [decide_eq_true_eq]; omega),hqn]
     exact go q.toNat t _ t3 ho hv (by omega)
  ·
   rw [if_neg (by simp; omega)]
   exact ⟨nodes,under,lv,h,hr,by cases bS n nodes under 0 <;> rfl⟩
end
theorem EW (k:fw) (n:Nat) (hn:100 < n):∃ t,fU n k=some t∧pg 7 t∧gW t ≤ 13∧lJ t ≤ 7∧t.Kind=1:=by
 have h0:Wd [⟨1,0,[109,97,105,110],[],[]⟩] [-1] [1]:=by
  refine ⟨rfl,rfl,by simp,by simp,fun j t ht=>?_,⟨rfl,rfl⟩,fun j h1 h2=>?_,fun j v hv=>?_⟩
  ·
   cases j with
   | zero=>simp at ht; subst ht; exact ⟨⟨by simp,by simp⟩,by simp [nI],⟨by simp,by simp⟩,by simp⟩
   | succ j=>simp at ht
  ·
   simp at h2; omega
  ·
   cases j with
   | zero=>simp at hv; subst hv; omega
   | succ j=>simp at hv
 obtain ⟨nodes,under,lv,h,hr,he⟩:=wK n hn k 11 0 n _ _ _ h0 ⟨_,rfl,rfl⟩ rfl rfl (by omega)
 have hle:=h.le
 have hg:=CW h nodes.length 0 1 (by omega) h.root.2
 have hc:=Hu h
 obtain ⟨t0,r1,r2⟩:=hr
 refine ⟨gt nodes under 0,?_,hg.1,by rw [hc]; exact hle,by omega,by rw [Dt h r1]; exact r2⟩
 unfold fU je
 rw [Option.bind_some]
 have:=Dv h n 0 h.pos (by omega)
 rw [show ((0:Nat):Int)=0 from rfl] at this he
 rw [← this,← he]
 rfl
end S
end Pr
end Go.Ev

namespace Go.Ev
namespace Pr
namespace T
set_option linter.unusedVariables false
set_option linter.unusedSimpArgs false
set_option linter.unusedSectionVars false
mutual
def jP:Tree→Nat
 | .mk _ _ _ _ ks=>1 + kF ks
def kF:List Tree→Nat
 | []=>0
 | t :: l=>jP t + kF l
end
mutual
def mJ:Tree→Nat
 | .mk _ _ _ _ ks=>1 + oZ ks
def oZ:List Tree→Nat
 | []=>0
 | t :: l=>max (mJ t) (oZ l)
end
def Bh (s:Str):Nat:=if s=[111,117,116,108,101,116] then 1 else 0
mutual
def Cf:Tree→Nat
 | .mk g _ _ _ ks=>Bh g + rP ks
def rP:List Tree→Nat
 | []=>0
 | t :: l=>Cf t + rP l
end
theorem jS (t:Tree):jP t=1 + kF t.Kids:=by cases t; rw [jP]; rfl
theorem yx (t:Tree):mJ t=1 + oZ t.Kids:=by cases t; rw [mJ]; rfl
theorem nW:∀ (l:List Tree),l.length ≤ kF l
 | []=>Nat.le_refl _
 | x :: l=>by
  have:=nW l
  have:=jS x
  simp only [List.length_cons,kF]; omega
theorem wI:∀ {l:List Tree} {z:Tree},z ∈ l→jP z ≤ kF l
 | x :: l,z,h=>by
  rcases List.mem_cons.1 h with rfl | h
  ·
   simp only [kF]; omega
  ·
   have:=wI h
   simp only [kF]; omega
theorem Ep {t z:Tree} (h:z ∈ t.Kids):jP z < jP t:=by
 have:=wI h
 have:=jS t; omega
theorem rW:∀ (l:List Tree),oZ l ≤ kF l∧∀ z ∈ l,mJ z ≤ oZ l
 | []=>⟨Nat.le_refl _,fun z h=>by cases h⟩
 | x :: l=>by
  obtain ⟨h1,h2⟩:=rW l
  have hx:mJ x ≤ jP x:=by
   cases x with
   | mk a b c d ks =>
    have:=(rW ks).1
    rw [mJ,jP]; omega
  refine ⟨by simp only [oZ,kF]; omega,fun z h=>?_⟩
  rcases List.mem_cons.1 h with rfl | h
  ·
   simp only [oZ]; omega
  ·
   have:=h2 z h
   simp only [oZ]; omega
theorem Db {t:Tree} {m:Nat} {α:Type} {f:Nat→Tree→Option α} {g:Tree→α} (ht:jP t ≤ m + 1) (ih:∀ z,jP z ≤ m→∀ n,m < n→f n z=some (g z)) {n:Nat} (hn:m < n):∀ z ∈ t.Kids,f n z=some (g z) :=
 fun z hz=>ih z (by have:=Ep hz; omega) n hn
theorem mq (self:Tree→Option Int) (t:Tree) (hs:∀ z ∈ t.Kids,self z=some (jP z:Int)) (hb:kF t.Kids < 1000000000):∀ (rest done:List Tree) (k:Nat) (acc:Int),t.Kids=done ++ rest→rest.length < k→0 ≤ acc→acc + kF rest < 2000000000 →
  fA self t k acc (done.length:Int)=some (acc + kF rest)
 | [],done,k + 1,acc,hk,_,h0,h1=>by
  rw [fA,if_neg (by rw [hk]; simp)]
  simp [kF]
 | z :: rest,done,k + 1,acc,hk,hl,h0,h1=>by
  have hlen:=nW t.Kids
  have hkl:t.Kids.length=done.length + rest.length + 1:=by rw [hk]; simp; omega
  have hz:z ∈ t.Kids:=by rw [hk]; simp
  simp only [kF] at h1
  rw [fA,if_pos (by rw [decide_eq_true_eq,hkl]; omega),fH hk,Option.bind_some,hs z hz,Option.bind_some]
  rw [kJ (by omega) (by omega),kJ (by omega) (by omega)]
  have:=mq self t hs hb rest (done ++ [z]) k (acc + jP z) (by rw [hk]; simp) (by simp at hl; omega) (by omega) (by omega)
  rw [List.length_append,List.length_singleton] at this
  push_cast at this
  rw [this,kF]
  congr 1
  push_cast; omega
theorem oD:∀ (m:Nat) (t:Tree),jP t ≤ m→m < 1000000000→∀ n,m < n→gB n t=some (jP t:Int)
 | 0,t,h,_,n,_=>by rw [jS] at h; omega
 | m + 1,t,h,hm,n + 1,hn=>by
  have hs:=Db (f:=gB) (g:=fun z=>(jP z:Int)) h (fun z hz n hn=>oD m z hz (by omega) n hn) (show m < n by omega)
  have hk:=jS t
  have hlen:=nW t.Kids
  rw [gB]
  have:=mq (gB n) t hs (by omega) t.Kids [] n 1 rfl (by omega) (by omega) (by omega)
  simp only [List.length_nil] at this
  rw [show ((0:Nat):Int)=0 from rfl] at this
  rw [this,hk]; push_cast; rfl
theorem yP (self:Tree→Option Int) (t:Tree) (hs:∀ z ∈ t.Kids,self z=some (mJ z:Int)) (hb:kF t.Kids < 1000000000):∀ (rest done:List Tree) (k:Nat) (acc:Nat),t.Kids=done ++ rest→rest.length < k→acc < 1000000000 →
  fG self t k (acc:Int) (done.length:Int)=some ((max acc (oZ rest) + 1:Nat):Int)
 | [],done,k + 1,acc,hk,_,h1=>by
  rw [fG,if_neg (by rw [hk]; simp),kJ (by omega) (by omega)]
  simp [oZ]
 | z :: rest,done,k + 1,acc,hk,hl,h1=>by
  have hlen:=nW t.Kids
  have hkl:t.Kids.length=done.length + rest.length + 1:=by rw [hk]; simp; omega
  have hz:z ∈ t.Kids:=by rw [hk]; simp
  have hd:=(rW t.Kids).2 z hz
  have hd2:=(rW t.Kids).1
  rw [fG,if_pos (by rw [decide_eq_true_eq,hkl]; omega),fH hk,Option.bind_some,hs z hz,Option.bind_some]
  rw [kJ (by omega) (by omega)]
  have hm:lQ (acc:Int) (mJ z:Int)=((max acc (mJ z):Nat):Int):=by
   unfold lQ; split <;> omega
  have:=yP self t hs hb rest (done ++ [z]) k (max acc (mJ z)) (by rw [hk]; simp) (by simp at hl; omega) (by omega)
  rw [List.length_append,List.length_singleton] at this
  rw [hm]
  push_cast at this ⊢
  rw [this,oZ]
  congr 1
  omega
theorem zH:∀ (m:Nat) (t:Tree),jP t ≤ m→m < 1000000000→∀ n,m < n→ic n t=some (mJ t:Int)
 | 0,t,h,_,n,_=>by rw [jS] at h; omega
 | m + 1,t,h,hm,n + 1,hn=>by
  have hs:=Db (f:=ic) (g:=fun z=>(mJ z:Int)) h (fun z hz n hn=>zH m z hz (by omega) n hn) (show m < n by omega)
  have hk:=jS t
  have hlen:=nW t.Kids
  rw [ic]
  have:=yP (ic n) t hs (by omega) t.Kids [] n 0 rfl (by omega) (by omega)
  simp only [List.length_nil] at this
  rw [show ((0:Nat):Int)=0 from rfl] at this
  rw [this,yx]; congr 1; push_cast; omega
def iP:Tree→Nat
 | .mk _ _ _ ats ks=>1 + ats.length + lsz ks
  where lsz:List Tree→Nat
 | []=>0
 | t :: l=>iP t + lsz l
theorem jF (t:Tree):iP t=1 + t.aH.length + iP.lsz t.Kids:=by cases t; rw [iP]; rfl
theorem CJ:∀ {l:List Tree} {z:Tree},z ∈ l→iP z ≤ iP.lsz l
 | x :: l,z,h=>by
  rcases List.mem_cons.1 h with rfl | h
  ·
   simp only [iP.lsz]; omega
  ·
   have:=CJ h
   simp only [iP.lsz]; omega
theorem vI:∀ (l:List Tree),l.length ≤ iP.lsz l
 | []=>Nat.zero_le _
 | x :: l=>by
  have:=vI l
  have:=jF x
  simp only [List.length_cons,iP.lsz]; omega
theorem rY {t z:Tree} (h:z ∈ t.Kids):iP z < iP t:=by
 have:=CJ h
 have:=jF t; omega
def sP:List Attr→List Attr→Bool
 | [],[]=>true
 | a :: l,b :: m=>Attr.beq a b && sP l m
 | _,_=>false
def oQ:Tree→Tree→Bool
 | .mk a b c d e,.mk a' b' c' d' e'=>(a == a') && (b == b') && (c == c') && sP d d' && lbeq e e'
  where lbeq:List Tree→List Tree→Bool
 | [],[]=>true
 | x :: l,y :: m=>oQ x y && lbeq l m
 | _,_=>false
theorem AJ:∀ {a b:List Attr},sP a b=true→a.length=b.length
 | [],[],_=>rfl
 | x :: l,y :: m,h=>by
  simp only [sP,Bool.and_eq_true] at h
  simp [AJ h.2]
 | [],_ :: _,h=>by cases h
 | _ :: _,[],h=>by cases h
theorem Ay:∀ {a b:List Tree},oQ.lbeq a b=true→a.length=b.length
 | [],[],_=>rfl
 | x :: l,y :: m,h=>by
  simp only [oQ.lbeq,Bool.and_eq_true] at h
  simp [Ay h.2]
 | [],_ :: _,h=>by cases h
 | _ :: _,[],h=>by cases h
theorem GI {a b:List Attr} (h:a.length ≠ b.length):sP a b=false:=by
 cases hq:sP a b
 ·
  rfl
 ·
  exact absurd (AJ hq) h
theorem Gh {a b:List Tree} (h:a.length ≠ b.length):oQ.lbeq a b=false:=by
 cases hq:oQ.lbeq a b
 ·
  rfl
 ·
  exact absurd (Ay hq) h
theorem Gz (a b:Tree):oQ a b=((a.Tag == b.Tag) && (a.Key == b.Key) && (a.Text == b.Text) && sP a.aH b.aH && oQ.lbeq a.Kids b.Kids):=by cases a; cases b; rw [oQ]; rfl
theorem wu (l m:List Attr) (hb:l.length < 1000000000):∀ (r s d e:List Attr) (k:Nat),l=d ++ r→m=e ++ s→d.length=e.length→r.length=s.length→r.length < k →
  bC l m k (d.length:Int)=some (sP r s)
 | [],[],d,e,k + 1,hl,hm,_,_,_=>by
  rw [bC,if_neg (by rw [hl]; simp)]; rfl
 | z :: r,y :: s,d,e,k + 1,hl,hm,hd,hr,hk=>by
  have hkl:l.length=d.length + r.length + 1:=by rw [hl]; simp; omega
  rw [bC,if_pos (by rw [decide_eq_true_eq,hkl]; omega),fH hl,Option.bind_some,hd,fH hm,Option.bind_some]
  cases hq:Attr.beq z y
  ·
   simp [sP,hq]
  ·
   simp only [Bool.not_true,Bool.false_eq_true,if_false]
   rw [kJ (by omega) (by omega)]
   have:=wu l m hb r s (d ++ [z]) (e ++ [y]) k (by rw [hl]; simp) (by rw [hm]; simp) (by simp [hd]) (by simpa using hr) (by simp at hk; omega)
   rw [List.length_append,List.length_singleton,hd] at this
   push_cast at this
   rw [this]; simp [sP,hq]
 | [],_ :: _,d,e,k + 1,_,_,_,hr,_=>by simp at hr
 | _ :: _,[],d,e,k + 1,_,_,_,hr,_=>by simp at hr
theorem Fq (n:Nat) (l m:List Attr) (hb:l.length < 1000000000) (hn:l.length < n):eP n l m=some (sP l m):=by
 unfold eP
 by_cases h:l.length=m.length
 ·
  rw [if_neg (by simp [h])]
  exact wu l m hb l m [] [] n rfl rfl rfl h hn
 ·
  rw [if_pos (by simp; omega),GI h]
theorem wQ (f:Tree→Tree→Option Bool) (a b:Tree) (hf:∀ x ∈ a.Kids,∀ y,f x y=some (oQ x y)) (hb:a.Kids.length < 1000000000):∀ (r s d e:List Tree) (k:Nat),a.Kids=d ++ r→b.Kids=e ++ s→d.length=e.length→r.length=s.length→r.length < k →
  dG f a b k (d.length:Int)=some (oQ.lbeq r s)
 | [],[],d,e,k + 1,hl,hm,_,_,_=>by
  rw [dG,if_neg (by rw [hl]; simp)]; rfl
 | z :: r,y :: s,d,e,k + 1,hl,hm,hd,hr,hk=>by
  have hkl:a.Kids.length=d.length + r.length + 1:=by rw [hl]; simp; omega
  rw [dG,if_pos (by rw [decide_eq_true_eq,hkl]; omega),fH hl,Option.bind_some,hd,fH hm,Option.bind_some,hf z (by rw [hl]; simp),Option.bind_some]
  cases hq:oQ z y
  ·
   simp [oQ.lbeq,hq]
  ·
   simp only [Bool.not_true,Bool.false_eq_true,if_false]
   rw [kJ (by omega) (by omega)]
   have:=wQ f a b hf hb r s (d ++ [z]) (e ++ [y]) k (by rw [hl]; simp) (by rw [hm]; simp) (by simp [hd]) (by simpa using hr) (by simp at hk; omega)
   rw [List.length_append,List.length_singleton,hd] at this
   push_cast at this
   rw [this]; simp [oQ.lbeq,hq]
 | [],_ :: _,d,e,k + 1,_,_,_,hr,_=>by simp at hr
 | _ :: _,[],d,e,k + 1,_,_,_,hr,_=>by simp at hr
theorem zX:∀ (m:Nat) (t u:Tree),iP t ≤ m→m < 1000000→∀ n,m < n→df n t u=some (oQ t u)
 | 0,t,u,h,_,n,_=>by rw [jF] at h; omega
 | m + 1,t,u,h,hm,n + 1,hn=>by
  have hk:=jF t
  have hlen:=vI t.Kids
  have hf:∀ x ∈ t.Kids,∀ y,df n x y=some (oQ x y):=fun x hx y=>zX m x y (by have:=rY hx; omega) (by omega) n (by omega)
  rw [df,Gz]
  cases h1:(t.Tag == u.Tag) <;> cases h2:(t.Key == u.Key) <;> cases h3:(t.Text == u.Text) <;> simp only [Bool.not_true,Bool.not_false,Bool.or_self,Bool.or_true,Bool.true_or,Bool.or_false,if_true,Option.bind_some,Bool.false_eq_true,if_false,Bool.and_false,Bool.false_and,Bool.and_self,Bool.true_and]
  rw [Fq n _ _ (by omega) (by omega),Option.bind_some,Option.bind_some]
  cases h4:sP t.aH u.aH
  ·
   simp
  ·
   simp only [Bool.not_true,Bool.false_or,Bool.true_and]
   by_cases hl:t.Kids.length=u.Kids.length
   ·
    rw [if_neg (by simp [hl])]
    have:=wQ (df n) t u hf (by omega) t.Kids u.Kids [] [] n rfl rfl rfl hl (by omega)
    simp only [List.length_nil] at this
    rw [show ((0:Nat):Int)=0 from rfl] at this
    rw [this]
   ·
    rw [if_pos (by simp; omega),Gh hl]
theorem Em (a:Attr):Attr.beq a a=true:=by simp [Attr.beq]
theorem yB:∀ (l:List Attr),sP l l=true
 | []=>rfl
 | a :: l=>by simp [sP,Em,yB l]
theorem xU:∀ (t:Tree),oQ t t=true
 | .mk a b c d e=>by
  rw [oQ,yB]
  have:=go e
  simp [this]
  where go:∀ (l:List Tree),oQ.lbeq l l=true
 | []=>rfl
 | x :: l=>by rw [oQ.lbeq,xU x,go l]; rfl
end T
end Pr
end Go.Ev

namespace Go.Ev
namespace Pr
set_option linter.unusedVariables false
set_option linter.unusedSimpArgs false
def Gw:Str:=[111,117,116,108,101,116]
def qH (st:List Int) (i:Int):Option Int:=if 0 ≤ i∧i < st.length then some (st.getD i.toNat 0) else none
def xD (ps:List dQ) (name:Str):Option Str:=(ps.find? (fun q=>q.Name == name)).map (·.Value)
def keyed (i:Nat) (x:Tree):Tree:=if x.Tag=[] then Tree.mk x.Tag x.Key x.Text x.aH x.Kids else Tree.mk x.Tag (qN (i:Int)) x.Text x.aH x.Kids
def iN (k:Nat→Option (List Tree × Nat)):Nat→Nat→Nat→Option (List Tree × Nat)
 | 0,i,s=>some ([],s)
 | m + 1,i,s=>match k s with
  | none=>none
  | some (l,s')=>match iN k m (i + 1) s' with
   | none=>none
   | some (r,s'')=>some (l.map (keyed i) ++ r,s'')
mutual
def rowP (st:List Int) (ps:List dQ):aT→Nat→Option (List Tree × Nat)
 | .mk kind N tag text attrs kids,s =>
  if s + 1 ≤ 1000 then
   if kind=1 then match dL st ps kids (s + 1) with
    | none=>none
    | some (l,s')=>some ([Tree.mk tag [] [] attrs l],s')
   else if kind=2 then some ([Tree.mk [] [] text [] []],s + 1)
   else if kind=3 then match qH st N with
    | none=>none
    | some x=>some ([Tree.mk [] [] (qN x) [] []],s + 1)
   else if kind=4 then match xD ps text with
    | none=>none
    | some v=>some ([Tree.mk [] [] v [] []],s + 1)
   else if kind=5 then match qH st N with
    | none=>none
    | some x=>if x=0 then some ([],s + 1) else dL st ps kids (s + 1)
   else if kind=6 then match qH st N with
    | none=>none
    | some x=>if x ≤ 24 then iN (fun s=>dL st ps kids s) x.toNat 0 (s + 1) else none
   else if kind=7 then some ([Tree.mk Gw [] [] [] []],s + 1)
   else none
  else none
def dL (st:List Int) (ps:List dQ):List aT→Nat→Option (List Tree × Nat)
 | [],s=>some ([],s)
 | t :: l,s=>match rowP st ps t s with
  | none=>none
  | some (a,s')=>match dL st ps l s' with
   | none=>none
   | some (b,s'')=>some (a ++ b,s'')
end
theorem sN (st:List Int) (ps:List dQ) (t:aT) (s:Nat):rowP st ps t s =
  if s + 1 ≤ 1000 then
   if t.Kind=1 then match dL st ps t.Kids (s + 1) with
    | none=>none
    | some (l,s')=>some ([Tree.mk t.Tag [] [] t.aH l],s')
   else if t.Kind=2 then some ([Tree.mk [] [] t.Text [] []],s + 1)
   else if t.Kind=3 then match qH st t.N with
    | none=>none
    | some x=>some ([Tree.mk [] [] (qN x) [] []],s + 1)
   else if t.Kind=4 then match xD ps t.Text with
    | none=>none
    | some v=>some ([Tree.mk [] [] v [] []],s + 1)
   else if t.Kind=5 then match qH st t.N with
    | none=>none
    | some x=>if x=0 then some ([],s + 1) else dL st ps t.Kids (s + 1)
   else if t.Kind=6 then match qH st t.N with
    | none=>none
    | some x=>if x ≤ 24 then iN (fun s=>dL st ps t.Kids s) x.toNat 0 (s + 1) else none
   else if t.Kind=7 then some ([Tree.mk Gw [] [] [] []],s + 1)
   else none
  else none:=by cases t; rw [rowP]; rfl
def Told (s:Nat) (o:Option (List Tree × Nat)):Prop:=∀ l s',o=some (l,s')→l.length + s ≤ s'∧s' ≤ 1000
theorem xV (k:Nat→Option (List Tree × Nat)) (hk:∀ s:Nat,s ≤ 1000→Told s (k s)):∀ (m i s:Nat),s ≤ 1000→Told s (iN k m i s)
 | 0,i,s,hs,l,s',h=>by simp only [iN,Option.some.injEq,Prod.mk.injEq] at h; obtain ⟨rfl,rfl⟩:=h; simp; omega
 | m + 1,i,s,hs,l,s',h=>by
  rw [iN] at h
  split at h
  ·
   cases h
  ·
   rename_i a s1 h1
   obtain ⟨g1,g2⟩:=hk s hs a s1 h1
   split at h
   ·
    cases h
   ·
    rename_i b s2 h2
    obtain ⟨g3,g4⟩:=xV k hk m (i + 1) s1 g2 b s2 h2
    simp only [Option.some.injEq,Prod.mk.injEq] at h
    obtain ⟨rfl,rfl⟩:=h
    simp; omega
theorem ma (st:List Int) (ps:List dQ):∀ (l:List aT) (s:Nat),(∀ z ∈ l,∀ s:Nat,s ≤ 1000→Told s (rowP st ps z s))→s ≤ 1000→Told s (dL st ps l s)
 | [],s,_,hs,a,s',h=>by simp only [dL,Option.some.injEq,Prod.mk.injEq] at h; obtain ⟨rfl,rfl⟩:=h; simp; omega
 | t :: l,s,hz,hs,a,s',h=>by
  rw [dL] at h
  split at h
  ·
   cases h
  ·
   rename_i b s1 h1
   obtain ⟨g1,g2⟩:=hz t List.mem_cons_self s hs b s1 h1
   split at h
   ·
    cases h
   ·
    rename_i c s2 h2
    obtain ⟨g3,g4⟩:=ma st ps l s1 (fun z hm=>hz z (List.mem_cons_of_mem _ hm)) g2 c s2 h2
    simp only [Option.some.injEq,Prod.mk.injEq] at h
    obtain ⟨rfl,rfl⟩:=h
    simp; omega
theorem nZ (st:List Int) (ps:List dQ):∀ (m:Nat) (t:aT),S.gW t ≤ m→∀ s,s ≤ 1000→Told s (rowP st ps t s)
 | 0,t,hm,s,hs=>by have:=S.dH t; omega
 | m + 1,t,hm,s,hs=>by
  have hz:∀ z ∈ t.Kids,∀ s:Nat,s ≤ 1000→Told s (rowP st ps z s):=fun z hzm s hs=>nZ st ps m z (by have:=S.iB hzm; omega) s hs
  intro l s' h
  rw [sN] at h
  split at h
  ·
   rename_i h1000
   split at h
   ·
    split at h
    ·
     cases h
    ·
     rename_i a s1 h1
     obtain ⟨g1,g2⟩:=ma st ps t.Kids (s + 1) hz h1000 a s1 h1
     simp only [Option.some.injEq,Prod.mk.injEq] at h
     obtain ⟨rfl,rfl⟩:=h
     simp; omega
   ·
    split at h
    ·
     simp only [Option.some.injEq,Prod.mk.injEq] at h; obtain ⟨rfl,rfl⟩:=h; simp; omega
    ·
     split at h
     ·
      split at h
      ·
       cases h
      ·
       simp only [Option.some.injEq,Prod.mk.injEq] at h; obtain ⟨rfl,rfl⟩:=h; simp; omega
     ·
      split at h
      ·
       split at h
       ·
        cases h
       ·
        simp only [Option.some.injEq,Prod.mk.injEq] at h; obtain ⟨rfl,rfl⟩:=h; simp; omega
      ·
       split at h
       ·
        split at h
        ·
         cases h
        ·
         split at h
         ·
          simp only [Option.some.injEq,Prod.mk.injEq] at h; obtain ⟨rfl,rfl⟩:=h; simp; omega
         ·
          obtain ⟨g1,g2⟩:=ma st ps t.Kids (s + 1) hz h1000 l s' h
          exact ⟨by omega,g2⟩
       ·
        split at h
        ·
         split at h
         ·
          cases h
         ·
          split at h
          ·
           obtain ⟨g1,g2⟩:=xV _ (fun s hs=>ma st ps t.Kids s hz hs) _ 0 (s + 1) h1000 l s' h
           exact ⟨by omega,g2⟩
          ·
           cases h
        ·
         split at h
         ·
          simp only [Option.some.injEq,Prod.mk.injEq] at h; obtain ⟨rfl,rfl⟩:=h; simp; omega
         ·
          cases h
  ·
   cases h
theorem oV (n:Nat) (b:Bool) (s:Str) (i:Int):jw n b s i=some (if b=true then some () else none):=by
 cases b <;> rfl
def conv (st:List Int) (ps:List dQ) (o:Option (List Tree × Nat)):Option (List Tree × aG):=match o with
 | none=>none
 | some (l,s)=>some (l,aG.mk st ps (s:Int))
theorem uA (n:Nat) (st:List Int) (ps:List dQ) (s i:Int):gH n (aG.mk st ps s) i=some (qH st i):=by
 unfold gH qH
 rw [oV,Option.bind_some]
 by_cases h:0 ≤ i∧i < st.length
 ·
  have hb:(decide (0 ≤ i) && decide (i < ((aG.mk st ps s).state.length:Int)))=true:=by
   simp only [Bool.and_eq_true,decide_eq_true_eq]; exact h
  rw [hb,if_pos rfl,if_pos h]
  obtain ⟨j,rfl⟩:=Int.eq_ofNat_of_zero_le h.1
  have hj:j < st.length:=by omega
  show (idx st ((j:Nat):Int)).bind _=_
  rw [jK,List.getElem?_eq_getElem hj]
  simp [List.getD_eq_getElem?_getD,hj]
 ·
  have hb:(decide (0 ≤ i) && decide (i < ((aG.mk st ps s).state.length:Int)))=false:=by
   rw [Bool.eq_false_iff]; simp only [ne_eq,Bool.and_eq_true,decide_eq_true_eq]; exact h
  rw [hb,if_neg (by simp),if_neg h]; rfl
theorem EH (n:Nat) (st:List Int) (ps:List dQ) (s:Int) (name:Str) (hl:ps.length < n) (hl2:ps.length ≤ 1000000):jo n (aG.mk st ps s) name=some (xD ps name):=by
 have key:∀ (rest done:List dQ) (k:Nat),ps=done ++ rest→rest.length < k→dS n (aG.mk st ps s) name k (done.length:Int)=some (xD rest name):=by
  intro rest
  induction rest with
  | nil =>
   intro done k e hk
   cases k with
   | zero=>omega
   | succ k =>
    rw [dS,if_neg (by rw [decide_eq_true_eq]; show ¬ ((done.length:Int) < (ps.length:Int)); rw [e]; simp),oV]; rfl
  | cons q rest ih =>
   intro done k e hk
   cases k with
   | zero=>omega
   | succ k =>
    have hlen:ps.length=done.length + rest.length + 1:=by rw [e]; simp; omega
    rw [dS,if_pos (by rw [decide_eq_true_eq]; show (done.length:Int) < (ps.length:Int); omega),show (aG.mk st ps s).params=ps from rfl,fH e,Option.bind_some]
    unfold xD at ih ⊢
    rw [List.find?_cons]
    cases hq:(q.Name == name) with
    | true=>rw [if_pos rfl]; rfl
    | false =>
     have hw:IntKind.wrap .i64 ((done.length:Int) + 1)=(((done ++ [q]).length:Nat):Int):=by rw [kJ (by omega) (by omega)]; simp
     rw [if_neg (by simp),hw]
     exact ih (done ++ [q]) k (by rw [e]; simp) (by simp at hk; omega)
 unfold jo
 exact key ps [] n rfl hl
section
variable {st:List Int} {ps:List dQ}
theorem EU (prow:aG→aT→Option (Option (List Tree × aG))) (l:List aT) (hl:l.length ≤ 1000000):∀ (rest done:List aT) (k s:Nat) (acc:List Tree),l=done ++ rest→rest.length < k→(∀ z ∈ rest,∀ s:Nat,s ≤ 1000→prow (aG.mk st ps (s:Int)) z=some (conv st ps (rowP st ps z s))∧Told s (rowP st ps z s))→s ≤ 1000→acc.length ≤ s →
  dP prow l k st ps (s:Int) acc (done.length:Int)=some (match dL st ps rest s with | none=>none | some (b,s')=>some (acc ++ b,aG.mk st ps (s':Int)))
 | [],done,k + 1,s,acc,h,hk,hz,hs,ha=>by
  rw [dP,if_neg (by rw [decide_eq_true_eq,h]; simp)]
  simp [dL]
 | t :: rest,done,k + 1,s,acc,h,hk,hz,hs,ha=>by
  have hlen:l.length=done.length + rest.length + 1:=by rw [h]; simp; omega
  have hw:IntKind.wrap .i64 ((done.length:Int) + 1)=(((done ++ [t]).length:Nat):Int):=by rw [kJ (by omega) (by omega)]; simp
  obtain ⟨z1,z2⟩:=hz t List.mem_cons_self s hs
  rw [dP,if_pos (by rw [decide_eq_true_eq]; omega),fH h,Option.bind_some,z1,Option.bind_some,dL]
  cases hr:rowP st ps t s with
  | none=>rfl
  | some p =>
   obtain ⟨a,s1⟩:=p
   obtain ⟨g1,g2⟩:=z2 a s1 hr
   simp only [conv,uK]
   rw [nO (by rw [bnd]; omega),Option.bind_some,hw,EU prow l hl rest (done ++ [t]) k s1 (acc ++ a) (by rw [h]; simp) (by simp at hk; omega) (fun z hm=>hz z (List.mem_cons_of_mem _ hm)) g2 (by simp; omega)]
   cases dL st ps rest s1 with
   | none=>rfl
   | some p=>simp
theorem Gb (prow:aG→aT→Option (Option (List Tree × aG))) (l:List aT) (n s:Nat) (hl:l.length ≤ 1000000) (hn:l.length < n) (hz:∀ z ∈ l,∀ s:Nat,s ≤ 1000→prow (aG.mk st ps (s:Int)) z=some (conv st ps (rowP st ps z s))∧Told s (rowP st ps z s)) (hs:s ≤ 1000) :
  fD prow n (aG.mk st ps (s:Int)) l=some (conv st ps (dL st ps l s)):=by
 unfold fD
 rw [show dP prow l n (aG.mk st ps (s:Int)).state (aG.mk st ps (s:Int)).params (aG.mk st ps (s:Int)).steps [] 0=_ from EU prow l hl l [] n s [] rfl hn hz hs (by simp)]
 unfold conv
 cases dL st ps l s with
 | none=>rfl
 | some p=>simp
theorem De (n:Nat) {x:Int} (h0:-9223372036854775808 ≤ x) (h1:x ≤ 9223372036854775807):strconv_Itoa n x=some (qN x):=by unfold strconv_Itoa; rw [if_pos ⟨h0,h1⟩]
theorem Dm (n i:Nat) (hi:i ≤ 1000) (again:List Int→List dQ→Int→List Tree→Int→Option (Option (List Tree × aG))) (s':Nat) (l:List Tree) (hl:l.length ≤ 1000):∀ (rest done:List Tree) (k:Nat) (acc:List Tree),l=done ++ rest→rest.length < k→acc.length + rest.length ≤ 100000 →
  cu n (i:Int) again (l,aG.mk st ps (s':Int)) k acc (done.length:Int)=again st ps (s':Int) (acc ++ rest.map (keyed i)) (((i + 1:Nat)):Int)
 | [],done,k + 1,acc,h,hk,ha=>by
  rw [cu,if_neg (by rw [decide_eq_true_eq]; show ¬ ((done.length:Int) < (l.length:Int)); rw [h]; simp),kJ (by omega) (by omega)]
  simp
 | z :: rest,done,k + 1,acc,h,hk,ha=>by
  have hlen:l.length=done.length + rest.length + 1:=by rw [h]; simp; omega
  have hw:IntKind.wrap .i64 ((done.length:Int) + 1)=(((done ++ [z]).length:Nat):Int):=by rw [kJ (by omega) (by omega)]; simp
  simp only [List.length_cons] at ha
  rw [cu,if_pos (by rw [decide_eq_true_eq]; show (done.length:Int) < (l.length:Int); omega),show idx (l,aG.mk st ps (s':Int)).1 (done.length:Int)=some z from fH h,Option.bind_some]
  have step:∀ key:Str,fM acc (done.length:Int) (cu n (i:Int) again (l,aG.mk st ps (s':Int)) k) z key=again st ps (s':Int) (acc ++ Tree.mk z.Tag key z.Text z.aH z.Kids :: rest.map (keyed i)) (((i + 1:Nat)):Int):=fun key=>by
   unfold fM
   rw [nO (by rw [bnd]; simp; omega),Option.bind_some,hw,Dm n i hi again s' l hl rest (done ++ [z]) k _ (by rw [h]; simp) (by simp at hk; omega) (by simp; omega)]
   simp
  rw [List.map_cons,keyed]
  by_cases ht:z.Tag=[]
  ·
   rw [if_neg (by simp [ht]),if_pos ht,step]
  ·
   rw [if_pos (by simpa using ht),if_neg ht,De n (by omega) (by omega),Option.bind_some,step]
theorem Aa (n:Nat) (hn:1001 < n) (prow:aG→aT→Option (Option (List Tree × aG))) (t:aT) (x:Int) (hx:x ≤ 24) (hk:∀ s:Nat,s ≤ 1000→fD prow n (aG.mk st ps (s:Int)) t.Kids=some (conv st ps (dL st ps t.Kids s))∧Told s (dL st ps t.Kids s)):∀ (m i k s:Nat) (acc:List Tree),i + m=x.toNat→m < k→s ≤ 1000→acc.length ≤ s →
  bG n prow t x k st ps (s:Int) acc (i:Int)=some (match iN (fun s=>dL st ps t.Kids s) m i s with | none=>none | some (b,s')=>some (acc ++ b,aG.mk st ps (s':Int)))
 | 0,i,k + 1,s,acc,hi,hk',hs,ha=>by
  have hmx:(lQ x 0)=(x.toNat:Int):=by unfold lQ; split <;> omega
  rw [bG,if_neg (by rw [decide_eq_true_eq,hmx]; omega)]
  simp [iN]
 | m + 1,i,k + 1,s,acc,hi,hk',hs,ha=>by
  have hmx:(lQ x 0)=(x.toNat:Int):=by unfold lQ; split <;> omega
  obtain ⟨q1,q2⟩:=hk s hs
  rw [bG,if_pos (by rw [decide_eq_true_eq,hmx]; omega),q1,Option.bind_some,iN]
  cases hr:dL st ps t.Kids s with
  | none=>rfl
  | some p =>
   obtain ⟨a,s1⟩:=p
   obtain ⟨g1,g2⟩:=q2 a s1 hr
   simp only [conv,uK]
   have:=Dm (st:=st) (ps:=ps) n i (by omega) (bG n prow t x k) s1 a (by omega) a [] n acc rfl (by omega) (by omega)
   rw [show cu n (i:Int) (bG n prow t x k) (a,aG.mk st ps (s1:Int)) n acc 0=_ from this,Aa n hn prow t x hx hk m (i + 1) k s1 _ (by omega) (by omega) g2 (by simp; omega)]
   cases iN (fun s=>dL st ps t.Kids s) m (i + 1) s1 with
   | none=>rfl
   | some p=>simp
theorem Gf (n:Nat) (hn:1001 < n) (prow:aG→aT→Option (Option (List Tree × aG))) (t:aT) (hk:∀ s:Nat,s ≤ 1000→fD prow n (aG.mk st ps (s:Int)) t.Kids=some (conv st ps (dL st ps t.Kids s))∧Told s (dL st ps t.Kids s)) (s:Nat) (hs:s ≤ 1000) :
  jJ prow n (aG.mk st ps (s:Int)) t=some (conv st ps (match qH st t.N with
    | none=>none
    | some x=>if x ≤ 24 then iN (fun s=>dL st ps t.Kids s) x.toNat 0 s else none)):=by
 unfold jJ
 rw [uA,Option.bind_some]
 cases hx:qH st t.N with
 | none=>rfl
 | some x =>
  simp only [uK]
  rw [oV,Option.bind_some]
  by_cases h24:x ≤ 24
  ·
   rw [if_pos (by simpa using h24),if_pos h24]
   simp only []
   have:=Aa (st:=st) (ps:=ps) n hn prow t x h24 hk x.toNat 0 n s [] (by omega) (by omega) hs (by simp)
   rw [show bG n prow t x n (aG.mk st ps (s:Int)).state (aG.mk st ps (s:Int)).params (aG.mk st ps (s:Int)).steps [] 0=_ from this]
   unfold conv
   cases iN (fun s=>dL st ps t.Kids s) x.toNat 0 s with
   | none=>rfl
   | some p=>simp
  ·
   rw [if_neg (by simpa using h24),if_neg h24]; rfl
theorem EJ (o:Option (List Tree × Nat)):(some (conv st ps o)).bind (fun z=>uK z (fun x=>some (some (x.1,x.2))))=some (conv st ps o):=by cases o <;> rfl
def FX (st:List Int):Prop:=st.length ≤ 1000000∧∀ x ∈ st,-9223372036854775808 ≤ x∧x ≤ 9223372036854775807
theorem Bb {st:List Int} {i x:Int} (h:qH st i=some x):x ∈ st:=by
 unfold qH at h
 split at h
 ·
  rename_i hc
  cases h
  have hj:i.toNat < st.length:=by omega
  rw [List.getD_eq_getElem?_getD,List.getElem?_eq_getElem hj]
  exact List.getElem_mem hj
 ·
  cases h
theorem F4 (hst:FX st) (hps:ps.length ≤ 1000):∀ (m:Nat) (t:aT),S.gW t ≤ m→m ≤ 100000→S.pg 7 t→∀ n,m + 1100 < n→∀ s:Nat,s ≤ 1000→dw n (aG.mk st ps (s:Int)) t=some (conv st ps (rowP st ps t s))
 | 0,t,hm,_,_,n,hn,s,hs=>by have:=S.dH t; omega
 | m + 1,t,hm,hm2,hg,n + 1,hn,s,hs=>by
  have hgi:=(S.wO t).1 hg
  have hlen:t.Kids.length ≤ m:=by have:=S.dH t; have:=S.jv t.Kids; omega
  have hz:∀ z ∈ t.Kids,∀ s:Nat,s ≤ 1000→dw n (aG.mk st ps (s:Int)) z=some (conv st ps (rowP st ps z s))∧Told s (rowP st ps z s):=fun z hzm s hs=>by
   have:=S.iB hzm
   exact ⟨F4 hst hps m z (by omega) (by omega) (hgi.2.2.2.2.2 z hzm) n (by omega) s hs,nZ st ps m z (by omega) s hs⟩
  have hkids:∀ s:Nat,s ≤ 1000→fD (dw n) n (aG.mk st ps (s:Int)) t.Kids=some (conv st ps (dL st ps t.Kids s)):=fun s hs=>Gb (dw n) t.Kids n s (by omega) (by omega) hz hs
  have htold:∀ s,s ≤ 1000→Told s (dL st ps t.Kids s):=fun s hs=>ma st ps t.Kids s (fun z hzm s hs=>(hz z hzm s hs).2) hs
  have hw:IntKind.wrap .i64 ((aG.mk st ps (s:Int)).steps + 1)=((s + 1:Nat):Int):=by
   show IntKind.wrap .i64 ((s:Int) + 1)=_
   rw [kJ (by omega) (by omega)]; push_cast; rfl
  rw [dw,sN,hw,oV,Option.bind_some]
  by_cases h1000:s + 1 ≤ 1000
  ·
   have hd:decide (((s + 1:Nat):Int) ≤ 1000)=true:=by rw [decide_eq_true_eq]; omega
   rw [hd,if_pos rfl,if_pos h1000]
   simp only [uK]
   by_cases c1:t.Kind=1
   ·
    rw [if_pos (by simpa using c1),if_pos c1,nO (by rw [bnd]; have:=hgi.2.2.2.2.1; simp; omega),Option.bind_some,hkids (s + 1) h1000,Option.bind_some]
    cases dL st ps t.Kids (s + 1) with
    | none=>rfl
    | some p=>simp [conv]
   ·
    rw [if_neg (by simpa using c1),if_neg c1]
    by_cases c2:t.Kind=2
    ·
     rw [if_pos (by simpa using c2),if_pos c2]; rfl
    ·
     rw [if_neg (by simpa using c2),if_neg c2]
     by_cases c3:t.Kind=3
     ·
      rw [if_pos (by simpa using c3),if_pos c3,uA,Option.bind_some]
      cases hx:qH st t.N with
      | none=>rfl
      | some x =>
       have:=hst.2 x (Bb hx)
       simp only []
       rw [De n this.1 this.2]; rfl
     ·
      rw [if_neg (by simpa using c3),if_neg c3]
      by_cases c4:t.Kind=4
      ·
       rw [if_pos (by simpa using c4),if_pos c4,EH n st ps _ _ (by omega) (by omega),Option.bind_some]
       cases xD ps t.Text <;> rfl
      ·
       rw [if_neg (by simpa using c4),if_neg c4]
       by_cases c5:t.Kind=5
       ·
        rw [if_pos (by simpa using c5),if_pos c5,uA,Option.bind_some]
        cases hx:qH st t.N with
        | none=>rfl
        | some x =>
         simp only []
         by_cases hx0:x=0
         ·
          rw [if_pos (by simpa using hx0),if_pos hx0]; rfl
         ·
          rw [if_neg (by simpa using hx0),if_neg hx0,hkids (s + 1) h1000,Option.bind_some]
          cases dL st ps t.Kids (s + 1) <;> rfl
       ·
        rw [if_neg (by simpa using c5),if_neg c5]
        by_cases c6:t.Kind=6
        ·
         rw [if_pos (by simpa using c6),if_pos c6,Gf n (by omega) (dw n) t (fun s hs=>⟨hkids s hs,htold s hs⟩) (s + 1) h1000,Option.bind_some]
         exact EJ _
        ·
         rw [if_neg (by simpa using c6),if_neg c6,oV,Option.bind_some]
         by_cases c7:t.Kind=7
         ·
          rw [if_pos (by simpa using c7),if_pos c7]; rfl
         ·
          rw [if_neg (by simpa using c7),if_neg c7]; rfl
  ·
   have hd:decide (((s + 1:Nat):Int) ≤ 1000)=false:=by rw [decide_eq_false_iff_not]; omega
   rw [hd,if_neg (by simp),if_neg h1000]; rfl
end
end Pr
end Go.Ev

namespace Go.Ev
namespace Pr
set_option linter.unusedVariables false
set_option linter.unusedSimpArgs false
theorem Il (n:Nat) (s:Str) (h:s.length ≤ 16):∃ r,iU n s [97,98,99,100,101,102,103,104,105,106,107,108,109,110,111,112,113,114,115,116,117,118,119,120,121,122,48,49,50,51,52,53,54,55,56,57]=some r:=by
 refine ⟨Lib.trimS s [97,98,99,100,101,102,103,104,105,106,107,108,109,110,111,112,113,114,115,116,117,118,119,120,121,122,48,49,50,51,52,53,54,55,56,57],?_⟩
 unfold iU
 rw [if_pos ⟨by rw [bnd]; omega,by decide,by decide⟩]
theorem Be (l:List Attr) (p:Attr→Option Bool) (hp:∀ y,∃ b,p y=some b) (hl:l.length < 1000000):∀ (m i k:Nat),i + m=l.length→m < k→∃ r,aL l p k (i:Int)=some r
 | 0,i,k + 1,hi,hk=>by
  rw [aL,if_neg (by rw [decide_eq_true_eq]; omega)]
  exact ⟨_,rfl⟩
 | m + 1,i,k + 1,hi,hk=>by
  have hw:IntKind.wrap .i64 ((i:Int) + 1)=((i + 1:Nat):Int):=by rw [kJ (by omega) (by omega)]; push_cast; rfl
  rw [aL,if_pos (by rw [decide_eq_true_eq]; omega),jK,List.getElem?_eq_getElem (by omega),Option.bind_some]
  obtain ⟨b,hb⟩:=hp l[i]
  rw [hb,Option.bind_some,hw]
  cases b with
  | true=>exact ⟨_,rfl⟩
  | false=>exact Be l p hp hl m (i + 1) k (by omega) (by omega)
theorem yH (n:Nat) (t:Tree) (hl:t.aH.length < 1000000) (hn:t.aH.length < n):∀ (m i k:Nat),i + m=t.aH.length→m < k→∃ b,bZ n t k (i:Int)=some b
 | 0,i,k + 1,hi,hk=>by
  rw [bZ,if_neg (by rw [decide_eq_true_eq]; omega)]
  exact ⟨_,rfl⟩
 | m + 1,i,k + 1,hi,hk=>by
  have hw:IntKind.wrap .i64 ((i:Int) + 1)=((i + 1:Nat):Int):=by rw [kJ (by omega) (by omega)]; push_cast; rfl
  have hc:cut t.aH 0 (i:Int)=some (t.aH.take i):=by unfold cut; rw [if_pos ⟨by omega,by omega,by omega⟩]; simp
  rw [bZ,if_pos (by rw [decide_eq_true_eq]; omega),jK,List.getElem?_eq_getElem (by omega),Option.bind_some,hc,hw]
  have fin:∀ x:Bool,∃ b,(if x=true then some false else bZ n t k ((i + 1:Nat):Int))=some b:=fun x=>by
   cases x with
   | true=>exact ⟨_,rfl⟩
   | false=>exact yH n t hl hn m (i + 1) k (by omega) (by omega)
  split
  ·
   exact fin true
  ·
   obtain ⟨r,hr⟩:=Be (t.aH.take i) (fun y=>gI n y t.aH[i]) (fun y=>⟨_,rfl⟩) (by simp; omega) (t.aH.take i).length 0 n (by omega) (by simp; omega)
   have:dm n (t.aH.take i) (fun y31=>gI n y31 t.aH[i])=some r:=hr
   unfold bg
   simp only [Option.bind_some,this]
   exact fin _
theorem FQ (n:Nat) (t:Tree) (hl:t.aH.length < 1000000) (hn:t.aH.length < n):∃ b,iY n t=some b:=by
 unfold iY
 have fin:∀ x:Bool,∃ b,(if (((x || (!(t.Text == []))) || (decide (24 < ((t.Kids).length:Int)))) || (decide (64 < ((t.Key).length:Int))))=true then (some false) else (bZ n t n (0)))=some b:=fun x=>by
  split
  ·
   exact ⟨_,rfl⟩
  ·
   exact yH n t hl hn t.aH.length 0 n (by omega) hn
 split
 ·
  exact fin true
 ·
  rename_i h
  obtain ⟨r,hr⟩:=Il n t.Tag (by rw [decide_eq_true_eq] at h; omega)
  rw [hr]
  exact fin _
theorem wS (self:Tree→Option Bool) (t:Tree) (hl:t.Kids.length < 1000000) (hs:∀ z ∈ t.Kids,∃ b,self z=some b):∀ (m i k:Nat),i + m=t.Kids.length→m < k→∃ b,dM self t k (i:Int)=some b
 | 0,i,k + 1,hi,hk=>by
  rw [dM,if_neg (by rw [decide_eq_true_eq]; omega)]
  exact ⟨_,rfl⟩
 | m + 1,i,k + 1,hi,hk=>by
  have hw:IntKind.wrap .i64 ((i:Int) + 1)=((i + 1:Nat):Int):=by rw [kJ (by omega) (by omega)]; push_cast; rfl
  have hlt:i < t.Kids.length:=by omega
  rw [dM,if_pos (by rw [decide_eq_true_eq]; omega),jK,List.getElem?_eq_getElem hlt,Option.bind_some,hw]
  obtain ⟨b,hb⟩:=hs t.Kids[i] (List.getElem_mem hlt)
  rw [hb,Option.bind_some]
  cases b with
  | false=>exact ⟨_,rfl⟩
  | true=>exact wS self t hl hs m (i + 1) k (by omega) (by omega)
theorem xL:∀ (m:Nat) (t:Tree),T.iP t ≤ m→m < 1000000→∀ n,m < n→∃ b,fC n t=some b
 | 0,t,hm,_,n,_=>by have:=T.jF t; omega
 | m + 1,t,hm,hm2,n + 1,hn=>by
  have h1:=T.jF t
  have h2:=T.vI t.Kids
  rw [fC]
  split
  ·
   exact ⟨_,rfl⟩
  ·
   obtain ⟨b,hb⟩:=FQ n t (by omega) (by omega)
   rw [hb,Option.bind_some]
   cases b with
   | false=>exact ⟨_,rfl⟩
   | true=>exact wS (fC n) t (by omega) (fun z hz=>xL m z (by have:=T.rY hz; omega) (by omega) n (by omega)) t.Kids.length 0 n (by omega) (by omega)
theorem zy:∀ (m:Nat) (t:Tree),T.iP t ≤ m→T.jP t ≤ T.iP t
 | 0,t,hm=>by have:=T.jF t; omega
 | m + 1,t,hm=>by
  have hl:∀ (l:List Tree),(∀ z ∈ l,T.jP z ≤ T.iP z)→T.kF l ≤ T.iP.lsz l:=by
   intro l
   induction l with
   | nil=>intro _; exact Nat.le_refl _
   | cons x l ih =>
    intro hz
    have:=hz x List.mem_cons_self
    have:=ih (fun z h=>hz z (List.mem_cons_of_mem _ h))
    simp only [T.kF,T.iP.lsz]; omega
  have:=hl t.Kids (fun z hz=>zy m z (by have:=T.rY hz; omega))
  rw [T.jF,T.jS]; omega
theorem DI (t:Tree) {m n:Nat} (h:T.iP t ≤ m) (hm:m < 1000000) (hn:m < n):∃ b,iy n t=some b∧(b=true→T.jP t ≤ 60):=by
 unfold iy
 obtain ⟨b,hb⟩:=xL m t h hm n hn
 have hc:=zy m t h
 rw [hb,Option.bind_some]
 cases b with
 | false=>exact ⟨false,rfl,by simp⟩
 | true =>
  rw [if_pos rfl,T.oD m t (by omega) (by omega) n hn,Option.bind_some,Option.bind_some]
  by_cases c:(T.jP t:Int) ≤ 60
  ·
   rw [if_pos (by simpa using c),T.zH m t (by omega) (by omega) n hn]
   exact ⟨_,rfl,fun _=>by omega⟩
  ·
   rw [if_neg (by simpa using c)]
   exact ⟨false,rfl,by simp⟩
theorem CU (a b:List Tree):T.iP.lsz (a ++ b)=T.iP.lsz a + T.iP.lsz b:=by
 induction a with
 | nil=>simp [T.iP.lsz]
 | cons x a ih=>simp only [List.cons_append,T.iP.lsz,ih]; omega
theorem Ae (a b:List Tree):T.rP (a ++ b)=T.rP a + T.rP b:=by
 induction a with
 | nil=>simp [T.rP]
 | cons x a ih=>simp only [List.cons_append,T.rP,ih]; omega
theorem BO (i:Nat) (x:Tree):T.iP (keyed i x)=T.iP x∧T.Cf (keyed i x)=T.Cf x:=by
 unfold keyed
 cases x
 split <;> simp [T.iP,T.Cf,Tree.Tag,Tree.Text,Tree.aH,Tree.Kids]
theorem xN (i:Nat) (l:List Tree):T.iP.lsz (l.map (keyed i))=T.iP.lsz l∧T.rP (l.map (keyed i))=T.rP l:=by
 induction l with
 | nil=>exact ⟨rfl,rfl⟩
 | cons x l ih =>
  have:=BO i x
  simp only [List.map_cons,T.iP.lsz,T.rP]; omega
mutual
def vB:aT→Nat
 | .mk k _ _ _ _ ks=>(if k=7 then 1 else 0) + l6 ks
def l6:List aT→Nat
 | []=>0
 | t :: l=>vB t + l6 l
end
theorem qd (t:aT):vB t=(if t.Kind=7 then 1 else 0) + l6 t.Kids:=by cases t; rw [vB]; rfl
mutual
def vE (b:Bool):aT→Prop
 | .mk k _ _ _ _ ks=>¬ (k=7∧b=true)∧BB (b || k == 5 || k == 6) ks
def BB (b:Bool):List aT→Prop
 | []=>True
 | t :: l=>vE b t∧BB b l
end
theorem yw {b:Bool}:∀ {l:List aT},BB b l↔∀ z ∈ l,vE b z
 | []=>by simp [BB]
 | t :: l=>by rw [BB,yw (l:=l)]; simp
theorem vW {b:Bool} (t:aT):vE b t↔¬ (t.Kind=7∧b=true)∧∀ z ∈ t.Kids,vE (b || t.Kind == 5 || t.Kind == 6) z:=by
 cases t
 rw [vE,yw]; rfl
theorem yF:∀ (m:Nat) (t:aT),S.gW t ≤ m→vE true t→vB t=0
 | 0,t,hm,_=>by have:=S.dH t; omega
 | m + 1,t,hm,h=>by
  have h':=(vW t).1 h
  have hl:∀ (l:List aT),(∀ z ∈ l,vB z=0)→l6 l=0:=by
   intro l
   induction l with
   | nil=>intro _; rfl
   | cons x l ih =>
    intro hz
    have:=hz x List.mem_cons_self
    have:=ih (fun z h=>hz z (List.mem_cons_of_mem _ h))
    simp only [l6]; omega
  have:=hl t.Kids (fun z hz=>yF m z (by have:=S.iB hz; omega) (by have:=h'.2 z hz; simpa using this))
  rw [qd,this,if_neg (by intro h; exact h'.1 ⟨h,rfl⟩)]
def Big (s:Nat) (o:Option (List Tree × Nat)):Prop:=∀ l s',o=some (l,s')→T.iP.lsz l + 65 * s ≤ 65 * s'
def Gt (c:Nat) (o:Option (List Tree × Nat)):Prop:=∀ l s',o=some (l,s')→T.rP l=c
theorem AX (st:List Int) (ps:List dQ):∀ (l:List aT) (s:Nat),(∀ z ∈ l,∀ s:Nat,Big s (rowP st ps z s))→Big s (dL st ps l s)
 | [],s,_,a,s',h=>by simp only [dL,Option.some.injEq,Prod.mk.injEq] at h; obtain ⟨rfl,rfl⟩:=h; simp [T.iP.lsz]
 | t :: l,s,hz,a,s',h=>by
  rw [dL] at h
  split at h
  ·
   cases h
  ·
   rename_i b s1 h1
   have g1:=hz t List.mem_cons_self s b s1 h1
   split at h
   ·
    cases h
   ·
    rename_i c s2 h2
    have g3:=AX st ps l s1 (fun z hm=>hz z (List.mem_cons_of_mem _ hm)) c s2 h2
    simp only [Option.some.injEq,Prod.mk.injEq] at h
    obtain ⟨rfl,rfl⟩:=h
    rw [CU]; omega
theorem BG (k:Nat→Option (List Tree × Nat)) (hk:∀ s:Nat,Big s (k s)):∀ (m i s:Nat),Big s (iN k m i s)
 | 0,i,s,l,s',h=>by simp only [iN,Option.some.injEq,Prod.mk.injEq] at h; obtain ⟨rfl,rfl⟩:=h; simp [T.iP.lsz]
 | m + 1,i,s,l,s',h=>by
  rw [iN] at h
  split at h
  ·
   cases h
  ·
   rename_i a s1 h1
   have g1:=hk s a s1 h1
   split at h
   ·
    cases h
   ·
    rename_i b s2 h2
    have g3:=BG k hk m (i + 1) s1 b s2 h2
    simp only [Option.some.injEq,Prod.mk.injEq] at h
    obtain ⟨rfl,rfl⟩:=h
    rw [CU,(xN i a).1]; omega
theorem Bo (st:List Int) (ps:List dQ):∀ (l:List aT) (s:Nat),(∀ z ∈ l,∀ s:Nat,Gt (vB z) (rowP st ps z s))→Gt (l6 l) (dL st ps l s)
 | [],s,_,a,s',h=>by simp only [dL,Option.some.injEq,Prod.mk.injEq] at h; obtain ⟨rfl,rfl⟩:=h; rfl
 | t :: l,s,hz,a,s',h=>by
  rw [dL] at h
  split at h
  ·
   cases h
  ·
   rename_i b s1 h1
   have g1:=hz t List.mem_cons_self s b s1 h1
   split at h
   ·
    cases h
   ·
    rename_i c s2 h2
    have g3:=Bo st ps l s1 (fun z hm=>hz z (List.mem_cons_of_mem _ hm)) c s2 h2
    simp only [Option.some.injEq,Prod.mk.injEq] at h
    obtain ⟨rfl,rfl⟩:=h
    rw [Ae,l6]; omega
theorem AR (k:Nat→Option (List Tree × Nat)) (hk:∀ s:Nat,Gt 0 (k s)):∀ (m i s:Nat),Gt 0 (iN k m i s)
 | 0,i,s,l,s',h=>by simp only [iN,Option.some.injEq,Prod.mk.injEq] at h; obtain ⟨rfl,rfl⟩:=h; rfl
 | m + 1,i,s,l,s',h=>by
  rw [iN] at h
  split at h
  ·
   cases h
  ·
   rename_i a s1 h1
   have g1:=hk s a s1 h1
   split at h
   ·
    cases h
   ·
    rename_i b s2 h2
    have g3:=AR k hk m (i + 1) s1 b s2 h2
    simp only [Option.some.injEq,Prod.mk.injEq] at h
    obtain ⟨rfl,rfl⟩:=h
    rw [Ae,(xN i a).2]; omega
theorem vG (st:List Int) (ps:List dQ):∀ (m:Nat) (t:aT),S.gW t ≤ m→S.pg 7 t→∀ s:Nat,Big s (rowP st ps t s)∧(∀ b,vE b t→Gt (vB t) (rowP st ps t s))
 | 0,t,hm,_,s=>by have:=S.dH t; omega
 | m + 1,t,hm,hg,s=>by
  have hgi:=(S.wO t).1 hg
  have hz:∀ z ∈ t.Kids,∀ s:Nat,Big s (rowP st ps z s)∧(∀ b,vE b z→Gt (vB z) (rowP st ps z s)):=fun z hzm s=>vG st ps m z (by have:=S.iB hzm; omega) (hgi.2.2.2.2.2 z hzm) s
  have hkb:∀ s:Nat,Big s (dL st ps t.Kids s):=fun s=>AX st ps t.Kids s (fun z hzm s=>(hz z hzm s).1)
  have hks:∀ b,vE b t→∀ s:Nat,Gt (l6 t.Kids) (dL st ps t.Kids s):=fun b hb s=>Bo st ps t.Kids s (fun z hzm s=>(hz z hzm s).2 _ (((vW t).1 hb).2 z hzm))
  have h0:∀ b,vE b t→(t.Kind=5∨t.Kind=6)→l6 t.Kids=0:=fun b hb h56=>by
   have hb2:=((vW t).1 hb).2
   have e:(b || t.Kind == 5 || t.Kind == 6)=true:=by rcases h56 with h | h <;> simp [h]
   rw [e] at hb2
   have hl:∀ (l:List aT),(∀ z ∈ l,vB z=0)→l6 l=0:=by
    intro l
    induction l with
    | nil=>intro _; rfl
    | cons x l ih =>
     intro hz
     have:=hz x List.mem_cons_self
     have:=ih (fun z h=>hz z (List.mem_cons_of_mem _ h))
     simp only [l6]; omega
   exact hl t.Kids (fun z hz=>yF (S.gW z) z (Nat.le_refl _) (hb2 z hz))
  have hk0:t.Kind ≠ 1→t.Kind ≠ 5→t.Kind ≠ 6→l6 t.Kids=0:=fun a b c=>by rw [hgi.2.1 a b c]; rfl
  have hpk:=qd t
  have hatt:=hgi.2.2.2.2.1
  rw [sN]
  by_cases c:s + 1 ≤ 1000
  ·
   rw [if_pos c]
   by_cases c1:t.Kind=1
   ·
    rw [if_pos c1]
    rw [if_neg (by omega)] at hpk
    constructor
    ·
     intro l s' h
     split at h
     ·
      cases h
     ·
      rename_i a s1 h1
      have:=hkb (s + 1) a s1 h1
      simp only [Option.some.injEq,Prod.mk.injEq] at h
      obtain ⟨rfl,rfl⟩:=h
      simp only [T.iP.lsz,T.iP]; omega
    ·
     intro b hb l s' h
     split at h
     ·
      cases h
     ·
      rename_i a s1 h1
      have:=hks b hb (s + 1) a s1 h1
      simp only [Option.some.injEq,Prod.mk.injEq] at h
      obtain ⟨rfl,rfl⟩:=h
      have ho:T.Bh t.Tag=0:=by unfold T.Bh; exact if_neg hgi.2.2.1.1
      simp only [T.rP,T.Cf,ho]; omega
   ·
    rw [if_neg c1]
    have leaf:∀ x:Str,t.Kind ≠ 7→t.Kind ≠ 5→t.Kind ≠ 6→Big s (some ([Tree.mk [] [] x [] []],s + 1))∧(∀ b,vE b t→Gt (vB t) (some ([Tree.mk [] [] x [] []],s + 1))):=fun x h7 h5 h6=>by
     rw [if_neg h7,hk0 c1 h5 h6] at hpk
     refine ⟨fun l s' h=>?_,fun b hb l s' h=>?_⟩
     ·
      simp only [Option.some.injEq,Prod.mk.injEq] at h; obtain ⟨rfl,rfl⟩:=h; simp [T.iP.lsz,T.iP]; omega
     ·
      simp only [Option.some.injEq,Prod.mk.injEq] at h; obtain ⟨rfl,rfl⟩:=h; rw [hpk]; simp [T.rP,T.Cf,T.Bh]
    have non:Big s none∧(∀ b,vE b t→Gt (vB t) none):=⟨fun _ _ h=>(by cases h),fun _ _ _ _ h=>(by cases h)⟩
    by_cases c2:t.Kind=2
    ·
     rw [if_pos c2]; exact leaf _ (by omega) (by omega) (by omega)
    ·
     rw [if_neg c2]
     by_cases c3:t.Kind=3
     ·
      rw [if_pos c3]
      split
      ·
       exact non
      ·
       exact leaf _ (by omega) (by omega) (by omega)
     ·
      rw [if_neg c3]
      by_cases c4:t.Kind=4
      ·
       rw [if_pos c4]
       split
       ·
        exact non
       ·
        exact leaf _ (by omega) (by omega) (by omega)
      ·
       rw [if_neg c4]
       by_cases c5:t.Kind=5
       ·
        rw [if_pos c5]
        rw [if_neg (by omega)] at hpk
        split
        ·
         exact non
        ·
         split
         ·
          refine ⟨fun l s' h=>?_,fun b hb l s' h=>?_⟩
          ·
           simp only [Option.some.injEq,Prod.mk.injEq] at h; obtain ⟨rfl,rfl⟩:=h; simp [T.iP.lsz]; omega
          ·
           have:=h0 b hb (Or.inl c5)
           simp only [Option.some.injEq,Prod.mk.injEq] at h; obtain ⟨rfl,rfl⟩:=h; simp only [T.rP]; omega
         ·
          refine ⟨fun l s' h=>?_,fun b hb l s' h=>?_⟩
          ·
           have:=hkb (s + 1) l s' h; omega
          ·
           have:=hks b hb (s + 1) l s' h; omega
       ·
        rw [if_neg c5]
        by_cases c6:t.Kind=6
        ·
         rw [if_pos c6]
         rw [if_neg (by omega)] at hpk
         split
         ·
          exact non
         ·
          split
          ·
           refine ⟨fun l s' h=>?_,fun b hb l s' h=>?_⟩
           ·
            have:=BG _ hkb _ 0 (s + 1) l s' h; omega
           ·
            have h00:=h0 b hb (Or.inr c6)
            have:=AR _ (fun s=>by have:=hks b hb s; rw [h00] at this; exact this) _ 0 (s + 1) l s' h; omega
          ·
           exact non
        ·
         rw [if_neg c6]
         by_cases c7:t.Kind=7
         ·
          rw [if_pos c7]
          rw [if_pos c7,hk0 c1 c5 c6] at hpk
          refine ⟨fun l s' h=>?_,fun b hb l s' h=>?_⟩
          ·
           simp only [Option.some.injEq,Prod.mk.injEq] at h; obtain ⟨rfl,rfl⟩:=h; simp [T.iP.lsz,T.iP]; omega
          ·
           simp only [Option.some.injEq,Prod.mk.injEq] at h; obtain ⟨rfl,rfl⟩:=h; rw [hpk]; simp [T.rP,T.Cf,T.Bh,Gw]
         ·
          rw [if_neg c7]; exact non
  ·
   rw [if_neg c]
   exact ⟨fun _ _ h=>(by cases h),fun _ _ _ _ h=>(by cases h)⟩
end Pr
end Go.Ev

namespace Go.Ev
namespace Pr
end Pr
end Go.Ev

namespace Go.Ev
namespace Pr
set_option linter.unusedVariables false
set_option linter.unusedSimpArgs false
theorem zm:∀ (m:Nat) (t:aT),S.gW t ≤ m→vB t ≤ S.gW t
 | 0,t,hm=>by have:=S.dH t; omega
 | m + 1,t,hm=>by
  have hl:∀ (l:List aT),(∀ z ∈ l,vB z ≤ S.gW z)→l6 l ≤ S.iO l:=by
   intro l
   induction l with
   | nil=>intro _; exact Nat.le_refl _
   | cons x l ih =>
    intro hz
    have:=hz x List.mem_cons_self
    have:=ih (fun z h=>hz z (List.mem_cons_of_mem _ h))
    simp only [l6,S.iO]; omega
  have:=hl t.Kids (fun z hz=>zm m z (by have:=S.iB hz; omega))
  rw [qd,S.dH]; split <;> omega
theorem pM (self:aT→Option Int) (t:aT) (hl:t.Kids.length < 1000000):∀ (rest done:List aT) (k acc:Nat),t.Kids=done ++ rest→rest.length < k→(∀ z ∈ rest,self z=some (vB z:Int))→acc + l6 rest < 1000000000 →
  fK self t k (acc:Int) (done.length:Int)=some ((acc + l6 rest:Nat):Int)
 | [],done,k + 1,acc,h,hk,hs,ha=>by
  rw [fK,if_neg (by rw [decide_eq_true_eq,h]; simp)]
  simp [l6]
 | z :: rest,done,k + 1,acc,h,hk,hs,ha=>by
  have hlen:t.Kids.length=done.length + rest.length + 1:=by rw [h]; simp; omega
  have hw:IntKind.wrap .i64 ((done.length:Int) + 1)=(((done ++ [z]).length:Nat):Int):=by rw [kJ (by omega) (by omega)]; simp
  simp only [l6] at ha
  have hw2:IntKind.wrap .i64 ((acc:Int) + (vB z:Int))=((acc + vB z:Nat):Int):=by rw [kJ (by omega) (by omega)]; push_cast; rfl
  rw [fK,if_pos (by rw [decide_eq_true_eq]; omega),fH h,Option.bind_some,hs z List.mem_cons_self,Option.bind_some,hw,hw2,pM self t hl rest (done ++ [z]) k (acc + vB z) (by rw [h]; simp) (by simp at hk; omega) (fun z hz=>hs z (List.mem_cons_of_mem _ hz)) (by omega),l6,Nat.add_assoc]
theorem xP:∀ (m:Nat) (t:aT),S.gW t ≤ m→m < 1000000→∀ n,m < n→fB n t=some (vB t:Int)
 | 0,t,h,_,n,_=>by have:=S.dH t; omega
 | m + 1,t,h,hm,n + 1,hn=>by
  have h1:=S.dH t
  have h2:=S.jv t.Kids
  have h3:=zm (m + 1) t h
  have h4:=qd t
  have hs:∀ z ∈ t.Kids,fB n z=some (vB z:Int):=fun z hz=>xP m z (by have:=S.iB hz; omega) (by omega) n (by omega)
  rw [fB]
  unfold iZ
  by_cases c:t.Kind=7
  ·
   rw [if_pos (by simpa using c),h4,if_pos c]
   rw [if_pos c] at h4
   exact pM (fB n) t (by omega) t.Kids [] n 1 rfl (by omega) hs (by omega)
  ·
   rw [if_neg (by simpa using c),h4,if_neg c]
   rw [if_neg c] at h4
   exact pM (fB n) t (by omega) t.Kids [] n 0 rfl (by omega) hs (by omega)
def CG:Tree:=Tree.mk [] [] [] [] []
def Ad (n:Nat) (o:Option (List Tree × Nat)):Tree × Int:=match o with
 | some ([z],_)=>if z.Tag ≠ []∧iy n z=some true then (z,0) else (CG,6)
 | _=>(CG,6)
theorem El {st:List Int} {ps:List dQ} (hst:FX st) (hps:ps.length ≤ 1000) {t:aT} (hc:S.gW t ≤ 1000) (hg:S.pg 7 t) {n:Nat} (hn:65010 < n):jm n t st ps=some (Ad n (rowP st ps t 0)):=by
 have h:=F4 hst hps 1000 t hc (by omega) hg n (by omega) 0 (by omega)
 have hb:=(vG st ps 1000 t hc hg 0).1
 have htold:=nZ st ps 1000 t hc 0 (by omega)
 rw [show ((0:Nat):Int)=0 from rfl] at h
 unfold jm kU
 rw [h,Option.bind_some]
 cases hr:rowP st ps t 0 with
 | none=>rfl
 | some p =>
  obtain ⟨l,s'⟩:=p
  have hb:=hb l s' hr
  have ht:=htold l s' hr
  simp only [conv,uK,Ad]
  cases l with
  | nil=>rfl
  | cons z r =>
   cases r with
   | cons y r =>
    have e:((((z :: y :: r):List Tree).length:Int) == 1)=false:=by simp; omega
    simp only [e]
    rfl
   | nil =>
    have e:((([z]:List Tree).length:Int) == 1)=true:=rfl
    have ei:idx [z] 0=some z:=rfl
    simp only [e,ei,Option.bind_some,if_pos]
    by_cases htag:z.Tag=[]
    ·
     simp only [htag]
     rfl
    ·
     obtain ⟨b,hb1,_⟩:=DI z (m:=65000) (n:=n) (by simp only [T.iP.lsz] at hb; omega) (by omega) (by omega)
     have e2:(!(z.Tag == []))=true:=by simpa using htag
     simp only [e2,if_pos,hb1,Option.bind_some]
     cases b with
     | true=>simp [oV,htag,FJ]
     | false=>simp [oV,htag,FJ,CG]
end Pr
end Go.Ev

namespace Go.Ev
namespace Pr
set_option linter.unusedVariables false
set_option linter.unusedSimpArgs false
theorem yS:il 100000=some true:=by decide +kernel
theorem Dj {α:Type} (l:List α) (k:Nat):cut l 0 (Eh ((l.length:Nat):Int) (k:Int))=some (l.take k):=by
 have e:Eh ((l.length:Nat):Int) (k:Int)=((min l.length k:Nat):Int):=by unfold Eh; split <;> omega
 unfold cut
 rw [e,if_pos ⟨by omega,by omega,by omega⟩]
 simp [List.take_eq_take_iff,Nat.min_comm]
theorem DU {st:List Int} (k:Nat) (hk:k ≤ 1000) (h:∀ y ∈ st,(Lit.int .i64 y).wf=true):FX (st.take k):=by
 refine ⟨by simp; omega,fun x hx=>?_⟩
 have:=h x (List.mem_of_mem_take hx)
 simp [Lit.wf] at this
 have e1:IntKind.min .i64 = -9223372036854775808:=rfl
 have e2:IntKind.max .i64=9223372036854775807:=rfl
 omega
theorem BS (n:Nat) (o:Option (List Tree × Nat)):Ad n o=(CG,6)∨∃ z s',o=some ([z],s')∧z.Tag ≠ []∧iy n z=some true∧Ad n o=(z,0):=by
 unfold Ad
 split
 ·
  rename_i z s'
  split
  ·
   rename_i h
   exact .inr ⟨z,s',rfl,h.1,h.2,rfl⟩
  ·
   exact .inl rfl
 ·
  exact .inl rfl
end Pr
end Go.Ev

namespace Go.Ev
namespace Pr
set_option linter.unusedVariables false
set_option linter.unusedSimpArgs false
theorem wu64 (x:Int):IntKind.wrap .u64 x=x % 18446744073709551616:=by
 simp [IntKind.wrap,IntKind.bits,IntKind.signed]
theorem EE (u:Nat):([(IntKind.wrap .u8 (IntKind.wrap .u64 (48 + ((u % 10:Nat):Int))))]).map (fun (n:Int)=>UInt8.ofNat n.toNat)=[UInt8.ofNat (48 + u % 10)]:=by
 have h:u % 10 < 10:=Nat.mod_lt _ (by omega)
 have e1:IntKind.wrap .u64 (48 + ((u % 10:Nat):Int))=((48 + u % 10:Nat):Int):=by rw [wu64]; omega
 have e2:IntKind.wrap .u8 ((48 + u % 10:Nat):Int)=((48 + u % 10:Nat):Int):=by
  simp [IntKind.wrap,IntKind.bits,IntKind.signed]; omega
 rw [e1,e2]; rfl
theorem Ah (n:Nat) (a:Int) (f u:Nat) (acc:Str) (hu:u < 18446744073709551616) (hacc:acc.length ≤ 100) (h:0 < u∨acc=[]):bK n a (f + 1) (u:Int) acc=bK n a f ((u / 10:Nat):Int) (UInt8.ofNat (48 + u % 10) :: acc):=by
 have c:((decide ((0:Int) < (u:Int))) || (acc == []))=true:=by
  rcases h with h | h
  ·
   simp; left; exact h
  ·
   simp [h]
 have r:zM .u64 (u:Int) 10=some ((u % 10:Nat):Int):=by
  unfold zM; rw [if_neg (by omega)]
  congr 1
 have q:Am .u64 (u:Int) 10=some ((u / 10:Nat):Int):=by
  unfold Am; rw [if_neg (by omega),wu64]
  congr 1
  have:((u:Int)).tdiv 10=((u / 10:Nat):Int):=rfl
  rw [this]; omega
 rw [bK,if_pos c,r,Option.bind_some,EE]
 rw [show cat [UInt8.ofNat (48 + u % 10)] acc=some ([UInt8.ofNat (48 + u % 10)] ++ acc) by unfold cat; rw [if_pos (by simp; omega)],Option.bind_some,q,Option.bind_some]
 rfl
def ui (a:Int) (acc:Str):Str:=if a < 0 then 45 :: acc else acc
theorem Df (n:Nat) (a:Int) (f:Nat) (acc:Str) (h:acc ≠ []) (hl:acc.length ≤ 1000):bK n a (f + 1) 0 acc=some (ui a acc):=by
 rw [bK,if_neg (by simp [h])]
 unfold ui
 by_cases c:a < 0
 ·
  rw [if_pos (by simpa using c),if_pos c,show cat [45] acc=some ([45] ++ acc) by unfold cat; rw [if_pos (by simp; omega)]]; rfl
 ·
  rw [if_neg (by simpa using c),if_neg c]
theorem Dy (n:Nat) (a:Int):∀ (j u f:Nat) (acc:Str),u < 10 ^ j→j < f→0 < u→u < 18446744073709551616→acc.length + j ≤ 30→bK n a (f + 1) (u:Int) acc=some (ui a (AB j u ++ acc))
 | 0,u,f,acc,h,hf,h0,hu,hl=>by simp at h; omega
 | j + 1,u,f + 1,acc,h,hf,h0,hu,hl=>by
  rw [Ah n a (f + 1) u acc hu (by omega) (.inl h0),AB]
  by_cases c:u < 10
  ·
   rw [if_pos c,show u / 10=0 by omega,show u % 10=u by omega]
   exact Df n a f _ (by simp) (by simp; omega)
  ·
   rw [if_neg c,Dy n a j (u / 10) f _ (by rw [Nat.pow_succ] at h; omega) (by omega) (by omega) (by omega) (by simp; omega)]
   simp
theorem FC {n:Nat} (hn:100 < n) {x:Int} (h0:-9223372036854775808 ≤ x) (h1:x ≤ 9223372036854775807):gZ n x=some (qN x):=by
 obtain ⟨f,rfl⟩:∃ f,n=f + 2:=⟨n - 2,by omega⟩
 have key:∀ u:Nat,u < 18446744073709551616→bK (f + 2) x (f + 2) (u:Int) []=some (ui x (AB 20 u)):=fun u hu=>by
  by_cases h:0 < u
  ·
   rw [Dy (f + 2) x 20 u (f + 1) [] (by omega) (by omega) h hu (by simp)]; simp
  ·
   have:u=0:=by omega
   subst this
   rw [Ah (f + 2) x (f + 1) 0 [] (by omega) (by simp) (.inr rfl)]
   exact Df _ _ f _ (by simp) (by simp)
 unfold gZ fP qN
 by_cases c:x < 0
 ·
  rw [if_pos (by simpa using c),if_pos c,show IntKind.wrap .u64 (0 - IntKind.wrap .u64 x)=((x.natAbs:Nat):Int) by rw [wu64,wu64]; omega,key _ (by omega)]
  unfold ui; rw [if_pos c]
 ·
  rw [if_neg (by simpa using c),if_neg c,show IntKind.wrap .u64 x=((x.toNat:Nat):Int) by rw [wu64]; omega,key _ (by omega)]
  unfold ui; rw [if_neg c]
end Pr
end Go.Ev

namespace Go.Ev
namespace Pr
set_option linter.unusedVariables false
set_option linter.unusedSimpArgs false
def Doc (o:Option (List Tree × Nat)) (z:List Tree × Bool × Int):Prop:=match o with
 | none=>z.2.1=false
 | some (l,s)=>z=(l,true,(s:Int))
section
variable {st:List Int} {ps:List dQ}
theorem CX (prow:aT→List Int→List dQ→Int→Option (List Tree × Bool × Int)) (l:List aT) (hl:l.length ≤ 1000000):∀ (rest done:List aT) (k s:Nat) (acc:List Tree),l=done ++ rest→rest.length < k→(∀ z ∈ rest,∀ s:Nat,s ≤ 1000→(∃ y,prow z st ps (s:Int)=some y∧Doc (rowP st ps z s) y)∧Told s (rowP st ps z s))→s ≤ 1000→acc.length ≤ s →
  ∃ y,dD prow l st ps k (s:Int) acc (done.length:Int)=some y∧Doc (match dL st ps rest s with | none=>none | some (b,s')=>some (acc ++ b,s')) y
 | [],done,k + 1,s,acc,h,hk,hz,hs,ha=>by
  rw [dD,if_neg (by rw [decide_eq_true_eq,h]; simp)]
  exact ⟨_,rfl,by simp [dL,Doc]⟩
 | t :: rest,done,k + 1,s,acc,h,hk,hz,hs,ha=>by
  have hlen:l.length=done.length + rest.length + 1:=by rw [h]; simp; omega
  have hw:IntKind.wrap .i64 ((done.length:Int) + 1)=(((done ++ [t]).length:Nat):Int):=by rw [kJ (by omega) (by omega)]; simp
  obtain ⟨⟨y,z1,z2⟩,z3⟩:=hz t List.mem_cons_self s hs
  rw [dD,if_pos (by rw [decide_eq_true_eq]; omega),fH h,Option.bind_some,z1,Option.bind_some,dL]
  cases hr:rowP st ps t s with
  | none =>
   rw [hr] at z2
   have z2:y.2.1=false:=z2
   rw [z2,if_pos (by rfl)]
   exact ⟨_,rfl,rfl⟩
  | some p =>
   obtain ⟨a,s1⟩:=p
   obtain ⟨g1,g2⟩:=z3 a s1 hr
   rw [hr] at z2
   have z2:y=(a,true,(s1:Int)):=z2
   subst z2
   rw [if_neg (by simp),nO (by rw [bnd]; simp only []; omega),Option.bind_some,hw]
   obtain ⟨y,y1,y2⟩:=CX prow l hl rest (done ++ [t]) k s1 (acc ++ a) (by rw [h]; simp) (by simp at hk; omega) (fun z hm=>hz z (List.mem_cons_of_mem _ hm)) g2 (by simp; omega)
   refine ⟨y,y1,?_⟩
   simp only []
   cases hk2:dL st ps rest s1 with
   | none=>rw [hk2] at y2; exact y2
   | some p=>rw [hk2] at y2; simpa using y2
theorem Ff (prow:aT→List Int→List dQ→Int→Option (List Tree × Bool × Int)) (l:List aT) (n s:Nat) (hl:l.length ≤ 1000000) (hn:l.length < n) (hz:∀ z ∈ l,∀ s:Nat,s ≤ 1000→(∃ y,prow z st ps (s:Int)=some y∧Doc (rowP st ps z s) y)∧Told s (rowP st ps z s)) (hs:s ≤ 1000) :
  ∃ y,eU prow n l st ps (s:Int)=some y∧Doc (dL st ps l s) y:=by
 obtain ⟨y,y1,y2⟩:=CX prow l hl l [] n s [] rfl hn hz hs (by simp)
 refine ⟨y,y1,?_⟩
 cases hk:dL st ps l s with
 | none=>rw [hk] at y2; exact y2
 | some p=>rw [hk] at y2; simpa using y2
theorem Bc {n:Nat} (hn:100 < n) (i:Nat) (hi:i ≤ 1000) (again:Int→List Tree→Int→Option (List Tree × Bool × Int)) (s':Int) (l:List Tree) (hl:l.length ≤ 1000):∀ (rest done:List Tree) (k:Nat) (acc:List Tree),l=done ++ rest→rest.length < k→acc.length + rest.length ≤ 100000 →
  bB n (i:Int) again (l,true,s') k acc (done.length:Int)=again s' (acc ++ rest.map (keyed i)) (((i + 1:Nat)):Int)
 | [],done,k + 1,acc,h,hk,ha=>by
  rw [bB,if_neg (by rw [decide_eq_true_eq]; show ¬ ((done.length:Int) < (l.length:Int)); rw [h]; simp),kJ (by omega) (by omega)]
  simp
 | z :: rest,done,k + 1,acc,h,hk,ha=>by
  have hlen:l.length=done.length + rest.length + 1:=by rw [h]; simp; omega
  have hw:IntKind.wrap .i64 ((done.length:Int) + 1)=(((done ++ [z]).length:Nat):Int):=by rw [kJ (by omega) (by omega)]; simp
  simp only [List.length_cons] at ha
  rw [bB,if_pos (by rw [decide_eq_true_eq]; show (done.length:Int) < (l.length:Int); omega),show idx (l,true,s').1 (done.length:Int)=some z from fH h,Option.bind_some]
  have step:∀ key:Str,eB acc (done.length:Int) (bB n (i:Int) again (l,true,s') k) z key=again s' (acc ++ Tree.mk z.Tag key z.Text z.aH z.Kids :: rest.map (keyed i)) (((i + 1:Nat)):Int):=fun key=>by
   unfold eB
   rw [nO (by rw [bnd]; simp; omega),Option.bind_some,hw,Bc hn i hi again s' l hl rest (done ++ [z]) k _ (by rw [h]; simp) (by simp at hk; omega) (by simp; omega)]
   simp
  rw [List.map_cons,keyed]
  by_cases ht:z.Tag=[]
  ·
   rw [if_neg (by simp [ht]),if_pos ht,step]
  ·
   rw [if_pos (by simpa using ht),if_neg ht,FC hn (by omega) (by omega),Option.bind_some,step]
theorem yR {n:Nat} (hn:1001 < n) (self:aT→List Int→List dQ→Int→Option (List Tree × Bool × Int)) (t:aT) (x:Int) (hx:x ≤ 24) (hk:∀ s:Nat,s ≤ 1000→(∃ y,eU self n t.Kids st ps (s:Int)=some y∧Doc (dL st ps t.Kids s) y)∧Told s (dL st ps t.Kids s)):∀ (m i k s:Nat) (acc:List Tree),i + m=x.toNat→m < k→s ≤ 1000→acc.length ≤ s →
  ∃ y,bu n self t st ps x k (s:Int) acc (i:Int)=some y∧Doc (match iN (fun s=>dL st ps t.Kids s) m i s with | none=>none | some (b,s')=>some (acc ++ b,s')) y
 | 0,i,k + 1,s,acc,hi,hk',hs,ha=>by
  rw [bu,if_neg (by rw [decide_eq_true_eq]; omega)]
  exact ⟨_,rfl,by simp [iN,Doc]⟩
 | m + 1,i,k + 1,s,acc,hi,hk',hs,ha=>by
  obtain ⟨⟨y,z1,z2⟩,q2⟩:=hk s hs
  rw [bu,if_pos (by rw [decide_eq_true_eq]; omega),z1,Option.bind_some,iN]
  cases hr:dL st ps t.Kids s with
  | none =>
   rw [hr] at z2
   have z2:y.2.1=false:=z2
   rw [z2,if_pos (by rfl)]
   exact ⟨_,rfl,rfl⟩
  | some p =>
   obtain ⟨a,s1⟩:=p
   obtain ⟨g1,g2⟩:=q2 a s1 hr
   rw [hr] at z2
   have z2:y=(a,true,(s1:Int)):=z2
   subst z2
   have:=Bc (n:=n) (by omega) i (by omega) (bu n self t st ps x k) (s1:Int) a (by omega) a [] n acc rfl (by omega) (by omega)
   rw [if_neg (by simp),show bB n (i:Int) (bu n self t st ps x k) (a,true,(s1:Int)) n acc 0=_ from this]
   obtain ⟨y,y1,y2⟩:=yR hn self t x hx hk m (i + 1) k s1 (acc ++ a.map (keyed i)) (by omega) (by omega) g2 (by simp; omega)
   refine ⟨y,y1,?_⟩
   simp only []
   cases hk2:iN (fun s=>dL st ps t.Kids s) m (i + 1) s1 with
   | none=>rw [hk2] at y2; exact y2
   | some p=>rw [hk2] at y2; simpa using y2
theorem D8 (t:aT) (s:Int) (hl2:ps.length ≤ 1000000) {n:Nat} (hl:ps.length < n):∃ y,dz t ps s n 0=some y∧(match xD ps t.Text with | none=>y.2.1=false | some v=>y=([Tree.mk [] [] v [] []],true,IntKind.wrap .i64 (s + 1))):=by
 have key:∀ (rest done:List dQ) (k:Nat),ps=done ++ rest→rest.length < k→∃ y,dz t ps s k (done.length:Int)=some y∧(match xD rest t.Text with | none=>y.2.1=false | some v=>y=([Tree.mk [] [] v [] []],true,IntKind.wrap .i64 (s + 1))):=by
  intro rest
  induction rest with
  | nil =>
   intro done k e hk
   cases k with
   | zero=>omega
   | succ k =>
    rw [dz,if_neg (by rw [decide_eq_true_eq,e]; simp)]
    exact ⟨_,rfl,rfl⟩
  | cons q rest ih =>
   intro done k e hk
   cases k with
   | zero=>omega
   | succ k =>
    have hlen:ps.length=done.length + rest.length + 1:=by rw [e]; simp; omega
    rw [dz,if_pos (by rw [decide_eq_true_eq]; omega),fH e,Option.bind_some]
    unfold xD at ih ⊢
    rw [List.find?_cons]
    cases hq:(q.Name == t.Text) with
    | true=>rw [if_pos rfl]; exact ⟨_,rfl,rfl⟩
    | false =>
     have hw:IntKind.wrap .i64 ((done.length:Int) + 1)=(((done ++ [q]).length:Nat):Int):=by rw [kJ (by omega) (by omega)]; simp
     rw [if_neg (by simp),hw]
     exact ih (done ++ [q]) k (by rw [e]; simp) (by simp at hk; omega)
 exact key ps [] n rfl hl
theorem DC (hst:FX st) (hps:ps.length ≤ 1000):∀ (m:Nat) (t:aT),S.gW t ≤ m→m ≤ 100000→S.pg 7 t→∀ n,m + 1100 < n→∀ s:Nat,s ≤ 1000→∃ y,aP n t st ps (s:Int)=some y∧Doc (rowP st ps t s) y
 | 0,t,hm,_,_,n,hn,s,hs=>by have:=S.dH t; omega
 | m + 1,t,hm,hm2,hg,n + 1,hn,s,hs=>by
  have hgi:=(S.wO t).1 hg
  have hlen:t.Kids.length ≤ m:=by have:=S.dH t; have:=S.jv t.Kids; omega
  have hz:∀ z ∈ t.Kids,∀ s:Nat,s ≤ 1000→(∃ y,aP n z st ps (s:Int)=some y∧Doc (rowP st ps z s) y)∧Told s (rowP st ps z s):=fun z hzm s hs=>by
   have:=S.iB hzm
   exact ⟨DC hst hps m z (by omega) (by omega) (hgi.2.2.2.2.2 z hzm) n (by omega) s hs,nZ st ps m z (by omega) s hs⟩
  have hkids:∀ s:Nat,s ≤ 1000→∃ y,eU (aP n) n t.Kids st ps (s:Int)=some y∧Doc (dL st ps t.Kids s) y:=fun s hs=>Ff (aP n) t.Kids n s (by omega) (by omega) hz hs
  have htold:∀ s,s ≤ 1000→Told s (dL st ps t.Kids s):=fun s hs=>ma st ps t.Kids s (fun z hzm s hs=>(hz z hzm s hs).2) hs
  have hw:IntKind.wrap .i64 ((s:Int) + 1)=((s + 1:Nat):Int):=by
   rw [kJ (by omega) (by omega)]; push_cast; rfl
  rw [aP,sN,hw]
  by_cases h1000:s + 1 ≤ 1000
  ·
   rw [if_neg (by rw [decide_eq_true_eq]; omega),if_pos h1000]
   have there:∃ (x:Int) (b:Bool),qH st t.N=(if b=true then some x else none)∧(b=false→x=0)∧(if (decide (0 ≤ t.N))=true then (dJ n (aP n) t st ps (s:Int) (0) ((decide (t.N < ((st).length:Int))))) else (dJ n (aP n) t st ps (s:Int) (0) (false)))=eu n (aP n) t st ps (s:Int) b x:=by
    unfold qH
    by_cases h0:0 ≤ t.N
    ·
     have d0:decide (0 ≤ t.N)=true:=by simpa using h0
     rw [if_pos d0]
     unfold dJ
     by_cases h1:t.N < (st.length:Int)
     ·
      have d1:decide (t.N < (st.length:Int))=true:=by simpa using h1
      rw [d1,if_pos rfl]
      have h01:0 ≤ t.N∧t.N < (st.length:Int):=⟨h0,h1⟩
      rw [if_pos h01]
      obtain ⟨j,hj⟩:=Int.eq_ofNat_of_zero_le h0
      have hjl:j < st.length:=by omega
      refine ⟨st[j],true,?_,by simp,?_⟩
      ·
       rw [hj]; simp [List.getD_eq_getElem?_getD,hjl]
      ·
       rw [hj,jK,List.getElem?_eq_getElem hjl,Option.bind_some]
     ·
      have d1:decide (t.N < (st.length:Int))=false:=by simpa using h1
      have h01:¬(0 ≤ t.N∧t.N < (st.length:Int)):=fun q=>h1 q.2
      rw [d1,if_neg h01,if_neg (by simp)]
      exact ⟨0,false,rfl,fun _=>rfl,rfl⟩
    ·
     have d0:¬ decide (0 ≤ t.N)=true:=by simpa using h0
     have h01:¬(0 ≤ t.N∧t.N < (st.length:Int)):=fun q=>h0 q.1
     rw [if_neg d0,if_neg h01]
     unfold dJ
     exact ⟨0,false,rfl,fun _=>rfl,rfl⟩
   obtain ⟨x,b,e1,e2,e3⟩:=there
   rw [e3,e1]
   have hxr:-9223372036854775808 ≤ x∧x ≤ 9223372036854775807:=by
    cases b with
    | false=>rw [e2 rfl]; omega
    | true=>exact hst.2 x (Bb e1)
   unfold eu
   rw [hw]
   by_cases c1:t.Kind=1
   ·
    rw [if_pos (by simpa using c1),if_pos c1]
    obtain ⟨y,y1,y2⟩:=hkids (s + 1) h1000
    rw [y1,Option.bind_some]
    refine ⟨_,rfl,?_⟩
    cases hk:dL st ps t.Kids (s + 1) with
    | none=>rw [hk] at y2; exact y2
    | some p=>rw [hk] at y2; have y2:y=(p.1,true,(p.2:Int)):=y2; subst y2; rfl
   ·
    rw [if_neg (by simpa using c1),if_neg c1]
    by_cases c2:t.Kind=2
    ·
     rw [if_pos (by simpa using c2),if_pos c2]; exact ⟨_,rfl,rfl⟩
    ·
     rw [if_neg (by simpa using c2),if_neg c2]
     by_cases c3:t.Kind=3
     ·
      rw [if_pos (by simpa using c3),if_pos c3,FC (by omega) hxr.1 hxr.2,Option.bind_some]
      refine ⟨_,rfl,?_⟩
      cases b <;> rfl
     ·
      rw [if_neg (by simpa using c3),if_neg c3]
      by_cases c4:t.Kind=4
      ·
       rw [if_pos (by simpa using c4),if_pos c4]
       obtain ⟨y,y1,y2⟩:=D8 (ps:=ps) t (s:Int) (by omega) (n:=n) (by omega)
       rw [y1]
       refine ⟨_,rfl,?_⟩
       cases hp:xD ps t.Text with
       | none=>rw [hp] at y2; exact y2
       | some v=>rw [hp] at y2; rw [hw] at y2; exact y2
      ·
       rw [if_neg (by simpa using c4),if_neg c4]
       by_cases c5:t.Kind=5
       ·
        rw [if_pos (by simpa using c5),if_pos c5]
        cases b with
        | false=>rw [if_pos (by rfl)]; exact ⟨_,rfl,rfl⟩
        | true =>
         simp only [if_true]
         by_cases hx0:x=0
         ·
          rw [if_pos (by simp [hx0]),if_pos hx0]; exact ⟨_,rfl,rfl⟩
         ·
          rw [if_neg (by simp [hx0]),if_neg hx0]
          obtain ⟨y,y1,y2⟩:=hkids (s + 1) h1000
          rw [y1,Option.bind_some]
          exact ⟨_,rfl,y2⟩
       ·
        rw [if_neg (by simpa using c5),if_neg c5]
        by_cases c6:t.Kind=6
        ·
         rw [if_pos (by simpa using c6),if_pos c6]
         cases b with
         | false=>rw [if_pos (by rfl)]; exact ⟨_,rfl,rfl⟩
         | true =>
          simp only [if_true]
          by_cases hx0:x ≤ 24
          ·
           rw [if_neg (by simp; omega),if_pos hx0]
           obtain ⟨y,y1,y2⟩:=yR (n:=n) (by omega) (aP n) t x hx0 (fun s hs=>⟨hkids s hs,htold s hs⟩) x.toNat 0 n (s + 1) [] (by omega) (by omega) h1000 (by simp)
           refine ⟨y,y1,?_⟩
           cases hk:iN (fun s=>dL st ps t.Kids s) x.toNat 0 (s + 1) with
           | none=>rw [hk] at y2; exact y2
           | some p=>rw [hk] at y2; simpa using y2
          ·
           rw [if_pos (by simp; omega),if_neg hx0]; exact ⟨_,rfl,rfl⟩
        ·
         rw [if_neg (by simpa using c6),if_neg c6]
         by_cases c7:t.Kind=7
         ·
          rw [if_pos (by simpa using c7),if_pos c7]; exact ⟨_,rfl,rfl⟩
         ·
          rw [if_neg (by simpa using c7),if_neg c7]; exact ⟨_,rfl,rfl⟩
  ·
   rw [if_pos (by rw [decide_eq_true_eq]; omega),if_neg h1000]; exact ⟨_,rfl,rfl⟩
end
end Pr
end Go.Ev

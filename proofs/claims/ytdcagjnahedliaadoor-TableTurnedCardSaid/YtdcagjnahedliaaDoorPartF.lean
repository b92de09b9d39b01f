import Derived.Test.YtdcagjnahedliaaDoorPartE
import Derived.IntWalk
namespace Go.Ev
namespace Pr
set_option linter.unusedVariables false
set_option linter.unusedSimpArgs false
open Go.Proofs
section
variable {R:dm} (E:LY R)
include E
set_option maxRecDepth 20000 in
set_option maxHeartbeats 4000000 in
theorem oP (n:Nat) (a1:(List Attr)) (a2:(List Attr)) (r:Bool) (h:gD n a1 a2=some r):bN R cfg.P 46 [(.sl ((a1).map aR) false),(.sl ((a2).map aR) false)] (.d (.bool r)):=by
 unfold gD at h
 refine bN.of_wp E.obj.toObjOk (C:=cfg) Tryd.func46 rfl PT rfl ?_
 have H0:Has aF aF []:=Has.pure
 refine ax.seq ?_
 refine ax.region E.obj rfl ?_
 refine ae.val rfl (aj rfl) rfl ?_
 refine ae.nil ?_
 refine ax.seq ?_
 refine ax.seq ?_
 refine ax.region E.obj rfl ?_
 refine ae.val rfl (ah rfl) rfl ?_
 refine ae.val rfl (aS rfl MC) rfl ?_
 refine ae.val rfl (ah rfl) rfl ?_
 refine ae.val rfl (aS rfl MC) rfl ?_
 refine ae.val rfl (ay rfl rfl fH) rfl ?_
 refine ae.nil ?_
 refine ax.cond rfl (fun hb3=>?_) (fun hb3=>?_)
 ·
  replace h:=cB hb3 h
  refine ax.seq ?_
  refine ax.region E.obj rfl ?_
  refine ae.val rfl (aj rfl) rfl ?_
  refine ae.nil ?_
  have hr:=Option.some.inj h
  subst hr
  exact ax.ret ⟨_,rfl,rfl,dY (aD.eq .nil)⟩
 replace h:=cK hb3 h
 refine ax.skip ?_
 refine ax.seq ?_
 refine ax.seq ?_
 refine ax.region E.obj rfl ?_
 refine ae.val rfl (aj rfl) rfl ?_
 refine ae.nil ?_
 refine ax.block ?_
 refine nz.start (B:=aF) (α:=Int) (fun k a=>bU a1 a2 k a=some r) (fun a=>[(0,(.d (.sl ((a1).map aR) false))),(1,(.d (.sl ((a2).map aR) false))),(5,(.d (.int .i64 a)))]) (fun a=>[]) ?_ ?_ n ⟨0,_,_,aF,.refl _ _,.refl _,(aa.r rfl (aa.r rfl (aa.r rfl aa.nil))),H0.sl [] rfl rfl,h⟩
 ·
  intro a h; simp [bU] at h
 intro k12 x11 S9 H10 h
 replace h:bU a1 a2 (k12 + 1) x11=some r:=h
 replace H10:Has aF S9 []:=H10
 unfold bU at h
 refine ax.seq ?_
 refine ax.seq ?_
 refine ax.region E.obj rfl ?_
 refine ae.val rfl (ah rfl) rfl ?_
 refine ae.val rfl (ah rfl) rfl ?_
 refine ae.val rfl (aS rfl MC) rfl ?_
 refine ae.val rfl (ay rfl rfl bG) rfl ?_
 refine ae.nil ?_
 refine ax.cond rfl (fun hb13=>?_) (fun hb13=>?_)
 ·
  replace h:=cB hb13 h
  refine ax.skip ?_
  refine ax.seq ?_
  refine ax.block ?_
  refine ax.seq ?_
  obtain ⟨z14,hzz14,h⟩:=bind_some h
  obtain ⟨z15,hzz15,h⟩:=bind_some h
  refine ax.qi E.obj pM KS [(0,none),(1,none),(5,none),(25,some 8)] (by kernel_rfl) [] (by decide) [some (.d (.sl ((a1).map aR) false)),some (.d (.int .i64 x11)),some (.eptr (aR z14) 0),some (.d (aR z14)),some (.d (.sl ((a2).map aR) false)),some (.d (.int .i64 x11)),some (.eptr (aR z15) 0),some (.d (aR z15)),some (.d (.bool (!(Attr.beq z14 z15))))] ?_
  refine ⟨[0,1,2,3,4,5,6,7,8],by kernel_rfl,?_,_,rfl,?_⟩
  ·
   refine .v rfl rfl rfl rfl (ah rfl) ?_
   refine .v rfl rfl rfl rfl (ah rfl) ?_
   refine .v rfl rfl rfl rfl (bE rfl rfl (bY (enc:=aR) hzz14 Ky NR ((Attr.len _).trans FC.symm))) ?_
   refine .v rfl rfl rfl rfl (aU rfl (Attr.gT K3 FC)) ?_
   refine .v rfl rfl rfl rfl (ah rfl) ?_
   refine .v rfl rfl rfl rfl (ah rfl) ?_
   refine .v rfl rfl rfl rfl (bE rfl rfl (bY (enc:=aR) hzz15 Ky NR ((Attr.len _).trans FC.symm))) ?_
   refine .v rfl rfl rfl rfl (aU rfl (Attr.gT K3 FC)) ?_
   refine .v rfl rfl rfl rfl (ay rfl rfl (sP (Attr.eq _) (Attr.eq _) (Nk _ _))) ?_
   exact .nil
  refine ax.cond rfl (fun hb16=>?_) (fun hb16=>?_)
  ·
   replace h:=cB hb16 h
   refine ax.seq ?_
   refine ax.region E.obj rfl ?_
   refine ae.val rfl (aj rfl) rfl ?_
   refine ae.nil ?_
   have hr:=Option.some.inj h
   subst hr
   exact ax.ret ⟨_,rfl,rfl,dY (aD.eq .nil)⟩
  replace h:=cK hb16 h
  refine ax.skip ?_
  refine ax.region E.obj rfl ?_
  refine ae.val rfl (ah rfl) rfl ?_
  refine ae.val rfl (ay rfl rfl bI) rfl ?_
  refine ae.val rfl (aj rfl) rfl ?_
  refine ae.nil ?_
  exact ⟨(IntKind.wrap .i64 (x11 + 1)),_,_,S9,.refl _ _,.refl _,(aa.r rfl (aa.r rfl (aa.r rfl aa.nil))),H10.sl [] rfl rfl,h⟩
 replace h:=cK hb13 h
 refine ax.exit ?_
 refine ax.seq ?_
 refine ax.region E.obj rfl ?_
 refine ae.val rfl (aj rfl) rfl ?_
 refine ae.nil ?_
 have hr:=Option.some.inj h
 subst hr
 exact ax.ret ⟨_,rfl,rfl,dY (aD.eq .nil)⟩
set_option maxRecDepth 20000 in
set_option maxHeartbeats 4000000 in
theorem o9:∀ (n:Nat) (a1:aK) (a2:aK) (r:Bool),fJ n a1 a2=some r→bN R cfg.P 28 [(aG a1),(aG a2)] (.d (.bool r))
 | 0,a1,a2,r,h=>by simp [fJ] at h
 | n + 1,a1,a2,r,h=>by
  have ih:=o9 n
  unfold fJ at h
  refine bN.of_wp E.obj.toObjOk (C:=cfg) Tryd.func28 rfl Ot rfl ?_
  have H0:Has aF aF []:=Has.pure
  refine ax.seq ?_
  refine ax.region E.obj rfl ?_
  refine ae.box H0 rfl rfl rfl (aK.bf _) rfl (fun b3 S4 H5=>?_)
  refine ae.box H5 rfl rfl rfl (aK.bf _) rfl (fun b6 S7 H8=>?_)
  refine ae.val rfl (aj rfl) rfl ?_
  refine ae.nil ?_
  refine ax.seq ?_
  refine ax.seq ?_
  refine ax.region E.obj rfl ?_
  refine ae.val rfl (ai rfl ku kL rfl) rfl ?_
  refine ae.val rfl (av H8 (i:=1) rfl rfl (aA jl rfl)) rfl ?_
  refine ae.val rfl (ai rfl ku kL rfl) rfl ?_
  refine ae.val rfl (av H8 (i:=0) rfl rfl (aA jl rfl)) rfl ?_
  refine ae.val rfl (ay rfl rfl fH) rfl ?_
  refine ae.val rfl (ah rfl) rfl ?_
  refine ae.bC 6 17 (.d (.bool ((a1.Kind != a2.Kind) || (a1.N != a2.N)))) ?_ ?_
  ·
   rcases Bool.eq_false_or_eq_true ((a1.Kind != a2.Kind)) with hB9 | hB9
   ·
    refine ae.bool hB9 ?_
    refine ae.no rfl rfl ?_
    refine ae.no rfl rfl ?_
    refine ae.no rfl rfl ?_
    refine ae.no rfl rfl ?_
    refine ae.no rfl rfl ?_
    refine ae.val rfl (az (b:=true) rfl rfl) rfl ?_
    exact ae.nil ⟨_,rfl,(aa.put (aa.push rfl (aa.push rfl (aa.push rfl (aa.push rfl (aa.push rfl (aa.put (.refl _) (Less.eq (by rw [hB9])))))))) (Less.eq (by rw [hB9]; rw [Bool.true_or])))⟩
   refine ae.bool hB9 ?_
   refine ae.val rfl (ai rfl CX kL rfl) rfl ?_
   refine ae.val rfl (av H8 (i:=1) rfl rfl (aA jl rfl)) rfl ?_
   refine ae.val rfl (ai rfl CX kL rfl) rfl ?_
   refine ae.val rfl (av H8 (i:=0) rfl rfl (aA jl rfl)) rfl ?_
   refine ae.val rfl (ay rfl rfl fH) rfl ?_
   refine ae.val rfl (az (b:=false) rfl rfl) rfl ?_
   exact ae.nil ⟨_,rfl,(aa.put (aa.push rfl (aa.push rfl (aa.push rfl (aa.push rfl (aa.push rfl (aa.put (.refl _) (Less.eq (by rw [hB9])))))))) (Less.eq (by rw [hB9]; rw [Bool.false_or])))⟩
  refine ae.val rfl (ah rfl) rfl ?_
  refine ae.bC 6 24 (.d (.bool (((a1.Kind != a2.Kind) || (a1.N != a2.N)) || (!(a1.Tag == a2.Tag))))) ?_ ?_
  ·
   rcases Bool.eq_false_or_eq_true (((a1.Kind != a2.Kind) || (a1.N != a2.N))) with hB10 | hB10
   ·
    refine ae.bool hB10 ?_
    refine ae.no rfl rfl ?_
    refine ae.no rfl rfl ?_
    refine ae.no rfl rfl ?_
    refine ae.no rfl rfl ?_
    refine ae.no rfl rfl ?_
    refine ae.val rfl (az (b:=true) rfl rfl) rfl ?_
    exact ae.nil ⟨_,rfl,(aa.put (aa.push rfl (aa.push rfl (aa.push rfl (aa.push rfl (aa.push rfl (aa.put (.refl _) (Less.eq (by rw [hB10])))))))) (Less.eq (by rw [hB10]; rw [Bool.true_or])))⟩
   refine ae.bool hB10 ?_
   refine ae.val rfl (ai rfl DK yO rfl) rfl ?_
   refine ae.val rfl (av H8 (i:=1) rfl rfl (aA u6 rfl)) rfl ?_
   refine ae.val rfl (ai rfl DK yO rfl) rfl ?_
   refine ae.val rfl (av H8 (i:=0) rfl rfl (aA u6 rfl)) rfl ?_
   refine ae.val rfl (ay rfl rfl rU) rfl ?_
   refine ae.val rfl (az (b:=false) rfl rfl) rfl ?_
   exact ae.nil ⟨_,rfl,(aa.put (aa.push rfl (aa.push rfl (aa.push rfl (aa.push rfl (aa.push rfl (aa.put (.refl _) (Less.eq (by rw [hB10])))))))) (Less.eq (by rw [hB10]; rw [Bool.false_or])))⟩
  refine ae.val rfl (ah rfl) rfl ?_
  refine ae.bC 6 31 (.d (.bool ((((a1.Kind != a2.Kind) || (a1.N != a2.N)) || (!(a1.Tag == a2.Tag))) || (!(a1.Text == a2.Text))))) ?_ ?_
  ·
   rcases Bool.eq_false_or_eq_true ((((a1.Kind != a2.Kind) || (a1.N != a2.N)) || (!(a1.Tag == a2.Tag)))) with hB11 | hB11
   ·
    refine ae.bool hB11 ?_
    refine ae.no rfl rfl ?_
    refine ae.no rfl rfl ?_
    refine ae.no rfl rfl ?_
    refine ae.no rfl rfl ?_
    refine ae.no rfl rfl ?_
    refine ae.val rfl (az (b:=true) rfl rfl) rfl ?_
    exact ae.nil ⟨_,rfl,(aa.put (aa.push rfl (aa.push rfl (aa.push rfl (aa.push rfl (aa.push rfl (aa.put (.refl _) (Less.eq (by rw [hB11])))))))) (Less.eq (by rw [hB11]; rw [Bool.true_or])))⟩
   refine ae.bool hB11 ?_
   refine ae.val rfl (ai rfl DL yO rfl) rfl ?_
   refine ae.val rfl (av H8 (i:=1) rfl rfl (aA u6 rfl)) rfl ?_
   refine ae.val rfl (ai rfl DL yO rfl) rfl ?_
   refine ae.val rfl (av H8 (i:=0) rfl rfl (aA u6 rfl)) rfl ?_
   refine ae.val rfl (ay rfl rfl rU) rfl ?_
   refine ae.val rfl (az (b:=false) rfl rfl) rfl ?_
   exact ae.nil ⟨_,rfl,(aa.put (aa.push rfl (aa.push rfl (aa.push rfl (aa.push rfl (aa.push rfl (aa.put (.refl _) (Less.eq (by rw [hB11])))))))) (Less.eq (by rw [hB11]; rw [Bool.false_or])))⟩
  refine ae.val rfl (ah rfl) rfl ?_
  obtain ⟨z13,hzz13,h⟩:=bind_some h
  refine ae.bC 7 39 (.d (.bool z13)) ?_ ?_
  ·
   rcases Bool.eq_false_or_eq_true (((((a1.Kind != a2.Kind) || (a1.N != a2.N)) || (!(a1.Tag == a2.Tag))) || (!(a1.Text == a2.Text)))) with hB12 | hB12
   ·
    refine ae.bool hB12 ?_
    refine ae.no rfl rfl ?_
    refine ae.no rfl rfl ?_
    refine ae.no rfl rfl ?_
    refine ae.no rfl rfl ?_
    refine ae.no rfl rfl ?_
    refine ae.no rfl rfl ?_
    refine ae.val rfl (az (b:=true) rfl rfl) rfl ?_
    replace hzz13:=cB hB12 hzz13
    cases hzz13
    exact ae.nil ⟨_,rfl,(aa.put (aa.push rfl (aa.push rfl (aa.push rfl (aa.push rfl (aa.push rfl (aa.push rfl (aa.put (.refl _) (Less.eq (by rw [hB12]))))))))) (.refl _))⟩
   refine ae.bool hB12 ?_
   replace hzz13:=cK hB12 hzz13
   refine ae.val rfl (ai rfl zS JD rfl) rfl ?_
   refine ae.val rfl (av H8 (i:=1) rfl rfl (aA MQ rfl)) rfl ?_
   refine ae.val rfl (ai rfl zS JD rfl) rfl ?_
   refine ae.val rfl (av H8 (i:=0) rfl rfl (aA MQ rfl)) rfl ?_
   obtain ⟨z14,hzz14,hzz13⟩:=bind_some hzz13
   refine ae.ret rfl (aC rfl rfl) (oP E _ _ _ _ hzz14 _ _ (aD.eq (aD.eq .nil))) rfl ?_
   refine ae.val rfl (eZ rfl) rfl ?_
   refine ae.val rfl (az (b:=false) rfl rfl) rfl ?_
   cases hzz13
   exact ae.nil ⟨_,rfl,(aa.put (aa.push rfl (aa.push rfl (aa.push rfl (aa.push rfl (aa.push rfl (aa.push rfl (aa.put (.refl _) (Less.eq (by rw [hB12]))))))))) (.refl _))⟩
  refine ae.val rfl (ah rfl) rfl ?_
  refine ae.bC 8 48 (.d (.bool (z13 || (((a1.Kids).length:Int) != ((a2.Kids).length:Int))))) ?_ ?_
  ·
   rcases Bool.eq_false_or_eq_true (z13) with hB15 | hB15
   ·
    refine ae.bool hB15 ?_
    refine ae.no rfl rfl ?_
    refine ae.no rfl rfl ?_
    refine ae.no rfl rfl ?_
    refine ae.no rfl rfl ?_
    refine ae.no rfl rfl ?_
    refine ae.no rfl rfl ?_
    refine ae.no rfl rfl ?_
    refine ae.val rfl (az (b:=true) rfl rfl) rfl ?_
    exact ae.nil ⟨_,rfl,(aa.put (aa.push rfl (aa.push rfl (aa.push rfl (aa.push rfl (aa.push rfl (aa.push rfl (aa.push rfl (aa.put (.refl _) (Less.eq (by rw [hB15])))))))))) (Less.eq (by rw [hB15]; rw [Bool.true_or])))⟩
   refine ae.bool hB15 ?_
   refine ae.val rfl (ai rfl jC qF rfl) rfl ?_
   refine ae.val rfl (av H8 (i:=1) rfl rfl (aA uP rfl)) rfl ?_
   refine ae.val rfl (aS rfl yL) rfl ?_
   refine ae.val rfl (ai rfl jC qF rfl) rfl ?_
   refine ae.val rfl (av H8 (i:=0) rfl rfl (aA uP rfl)) rfl ?_
   refine ae.val rfl (aS rfl yL) rfl ?_
   refine ae.val rfl (ay rfl rfl fH) rfl ?_
   refine ae.val rfl (az (b:=false) rfl rfl) rfl ?_
   exact ae.nil ⟨_,rfl,(aa.put (aa.push rfl (aa.push rfl (aa.push rfl (aa.push rfl (aa.push rfl (aa.push rfl (aa.push rfl (aa.put (.refl _) (Less.eq (by rw [hB15])))))))))) (Less.eq (by rw [hB15]; rw [Bool.false_or])))⟩
  refine ae.nil ?_
  refine ax.cond rfl (fun hb16=>?_) (fun hb16=>?_)
  ·
   replace h:=cB hb16 h
   refine ax.seq ?_
   refine ax.region E.obj rfl ?_
   refine ae.val rfl (aj rfl) rfl ?_
   refine ae.nil ?_
   have hr:=Option.some.inj h
   subst hr
   exact ax.ret ⟨_,rfl,rfl,dY (aD.eq .nil)⟩
  replace h:=cK hb16 h
  refine ax.skip ?_
  refine ax.seq ?_
  refine ax.seq ?_
  refine ax.region E.obj rfl ?_
  refine ae.val rfl (ai rfl jC qF rfl) rfl ?_
  refine ae.val rfl (av H8 (i:=1) rfl rfl (aA uP rfl)) rfl ?_
  refine ae.val rfl (aS rfl yL) rfl ?_
  refine ae.val rfl (ah rfl) rfl ?_
  refine ae.nil ?_
  refine ax.block ?_
  refine nz.start (B:=aF) (α:=Int) (fun k a=>eF (fJ n) a1 a2 k a=some r) (fun a=>[(2,(.ptr b3 0 0)),(3,(.ptr b6 0 0)),(51,(.d (.int .i64 ((a1.Kids).length:Int)))),(52,(.d (.int .i64 a)))]) (fun a=>[.box b6 [(.d (.int .i64 a2.Kind)),(.d (.int .i64 a2.N)),(.d (.str a2.Tag)),(.d (.str a2.Text)),(.d (.sl ((a2.bR).map aR) false)),(.d (.sl ((a2.Kids).map aG) false))],.box b3 [(.d (.int .i64 a1.Kind)),(.d (.int .i64 a1.N)),(.d (.str a1.Tag)),(.d (.str a1.Text)),(.d (.sl ((a1.bR).map aR) false)),(.d (.sl ((a1.Kids).map aG) false))]]) ?_ ?_ n ⟨0,_,_,S7,.refl _ _,.refl _,(aa.r rfl (aa.r rfl (aa.r rfl (aa.r rfl aa.nil)))),H8.sl [0,1] rfl rfl,h⟩
  ·
   intro a h; simp [eF] at h
  intro k25 x24 S22 H23 h
  replace h:eF (fJ n) a1 a2 (k25 + 1) x24=some r:=h
  replace H23:Has aF S22 [.box b6 [(.d (.int .i64 a2.Kind)),(.d (.int .i64 a2.N)),(.d (.str a2.Tag)),(.d (.str a2.Text)),(.d (.sl ((a2.bR).map aR) false)),(.d (.sl ((a2.Kids).map aG) false))],.box b3 [(.d (.int .i64 a1.Kind)),(.d (.int .i64 a1.N)),(.d (.str a1.Tag)),(.d (.str a1.Text)),(.d (.sl ((a1.bR).map aR) false)),(.d (.sl ((a1.Kids).map aG) false))]]:=H23
  unfold eF at h
  refine ax.seq ?_
  refine ax.region E.obj rfl ?_
  refine ae.val rfl (ay rfl rfl bG) rfl ?_
  refine ae.nil ?_
  refine ax.seq ?_
  refine ax.cond rfl (fun hb26=>?_) (fun hb26=>?_)
  ·
   replace h:=cB hb26 h
   refine ax.skip ?_
   refine ax.seq ?_
   refine ax.block ?_
   refine ax.seq ?_
   refine ax.region E.obj rfl ?_
   refine ae.val rfl (ah rfl) rfl ?_
   refine ae.val rfl (aj rfl) rfl ?_
   refine ae.nil ?_
   refine ax.seq ?_
   obtain ⟨z27,hzz27,h⟩:=bind_some h
   obtain ⟨z28,hzz28,h⟩:=bind_some h
   obtain ⟨z29,hzz29,h⟩:=bind_some h
   refine ax.qi E.obj pM O8 [(2,none),(3,none),(51,none),(52,none),(66,some 11)] (by kernel_rfl) [] (by decide) [some (.ptr b3 0 5),some (.d (.sl ((a1.Kids).map aG) false)),some (.d (.int .i64 x24)),some (.eptr (aG z27) 0),some (.d (aG z27)),some (.ptr b6 0 5),some (.d (.sl ((a2.Kids).map aG) false)),some (.d (.int .i64 x24)),some (.eptr (aG z28) 0),some (.d (aG z28)),some (.d (.bool z29)),some (.d (.bool (!z29)))] ?_
   refine ⟨[0,1,2,3,4,5,6,7,8,9,10,11],by kernel_rfl,?_,_,rfl,?_⟩
   ·
    refine .v rfl rfl rfl rfl (ai rfl jC qF rfl) ?_
    refine .v rfl rfl rfl rfl (av H23 (i:=1) rfl rfl (aA uP rfl)) ?_
    refine .v rfl rfl rfl rfl (ah rfl) ?_
    refine .v rfl rfl rfl rfl (bE rfl rfl (bY (enc:=aG) hzz27 nL nA ((aK.len _).trans eU.symm))) ?_
    refine .v rfl rfl rfl rfl (aU rfl (aK.gT jE eU)) ?_
    refine .v rfl rfl rfl rfl (ai rfl jC qF rfl) ?_
    refine .v rfl rfl rfl rfl (av H23 (i:=0) rfl rfl (aA uP rfl)) ?_
    refine .v rfl rfl rfl rfl (ah rfl) ?_
    refine .v rfl rfl rfl rfl (bE rfl rfl (bY (enc:=aG) hzz28 nL nA ((aK.len _).trans eU.symm))) ?_
    refine .v rfl rfl rfl rfl (aU rfl (aK.gT jE eU)) ?_
    refine .cons rfl rfl rfl (.step ?_) ?_
    ·
     refine ae.ret rfl (aC rfl rfl) (ih _ _ _ hzz29 _ _ (aD.eq (aD.eq .nil))) rfl ?_
     exact ae.nil ⟨_,_,rfl,fun _ ht=>by cases ht; exact ⟨rfl,.refl _⟩⟩
    refine .v rfl rfl rfl rfl (eZ rfl) ?_
    exact .nil
   refine ax.cond rfl (fun hb30=>?_) (fun hb30=>?_)
   ·
    replace h:=cB hb30 h
    refine ax.seq ?_
    refine ax.region E.obj rfl ?_
    refine ae.val rfl (aj rfl) rfl ?_
    refine ae.nil ?_
    have hr:=Option.some.inj h
    subst hr
    exact ax.ret ⟨_,rfl,rfl,dY (aD.eq .nil)⟩
   replace h:=cK hb30 h
   refine ax.skip ?_
   refine ax.region E.obj rfl ?_
   refine ae.val rfl (ay rfl rfl bI) rfl ?_
   refine ae.val rfl (ah rfl) rfl ?_
   refine ae.nil ?_
   exact ⟨(IntKind.wrap .i64 (x24 + 1)),_,_,S22,.refl _ _,.refl _,(aa.r rfl (aa.r rfl (aa.r rfl (aa.r rfl aa.nil)))),H23.sl [0,1] rfl rfl,h⟩
  replace h:=cK hb26 h
  refine ax.exit ?_
  refine ax.seq ?_
  refine ax.region E.obj rfl ?_
  refine ae.val rfl (aj rfl) rfl ?_
  refine ae.nil ?_
  have hr:=Option.some.inj h
  subst hr
  exact ax.ret ⟨_,rfl,rfl,dY (aD.eq .nil)⟩
set_option maxRecDepth 20000 in
set_option maxHeartbeats 4000000 in
theorem rM (n:Nat) (a1:(List Int)) (a2:(List Int)) (r:Bool) (h:iU n a1 a2=some r):bN R cfg.P 29 [(.sl ((a1).map (D.int .i64)) false),(.sl ((a2).map (D.int .i64)) false)] (.d (.bool r)):=by
 unfold iU at h
 refine bN.of_wp E.obj.toObjOk (C:=cfg) Tryd.func29 rfl OB rfl ?_
 have H0:Has aF aF []:=Has.pure
 refine ax.seq ?_
 refine ax.region E.obj rfl ?_
 refine ae.val rfl (aj rfl) rfl ?_
 refine ae.nil ?_
 refine ax.seq ?_
 refine ax.seq ?_
 refine ax.region E.obj rfl ?_
 refine ae.val rfl (ah rfl) rfl ?_
 refine ae.val rfl (aS rfl wX) rfl ?_
 refine ae.val rfl (ah rfl) rfl ?_
 refine ae.val rfl (aS rfl wX) rfl ?_
 refine ae.val rfl (ay rfl rfl fH) rfl ?_
 refine ae.nil ?_
 refine ax.cond rfl (fun hb3=>?_) (fun hb3=>?_)
 ·
  replace h:=cB hb3 h
  refine ax.seq ?_
  refine ax.region E.obj rfl ?_
  refine ae.val rfl (aj rfl) rfl ?_
  refine ae.nil ?_
  have hr:=Option.some.inj h
  subst hr
  exact ax.ret ⟨_,rfl,rfl,dY (aD.eq .nil)⟩
 replace h:=cK hb3 h
 refine ax.skip ?_
 refine ax.seq ?_
 refine ax.seq ?_
 refine ax.region E.obj rfl ?_
 refine ae.val rfl (aj rfl) rfl ?_
 refine ae.nil ?_
 refine ax.block ?_
 refine nz.start (B:=aF) (α:=Int) (fun k a=>dJ a1 a2 k a=some r) (fun a=>[(0,(.d (.sl ((a1).map (D.int .i64)) false))),(1,(.d (.sl ((a2).map (D.int .i64)) false))),(5,(.d (.int .i64 a)))]) (fun a=>[]) ?_ ?_ n ⟨0,_,_,aF,.refl _ _,.refl _,(aa.r rfl (aa.r rfl (aa.r rfl aa.nil))),H0.sl [] rfl rfl,h⟩
 ·
  intro a h; simp [dJ] at h
 intro k12 x11 S9 H10 h
 replace h:dJ a1 a2 (k12 + 1) x11=some r:=h
 replace H10:Has aF S9 []:=H10
 unfold dJ at h
 refine ax.seq ?_
 refine ax.seq ?_
 refine ax.region E.obj rfl ?_
 refine ae.val rfl (ah rfl) rfl ?_
 refine ae.val rfl (ah rfl) rfl ?_
 refine ae.val rfl (aS rfl wX) rfl ?_
 refine ae.val rfl (ay rfl rfl bG) rfl ?_
 refine ae.nil ?_
 refine ax.cond rfl (fun hb13=>?_) (fun hb13=>?_)
 ·
  replace h:=cB hb13 h
  refine ax.skip ?_
  refine ax.seq ?_
  refine ax.block ?_
  refine ax.seq ?_
  obtain ⟨z14,hzz14,h⟩:=bind_some h
  obtain ⟨z15,hzz15,h⟩:=bind_some h
  refine ax.qi E.obj pM KS [(0,none),(1,none),(5,none),(25,some 8)] (by kernel_rfl) [] (by decide) [some (.d (.sl ((a1).map (D.int .i64)) false)),some (.d (.int .i64 x11)),some (.eptr (.int .i64 z14) 0),some (.d (.int .i64 z14)),some (.d (.sl ((a2).map (D.int .i64)) false)),some (.d (.int .i64 x11)),some (.eptr (.int .i64 z15) 0),some (.d (.int .i64 z15)),some (.d (.bool (z14 != z15)))] ?_
  refine ⟨[0,1,2,3,4,5,6,7,8],by kernel_rfl,?_,_,rfl,?_⟩
  ·
   refine .v rfl rfl rfl rfl (ah rfl) ?_
   refine .v rfl rfl rfl rfl (ah rfl) ?_
   refine .v rfl rfl rfl rfl (bE rfl rfl (bY (enc:=(D.int .i64)) hzz14 kV xC (((fun _=>rfl) _).trans pI.symm))) ?_
   refine .v rfl rfl rfl rfl (aU rfl (dL jl rfl)) ?_
   refine .v rfl rfl rfl rfl (ah rfl) ?_
   refine .v rfl rfl rfl rfl (ah rfl) ?_
   refine .v rfl rfl rfl rfl (bE rfl rfl (bY (enc:=(D.int .i64)) hzz15 kV xC (((fun _=>rfl) _).trans pI.symm))) ?_
   refine .v rfl rfl rfl rfl (aU rfl (dL jl rfl)) ?_
   refine .v rfl rfl rfl rfl (ay rfl rfl fH) ?_
   exact .nil
  refine ax.cond rfl (fun hb16=>?_) (fun hb16=>?_)
  ·
   replace h:=cB hb16 h
   refine ax.seq ?_
   refine ax.region E.obj rfl ?_
   refine ae.val rfl (aj rfl) rfl ?_
   refine ae.nil ?_
   have hr:=Option.some.inj h
   subst hr
   exact ax.ret ⟨_,rfl,rfl,dY (aD.eq .nil)⟩
  replace h:=cK hb16 h
  refine ax.skip ?_
  refine ax.region E.obj rfl ?_
  refine ae.val rfl (ah rfl) rfl ?_
  refine ae.val rfl (ay rfl rfl bI) rfl ?_
  refine ae.val rfl (aj rfl) rfl ?_
  refine ae.nil ?_
  exact ⟨(IntKind.wrap .i64 (x11 + 1)),_,_,S9,.refl _ _,.refl _,(aa.r rfl (aa.r rfl (aa.r rfl aa.nil))),H10.sl [] rfl rfl,h⟩
 replace h:=cK hb13 h
 refine ax.exit ?_
 refine ax.seq ?_
 refine ax.region E.obj rfl ?_
 refine ae.val rfl (aj rfl) rfl ?_
 refine ae.nil ?_
 have hr:=Option.some.inj h
 subst hr
 exact ax.ret ⟨_,rfl,rfl,dY (aD.eq .nil)⟩
set_option maxRecDepth 20000 in
set_option maxHeartbeats 4000000 in
theorem qf (n:Nat) (a1:(List On)) (a2:(List On)) (r:Bool) (h:gW n a1 a2=some r):bN R cfg.P 30 [(.sl ((a1).map eu) false),(.sl ((a2).map eu) false)] (.d (.bool r)):=by
 unfold gW at h
 refine bN.of_wp E.obj.toObjOk (C:=cfg) Tryd.func30 rfl Oo rfl ?_
 have H0:Has aF aF []:=Has.pure
 refine ax.seq ?_
 refine ax.region E.obj rfl ?_
 refine ae.val rfl (aj rfl) rfl ?_
 refine ae.nil ?_
 refine ax.seq ?_
 refine ax.seq ?_
 refine ax.region E.obj rfl ?_
 refine ae.val rfl (ah rfl) rfl ?_
 refine ae.val rfl (aS rfl Kw) rfl ?_
 refine ae.val rfl (ah rfl) rfl ?_
 refine ae.val rfl (aS rfl Kw) rfl ?_
 refine ae.val rfl (ay rfl rfl fH) rfl ?_
 refine ae.nil ?_
 refine ax.cond rfl (fun hb3=>?_) (fun hb3=>?_)
 ·
  replace h:=cB hb3 h
  refine ax.seq ?_
  refine ax.region E.obj rfl ?_
  refine ae.val rfl (aj rfl) rfl ?_
  refine ae.nil ?_
  have hr:=Option.some.inj h
  subst hr
  exact ax.ret ⟨_,rfl,rfl,dY (aD.eq .nil)⟩
 replace h:=cK hb3 h
 refine ax.skip ?_
 refine ax.seq ?_
 refine ax.seq ?_
 refine ax.region E.obj rfl ?_
 refine ae.val rfl (aj rfl) rfl ?_
 refine ae.nil ?_
 refine ax.block ?_
 refine nz.start (B:=aF) (α:=Int) (fun k a=>dh a1 a2 k a=some r) (fun a=>[(0,(.d (.sl ((a1).map eu) false))),(1,(.d (.sl ((a2).map eu) false))),(5,(.d (.int .i64 a)))]) (fun a=>[]) ?_ ?_ n ⟨0,_,_,aF,.refl _ _,.refl _,(aa.r rfl (aa.r rfl (aa.r rfl aa.nil))),H0.sl [] rfl rfl,h⟩
 ·
  intro a h; simp [dh] at h
 intro k12 x11 S9 H10 h
 replace h:dh a1 a2 (k12 + 1) x11=some r:=h
 replace H10:Has aF S9 []:=H10
 unfold dh at h
 refine ax.seq ?_
 refine ax.seq ?_
 refine ax.region E.obj rfl ?_
 refine ae.val rfl (ah rfl) rfl ?_
 refine ae.val rfl (ah rfl) rfl ?_
 refine ae.val rfl (aS rfl Kw) rfl ?_
 refine ae.val rfl (ay rfl rfl bG) rfl ?_
 refine ae.nil ?_
 refine ax.cond rfl (fun hb13=>?_) (fun hb13=>?_)
 ·
  replace h:=cB hb13 h
  refine ax.skip ?_
  refine ax.seq ?_
  refine ax.block ?_
  refine ax.seq ?_
  obtain ⟨z14,hzz14,h⟩:=bind_some h
  obtain ⟨z15,hzz15,h⟩:=bind_some h
  refine ax.qi E.obj pM KS [(0,none),(1,none),(5,none),(25,some 8)] (by kernel_rfl) [] (by decide) [some (.d (.sl ((a1).map eu) false)),some (.d (.int .i64 x11)),some (.eptr (eu z14) 0),some (.d (eu z14)),some (.d (.sl ((a2).map eu) false)),some (.d (.int .i64 x11)),some (.eptr (eu z15) 0),some (.d (eu z15)),some (.d (.bool (!(On.beq z14 z15))))] ?_
  refine ⟨[0,1,2,3,4,5,6,7,8],by kernel_rfl,?_,_,rfl,?_⟩
  ·
   refine .v rfl rfl rfl rfl (ah rfl) ?_
   refine .v rfl rfl rfl rfl (ah rfl) ?_
   refine .v rfl rfl rfl rfl (bE rfl rfl (bY (enc:=eu) hzz14 D9 Lv ((On.len _).trans xU.symm))) ?_
   refine .v rfl rfl rfl rfl (aU rfl (On.gT Hz xU)) ?_
   refine .v rfl rfl rfl rfl (ah rfl) ?_
   refine .v rfl rfl rfl rfl (ah rfl) ?_
   refine .v rfl rfl rfl rfl (bE rfl rfl (bY (enc:=eu) hzz15 D9 Lv ((On.len _).trans xU.symm))) ?_
   refine .v rfl rfl rfl rfl (aU rfl (On.gT Hz xU)) ?_
   refine .v rfl rfl rfl rfl (ay rfl rfl (sP (On.eq _) (On.eq _) (ND _ _))) ?_
   exact .nil
  refine ax.cond rfl (fun hb16=>?_) (fun hb16=>?_)
  ·
   replace h:=cB hb16 h
   refine ax.seq ?_
   refine ax.region E.obj rfl ?_
   refine ae.val rfl (aj rfl) rfl ?_
   refine ae.nil ?_
   have hr:=Option.some.inj h
   subst hr
   exact ax.ret ⟨_,rfl,rfl,dY (aD.eq .nil)⟩
  replace h:=cK hb16 h
  refine ax.skip ?_
  refine ax.region E.obj rfl ?_
  refine ae.val rfl (ah rfl) rfl ?_
  refine ae.val rfl (ay rfl rfl bI) rfl ?_
  refine ae.val rfl (aj rfl) rfl ?_
  refine ae.nil ?_
  exact ⟨(IntKind.wrap .i64 (x11 + 1)),_,_,S9,.refl _ _,.refl _,(aa.r rfl (aa.r rfl (aa.r rfl aa.nil))),H10.sl [] rfl rfl,h⟩
 replace h:=cK hb13 h
 refine ax.exit ?_
 refine ax.seq ?_
 refine ax.region E.obj rfl ?_
 refine ae.val rfl (aj rfl) rfl ?_
 refine ae.nil ?_
 have hr:=Option.some.inj h
 subst hr
 exact ax.ret ⟨_,rfl,rfl,dY (aD.eq .nil)⟩
set_option maxRecDepth 20000 in
set_option maxHeartbeats 4000000 in
theorem uT (n:Nat) (a1:dK) (a2:dK) (r:Bool) (h:jU n a1 a2=some r):bN R cfg.P 10 [(iW a1),(iW a2)] (.d (.bool r)):=by
 unfold jU at h
 refine bN.of_wp E.obj.toObjOk (C:=cfg) Tryd.func10 rfl Qa rfl ?_
 have H0:Has aF aF []:=Has.pure
 refine ax.seq ?_
 refine ax.region E.obj rfl ?_
 refine ae.box H0 rfl rfl rfl (dK.bf _) rfl (fun b3 S4 H5=>?_)
 refine ae.box H5 rfl rfl rfl (dK.bf _) rfl (fun b6 S7 H8=>?_)
 refine ae.val rfl (aj rfl) rfl ?_
 refine ae.nil ?_
 refine ax.seq ?_
 refine ax.seq ?_
 refine ax.region E.obj rfl ?_
 refine ae.val rfl (ai rfl iZ oO rfl) rfl ?_
 refine ae.val rfl (av H8 (i:=1) rfl rfl (aA pK rfl)) rfl ?_
 refine ae.val rfl (aS rfl sD) rfl ?_
 refine ae.val rfl (ai rfl iZ oO rfl) rfl ?_
 refine ae.val rfl (av H8 (i:=0) rfl rfl (aA pK rfl)) rfl ?_
 refine ae.val rfl (aS rfl sD) rfl ?_
 refine ae.val rfl (ay rfl rfl fH) rfl ?_
 refine ae.val rfl (ah rfl) rfl ?_
 refine ae.bC 8 26 (.d (.bool ((((a1.Records).length:Int) != ((a2.Records).length:Int)) || (((a1.Comps).length:Int) != ((a2.Comps).length:Int))))) ?_ ?_
 ·
  rcases Bool.eq_false_or_eq_true ((((a1.Records).length:Int) != ((a2.Records).length:Int))) with hB9 | hB9
  ·
   refine ae.bool hB9 ?_
   refine ae.no rfl rfl ?_
   refine ae.no rfl rfl ?_
   refine ae.no rfl rfl ?_
   refine ae.no rfl rfl ?_
   refine ae.no rfl rfl ?_
   refine ae.no rfl rfl ?_
   refine ae.no rfl rfl ?_
   refine ae.val rfl (az (b:=true) rfl rfl) rfl ?_
   exact ae.nil ⟨_,rfl,(aa.put (aa.push rfl (aa.push rfl (aa.push rfl (aa.push rfl (aa.push rfl (aa.push rfl (aa.push rfl (aa.put (.refl _) (Less.eq (by rw [hB9])))))))))) (Less.eq (by rw [hB9]; rw [Bool.true_or])))⟩
  refine ae.bool hB9 ?_
  refine ae.val rfl (ai rfl iG nD rfl) rfl ?_
  refine ae.val rfl (av H8 (i:=1) rfl rfl (aA pF rfl)) rfl ?_
  refine ae.val rfl (aS rfl yJ) rfl ?_
  refine ae.val rfl (ai rfl iG nD rfl) rfl ?_
  refine ae.val rfl (av H8 (i:=0) rfl rfl (aA pF rfl)) rfl ?_
  refine ae.val rfl (aS rfl yJ) rfl ?_
  refine ae.val rfl (ay rfl rfl fH) rfl ?_
  refine ae.val rfl (az (b:=false) rfl rfl) rfl ?_
  exact ae.nil ⟨_,rfl,(aa.put (aa.push rfl (aa.push rfl (aa.push rfl (aa.push rfl (aa.push rfl (aa.push rfl (aa.push rfl (aa.put (.refl _) (Less.eq (by rw [hB9])))))))))) (Less.eq (by rw [hB9]; rw [Bool.false_or])))⟩
 refine ae.val rfl (ah rfl) rfl ?_
 refine ae.bC 6 33 (.d (.bool (((((a1.Records).length:Int) != ((a2.Records).length:Int)) || (((a1.Comps).length:Int) != ((a2.Comps).length:Int))) || (a1.Cache != a2.Cache)))) ?_ ?_
 ·
  rcases Bool.eq_false_or_eq_true (((((a1.Records).length:Int) != ((a2.Records).length:Int)) || (((a1.Comps).length:Int) != ((a2.Comps).length:Int)))) with hB10 | hB10
  ·
   refine ae.bool hB10 ?_
   refine ae.no rfl rfl ?_
   refine ae.no rfl rfl ?_
   refine ae.no rfl rfl ?_
   refine ae.no rfl rfl ?_
   refine ae.no rfl rfl ?_
   refine ae.val rfl (az (b:=true) rfl rfl) rfl ?_
   exact ae.nil ⟨_,rfl,(aa.put (aa.push rfl (aa.push rfl (aa.push rfl (aa.push rfl (aa.push rfl (aa.put (.refl _) (Less.eq (by rw [hB10])))))))) (Less.eq (by rw [hB10]; rw [Bool.true_or])))⟩
  refine ae.bool hB10 ?_
  refine ae.val rfl (ai rfl xG kL rfl) rfl ?_
  refine ae.val rfl (av H8 (i:=1) rfl rfl (aA jl rfl)) rfl ?_
  refine ae.val rfl (ai rfl xG kL rfl) rfl ?_
  refine ae.val rfl (av H8 (i:=0) rfl rfl (aA jl rfl)) rfl ?_
  refine ae.val rfl (ay rfl rfl fH) rfl ?_
  refine ae.val rfl (az (b:=false) rfl rfl) rfl ?_
  exact ae.nil ⟨_,rfl,(aa.put (aa.push rfl (aa.push rfl (aa.push rfl (aa.push rfl (aa.push rfl (aa.put (.refl _) (Less.eq (by rw [hB10])))))))) (Less.eq (by rw [hB10]; rw [Bool.false_or])))⟩
 refine ae.nil ?_
 refine ax.cond rfl (fun hb11=>?_) (fun hb11=>?_)
 ·
  replace h:=cB hb11 h
  refine ax.seq ?_
  refine ax.region E.obj rfl ?_
  refine ae.val rfl (aj rfl) rfl ?_
  refine ae.nil ?_
  have hr:=Option.some.inj h
  subst hr
  exact ax.ret ⟨_,rfl,rfl,dY (aD.eq .nil)⟩
 replace h:=cK hb11 h
 refine ax.skip ?_
 refine ax.seq ?_
 refine ax.seq ?_
 refine ax.region E.obj rfl ?_
 refine ae.val rfl (ai rfl iZ oO rfl) rfl ?_
 refine ae.val rfl (av H8 (i:=1) rfl rfl (aA pK rfl)) rfl ?_
 refine ae.val rfl (aS rfl sD) rfl ?_
 refine ae.val rfl (ah rfl) rfl ?_
 refine ae.nil ?_
 refine ax.block ?_
 refine nz.start (B:=aF) (α:=Int) (fun k a=>eB n a1 a2 k a=some r) (fun a=>[(2,(.ptr b3 0 0)),(3,(.ptr b6 0 0)),(36,(.d (.int .i64 ((a1.Records).length:Int)))),(37,(.d (.int .i64 a)))]) (fun a=>[.box b6 [(.d (.sl ((a2.Records).map aB) false)),(.d (.sl ((a2.Comps).map aI) false)),(.d (.int .i64 a2.Cache))],.box b3 [(.d (.sl ((a1.Records).map aB) false)),(.d (.sl ((a1.Comps).map aI) false)),(.d (.int .i64 a1.Cache))]]) ?_ ?_ n ⟨0,_,_,S7,.refl _ _,.refl _,(aa.r rfl (aa.r rfl (aa.r rfl (aa.r rfl aa.nil)))),H8.sl [0,1] rfl rfl,h⟩
 ·
  intro a h; simp [eB] at h
 intro k20 x19 S17 H18 h
 replace h:eB n a1 a2 (k20 + 1) x19=some r:=h
 replace H18:Has aF S17 [.box b6 [(.d (.sl ((a2.Records).map aB) false)),(.d (.sl ((a2.Comps).map aI) false)),(.d (.int .i64 a2.Cache))],.box b3 [(.d (.sl ((a1.Records).map aB) false)),(.d (.sl ((a1.Comps).map aI) false)),(.d (.int .i64 a1.Cache))]]:=H18
 unfold eB at h
 refine ax.seq ?_
 refine ax.region E.obj rfl ?_
 refine ae.val rfl (ay rfl rfl bG) rfl ?_
 refine ae.nil ?_
 refine ax.seq ?_
 refine ax.cond rfl (fun hb21=>?_) (fun hb21=>?_)
 ·
  replace h:=cB hb21 h
  refine ax.skip ?_
  refine ax.seq ?_
  refine ax.block ?_
  refine ax.seq ?_
  refine ax.region E.obj rfl ?_
  refine ae.val rfl (ah rfl) rfl ?_
  refine ae.val rfl (aj rfl) rfl ?_
  refine ae.nil ?_
  refine ax.seq ?_
  obtain ⟨z23,hzz23,h⟩:=bind_some h
  obtain ⟨z24,hzz24,h⟩:=bind_some h
  have hT22:∀ x ∈ ([]:List Fact),x.ok R cfg.P:=Bv
  have hpT22:=LF hT22 rfl
  refine ax.J7 E.obj pM hT22 (by kernel_rfl) [b3,b6] [0,1,0,0,1,0,1,0,0,1,3,3,4,4] 10 11 [0,1,2,3,4,5,6,7,8,9,10,11,12,13] [0,1,2,3,4,5,6,7,8,9,11,10,12,13] (by kernel_rfl) (fun e S=>∃ b25 b28,aa [(2,(.ptr b3 0 0)),(3,(.ptr b6 0 0)),(5,(.d (.int .i64 x19))),(6,(.ptr b25 0 0)),(7,(.ptr b28 0 0)),(36,(.d (.int .i64 ((a1.Records).length:Int)))),(37,(.d (.int .i64 x19))),(38,(.d (.bool (decide (x19 < ((a1.Records).length:Int)))))),(39,(.d (.int .i64 x19))),(40,(.ptr b3 0 0)),(41,(.d (.sl ((a1.Records).map aB) false))),(42,(.d (.int .i64 x19))),(43,(.eptr (aB z23) 0)),(44,(.d (aB z23))),(45,(.ptr b6 0 0)),(46,(.d (.sl ((a2.Records).map aB) false))),(47,(.d (.int .i64 x19))),(48,(.eptr (aB z24) 0)),(49,(.d (aB z24)))] e∧Has aF S [.box b28 [(.d (.str z24.Name)),(.d (.int .i64 z24.Parent)),(.d (.sl ((z24.dX).map bB) false)),(.d (.int .i64 z24.aJ)),(.d (.bool z24.fT)),(.d (.int .i64 z24.aH.Kind)),(.d (.int .i64 z24.aH.Flag)),(.d (.str z24.aH.To))],.box b25 [(.d (.str z23.Name)),(.d (.int .i64 z23.Parent)),(.d (.sl ((z23.dX).map bB) false)),(.d (.int .i64 z23.aJ)),(.d (.bool z23.fT)),(.d (.int .i64 z23.aH.Kind)),(.d (.int .i64 z23.aH.Flag)),(.d (.str z23.aH.To))],.box b6 [(.d (.sl ((a2.Records).map aB) false)),(.d (.sl ((a2.Comps).map aI) false)),(.d (.int .i64 a2.Cache))],.box b3 [(.d (.sl ((a1.Records).map aB) false)),(.d (.sl ((a1.Comps).map aI) false)),(.d (.int .i64 a1.Cache))]]) ?_ ?_ ?_
  ·
   refine kH.val hpT22 rfl rfl rfl (ai rfl iZ oO rfl) rfl ?_
   refine kH.read rfl rfl (oZ (L:=[b3]) rfl (by simp)) rfl (av H18 (i:=1) rfl rfl (aA pK rfl)) rfl ?_
   refine kH.val hpT22 rfl rfl rfl (ah rfl) rfl ?_
   refine kH.val hpT22 rfl rfl rfl (bE rfl rfl (bY (enc:=aB) hzz23 oK lY ((ak.len _).trans jm.symm))) rfl ?_
   refine kH.read rfl rfl (oZ (L:=[]) rfl (by simp)) rfl (aU rfl (ak.gT yQ jm)) rfl ?_
   refine kH.val hpT22 rfl rfl rfl (ai rfl iZ oO rfl) rfl ?_
   refine kH.read rfl rfl (oZ (L:=[b6]) rfl (by simp)) rfl (av H18 (i:=0) rfl rfl (aA pK rfl)) rfl ?_
   refine kH.val hpT22 rfl rfl rfl (ah rfl) rfl ?_
   refine kH.val hpT22 rfl rfl rfl (bE rfl rfl (bY (enc:=aB) hzz24 oK lY ((ak.len _).trans jm.symm))) rfl ?_
   refine kH.read rfl rfl (oZ (L:=[]) rfl (by simp)) rfl (aU rfl (ak.gT yQ jm)) rfl ?_
   refine kH.alloc H18 rfl rfl HZ tu rfl rfl (fun b25 S26 H27=>?_)
   refine kH.alloc H27 rfl rfl HZ tu rfl rfl (fun b28 S29 H30=>?_)
   refine kH.uo H30 (by
     intro z hz
     simp only [List.mem_cons,List.not_mem_nil,or_false] at hz
     rcases hz with rfl | rfl
     ·
      exact H30.pE (i:=3) (j:=1) (by decide) rfl rfl
     ·
      exact H30.pE (i:=2) (j:=1) (by decide) rfl rfl) (j:=1) rfl rfl rfl rfl rfl (ak.bf _) rfl jm rfl lY rfl rfl rfl (fun S31 H32=>?_)
   refine kH.uo H32 (by
     intro z hz
     simp only [List.mem_cons,List.not_mem_nil,or_false] at hz
     rcases hz with rfl | rfl
     ·
      exact H32.pE (i:=3) (j:=0) (by decide) rfl rfl
     ·
      exact H32.pE (i:=2) (j:=0) (by decide) rfl rfl) (j:=0) rfl rfl rfl rfl rfl (ak.bf _) rfl jm rfl lY rfl rfl rfl (fun S33 H34=>?_)
   exact ⟨b25,b28,(aa.r rfl (aa.r rfl (aa.r rfl (aa.r rfl (aa.r rfl (aa.r rfl (aa.r rfl (aa.r rfl (aa.r rfl (aa.r rfl (aa.r rfl (aa.r rfl (aa.r rfl (aa.r rfl (aa.r rfl (aa.r rfl (aa.r rfl (aa.r rfl (aa.r rfl aa.nil))))))))))))))))))),H34⟩
  ·
   refine kH.val hpT22 rfl rfl rfl (ai rfl iZ oO rfl) rfl ?_
   refine kH.read rfl rfl (oZ (L:=[b3]) rfl (by simp)) rfl (av H18 (i:=1) rfl rfl (aA pK rfl)) rfl ?_
   refine kH.val hpT22 rfl rfl rfl (ah rfl) rfl ?_
   refine kH.val hpT22 rfl rfl rfl (bE rfl rfl (bY (enc:=aB) hzz23 oK lY ((ak.len _).trans jm.symm))) rfl ?_
   refine kH.read rfl rfl (oZ (L:=[]) rfl (by simp)) rfl (aU rfl (ak.gT yQ jm)) rfl ?_
   refine kH.val hpT22 rfl rfl rfl (ai rfl iZ oO rfl) rfl ?_
   refine kH.read rfl rfl (oZ (L:=[b6]) rfl (by simp)) rfl (av H18 (i:=0) rfl rfl (aA pK rfl)) rfl ?_
   refine kH.val hpT22 rfl rfl rfl (ah rfl) rfl ?_
   refine kH.val hpT22 rfl rfl rfl (bE rfl rfl (bY (enc:=aB) hzz24 oK lY ((ak.len _).trans jm.symm))) rfl ?_
   refine kH.read rfl rfl (oZ (L:=[]) rfl (by simp)) rfl (aU rfl (ak.gT yQ jm)) rfl ?_
   refine kH.alloc H18 rfl rfl HZ tu rfl rfl (fun b28 S26 H35=>?_)
   refine kH.alloc H35 rfl rfl HZ tu rfl rfl (fun b25 S29 H36=>?_)
   have H27:Has aF S29 [.box b25 [(.d (.str [])),(.d (.int .i64 0)),(.d .aO),(.d (.int .i64 0)),(.d (.bool false)),(.d (.int .i64 0)),(.d (.int .i64 0)),(.d (.str []))],.box b6 [(.d (.sl ((a2.Records).map aB) false)),(.d (.sl ((a2.Comps).map aI) false)),(.d (.int .i64 a2.Cache))],.box b3 [(.d (.sl ((a1.Records).map aB) false)),(.d (.sl ((a1.Comps).map aI) false)),(.d (.int .i64 a1.Cache))]]:=H36.sl [0,2,3] rfl rfl
   have H30:Has aF S29 [.box b28 [(.d (.str [])),(.d (.int .i64 0)),(.d .aO),(.d (.int .i64 0)),(.d (.bool false)),(.d (.int .i64 0)),(.d (.int .i64 0)),(.d (.str []))],.box b25 [(.d (.str [])),(.d (.int .i64 0)),(.d .aO),(.d (.int .i64 0)),(.d (.bool false)),(.d (.int .i64 0)),(.d (.int .i64 0)),(.d (.str []))],.box b6 [(.d (.sl ((a2.Records).map aB) false)),(.d (.sl ((a2.Comps).map aI) false)),(.d (.int .i64 a2.Cache))],.box b3 [(.d (.sl ((a1.Records).map aB) false)),(.d (.sl ((a1.Comps).map aI) false)),(.d (.int .i64 a1.Cache))]]:=H36.sl [1,0,2,3] rfl rfl
   refine kH.uo H30 (by
     intro z hz
     simp only [List.mem_cons,List.not_mem_nil,or_false] at hz
     rcases hz with rfl | rfl
     ·
      exact H30.pE (i:=3) (j:=1) (by decide) rfl rfl
     ·
      exact H30.pE (i:=2) (j:=1) (by decide) rfl rfl) (j:=1) rfl rfl rfl rfl rfl (ak.bf _) rfl jm rfl lY rfl rfl rfl (fun S31 H32=>?_)
   refine kH.uo H32 (by
     intro z hz
     simp only [List.mem_cons,List.not_mem_nil,or_false] at hz
     rcases hz with rfl | rfl
     ·
      exact H32.pE (i:=3) (j:=0) (by decide) rfl rfl
     ·
      exact H32.pE (i:=2) (j:=0) (by decide) rfl rfl) (j:=0) rfl rfl rfl rfl rfl (ak.bf _) rfl jm rfl lY rfl rfl rfl (fun S33 H34=>?_)
   exact ⟨b25,b28,(aa.r rfl (aa.r rfl (aa.r rfl (aa.r rfl (aa.r rfl (aa.r rfl (aa.r rfl (aa.r rfl (aa.r rfl (aa.r rfl (aa.r rfl (aa.r rfl (aa.r rfl (aa.r rfl (aa.r rfl (aa.r rfl (aa.r rfl (aa.r rfl (aa.r rfl aa.nil))))))))))))))))))),H34⟩
  rintro e37 S38 ⟨b25,b28,hw39,H40⟩
  refine ax.weak hw39 ?_
  refine ax.seq ?_
  refine ax.region E.obj rfl ?_
  refine ae.val rfl (ai rfl uf yO rfl) rfl ?_
  refine ae.val rfl (av H40 (i:=1) rfl rfl (aA u6 rfl)) rfl ?_
  refine ae.val rfl (ai rfl uf yO rfl) rfl ?_
  refine ae.val rfl (av H40 (i:=0) rfl rfl (aA u6 rfl)) rfl ?_
  refine ae.val rfl (ay rfl rfl rU) rfl ?_
  refine ae.val rfl (ah rfl) rfl ?_
  refine ae.bC 6 61 (.d (.bool ((!(z23.Name == z24.Name)) || (z23.Parent != z24.Parent)))) ?_ ?_
  ·
   rcases Bool.eq_false_or_eq_true ((!(z23.Name == z24.Name))) with hB42 | hB42
   ·
    refine ae.bool hB42 ?_
    refine ae.no rfl rfl ?_
    refine ae.no rfl rfl ?_
    refine ae.no rfl rfl ?_
    refine ae.no rfl rfl ?_
    refine ae.no rfl rfl ?_
    refine ae.val rfl (az (b:=true) rfl rfl) rfl ?_
    exact ae.nil ⟨_,rfl,(aa.put (aa.push rfl (aa.push rfl (aa.push rfl (aa.push rfl (aa.push rfl (aa.put (.refl _) (Less.eq (by rw [hB42])))))))) (Less.eq (by rw [hB42]; rw [Bool.true_or])))⟩
   refine ae.bool hB42 ?_
   refine ae.val rfl (ai rfl sQ kL rfl) rfl ?_
   refine ae.val rfl (av H40 (i:=1) rfl rfl (aA jl rfl)) rfl ?_
   refine ae.val rfl (ai rfl sQ kL rfl) rfl ?_
   refine ae.val rfl (av H40 (i:=0) rfl rfl (aA jl rfl)) rfl ?_
   refine ae.val rfl (ay rfl rfl fH) rfl ?_
   refine ae.val rfl (az (b:=false) rfl rfl) rfl ?_
   exact ae.nil ⟨_,rfl,(aa.put (aa.push rfl (aa.push rfl (aa.push rfl (aa.push rfl (aa.push rfl (aa.put (.refl _) (Less.eq (by rw [hB42])))))))) (Less.eq (by rw [hB42]; rw [Bool.false_or])))⟩
  refine ae.val rfl (ah rfl) rfl ?_
  obtain ⟨z44,hzz44,h⟩:=bind_some h
  refine ae.bC 7 69 (.d (.bool z44)) ?_ ?_
  ·
   rcases Bool.eq_false_or_eq_true (((!(z23.Name == z24.Name)) || (z23.Parent != z24.Parent))) with hB43 | hB43
   ·
    refine ae.bool hB43 ?_
    refine ae.no rfl rfl ?_
    refine ae.no rfl rfl ?_
    refine ae.no rfl rfl ?_
    refine ae.no rfl rfl ?_
    refine ae.no rfl rfl ?_
    refine ae.no rfl rfl ?_
    refine ae.val rfl (az (b:=true) rfl rfl) rfl ?_
    replace hzz44:=cB hB43 hzz44
    cases hzz44
    exact ae.nil ⟨_,rfl,(aa.put (aa.push rfl (aa.push rfl (aa.push rfl (aa.push rfl (aa.push rfl (aa.push rfl (aa.put (.refl _) (Less.eq (by rw [hB43]))))))))) (.refl _))⟩
   refine ae.bool hB43 ?_
   replace hzz44:=cK hB43 hzz44
   refine ae.val rfl (ai rfl xk Ia rfl) rfl ?_
   refine ae.val rfl (av H40 (i:=1) rfl rfl (aA Jt rfl)) rfl ?_
   refine ae.val rfl (ai rfl xk Ia rfl) rfl ?_
   refine ae.val rfl (av H40 (i:=0) rfl rfl (aA Jt rfl)) rfl ?_
   obtain ⟨z45,hzz45,hzz44⟩:=bind_some hzz44
   refine ae.ret rfl (aC rfl rfl) (pU E _ _ _ _ hzz45 _ _ (aD.eq (aD.eq .nil))) rfl ?_
   refine ae.val rfl (eZ rfl) rfl ?_
   refine ae.val rfl (az (b:=false) rfl rfl) rfl ?_
   cases hzz44
   exact ae.nil ⟨_,rfl,(aa.put (aa.push rfl (aa.push rfl (aa.push rfl (aa.push rfl (aa.push rfl (aa.push rfl (aa.put (.refl _) (Less.eq (by rw [hB43]))))))))) (.refl _))⟩
  refine ae.val rfl (ah rfl) rfl ?_
  refine ae.bC 6 76 (.d (.bool (z44 || (z23.aJ != z24.aJ)))) ?_ ?_
  ·
   rcases Bool.eq_false_or_eq_true (z44) with hB46 | hB46
   ·
    refine ae.bool hB46 ?_
    refine ae.no rfl rfl ?_
    refine ae.no rfl rfl ?_
    refine ae.no rfl rfl ?_
    refine ae.no rfl rfl ?_
    refine ae.no rfl rfl ?_
    refine ae.val rfl (az (b:=true) rfl rfl) rfl ?_
    exact ae.nil ⟨_,rfl,(aa.put (aa.push rfl (aa.push rfl (aa.push rfl (aa.push rfl (aa.push rfl (aa.put (.refl _) (Less.eq (by rw [hB46])))))))) (Less.eq (by rw [hB46]; rw [Bool.true_or])))⟩
   refine ae.bool hB46 ?_
   refine ae.val rfl (ai rfl oN kL rfl) rfl ?_
   refine ae.val rfl (av H40 (i:=1) rfl rfl (aA jl rfl)) rfl ?_
   refine ae.val rfl (ai rfl oN kL rfl) rfl ?_
   refine ae.val rfl (av H40 (i:=0) rfl rfl (aA jl rfl)) rfl ?_
   refine ae.val rfl (ay rfl rfl fH) rfl ?_
   refine ae.val rfl (az (b:=false) rfl rfl) rfl ?_
   exact ae.nil ⟨_,rfl,(aa.put (aa.push rfl (aa.push rfl (aa.push rfl (aa.push rfl (aa.push rfl (aa.put (.refl _) (Less.eq (by rw [hB46])))))))) (Less.eq (by rw [hB46]; rw [Bool.false_or])))⟩
  refine ae.val rfl (ah rfl) rfl ?_
  refine ae.bC 6 83 (.d (.bool ((z44 || (z23.aJ != z24.aJ)) || (!(z23.fT == z24.fT))))) ?_ ?_
  ·
   rcases Bool.eq_false_or_eq_true ((z44 || (z23.aJ != z24.aJ))) with hB47 | hB47
   ·
    refine ae.bool hB47 ?_
    refine ae.no rfl rfl ?_
    refine ae.no rfl rfl ?_
    refine ae.no rfl rfl ?_
    refine ae.no rfl rfl ?_
    refine ae.no rfl rfl ?_
    refine ae.val rfl (az (b:=true) rfl rfl) rfl ?_
    exact ae.nil ⟨_,rfl,(aa.put (aa.push rfl (aa.push rfl (aa.push rfl (aa.push rfl (aa.push rfl (aa.put (.refl _) (Less.eq (by rw [hB47])))))))) (Less.eq (by rw [hB47]; rw [Bool.true_or])))⟩
   refine ae.bool hB47 ?_
   refine ae.val rfl (ai rfl Gn LV rfl) rfl ?_
   refine ae.val rfl (av H40 (i:=1) rfl rfl (aA Oa rfl)) rfl ?_
   refine ae.val rfl (ai rfl Gn LV rfl) rfl ?_
   refine ae.val rfl (av H40 (i:=0) rfl rfl (aA Oa rfl)) rfl ?_
   refine ae.val rfl (ay rfl rfl (CE Qg)) rfl ?_
   refine ae.val rfl (az (b:=false) rfl rfl) rfl ?_
   exact ae.nil ⟨_,rfl,(aa.put (aa.push rfl (aa.push rfl (aa.push rfl (aa.push rfl (aa.push rfl (aa.put (.refl _) (Less.eq (by rw [hB47])))))))) (Less.eq (by rw [hB47]; rw [Bool.false_or])))⟩
  refine ae.val rfl (ah rfl) rfl ?_
  refine ae.bC 6 90 (.d (.bool (((z44 || (z23.aJ != z24.aJ)) || (!(z23.fT == z24.fT))) || (!(aH.beq z23.aH z24.aH))))) ?_ ?_
  ·
   rcases Bool.eq_false_or_eq_true (((z44 || (z23.aJ != z24.aJ)) || (!(z23.fT == z24.fT)))) with hB48 | hB48
   ·
    refine ae.bool hB48 ?_
    refine ae.no rfl rfl ?_
    refine ae.no rfl rfl ?_
    refine ae.no rfl rfl ?_
    refine ae.no rfl rfl ?_
    refine ae.no rfl rfl ?_
    refine ae.val rfl (az (b:=true) rfl rfl) rfl ?_
    exact ae.nil ⟨_,rfl,(aa.put (aa.push rfl (aa.push rfl (aa.push rfl (aa.push rfl (aa.push rfl (aa.put (.refl _) (Less.eq (by rw [hB48])))))))) (Less.eq (by rw [hB48]; rw [Bool.true_or])))⟩
   refine ae.bool hB48 ?_
   refine ae.val rfl (ai rfl rA AU rfl) rfl ?_
   refine ae.val rfl (av H40 (i:=1) rfl rfl (aZ K6 FQ rfl)) rfl ?_
   refine ae.less (Less.agg' (d:=kS z23.aH) (au.eq rfl (au.eq rfl (au.eq rfl .nil))) ((aH.eq _).trans rfl)) ?_
   refine ae.val rfl (ai rfl rA AU rfl) rfl ?_
   refine ae.val rfl (av H40 (i:=0) rfl rfl (aZ K6 FQ rfl)) rfl ?_
   refine ae.less (Less.agg' (d:=kS z24.aH) (au.eq rfl (au.eq rfl (au.eq rfl .nil))) ((aH.eq _).trans rfl)) ?_
   refine ae.val rfl (ay rfl rfl (sP (aH.eq _) (aH.eq _) (NJ _ _))) rfl ?_
   refine ae.val rfl (az (b:=false) rfl rfl) rfl ?_
   exact ae.nil ⟨_,rfl,(aa.put (aa.push rfl (aa.push rfl (aa.push rfl (aa.push rfl (aa.push rfl (aa.put (.refl _) (Less.eq (by rw [hB48])))))))) (Less.eq (by rw [hB48]; rw [Bool.false_or])))⟩
  refine ae.nil ?_
  refine ax.cond rfl (fun hb49=>?_) (fun hb49=>?_)
  ·
   replace h:=cB hb49 h
   refine ax.seq ?_
   refine ax.region E.obj rfl ?_
   refine ae.val rfl (aj rfl) rfl ?_
   refine ae.nil ?_
   have hr:=Option.some.inj h
   subst hr
   exact ax.ret ⟨_,rfl,rfl,dY (aD.eq .nil)⟩
  replace h:=cK hb49 h
  refine ax.skip ?_
  refine ax.region E.obj rfl ?_
  refine ae.val rfl (ay rfl rfl bI) rfl ?_
  refine ae.val rfl (ah rfl) rfl ?_
  refine ae.nil ?_
  exact ⟨(IntKind.wrap .i64 (x19 + 1)),_,_,S38,.refl _ _,.refl _,(aa.r rfl (aa.r rfl (aa.r rfl (aa.r rfl aa.nil)))),H40.sl [2,3] rfl rfl,h⟩
 replace h:=cK hb21 h
 refine ax.exit ?_
 refine ax.seq ?_
 refine ax.seq ?_
 refine ax.region E.obj rfl ?_
 refine ae.val rfl (ai rfl iG nD rfl) rfl ?_
 refine ae.val rfl (av H18 (i:=1) rfl rfl (aA pF rfl)) rfl ?_
 refine ae.val rfl (aS rfl yJ) rfl ?_
 refine ae.val rfl (ah rfl) rfl ?_
 refine ae.nil ?_
 refine ax.block ?_
 refine nz.start (B:=aF) (α:=Int) (fun k a=>eG n a1 a2 k a=some r) (fun a=>[(2,(.ptr b3 0 0)),(3,(.ptr b6 0 0)),(94,(.d (.int .i64 ((a1.Comps).length:Int)))),(95,(.d (.int .i64 a)))]) (fun a=>[.box b6 [(.d (.sl ((a2.Records).map aB) false)),(.d (.sl ((a2.Comps).map aI) false)),(.d (.int .i64 a2.Cache))],.box b3 [(.d (.sl ((a1.Records).map aB) false)),(.d (.sl ((a1.Comps).map aI) false)),(.d (.int .i64 a1.Cache))]]) ?_ ?_ n ⟨0,_,_,S17,.refl _ _,.refl _,(aa.r rfl (aa.r rfl (aa.r rfl (aa.r rfl aa.nil)))),H18.sl [0,1] rfl rfl,h⟩
 ·
  intro a h; simp [eG] at h
 intro k58 x57 S55 H56 h
 replace h:eG n a1 a2 (k58 + 1) x57=some r:=h
 replace H56:Has aF S55 [.box b6 [(.d (.sl ((a2.Records).map aB) false)),(.d (.sl ((a2.Comps).map aI) false)),(.d (.int .i64 a2.Cache))],.box b3 [(.d (.sl ((a1.Records).map aB) false)),(.d (.sl ((a1.Comps).map aI) false)),(.d (.int .i64 a1.Cache))]]:=H56
 unfold eG at h
 refine ax.seq ?_
 refine ax.region E.obj rfl ?_
 refine ae.val rfl (ay rfl rfl bG) rfl ?_
 refine ae.nil ?_
 refine ax.seq ?_
 refine ax.cond rfl (fun hb59=>?_) (fun hb59=>?_)
 ·
  replace h:=cB hb59 h
  refine ax.skip ?_
  refine ax.seq ?_
  refine ax.block ?_
  refine ax.seq ?_
  refine ax.region E.obj rfl ?_
  refine ae.val rfl (ah rfl) rfl ?_
  refine ae.val rfl (aj rfl) rfl ?_
  refine ae.nil ?_
  refine ax.seq ?_
  obtain ⟨z61,hzz61,h⟩:=bind_some h
  obtain ⟨z62,hzz62,h⟩:=bind_some h
  have hT60:∀ x ∈ ([]:List Fact),x.ok R cfg.P:=Bv
  have hpT60:=LF hT60 rfl
  refine ax.J7 E.obj pM hT60 (by kernel_rfl) [b3,b6] [0,1,0,0,1,0,1,0,0,1,3,3,4,4] 10 11 [0,1,2,3,4,5,6,7,8,9,10,11,12,13] [0,1,2,3,4,5,6,7,8,9,11,10,12,13] (by kernel_rfl) (fun e S=>∃ b63 b66,aa [(2,(.ptr b3 0 0)),(3,(.ptr b6 0 0)),(8,(.d (.int .i64 x57))),(9,(.ptr b63 0 0)),(10,(.ptr b66 0 0)),(94,(.d (.int .i64 ((a1.Comps).length:Int)))),(95,(.d (.int .i64 x57))),(96,(.d (.bool (decide (x57 < ((a1.Comps).length:Int)))))),(97,(.d (.int .i64 x57))),(98,(.ptr b3 0 1)),(99,(.d (.sl ((a1.Comps).map aI) false))),(100,(.d (.int .i64 x57))),(101,(.eptr (aI z61) 0)),(102,(.d (aI z61))),(103,(.ptr b6 0 1)),(104,(.d (.sl ((a2.Comps).map aI) false))),(105,(.d (.int .i64 x57))),(106,(.eptr (aI z62) 0)),(107,(.d (aI z62)))] e∧Has aF S [.box b66 [(.d (.int .i64 z62.aK.Kind)),(.d (.int .i64 z62.aK.N)),(.d (.str z62.aK.Tag)),(.d (.str z62.aK.Text)),(.d (.sl ((z62.aK.bR).map aR) false)),(.d (.sl ((z62.aK.Kids).map aG) false)),(.d (.sl ((z62.Init).map (D.int .i64)) false)),(.d (.sl ((z62.On).map eu) false))],.box b63 [(.d (.int .i64 z61.aK.Kind)),(.d (.int .i64 z61.aK.N)),(.d (.str z61.aK.Tag)),(.d (.str z61.aK.Text)),(.d (.sl ((z61.aK.bR).map aR) false)),(.d (.sl ((z61.aK.Kids).map aG) false)),(.d (.sl ((z61.Init).map (D.int .i64)) false)),(.d (.sl ((z61.On).map eu) false))],.box b6 [(.d (.sl ((a2.Records).map aB) false)),(.d (.sl ((a2.Comps).map aI) false)),(.d (.int .i64 a2.Cache))],.box b3 [(.d (.sl ((a1.Records).map aB) false)),(.d (.sl ((a1.Comps).map aI) false)),(.d (.int .i64 a1.Cache))]]) ?_ ?_ ?_
  ·
   refine kH.val hpT60 rfl rfl rfl (ai rfl iG nD rfl) rfl ?_
   refine kH.read rfl rfl (oZ (L:=[b3]) rfl (by simp)) rfl (av H56 (i:=1) rfl rfl (aA pF rfl)) rfl ?_
   refine kH.val hpT60 rfl rfl rfl (ah rfl) rfl ?_
   refine kH.val hpT60 rfl rfl rfl (bE rfl rfl (bY (enc:=aI) hzz61 tJ qx ((aJ.len _).trans jS.symm))) rfl ?_
   refine kH.read rfl rfl (oZ (L:=[]) rfl (by simp)) rfl (aU rfl (aJ.gT wI jS)) rfl ?_
   refine kH.val hpT60 rfl rfl rfl (ai rfl iG nD rfl) rfl ?_
   refine kH.read rfl rfl (oZ (L:=[b6]) rfl (by simp)) rfl (av H56 (i:=0) rfl rfl (aA pF rfl)) rfl ?_
   refine kH.val hpT60 rfl rfl rfl (ah rfl) rfl ?_
   refine kH.val hpT60 rfl rfl rfl (bE rfl rfl (bY (enc:=aI) hzz62 tJ qx ((aJ.len _).trans jS.symm))) rfl ?_
   refine kH.read rfl rfl (oZ (L:=[]) rfl (by simp)) rfl (aU rfl (aJ.gT wI jS)) rfl ?_
   refine kH.alloc H56 rfl rfl FP tH rfl rfl (fun b63 S64 H65=>?_)
   refine kH.alloc H65 rfl rfl FP tH rfl rfl (fun b66 S67 H68=>?_)
   refine kH.uo H68 (by
     intro z hz
     simp only [List.mem_cons,List.not_mem_nil,or_false] at hz
     rcases hz with rfl | rfl
     ·
      exact H68.pE (i:=3) (j:=1) (by decide) rfl rfl
     ·
      exact H68.pE (i:=2) (j:=1) (by decide) rfl rfl) (j:=1) rfl rfl rfl rfl rfl (aJ.bf _) rfl jS rfl qx rfl rfl rfl (fun S69 H70=>?_)
   refine kH.uo H70 (by
     intro z hz
     simp only [List.mem_cons,List.not_mem_nil,or_false] at hz
     rcases hz with rfl | rfl
     ·
      exact H70.pE (i:=3) (j:=0) (by decide) rfl rfl
     ·
      exact H70.pE (i:=2) (j:=0) (by decide) rfl rfl) (j:=0) rfl rfl rfl rfl rfl (aJ.bf _) rfl jS rfl qx rfl rfl rfl (fun S71 H72=>?_)
   exact ⟨b63,b66,(aa.r rfl (aa.r rfl (aa.r rfl (aa.r rfl (aa.r rfl (aa.r rfl (aa.r rfl (aa.r rfl (aa.r rfl (aa.r rfl (aa.r rfl (aa.r rfl (aa.r rfl (aa.r rfl (aa.r rfl (aa.r rfl (aa.r rfl (aa.r rfl (aa.r rfl aa.nil))))))))))))))))))),H72⟩
  ·
   refine kH.val hpT60 rfl rfl rfl (ai rfl iG nD rfl) rfl ?_
   refine kH.read rfl rfl (oZ (L:=[b3]) rfl (by simp)) rfl (av H56 (i:=1) rfl rfl (aA pF rfl)) rfl ?_
   refine kH.val hpT60 rfl rfl rfl (ah rfl) rfl ?_
   refine kH.val hpT60 rfl rfl rfl (bE rfl rfl (bY (enc:=aI) hzz61 tJ qx ((aJ.len _).trans jS.symm))) rfl ?_
   refine kH.read rfl rfl (oZ (L:=[]) rfl (by simp)) rfl (aU rfl (aJ.gT wI jS)) rfl ?_
   refine kH.val hpT60 rfl rfl rfl (ai rfl iG nD rfl) rfl ?_
   refine kH.read rfl rfl (oZ (L:=[b6]) rfl (by simp)) rfl (av H56 (i:=0) rfl rfl (aA pF rfl)) rfl ?_
   refine kH.val hpT60 rfl rfl rfl (ah rfl) rfl ?_
   refine kH.val hpT60 rfl rfl rfl (bE rfl rfl (bY (enc:=aI) hzz62 tJ qx ((aJ.len _).trans jS.symm))) rfl ?_
   refine kH.read rfl rfl (oZ (L:=[]) rfl (by simp)) rfl (aU rfl (aJ.gT wI jS)) rfl ?_
   refine kH.alloc H56 rfl rfl FP tH rfl rfl (fun b66 S64 H73=>?_)
   refine kH.alloc H73 rfl rfl FP tH rfl rfl (fun b63 S67 H74=>?_)
   have H65:Has aF S67 [.box b63 [(.d (.int .i64 0)),(.d (.int .i64 0)),(.d (.str [])),(.d (.str [])),(.d .aO),(.d .aO),(.d .aO),(.d .aO)],.box b6 [(.d (.sl ((a2.Records).map aB) false)),(.d (.sl ((a2.Comps).map aI) false)),(.d (.int .i64 a2.Cache))],.box b3 [(.d (.sl ((a1.Records).map aB) false)),(.d (.sl ((a1.Comps).map aI) false)),(.d (.int .i64 a1.Cache))]]:=H74.sl [0,2,3] rfl rfl
   have H68:Has aF S67 [.box b66 [(.d (.int .i64 0)),(.d (.int .i64 0)),(.d (.str [])),(.d (.str [])),(.d .aO),(.d .aO),(.d .aO),(.d .aO)],.box b63 [(.d (.int .i64 0)),(.d (.int .i64 0)),(.d (.str [])),(.d (.str [])),(.d .aO),(.d .aO),(.d .aO),(.d .aO)],.box b6 [(.d (.sl ((a2.Records).map aB) false)),(.d (.sl ((a2.Comps).map aI) false)),(.d (.int .i64 a2.Cache))],.box b3 [(.d (.sl ((a1.Records).map aB) false)),(.d (.sl ((a1.Comps).map aI) false)),(.d (.int .i64 a1.Cache))]]:=H74.sl [1,0,2,3] rfl rfl
   refine kH.uo H68 (by
     intro z hz
     simp only [List.mem_cons,List.not_mem_nil,or_false] at hz
     rcases hz with rfl | rfl
     ·
      exact H68.pE (i:=3) (j:=1) (by decide) rfl rfl
     ·
      exact H68.pE (i:=2) (j:=1) (by decide) rfl rfl) (j:=1) rfl rfl rfl rfl rfl (aJ.bf _) rfl jS rfl qx rfl rfl rfl (fun S69 H70=>?_)
   refine kH.uo H70 (by
     intro z hz
     simp only [List.mem_cons,List.not_mem_nil,or_false] at hz
     rcases hz with rfl | rfl
     ·
      exact H70.pE (i:=3) (j:=0) (by decide) rfl rfl
     ·
      exact H70.pE (i:=2) (j:=0) (by decide) rfl rfl) (j:=0) rfl rfl rfl rfl rfl (aJ.bf _) rfl jS rfl qx rfl rfl rfl (fun S71 H72=>?_)
   exact ⟨b63,b66,(aa.r rfl (aa.r rfl (aa.r rfl (aa.r rfl (aa.r rfl (aa.r rfl (aa.r rfl (aa.r rfl (aa.r rfl (aa.r rfl (aa.r rfl (aa.r rfl (aa.r rfl (aa.r rfl (aa.r rfl (aa.r rfl (aa.r rfl (aa.r rfl (aa.r rfl aa.nil))))))))))))))))))),H72⟩
  rintro e75 S76 ⟨b63,b66,hw77,H78⟩
  refine ax.weak hw77 ?_
  refine ax.seq ?_
  refine ax.region E.obj rfl ?_
  refine ae.val rfl (ai rfl vM F7 rfl) rfl ?_
  refine ae.val rfl (av H78 (i:=1) rfl rfl (aZ jE eU rfl)) rfl ?_
  refine ae.less (Less.agg' (d:=aG z61.aK) (au.eq rfl (au.eq rfl (au.eq rfl (au.eq rfl (au.eq rfl (au.eq rfl .nil)))))) ((aK.eq _).trans rfl)) ?_
  refine ae.val rfl (ai rfl vM F7 rfl) rfl ?_
  refine ae.val rfl (av H78 (i:=0) rfl rfl (aZ jE eU rfl)) rfl ?_
  refine ae.less (Less.agg' (d:=aG z62.aK) (au.eq rfl (au.eq rfl (au.eq rfl (au.eq rfl (au.eq rfl (au.eq rfl .nil)))))) ((aK.eq _).trans rfl)) ?_
  obtain ⟨z80,hzz80,h⟩:=bind_some h
  refine ae.ret rfl (aC rfl rfl) (o9 E _ _ _ _ hzz80 _ _ (aD.eq (aD.eq .nil))) rfl ?_
  refine ae.val rfl (eZ rfl) rfl ?_
  refine ae.val rfl (ah rfl) rfl ?_
  obtain ⟨z82,hzz82,h⟩:=bind_some h
  refine ae.bC 7 121 (.d (.bool z82)) ?_ ?_
  ·
   rcases Bool.eq_false_or_eq_true ((!z80)) with hB81 | hB81
   ·
    refine ae.bool hB81 ?_
    refine ae.no rfl rfl ?_
    refine ae.no rfl rfl ?_
    refine ae.no rfl rfl ?_
    refine ae.no rfl rfl ?_
    refine ae.no rfl rfl ?_
    refine ae.no rfl rfl ?_
    refine ae.val rfl (az (b:=true) rfl rfl) rfl ?_
    replace hzz82:=cB hB81 hzz82
    cases hzz82
    exact ae.nil ⟨_,rfl,(aa.put (aa.push rfl (aa.push rfl (aa.push rfl (aa.push rfl (aa.push rfl (aa.push rfl (aa.put (.refl _) (Less.eq (by rw [hB81]))))))))) (.refl _))⟩
   refine ae.bool hB81 ?_
   replace hzz82:=cK hB81 hzz82
   refine ae.val rfl (ai rfl rF lV rfl) rfl ?_
   refine ae.val rfl (av H78 (i:=1) rfl rfl (aA mr rfl)) rfl ?_
   refine ae.val rfl (ai rfl rF lV rfl) rfl ?_
   refine ae.val rfl (av H78 (i:=0) rfl rfl (aA mr rfl)) rfl ?_
   obtain ⟨z83,hzz83,hzz82⟩:=bind_some hzz82
   refine ae.ret rfl (aC rfl rfl) (rM E _ _ _ _ hzz83 _ _ (aD.eq (aD.eq .nil))) rfl ?_
   refine ae.val rfl (eZ rfl) rfl ?_
   refine ae.val rfl (az (b:=false) rfl rfl) rfl ?_
   cases hzz82
   exact ae.nil ⟨_,rfl,(aa.put (aa.push rfl (aa.push rfl (aa.push rfl (aa.push rfl (aa.push rfl (aa.push rfl (aa.put (.refl _) (Less.eq (by rw [hB81]))))))))) (.refl _))⟩
  refine ae.val rfl (ah rfl) rfl ?_
  obtain ⟨z85,hzz85,h⟩:=bind_some h
  refine ae.bC 7 129 (.d (.bool z85)) ?_ ?_
  ·
   rcases Bool.eq_false_or_eq_true (z82) with hB84 | hB84
   ·
    refine ae.bool hB84 ?_
    refine ae.no rfl rfl ?_
    refine ae.no rfl rfl ?_
    refine ae.no rfl rfl ?_
    refine ae.no rfl rfl ?_
    refine ae.no rfl rfl ?_
    refine ae.no rfl rfl ?_
    refine ae.val rfl (az (b:=true) rfl rfl) rfl ?_
    replace hzz85:=cB hB84 hzz85
    cases hzz85
    exact ae.nil ⟨_,rfl,(aa.put (aa.push rfl (aa.push rfl (aa.push rfl (aa.push rfl (aa.push rfl (aa.push rfl (aa.put (.refl _) (Less.eq (by rw [hB84]))))))))) (.refl _))⟩
   refine ae.bool hB84 ?_
   replace hzz85:=cK hB84 hzz85
   refine ae.val rfl (ai rfl vS Gp rfl) rfl ?_
   refine ae.val rfl (av H78 (i:=1) rfl rfl (aA IU rfl)) rfl ?_
   refine ae.val rfl (ai rfl vS Gp rfl) rfl ?_
   refine ae.val rfl (av H78 (i:=0) rfl rfl (aA IU rfl)) rfl ?_
   obtain ⟨z86,hzz86,hzz85⟩:=bind_some hzz85
   refine ae.ret rfl (aC rfl rfl) (qf E _ _ _ _ hzz86 _ _ (aD.eq (aD.eq .nil))) rfl ?_
   refine ae.val rfl (eZ rfl) rfl ?_
   refine ae.val rfl (az (b:=false) rfl rfl) rfl ?_
   cases hzz85
   exact ae.nil ⟨_,rfl,(aa.put (aa.push rfl (aa.push rfl (aa.push rfl (aa.push rfl (aa.push rfl (aa.push rfl (aa.put (.refl _) (Less.eq (by rw [hB84]))))))))) (.refl _))⟩
  refine ae.nil ?_
  refine ax.cond rfl (fun hb87=>?_) (fun hb87=>?_)
  ·
   replace h:=cB hb87 h
   refine ax.seq ?_
   refine ax.region E.obj rfl ?_
   refine ae.val rfl (aj rfl) rfl ?_
   refine ae.nil ?_
   have hr:=Option.some.inj h
   subst hr
   exact ax.ret ⟨_,rfl,rfl,dY (aD.eq .nil)⟩
  replace h:=cK hb87 h
  refine ax.skip ?_
  refine ax.region E.obj rfl ?_
  refine ae.val rfl (ay rfl rfl bI) rfl ?_
  refine ae.val rfl (ah rfl) rfl ?_
  refine ae.nil ?_
  exact ⟨(IntKind.wrap .i64 (x57 + 1)),_,_,S76,.refl _ _,.refl _,(aa.r rfl (aa.r rfl (aa.r rfl (aa.r rfl aa.nil)))),H78.sl [2,3] rfl rfl,h⟩
 replace h:=cK hb59 h
 refine ax.exit ?_
 refine ax.seq ?_
 refine ax.region E.obj rfl ?_
 refine ae.val rfl (aj rfl) rfl ?_
 refine ae.nil ?_
 have hr:=Option.some.inj h
 subst hr
 exact ax.ret ⟨_,rfl,rfl,dY (aD.eq .nil)⟩
set_option maxRecDepth 20000 in
set_option maxHeartbeats 4000000 in
theorem tX (n:Nat)  (r:(List ak)) (h:nW n  = some r):mK R cfg.P 47 [] (fun v l=>l=[.row 8 v ((r).map aB)]):=by
 unfold nW at h
 refine mK.of_wp (C:=jI) Tryd.func47 rfl OX rfl (fun S0 wf0=>?_)
 have H0:Has S0 S0 []:=Has.start wf0
 refine ax.seq ?_
 refine ax.region (dZ E) rfl ?_
 refine ae.val rfl (aj rfl) rfl ?_
 refine ae.nil ?_
 refine ax.seq ?_
 refine ax.region (dZ E) rfl ?_
 refine ae.val rfl (bH (cs:=[(.d (.int .i64 0)),(.d (.str [115,104,111,112]))]) yM rfl (lL) (cO rfl rfl rfl rfl rfl)) rfl ?_
 refine ae.less (Less.agg' (d:=bB (Seg.mk 0 [115,104,111,112])) (au.eq rfl (au.eq rfl .nil)) ((Seg.eq _).trans rfl)) ?_
 refine ae.val rfl (aP (vs:=[(.d (bB (Seg.mk 0 [115,104,111,112])))]) (ds:=[(bB (Seg.mk 0 [115,104,111,112]))]) DN wV yK yM pO rfl (by decide) (.cons rfl (Seg.len _) .nil) rfl (by intro d hd; simp only [List.mem_cons,List.not_mem_nil,or_false] at hd; rcases hd with rfl <;> exact Seg.agg _) rfl) rfl ?_
 refine ae.val rfl (bH (cs:=[(.d (.str [115,104,111,112])),(.d (.int .i64 (-1))),(.d (.sl (([(Seg.mk 0 [115,104,111,112])]).map bB) true)),(.d (.int .i64 0)),(.d (.bool false)),(.d (.int .i64 0)),(.d (.int .i64 0)),(.d (.str []))]) tu rfl (j3) (cO rfl rfl rfl rfl (cO rfl rfl rfl rfl (cO rfl rfl rfl rfl rfl)))) rfl ?_
 refine ae.less (Less.agg' (d:=aB (ak.mk [115,104,111,112] (-1) [(Seg.mk 0 [115,104,111,112])] 0 false (aH.mk 0 0 []))) (au.eq rfl (au.eq rfl (au.gJ rfl (.jH _ _) rfl rfl (au.eq rfl (au.eq rfl (au.eq rfl (au.eq rfl (au.eq rfl .nil)))))))) ((ak.eq _).trans rfl)) ?_
 refine ae.val rfl (bH (cs:=[(.d (.int .i64 1)),(.d (.str [105,100]))]) yM rfl (lL) (cO rfl rfl rfl rfl (cO rfl rfl rfl rfl rfl))) rfl ?_
 refine ae.less (Less.agg' (d:=bB (Seg.mk 1 [105,100])) (au.eq rfl (au.eq rfl .nil)) ((Seg.eq _).trans rfl)) ?_
 refine ae.val rfl (aP (vs:=[(.d (bB (Seg.mk 1 [105,100])))]) (ds:=[(bB (Seg.mk 1 [105,100]))]) DN wV yK yM pO rfl (by decide) (.cons rfl (Seg.len _) .nil) rfl (by intro d hd; simp only [List.mem_cons,List.not_mem_nil,or_false] at hd; rcases hd with rfl <;> exact Seg.agg _) rfl) rfl ?_
 refine ae.val rfl (bH (cs:=[(.d (.str [105,116,101,109])),(.d (.int .i64 0)),(.d (.sl (([(Seg.mk 1 [105,100])]).map bB) true)),(.d (.int .i64 0)),(.d (.bool false)),(.d (.int .i64 0)),(.d (.int .i64 0)),(.d (.str []))]) tu rfl (j3) (cO rfl rfl rfl rfl (cO rfl rfl rfl rfl (cO rfl rfl rfl rfl rfl)))) rfl ?_
 refine ae.less (Less.agg' (d:=aB (ak.mk [105,116,101,109] 0 [(Seg.mk 1 [105,100])] 0 false (aH.mk 0 0 []))) (au.eq rfl (au.eq rfl (au.gJ rfl (.jH _ _) rfl rfl (au.eq rfl (au.eq rfl (au.eq rfl (au.eq rfl (au.eq rfl .nil)))))))) ((ak.eq _).trans rfl)) ?_
 refine ae.ui (enc:=aB) (xs:=[(ak.mk [115,104,111,112] (-1) [(Seg.mk 0 [115,104,111,112])] 0 false (aH.mk 0 0 [])),(ak.mk [105,116,101,109] 0 [(Seg.mk 1 [105,100])] 0 false (aH.mk 0 0 []))]) (vs:=[(.d (aB (ak.mk [115,104,111,112] (-1) [(Seg.mk 0 [115,104,111,112])] 0 false (aH.mk 0 0 [])))),(.d (aB (ak.mk [105,116,101,109] 0 [(Seg.mk 1 [105,100])] 0 false (aH.mk 0 0 []))))]) (cs:=[[(.d (.str (ak.mk [115,104,111,112] (-1) [(Seg.mk 0 [115,104,111,112])] 0 false (aH.mk 0 0 [])).Name)),(.d (.int .i64 (ak.mk [115,104,111,112] (-1) [(Seg.mk 0 [115,104,111,112])] 0 false (aH.mk 0 0 [])).Parent)),(.d (.sl (((ak.mk [115,104,111,112] (-1) [(Seg.mk 0 [115,104,111,112])] 0 false (aH.mk 0 0 [])).dX).map bB) false)),(.d (.int .i64 (ak.mk [115,104,111,112] (-1) [(Seg.mk 0 [115,104,111,112])] 0 false (aH.mk 0 0 [])).aJ)),(.d (.bool (ak.mk [115,104,111,112] (-1) [(Seg.mk 0 [115,104,111,112])] 0 false (aH.mk 0 0 [])).fT)),(.d (.int .i64 (ak.mk [115,104,111,112] (-1) [(Seg.mk 0 [115,104,111,112])] 0 false (aH.mk 0 0 [])).aH.Kind)),(.d (.int .i64 (ak.mk [115,104,111,112] (-1) [(Seg.mk 0 [115,104,111,112])] 0 false (aH.mk 0 0 [])).aH.Flag)),(.d (.str (ak.mk [115,104,111,112] (-1) [(Seg.mk 0 [115,104,111,112])] 0 false (aH.mk 0 0 [])).aH.To))],[(.d (.str (ak.mk [105,116,101,109] 0 [(Seg.mk 1 [105,100])] 0 false (aH.mk 0 0 [])).Name)),(.d (.int .i64 (ak.mk [105,116,101,109] 0 [(Seg.mk 1 [105,100])] 0 false (aH.mk 0 0 [])).Parent)),(.d (.sl (((ak.mk [105,116,101,109] 0 [(Seg.mk 1 [105,100])] 0 false (aH.mk 0 0 [])).dX).map bB) false)),(.d (.int .i64 (ak.mk [105,116,101,109] 0 [(Seg.mk 1 [105,100])] 0 false (aH.mk 0 0 [])).aJ)),(.d (.bool (ak.mk [105,116,101,109] 0 [(Seg.mk 1 [105,100])] 0 false (aH.mk 0 0 [])).fT)),(.d (.int .i64 (ak.mk [105,116,101,109] 0 [(Seg.mk 1 [105,100])] 0 false (aH.mk 0 0 [])).aH.Kind)),(.d (.int .i64 (ak.mk [105,116,101,109] 0 [(Seg.mk 1 [105,100])] 0 false (aH.mk 0 0 [])).aH.Flag)),(.d (.str (ak.mk [105,116,101,109] 0 [(Seg.mk 1 [105,100])] 0 false (aH.mk 0 0 [])).aH.To))]]) H0 rfl zX oK lY tu jm rfl (by decide) (.cons (kF (ak.bf _)) rfl (.cons (kF (ak.bf _)) rfl .nil)) rfl (.cons (by rw [ak.cells]; exact .refl _) (.cons (by rw [ak.cells]; exact .refl _) .nil)) (fun z=>ak.len z) (fun x=>ak.flat x) rfl rfl (fun v1 S2 H3=>?_)
 refine ae.val rfl (aj rfl) rfl ?_
 refine ae.nil ?_
 have hr:=Option.some.inj h
 subst hr
 exact ax.ret ⟨_,rfl,rfl,_,_,.refl _,rfl,H3.sl [0] rfl rfl⟩
set_option maxRecDepth 20000 in
set_option maxHeartbeats 4000000 in
theorem nI (n:Nat)  (r:dK) (h:kU n  = some r):mK R cfg.P 31 [] (fun v l=>∃ w0 w1,v=Ev.iY [w0,w1,.d (.int .i64 r.Cache)]∧l=[.row 8 w0 ((r.Records).map aB),.row 8 w1 ((r.Comps).map aI)]):=by
 unfold kU at h
 refine mK.of_wp (C:=oL) Tryd.func31 rfl PR rfl (fun S0 wf0=>?_)
 have H0:Has S0 S0 []:=Has.start wf0
 refine ax.seq ?_
 refine ax.region (dA E) rfl ?_
 refine ae.alloc H0 rfl vC wC rfl rfl (fun b1 S2 H3=>?_)
 refine ae.nil ?_
 refine ax.seq ?_
 refine ax.region (dA E) rfl ?_
 refine ae.val rfl (bH (cs:=[(.d (.int .i64 3)),(.d (.int .i64 0)),(.d (.str [])),(.d (.str [])),(.d .aO),(.d .aO)]) lJ rfl (iL) (cO rfl rfl rfl rfl rfl)) rfl ?_
 refine ae.less (Less.agg' (d:=aG (aK.mk 3 0 [] [] [] [])) (au.eq rfl (au.eq rfl (au.eq rfl (au.eq rfl (au.gJ rfl (.aO false) rfl rfl (au.gJ rfl (.aO false) rfl rfl .nil)))))) ((aK.eq _).trans rfl)) ?_
 refine ae.val rfl (bH (cs:=[(.d (.int .i64 7)),(.d (.int .i64 0)),(.d (.str [])),(.d (.str [])),(.d .aO),(.d .aO)]) lJ rfl (iL) (cO rfl rfl rfl rfl rfl)) rfl ?_
 refine ae.less (Less.agg' (d:=aG (aK.mk 7 0 [] [] [] [])) (au.eq rfl (au.eq rfl (au.eq rfl (au.eq rfl (au.gJ rfl (.aO false) rfl rfl (au.gJ rfl (.aO false) rfl rfl .nil)))))) ((aK.eq _).trans rfl)) ?_
 refine ae.val rfl (aP (vs:=[(.d (aG (aK.mk 3 0 [] [] [] []))),(.d (aG (aK.mk 7 0 [] [] [] [])))]) (ds:=[(aG (aK.mk 3 0 [] [] [] [])),(aG (aK.mk 7 0 [] [] [] []))]) FV nL jE lJ eU rfl (by decide) (.cons rfl (aK.len _) (.cons rfl (aK.len _) .nil)) rfl (by intro d hd; simp only [List.mem_cons,List.not_mem_nil,or_false] at hd; rcases hd with rfl | rfl <;> exact aK.agg _) rfl) rfl ?_
 refine ae.val rfl (bH (cs:=[(.d (.int .i64 1)),(.d (.int .i64 0)),(.d (.str [109,97,105,110])),(.d (.str [])),(.d .aO),(.d (.sl (([(aK.mk 3 0 [] [] [] []),(aK.mk 7 0 [] [] [] [])]).map aG) true))]) lJ rfl (iL) (cO rfl rfl rfl rfl (cO rfl rfl rfl rfl (cO rfl rfl rfl rfl rfl)))) rfl ?_
 refine ae.less (Less.agg' (d:=aG (aK.mk 1 0 [109,97,105,110] [] [] [(aK.mk 3 0 [] [] [] []),(aK.mk 7 0 [] [] [] [])])) (au.eq rfl (au.eq rfl (au.eq rfl (au.eq rfl (au.gJ rfl (.aO false) rfl rfl (au.gJ rfl (.jH _ _) rfl rfl .nil)))))) ((aK.eq _).trans rfl)) ?_
 refine ae.val rfl (aP (vs:=[(.d (.int .i64 1))]) (ds:=[(.int .i64 1)]) Mf kV jl Gs pI rfl (by decide) (.cons rfl rfl .nil) rfl (by intro d hd; simp only [List.mem_cons,List.not_mem_nil,or_false] at hd; rcases hd with rfl <;> rfl) rfl) rfl ?_
 refine ae.val rfl (bH (cs:=[(.d (.str [117,112])),(.d (.int .i64 0)),(.d (.int .i64 1))]) JF rfl (xY) (cO rfl rfl rfl rfl (cO rfl rfl rfl rfl rfl))) rfl ?_
 refine ae.less (Less.agg' (d:=eu (On.mk [117,112] 0 1)) (au.eq rfl (au.eq rfl (au.eq rfl .nil))) ((On.eq _).trans rfl)) ?_
 refine ae.val rfl (aP (vs:=[(.d (eu (On.mk [117,112] 0 1)))]) (ds:=[(eu (On.mk [117,112] 0 1))]) MP D9 Hz JF xU rfl (by decide) (.cons rfl (On.len _) .nil) rfl (by intro d hd; simp only [List.mem_cons,List.not_mem_nil,or_false] at hd; rcases hd with rfl <;> exact On.agg _) rfl) rfl ?_
 refine ae.val rfl (bH (cs:=[(.d (.int .i64 (aK.mk 1 0 [109,97,105,110] [] [] [(aK.mk 3 0 [] [] [] []),(aK.mk 7 0 [] [] [] [])]).Kind)),(.d (.int .i64 (aK.mk 1 0 [109,97,105,110] [] [] [(aK.mk 3 0 [] [] [] []),(aK.mk 7 0 [] [] [] [])]).N)),(.d (.str (aK.mk 1 0 [109,97,105,110] [] [] [(aK.mk 3 0 [] [] [] []),(aK.mk 7 0 [] [] [] [])]).Tag)),(.d (.str (aK.mk 1 0 [109,97,105,110] [] [] [(aK.mk 3 0 [] [] [] []),(aK.mk 7 0 [] [] [] [])]).Text)),(.d (.sl (((aK.mk 1 0 [109,97,105,110] [] [] [(aK.mk 3 0 [] [] [] []),(aK.mk 7 0 [] [] [] [])]).bR).map aR) false)),(.d (.sl (((aK.mk 1 0 [109,97,105,110] [] [] [(aK.mk 3 0 [] [] [] []),(aK.mk 7 0 [] [] [] [])]).Kids).map aG) false)),(.d (.sl (([1]).map (D.int .i64)) true)),(.d (.sl (([(On.mk [117,112] 0 1)]).map eu) true))]) tH rfl (nO) (cO rfl (kF (aK.bf _)) rfl rfl (cO rfl rfl rfl rfl (cO rfl rfl rfl rfl rfl)))) rfl ?_
 refine ae.less (Less.agg' (d:=aI (aJ.mk (aK.mk 1 0 [109,97,105,110] [] [] [(aK.mk 3 0 [] [] [] []),(aK.mk 7 0 [] [] [] [])]) [1] [(On.mk [117,112] 0 1)])) (au.eq rfl (au.eq rfl (au.eq rfl (au.eq rfl (au.eq rfl (au.eq rfl (au.gJ rfl (.jH _ _) rfl rfl (au.gJ rfl (.jH _ _) rfl rfl .nil)))))))) ((aJ.eq _).trans rfl)) ?_
 refine ae.alloc H3 rfl FO tH rfl rfl (fun b4 S5 H6=>?_)
 refine ae.store H6 (i:=0) rfl rfl rfl rfl (aJ.bf _) rfl jS rfl qx rfl rfl rfl (fun S7 H8=>?_)
 refine ae.nil ?_
 refine ax.seq ?_
 refine ax.region (dA E) rfl ?_
 refine ae.val rfl (bH (cs:=[(.d (.int .i64 4)),(.d (.int .i64 0)),(.d (.str [])),(.d (.str [105,100])),(.d .aO),(.d .aO)]) lJ rfl (iL) (cO rfl rfl rfl rfl (cO rfl rfl rfl rfl rfl))) rfl ?_
 refine ae.less (Less.agg' (d:=aG (aK.mk 4 0 [] [105,100] [] [])) (au.eq rfl (au.eq rfl (au.eq rfl (au.eq rfl (au.gJ rfl (.aO false) rfl rfl (au.gJ rfl (.aO false) rfl rfl .nil)))))) ((aK.eq _).trans rfl)) ?_
 refine ae.val rfl (aP (vs:=[(.d (aG (aK.mk 4 0 [] [105,100] [] [])))]) (ds:=[(aG (aK.mk 4 0 [] [105,100] [] []))]) FV nL jE lJ eU rfl (by decide) (.cons rfl (aK.len _) .nil) rfl (by intro d hd; simp only [List.mem_cons,List.not_mem_nil,or_false] at hd; rcases hd with rfl <;> exact aK.agg _) rfl) rfl ?_
 refine ae.val rfl (bH (cs:=[(.d (.int .i64 1)),(.d (.int .i64 0)),(.d (.str [112])),(.d (.str [])),(.d .aO),(.d (.sl (([(aK.mk 4 0 [] [105,100] [] [])]).map aG) true))]) lJ rfl (iL) (cO rfl rfl rfl rfl (cO rfl rfl rfl rfl (cO rfl rfl rfl rfl rfl)))) rfl ?_
 refine ae.less (Less.agg' (d:=aG (aK.mk 1 0 [112] [] [] [(aK.mk 4 0 [] [105,100] [] [])])) (au.eq rfl (au.eq rfl (au.eq rfl (au.eq rfl (au.gJ rfl (.aO false) rfl rfl (au.gJ rfl (.jH _ _) rfl rfl .nil)))))) ((aK.eq _).trans rfl)) ?_
 refine ae.val rfl (bH (cs:=[(.d (.int .i64 (aK.mk 1 0 [112] [] [] [(aK.mk 4 0 [] [105,100] [] [])]).Kind)),(.d (.int .i64 (aK.mk 1 0 [112] [] [] [(aK.mk 4 0 [] [105,100] [] [])]).N)),(.d (.str (aK.mk 1 0 [112] [] [] [(aK.mk 4 0 [] [105,100] [] [])]).Tag)),(.d (.str (aK.mk 1 0 [112] [] [] [(aK.mk 4 0 [] [105,100] [] [])]).Text)),(.d (.sl (((aK.mk 1 0 [112] [] [] [(aK.mk 4 0 [] [105,100] [] [])]).bR).map aR) false)),(.d (.sl (((aK.mk 1 0 [112] [] [] [(aK.mk 4 0 [] [105,100] [] [])]).Kids).map aG) false)),(.d .aO),(.d .aO)]) tH rfl (nO) (cO rfl (kF (aK.bf _)) rfl rfl rfl)) rfl ?_
 refine ae.less (Less.agg' (d:=aI (aJ.mk (aK.mk 1 0 [112] [] [] [(aK.mk 4 0 [] [105,100] [] [])]) [] [])) (au.eq rfl (au.eq rfl (au.eq rfl (au.eq rfl (au.eq rfl (au.eq rfl (au.gJ rfl (.aO false) rfl rfl (au.gJ rfl (.aO false) rfl rfl .nil)))))))) ((aJ.eq _).trans rfl)) ?_
 refine ae.alloc H8 rfl FO tH rfl rfl (fun b9 S10 H11=>?_)
 refine ae.store H11 (i:=0) rfl rfl rfl rfl (aJ.bf _) rfl jS rfl qx rfl rfl rfl (fun S12 H13=>?_)
 refine ae.nil ?_
 refine ax.seq ?_
 refine ax.region (dA E) rfl ?_
 obtain ⟨z14,hzz14,h⟩:=bind_some h
 refine ae.Bg H13 rfl (aC rfl rfl) (tX E n  _ hzz14) .nil rfl ?_
 rintro v15 S16 _ rfl H17
 refine ae.val rfl (aj rfl) rfl ?_
 refine ae.nil ?_
 refine ax.seq ?_
 refine ax.region (dA E) rfl ?_
 refine ae.val rfl (ah rfl) rfl ?_
 refine ae.val rfl (ah rfl) rfl ?_
 obtain ⟨z20,hzz20,h⟩:=bind_some h
 refine ae.iM (enc:=aB) H17 rfl (i:=0) rfl rfl rfl hzz20 oK lY ((ak.len _).trans jm.symm) rfl ?_
 refine ae.gu H17 (i:=0) rfl hzz20 rfl rfl oN kL rfl rfl ?_
 refine ae.gV (enc:=aB) (z':=(ak.mk z20.Name z20.Parent z20.dX 1 z20.fT z20.aH)) (cv:=[(.int .i64 1)]) H17 rfl (i:=0) rfl hzz20 rfl rfl rfl (.cons (.refl _) .nil) pI rfl xC (by rw [ak.len]; rfl) (by rw [ak.cells,ak.cells]; rfl) (ak.flat _) (fun S21 H22=>?_)
 obtain ⟨z23,hzz23,h⟩:=bind_some h
 refine ae.iM (enc:=aB) H22 rfl (i:=0) rfl rfl rfl hzz23 oK lY ((ak.len _).trans jm.symm) rfl ?_
 refine ae.gu H22 (i:=0) rfl hzz23 rfl rfl Gn LV rfl rfl ?_
 refine ae.gV (enc:=aB) (z':=(ak.mk z23.Name z23.Parent z23.dX z23.aJ true z23.aH)) (cv:=[(.bool true)]) H22 rfl (i:=0) rfl hzz23 rfl rfl rfl (.cons (.refl _) .nil) O6 rfl OT (by rw [ak.len]; rfl) (by rw [ak.cells,ak.cells]; rfl) (ak.flat _) (fun S24 H25=>?_)
 refine ae.nil ?_
 refine ax.seq ?_
 refine ax.region (dA E) rfl ?_
 refine ae.val rfl (ah rfl) rfl ?_
 refine ae.val rfl (av H25 (i:=2) rfl rfl (aZ wI jS rfl)) rfl ?_
 refine ae.less (Less.agg' (d:=aI (aJ.mk (aK.mk 1 0 [109,97,105,110] [] [] [(aK.mk 3 0 [] [] [] []),(aK.mk 7 0 [] [] [] [])]) [1] [(On.mk [117,112] 0 1)])) (au.eq rfl (au.eq rfl (au.eq rfl (au.eq rfl (au.eq rfl (au.eq rfl (au.eq rfl (au.eq rfl .nil)))))))) ((aJ.eq _).trans rfl)) ?_
 refine ae.val rfl (av H25 (i:=1) rfl rfl (aZ wI jS rfl)) rfl ?_
 refine ae.less (Less.agg' (d:=aI (aJ.mk (aK.mk 1 0 [112] [] [] [(aK.mk 4 0 [] [105,100] [] [])]) [] [])) (au.eq rfl (au.eq rfl (au.eq rfl (au.eq rfl (au.eq rfl (au.eq rfl (au.eq rfl (au.eq rfl .nil)))))))) ((aJ.eq _).trans rfl)) ?_
 refine ae.ui (enc:=aI) (xs:=[(aJ.mk (aK.mk 1 0 [109,97,105,110] [] [] [(aK.mk 3 0 [] [] [] []),(aK.mk 7 0 [] [] [] [])]) [1] [(On.mk [117,112] 0 1)]),(aJ.mk (aK.mk 1 0 [112] [] [] [(aK.mk 4 0 [] [105,100] [] [])]) [] [])]) (vs:=[(.d (aI (aJ.mk (aK.mk 1 0 [109,97,105,110] [] [] [(aK.mk 3 0 [] [] [] []),(aK.mk 7 0 [] [] [] [])]) [1] [(On.mk [117,112] 0 1)]))),(.d (aI (aJ.mk (aK.mk 1 0 [112] [] [] [(aK.mk 4 0 [] [105,100] [] [])]) [] [])))]) (cs:=[[(.d (.int .i64 (aJ.mk (aK.mk 1 0 [109,97,105,110] [] [] [(aK.mk 3 0 [] [] [] []),(aK.mk 7 0 [] [] [] [])]) [1] [(On.mk [117,112] 0 1)]).aK.Kind)),(.d (.int .i64 (aJ.mk (aK.mk 1 0 [109,97,105,110] [] [] [(aK.mk 3 0 [] [] [] []),(aK.mk 7 0 [] [] [] [])]) [1] [(On.mk [117,112] 0 1)]).aK.N)),(.d (.str (aJ.mk (aK.mk 1 0 [109,97,105,110] [] [] [(aK.mk 3 0 [] [] [] []),(aK.mk 7 0 [] [] [] [])]) [1] [(On.mk [117,112] 0 1)]).aK.Tag)),(.d (.str (aJ.mk (aK.mk 1 0 [109,97,105,110] [] [] [(aK.mk 3 0 [] [] [] []),(aK.mk 7 0 [] [] [] [])]) [1] [(On.mk [117,112] 0 1)]).aK.Text)),(.d (.sl (((aJ.mk (aK.mk 1 0 [109,97,105,110] [] [] [(aK.mk 3 0 [] [] [] []),(aK.mk 7 0 [] [] [] [])]) [1] [(On.mk [117,112] 0 1)]).aK.bR).map aR) false)),(.d (.sl (((aJ.mk (aK.mk 1 0 [109,97,105,110] [] [] [(aK.mk 3 0 [] [] [] []),(aK.mk 7 0 [] [] [] [])]) [1] [(On.mk [117,112] 0 1)]).aK.Kids).map aG) false)),(.d (.sl (((aJ.mk (aK.mk 1 0 [109,97,105,110] [] [] [(aK.mk 3 0 [] [] [] []),(aK.mk 7 0 [] [] [] [])]) [1] [(On.mk [117,112] 0 1)]).Init).map (D.int .i64)) false)),(.d (.sl (((aJ.mk (aK.mk 1 0 [109,97,105,110] [] [] [(aK.mk 3 0 [] [] [] []),(aK.mk 7 0 [] [] [] [])]) [1] [(On.mk [117,112] 0 1)]).On).map eu) false))],[(.d (.int .i64 (aJ.mk (aK.mk 1 0 [112] [] [] [(aK.mk 4 0 [] [105,100] [] [])]) [] []).aK.Kind)),(.d (.int .i64 (aJ.mk (aK.mk 1 0 [112] [] [] [(aK.mk 4 0 [] [105,100] [] [])]) [] []).aK.N)),(.d (.str (aJ.mk (aK.mk 1 0 [112] [] [] [(aK.mk 4 0 [] [105,100] [] [])]) [] []).aK.Tag)),(.d (.str (aJ.mk (aK.mk 1 0 [112] [] [] [(aK.mk 4 0 [] [105,100] [] [])]) [] []).aK.Text)),(.d (.sl (((aJ.mk (aK.mk 1 0 [112] [] [] [(aK.mk 4 0 [] [105,100] [] [])]) [] []).aK.bR).map aR) false)),(.d (.sl (((aJ.mk (aK.mk 1 0 [112] [] [] [(aK.mk 4 0 [] [105,100] [] [])]) [] []).aK.Kids).map aG) false)),(.d (.sl (((aJ.mk (aK.mk 1 0 [112] [] [] [(aK.mk 4 0 [] [105,100] [] [])]) [] []).Init).map (D.int .i64)) false)),(.d (.sl (((aJ.mk (aK.mk 1 0 [112] [] [] [(aK.mk 4 0 [] [105,100] [] [])]) [] []).On).map eu) false))]]) H25 rfl MI tJ qx tH jS rfl (by decide) (.cons (kF (aJ.bf _)) rfl (.cons (kF (aJ.bf _)) rfl .nil)) rfl (.cons (by rw [aJ.cells]; exact .refl _) (.cons (by rw [aJ.cells]; exact .refl _) .nil)) (fun z=>aJ.len z) (fun x=>aJ.flat x) rfl rfl (fun v26 S27 H28=>?_)
 refine ae.val rfl (bH (cs:=[v15,v26,(.d (.int .i64 2))]) wC rfl (xg) (cO rfl (rX H28 (i:=1) rfl) rfl rfl (cO rfl (rX H28 (i:=0) rfl) rfl rfl (cO rfl rfl rfl rfl rfl)))) rfl ?_
 refine ae.store H28 (i:=4) rfl rfl rfl rfl (iT _) rfl nG (iP _) Bj rfl rfl rfl (fun S29 H30=>?_)
 refine ae.nil ?_
 have hr:=Option.some.inj h
 subst hr
 exact ax.ret ⟨_,gZ H30 (i:=4) rfl rfl rfl (aZ tF nG rfl),rfl,_,_,.refl _,⟨v15,v26,rfl,rfl⟩,H30.sl [1,0] rfl rfl⟩
set_option maxRecDepth 20000 in
set_option maxHeartbeats 4000000 in
theorem qH (n:Nat)  (r:Bool) (h:jd n  = some r):bN R cfg.P 11 [] (.d (.bool r)):=by
 unfold jd at h
 refine bN.of_wp (dA E).toObjOk (C:=oL) Tryd.func11 rfl Px rfl ?_
 have H0:Has aF aF []:=Has.pure
 refine ax.seq ?_
 refine ax.region (dA E) rfl ?_
 refine ae.val rfl (aj rfl) rfl ?_
 refine ae.nil ?_
 refine ax.seq ?_
 refine ax.region (dA E) rfl ?_
 obtain ⟨z1,hzz1,h⟩:=bind_some h
 refine ae.Bg H0 rfl (aC rfl rfl) (nI E n  _ hzz1) .nil rfl ?_
 rintro _ S3 _ ⟨v7,v8,rfl,rfl⟩ H4
 obtain ⟨z9,hzz9,h⟩:=bind_some h
 refine ae.Bg H4 rfl (aC rfl rfl) (nI E n  _ hzz9) .nil rfl ?_
 rintro _ S11 _ ⟨v15,v16,rfl,rfl⟩ H12
 refine ae.alloc H12 rfl vC wC rfl rfl (fun b17 S18 H19=>?_)
 refine ae.alloc H19 rfl vC wC rfl rfl (fun b20 S21 H22=>?_)
 refine ae.store H22 (i:=1) rfl rfl rfl rfl (iT _) rfl nG (iP _) Bj rfl rfl rfl (fun S23 H24=>?_)
 refine ae.store H24 (i:=0) rfl rfl rfl rfl (iT _) rfl nG (iP _) Bj rfl rfl rfl (fun S25 H26=>?_)
 refine ae.nil ?_
 refine ax.seq ?_
 refine ax.region (dA E) rfl ?_
 refine ae.val rfl (ai rfl iG nD rfl) rfl ?_
 refine ae.val rfl (av H26 (i:=0) rfl rfl (aA pF rfl)) rfl ?_
 obtain ⟨z27,hzz27,h⟩:=bind_some h
 refine ae.iM (enc:=aI) H26 rfl (i:=3) rfl rfl rfl hzz27 tJ qx ((aJ.len _).trans jS.symm) rfl ?_
 refine ae.gu H26 (i:=3) rfl hzz27 rfl rfl vM F7 rfl rfl ?_
 refine ae.gu H26 (i:=3) rfl hzz27 rfl rfl jC qF rfl rfl ?_
 refine ae.gV (enc:=aI) (z':=(aJ.mk (aK.mk z27.aK.Kind z27.aK.N z27.aK.Tag z27.aK.Text z27.aK.bR []) z27.Init z27.On)) (cv:=[(.sl (([]).map aG) false)]) H26 rfl (i:=3) rfl hzz27 rfl rfl rfl (.cons Li .nil) Ib rfl Il (by rw [aJ.len]; rfl) (by rw [aJ.cells,aJ.cells]; rfl) (aJ.flat _) (fun S28 H29=>?_)
 refine ae.nil ?_
 refine ax.seq ?_
 refine ax.region (dA E) rfl ?_
 refine ae.val rfl (av H29 (i:=1) rfl rfl (aZ tF nG rfl)) rfl ?_
 obtain ⟨z30,hzz30,h⟩:=bind_some h
 refine ae.J8 (dA E).toObjOk rfl (aC rfl rfl) (kY E n _ _ hzz30) rfl (.cons ((dK.eq z1) ▸ qb.agg (ds:=[(.sl ((z1.Records).map aB) false),(.sl ((z1.Comps).map aI) false),(.int .i64 z1.Cache)]) (.cons (qb.row H29 (i:=4) rfl) (.cons (qb.row H29 (i:=5) rfl) (.cons (.less (.refl _)) .nil))) rfl) .nil) rfl ?_
 refine ae.val rfl (ah rfl) rfl ?_
 obtain ⟨z32,hzz32,h⟩:=bind_some h
 refine ae.bC 4 16 (.d (.bool z32)) ?_ ?_
 ·
  rcases Bool.eq_false_or_eq_true (z30) with hB31 | hB31
  ·
   refine ae.bool hB31 ?_
   replace hzz32:=cB hB31 hzz32
   refine ae.val rfl (av H29 (i:=0) rfl rfl (aZ tF nG rfl)) rfl ?_
   obtain ⟨z33,hzz33,hzz32⟩:=bind_some hzz32
   refine ae.J8 (dA E).toObjOk rfl (aC rfl rfl) (kY E n _ _ hzz33) rfl (.cons ((dK.eq (dK.mk z9.Records (je z9.Comps 0 (aJ.mk (aK.mk z27.aK.Kind z27.aK.N z27.aK.Tag z27.aK.Text z27.aK.bR []) z27.Init z27.On)) z9.Cache)) ▸ qb.agg (ds:=[(.sl ((z9.Records).map aB) false),(.sl (((je z9.Comps 0 (aJ.mk (aK.mk z27.aK.Kind z27.aK.N z27.aK.Tag z27.aK.Text z27.aK.bR []) z27.Init z27.On))).map aI) false),(.int .i64 z9.Cache)]) (.cons (qb.row H29 (i:=2) rfl) (.cons (qb.row H29 (i:=3) rfl) (.cons (.less (.refl _)) .nil))) rfl) .nil) rfl ?_
   refine ae.val rfl (eZ rfl) rfl ?_
   refine ae.val rfl (az (b:=true) rfl rfl) rfl ?_
   cases hzz32
   exact ae.nil ⟨_,rfl,(aa.put (aa.push rfl (aa.push rfl (aa.push rfl (aa.put (.refl _) (Less.eq (by rw [hB31])))))) (.refl _))⟩
  refine ae.bool hB31 ?_
  refine ae.no rfl rfl ?_
  refine ae.no rfl rfl ?_
  refine ae.no rfl rfl ?_
  refine ae.val rfl (az (b:=false) rfl rfl) rfl ?_
  replace hzz32:=cK hB31 hzz32
  cases hzz32
  exact ae.nil ⟨_,rfl,(aa.put (aa.push rfl (aa.push rfl (aa.push rfl (aa.put (.refl _) (Less.eq (by rw [hB31])))))) (.refl _))⟩
 refine ae.val rfl (ah rfl) rfl ?_
 obtain ⟨z35,hzz35,h⟩:=bind_some h
 refine ae.bC 3 20 (.d (.bool z35)) ?_ ?_
 ·
  rcases Bool.eq_false_or_eq_true (z32) with hB34 | hB34
  ·
   refine ae.bool hB34 ?_
   replace hzz35:=cB hB34 hzz35
   refine ae.val rfl (av H29 (i:=1) rfl rfl (aZ tF nG rfl)) rfl ?_
   obtain ⟨z36,hzz36,hzz35⟩:=bind_some hzz35
   refine ae.J8 (dA E).toObjOk rfl (aC rfl rfl) (nk E n _ _ _ hzz36) rfl (.cons ((dK.eq z1) ▸ qb.agg (ds:=[(.sl ((z1.Records).map aB) false),(.sl ((z1.Comps).map aI) false),(.int .i64 z1.Cache)]) (.cons (qb.row H29 (i:=4) rfl) (.cons (qb.row H29 (i:=5) rfl) (.cons (.less (.refl _)) .nil))) rfl) (.cons (.less (.refl _)) .nil)) rfl ?_
   refine ae.val rfl (az (b:=true) rfl rfl) rfl ?_
   cases hzz35
   exact ae.nil ⟨_,rfl,(aa.put (aa.push rfl (aa.push rfl (aa.put (.refl _) (Less.eq (by rw [hB34]))))) (.refl _))⟩
  refine ae.bool hB34 ?_
  refine ae.no rfl rfl ?_
  refine ae.no rfl rfl ?_
  refine ae.val rfl (az (b:=false) rfl rfl) rfl ?_
  replace hzz35:=cK hB34 hzz35
  cases hzz35
  exact ae.nil ⟨_,rfl,(aa.put (aa.push rfl (aa.push rfl (aa.put (.refl _) (Less.eq (by rw [hB34]))))) (.refl _))⟩
 refine ae.val rfl (ah rfl) rfl ?_
 obtain ⟨z38,hzz38,h⟩:=bind_some h
 refine ae.bC 4 25 (.d (.bool z38)) ?_ ?_
 ·
  rcases Bool.eq_false_or_eq_true (z35) with hB37 | hB37
  ·
   refine ae.bool hB37 ?_
   replace hzz38:=cB hB37 hzz38
   refine ae.val rfl (av H29 (i:=1) rfl rfl (aZ tF nG rfl)) rfl ?_
   obtain ⟨z39,hzz39,hzz38⟩:=bind_some hzz38
   refine ae.J8 (dA E).toObjOk rfl (aC rfl rfl) (nk E n _ _ _ hzz39) rfl (.cons ((dK.eq z1) ▸ qb.agg (ds:=[(.sl ((z1.Records).map aB) false),(.sl ((z1.Comps).map aI) false),(.int .i64 z1.Cache)]) (.cons (qb.row H29 (i:=4) rfl) (.cons (qb.row H29 (i:=5) rfl) (.cons (.less (.refl _)) .nil))) rfl) (.cons (.less (.refl _)) .nil)) rfl ?_
   refine ae.val rfl (eZ rfl) rfl ?_
   refine ae.val rfl (az (b:=true) rfl rfl) rfl ?_
   cases hzz38
   exact ae.nil ⟨_,rfl,(aa.put (aa.push rfl (aa.push rfl (aa.push rfl (aa.put (.refl _) (Less.eq (by rw [hB37])))))) (.refl _))⟩
  refine ae.bool hB37 ?_
  refine ae.no rfl rfl ?_
  refine ae.no rfl rfl ?_
  refine ae.no rfl rfl ?_
  refine ae.val rfl (az (b:=false) rfl rfl) rfl ?_
  replace hzz38:=cK hB37 hzz38
  cases hzz38
  exact ae.nil ⟨_,rfl,(aa.put (aa.push rfl (aa.push rfl (aa.push rfl (aa.put (.refl _) (Less.eq (by rw [hB37])))))) (.refl _))⟩
 refine ae.val rfl (aj rfl) rfl ?_
 refine ae.nil ?_
 have hr:=Option.some.inj h
 subst hr
 exact ax.ret ⟨_,rfl,rfl,dY (aD.eq .nil)⟩
set_option maxRecDepth 20000 in
set_option maxHeartbeats 4000000 in
theorem yS (n:Nat) (a1:jB) (a2:Int) (a3:Int) (a4:Int) (r:Bool) (h:iO n a1 a2 a3 a4=some r):bN R cfg.P 3 [(oC a1),(.int .i64 a2),(.int .i64 a3),(.int .i64 a4)] (.d (.bool r)):=by
 unfold iO at h
 refine bN.of_wp (dA E).toObjOk (C:=oL) Tryd.func3 rfl Ql rfl ?_
 have H0:Has aF aF []:=Has.pure
 refine ax.seq ?_
 refine ax.region (dA E) rfl ?_
 refine ae.box H0 rfl rfl rfl (jB.bf _) rfl (fun b5 S6 H7=>?_)
 refine ae.val rfl (aj rfl) rfl ?_
 refine ae.nil ?_
 refine ax.seq ?_
 refine ax.region (dA E) rfl ?_
 refine ae.val rfl (av H7 (i:=0) rfl rfl (aZ M6 Ng rfl)) rfl ?_
 refine ae.less (Less.agg' (d:=oC a1) (au.eq rfl (au.eq rfl (au.eq rfl (au.eq rfl (au.eq rfl (au.eq rfl (au.eq rfl (au.eq rfl (au.eq rfl .nil))))))))) ((jB.eq _).trans rfl)) ?_
 obtain ⟨z8,hzz8,h⟩:=bind_some h
 refine ae.ret rfl (aC rfl rfl) (mM E _ _ _ hzz8 _ _ (aD.eq .nil)) rfl ?_
 refine ae.alloc H7 rfl vC wC rfl rfl (fun b9 S10 H11=>?_)
 refine ae.store H11 (i:=0) rfl rfl rfl rfl (dK.bf _) rfl nG rfl Bj rfl rfl rfl (fun S12 H13=>?_)
 refine ae.nil ?_
 refine ax.seq ?_
 refine ax.seq ?_
 refine ax.region (dA E) rfl ?_
 refine ae.val rfl (av H13 (i:=0) rfl rfl (aZ tF nG rfl)) rfl ?_
 refine ae.less (Less.agg' (d:=iW z8) (au.eq rfl (au.eq rfl (au.eq rfl .nil))) ((dK.eq _).trans rfl)) ?_
 obtain ⟨z14,hzz14,h⟩:=bind_some h
 refine ae.ret rfl (aC rfl rfl) (kY E _ _ _ hzz14 _ _ (aD.eq .nil)) rfl ?_
 refine ae.val rfl (eZ rfl) rfl ?_
 refine ae.nil ?_
 refine ax.cond rfl (fun hb15=>?_) (fun hb15=>?_)
 ·
  replace h:=cB hb15 h
  refine ax.seq ?_
  refine ax.region (dA E) rfl ?_
  refine ae.val rfl (aj rfl) rfl ?_
  refine ae.nil ?_
  have hr:=Option.some.inj h
  subst hr
  exact ax.ret ⟨_,rfl,rfl,dY (aD.eq .nil)⟩
 replace h:=cK hb15 h
 refine ax.skip ?_
 refine ax.seq ?_
 refine ax.seq ?_
 refine ax.region (dA E) rfl ?_
 refine ae.val rfl (ai rfl iZ oO rfl) rfl ?_
 refine ae.val rfl (av H13 (i:=0) rfl rfl (aA pK rfl)) rfl ?_
 refine ae.val rfl (aS rfl sD) rfl ?_
 refine ae.val rfl (ah rfl) rfl ?_
 refine ae.nil ?_
 refine ax.block ?_
 refine nz.start (B:=aF) (α:=Int) (fun k a=>bu n a1 a2 a3 a4 z8 k a=some r) (fun a=>[(1,(.d (.int .i64 a2))),(2,(.d (.int .i64 a3))),(3,(.d (.int .i64 a4))),(4,(.ptr b5 0 0)),(9,(.ptr b9 0 0)),(26,(.d (.int .i64 ((z8.Records).length:Int)))),(27,(.d (.int .i64 a)))]) (fun a=>[.box b9 [(.d (.sl ((z8.Records).map aB) false)),(.d (.sl ((z8.Comps).map aI) false)),(.d (.int .i64 z8.Cache))],.box b5 [(.d (.sl ((a1.Table.Parents).map (D.int .i64)) false)),(.d (.sl ((a1.Table.Kinds).map (D.int .i64)) false)),(.d (.sl ((a1.Table.Texts).map (D.int .i64)) false)),(.d (.sl ((a1.Table.Rules).map (D.int .i64)) false)),(.d (.sl ((a1.Table.Flags).map (D.int .i64)) false)),(.d (.sl ((a1.Table.fq).map (D.int .i64)) false)),(.d (.sl ((a1.Table.Comps).map (D.int .i64)) false)),(.d (.sl ((a1.Parts).map dH) false)),(.d (.int .i64 a1.Cache))]]) ?_ ?_ n ⟨0,_,_,S12,.refl _ _,.refl _,(aa.r rfl (aa.r rfl (aa.r rfl (aa.r rfl (aa.r rfl (aa.r rfl (aa.r rfl aa.nil))))))),H13.sl [0,1] rfl rfl,h⟩
 ·
  intro a h; simp [bu] at h
 intro k24 x23 S21 H22 h
 replace h:bu n a1 a2 a3 a4 z8 (k24 + 1) x23=some r:=h
 replace H22:Has aF S21 [.box b9 [(.d (.sl ((z8.Records).map aB) false)),(.d (.sl ((z8.Comps).map aI) false)),(.d (.int .i64 z8.Cache))],.box b5 [(.d (.sl ((a1.Table.Parents).map (D.int .i64)) false)),(.d (.sl ((a1.Table.Kinds).map (D.int .i64)) false)),(.d (.sl ((a1.Table.Texts).map (D.int .i64)) false)),(.d (.sl ((a1.Table.Rules).map (D.int .i64)) false)),(.d (.sl ((a1.Table.Flags).map (D.int .i64)) false)),(.d (.sl ((a1.Table.fq).map (D.int .i64)) false)),(.d (.sl ((a1.Table.Comps).map (D.int .i64)) false)),(.d (.sl ((a1.Parts).map dH) false)),(.d (.int .i64 a1.Cache))]]:=H22
 unfold bu at h
 refine ax.seq ?_
 refine ax.region (dA E) rfl ?_
 refine ae.val rfl (ay rfl rfl bG) rfl ?_
 refine ae.nil ?_
 refine ax.seq ?_
 refine ax.cond rfl (fun hb25=>?_) (fun hb25=>?_)
 ·
  replace h:=cB hb25 h
  refine ax.skip ?_
  refine ax.seq ?_
  refine ax.block ?_
  refine ax.seq ?_
  refine ax.region (dA E) rfl ?_
  refine ae.val rfl (ah rfl) rfl ?_
  refine ae.val rfl (aj rfl) rfl ?_
  refine ae.nil ?_
  refine ax.seq ?_
  refine ax.region (dA E) rfl ?_
  refine ae.val rfl (aj rfl) rfl ?_
  refine ae.nil ?_
  refine ax.seq ?_
  refine ax.seq ?_
  refine ax.region (dA E) rfl ?_
  refine ae.val rfl (ai rfl iZ oO rfl) rfl ?_
  refine ae.val rfl (av H22 (i:=0) rfl rfl (aA pK rfl)) rfl ?_
  refine ae.val rfl (aS rfl sD) rfl ?_
  refine ae.val rfl (ah rfl) rfl ?_
  refine ae.nil ?_
  refine ax.block ?_
  refine nz.start (B:=aF) (α:=Bool × Int) (fun k a=>cz n z8 x23 (bu n a1 a2 a3 a4 z8 k24) k a.1 a.2=some r) (fun a=>[(1,(.d (.int .i64 a2))),(2,(.d (.int .i64 a3))),(3,(.d (.int .i64 a4))),(4,(.ptr b5 0 0)),(9,(.ptr b9 0 0)),(10,(.d (.int .i64 x23))),(11,(.d (.bool a.1))),(26,(.d (.int .i64 ((z8.Records).length:Int)))),(27,(.d (.int .i64 x23))),(31,(.d (.sl ((z8.Records).map aB) false))),(32,(.d (.int .i64 ((z8.Records).length:Int)))),(33,(.d (.int .i64 a.2)))]) (fun a=>[.box b9 [(.d (.sl ((z8.Records).map aB) false)),(.d (.sl ((z8.Comps).map aI) false)),(.d (.int .i64 z8.Cache))],.box b5 [(.d (.sl ((a1.Table.Parents).map (D.int .i64)) false)),(.d (.sl ((a1.Table.Kinds).map (D.int .i64)) false)),(.d (.sl ((a1.Table.Texts).map (D.int .i64)) false)),(.d (.sl ((a1.Table.Rules).map (D.int .i64)) false)),(.d (.sl ((a1.Table.Flags).map (D.int .i64)) false)),(.d (.sl ((a1.Table.fq).map (D.int .i64)) false)),(.d (.sl ((a1.Table.Comps).map (D.int .i64)) false)),(.d (.sl ((a1.Parts).map dH) false)),(.d (.int .i64 a1.Cache))]]) ?_ ?_ n ⟨⟨false,0⟩,_,_,S21,.refl _ _,.refl _,(aa.r rfl (aa.r rfl (aa.r rfl (aa.r rfl (aa.r rfl (aa.r rfl (aa.r rfl (aa.r rfl (aa.r rfl (aa.r rfl (aa.r rfl (aa.r rfl aa.nil)))))))))))),H22.sl [0,1] rfl rfl,h⟩
  ·
   intro a h; simp [cz] at h
  intro k36 a S32 H33 h
  obtain ⟨x34,x35⟩:=a
  replace h:cz n z8 x23 (bu n a1 a2 a3 a4 z8 k24) (k36 + 1) x34 x35=some r:=h
  replace H33:Has aF S32 [.box b9 [(.d (.sl ((z8.Records).map aB) false)),(.d (.sl ((z8.Comps).map aI) false)),(.d (.int .i64 z8.Cache))],.box b5 [(.d (.sl ((a1.Table.Parents).map (D.int .i64)) false)),(.d (.sl ((a1.Table.Kinds).map (D.int .i64)) false)),(.d (.sl ((a1.Table.Texts).map (D.int .i64)) false)),(.d (.sl ((a1.Table.Rules).map (D.int .i64)) false)),(.d (.sl ((a1.Table.Flags).map (D.int .i64)) false)),(.d (.sl ((a1.Table.fq).map (D.int .i64)) false)),(.d (.sl ((a1.Table.Comps).map (D.int .i64)) false)),(.d (.sl ((a1.Parts).map dH) false)),(.d (.int .i64 a1.Cache))]]:=H33
  unfold cz at h
  refine ax.seq ?_
  refine ax.region (dA E) rfl ?_
  refine ae.val rfl (ay rfl rfl bG) rfl ?_
  refine ae.nil ?_
  refine ax.seq ?_
  refine ax.cond rfl (fun hb37=>?_) (fun hb37=>?_)
  ·
   replace h:=cB hb37 h
   refine ax.skip ?_
   refine ax.seq ?_
   refine ax.block ?_
   refine ax.seq ?_
   refine ax.region (dA E) rfl ?_
   obtain ⟨z38,hzz38,h⟩:=bind_some h
   refine ae.val rfl (bE rfl rfl (bY (enc:=aB) hzz38 oK lY ((ak.len _).trans jm.symm))) rfl ?_
   refine ae.val rfl (aU rfl (ak.gT yQ jm)) rfl ?_
   refine ae.alloc H33 rfl JY tu rfl rfl (fun b39 S40 H41=>?_)
   refine ae.store H41 (i:=0) rfl rfl rfl rfl (ak.bf _) rfl jm rfl lY rfl rfl rfl (fun S42 H43=>?_)
   refine ae.nil ?_
   refine ax.region (dA E) rfl ?_
   refine ae.val rfl (ah rfl) rfl ?_
   refine ae.val rfl (ah rfl) rfl ?_
   refine ae.bC 5 43 (.d (.bool (x34 || (z38.Parent == x23)))) ?_ ?_
   ·
    rcases Bool.eq_false_or_eq_true (x34) with hB44 | hB44
    ·
     refine ae.bool hB44 ?_
     refine ae.no rfl rfl ?_
     refine ae.no rfl rfl ?_
     refine ae.no rfl rfl ?_
     refine ae.no rfl rfl ?_
     refine ae.val rfl (az (b:=true) rfl rfl) rfl ?_
     exact ae.nil ⟨_,rfl,(aa.put (aa.push rfl (aa.push rfl (aa.push rfl (aa.push rfl (aa.put (.refl _) (Less.eq (by rw [hB44]))))))) (Less.eq (by rw [hB44]; rw [Bool.true_or])))⟩
    refine ae.bool hB44 ?_
    refine ae.val rfl (ai rfl sQ kL rfl) rfl ?_
    refine ae.val rfl (av H43 (i:=0) rfl rfl (aA jl rfl)) rfl ?_
    refine ae.val rfl (ah rfl) rfl ?_
    refine ae.val rfl (ay rfl rfl dD) rfl ?_
    refine ae.val rfl (az (b:=false) rfl rfl) rfl ?_
    exact ae.nil ⟨_,rfl,(aa.put (aa.push rfl (aa.push rfl (aa.push rfl (aa.push rfl (aa.put (.refl _) (Less.eq (by rw [hB44]))))))) (Less.eq (by rw [hB44]; rw [Bool.false_or])))⟩
   refine ae.val rfl (aj rfl) rfl ?_
   refine ae.nil ?_
   refine ax.region (dA E) rfl ?_
   refine ae.val rfl (ay rfl rfl bI) rfl ?_
   refine ae.val rfl (ah rfl) rfl ?_
   refine ae.nil ?_
   exact ⟨⟨(x34 || (z38.Parent == x23)),(IntKind.wrap .i64 (x35 + 1))⟩,_,_,S42,.refl _ _,.refl _,(aa.r rfl (aa.r rfl (aa.r rfl (aa.r rfl (aa.r rfl (aa.r rfl (aa.r rfl (aa.r rfl (aa.r rfl (aa.r rfl (aa.r rfl (aa.r rfl aa.nil)))))))))))),H43.sl [1,2] rfl rfl,h⟩
  replace h:=cK hb37 h
  refine ax.exit ?_
  refine ax.seq ?_
  refine ax.region (dA E) rfl ?_
  refine ae.val rfl (av H33 (i:=0) rfl rfl (aZ tF nG rfl)) rfl ?_
  refine ae.less (Less.agg' (d:=iW z8) (au.eq rfl (au.eq rfl (au.eq rfl .nil))) ((dK.eq _).trans rfl)) ?_
  refine ae.val rfl (ah rfl) rfl ?_
  obtain ⟨z45,hzz45,h⟩:=bind_some h
  refine ae.ret rfl (aC rfl rfl) (nk E _ _ _ _ hzz45 _ _ (aD.eq (aD.eq .nil))) rfl ?_
  refine ae.val rfl (ah rfl) rfl ?_
  refine ae.val rfl (ay rfl rfl (CE Qg)) rfl ?_
  refine ae.nil ?_
  refine ax.cond rfl (fun hb46=>?_) (fun hb46=>?_)
  ·
   replace h:=cB hb46 h
   refine ax.seq ?_
   refine ax.region (dA E) rfl ?_
   refine ae.val rfl (aj rfl) rfl ?_
   refine ae.nil ?_
   have hr:=Option.some.inj h
   subst hr
   exact ax.ret ⟨_,rfl,rfl,dY (aD.eq .nil)⟩
  replace h:=cK hb46 h
  refine ax.skip ?_
  refine ax.region (dA E) rfl ?_
  refine ae.val rfl (ay rfl rfl bI) rfl ?_
  refine ae.val rfl (ah rfl) rfl ?_
  refine ae.nil ?_
  exact ⟨(IntKind.wrap .i64 (x23 + 1)),_,_,S32,.refl _ _,.refl _,(aa.r rfl (aa.r rfl (aa.r rfl (aa.r rfl (aa.r rfl (aa.r rfl (aa.r rfl aa.nil))))))),H33.sl [0,1] rfl rfl,h⟩
 replace h:=cK hb25 h
 refine ax.exit ?_
 refine ax.seq ?_
 refine ax.region (dA E) rfl ?_
 refine ae.val rfl (av H22 (i:=0) rfl rfl (aZ tF nG rfl)) rfl ?_
 refine ae.less (Less.agg' (d:=iW z8) (au.eq rfl (au.eq rfl (au.eq rfl .nil))) ((dK.eq _).trans rfl)) ?_
 obtain ⟨z47,hzz47,h⟩:=bind_some h
 refine ae.Bg H22 rfl (aC rfl rfl) (zI E n _ _ hzz47) (aD.eq .nil) rfl ?_
 rintro _ S49 _ ⟨v53,v54,rfl,rfl⟩ H50
 refine ae.alloc H50 rfl vC wC rfl rfl (fun b55 S56 H57=>?_)
 refine ae.store H57 (i:=0) rfl rfl rfl rfl (iT _) rfl nG (iP _) Bj rfl rfl rfl (fun S58 H59=>?_)
 refine ae.nil ?_
 refine ax.seq ?_
 refine ax.seq ?_
 refine ax.region (dA E) rfl ?_
 refine ae.val rfl (ai rfl iZ oO rfl) rfl ?_
 refine ae.val rfl (av H59 (i:=0) rfl rfl (aA pK rfl)) rfl ?_
 refine ae.val rfl (jv H59 (i:=1) rfl rfl sD) rfl ?_
 refine ae.val rfl (ai rfl iZ oO rfl) rfl ?_
 refine ae.val rfl (av H59 (i:=3) rfl rfl (aA pK rfl)) rfl ?_
 refine ae.val rfl (aS rfl sD) rfl ?_
 refine ae.val rfl (ay rfl rfl fH) rfl ?_
 refine ae.val rfl (ah rfl) rfl ?_
 refine ae.bC 8 68 (.d (.bool ((((z47.Records).length:Int) != ((z8.Records).length:Int)) || (((z47.Comps).length:Int) != ((z8.Comps).length:Int))))) ?_ ?_
 ·
  rcases Bool.eq_false_or_eq_true ((((z47.Records).length:Int) != ((z8.Records).length:Int))) with hB60 | hB60
  ·
   refine ae.bool hB60 ?_
   refine ae.no rfl rfl ?_
   refine ae.no rfl rfl ?_
   refine ae.no rfl rfl ?_
   refine ae.no rfl rfl ?_
   refine ae.no rfl rfl ?_
   refine ae.no rfl rfl ?_
   refine ae.no rfl rfl ?_
   refine ae.val rfl (az (b:=true) rfl rfl) rfl ?_
   exact ae.nil ⟨_,rfl,(aa.put (aa.push rfl (aa.push rfl (aa.push rfl (aa.push rfl (aa.push rfl (aa.push rfl (aa.push rfl (aa.put (.refl _) (Less.eq (by rw [hB60])))))))))) (Less.eq (by rw [hB60]; rw [Bool.true_or])))⟩
  refine ae.bool hB60 ?_
  refine ae.val rfl (ai rfl iG nD rfl) rfl ?_
  refine ae.val rfl (av H59 (i:=0) rfl rfl (aA pF rfl)) rfl ?_
  refine ae.val rfl (jv H59 (i:=2) rfl rfl yJ) rfl ?_
  refine ae.val rfl (ai rfl iG nD rfl) rfl ?_
  refine ae.val rfl (av H59 (i:=3) rfl rfl (aA pF rfl)) rfl ?_
  refine ae.val rfl (aS rfl yJ) rfl ?_
  refine ae.val rfl (ay rfl rfl fH) rfl ?_
  refine ae.val rfl (az (b:=false) rfl rfl) rfl ?_
  exact ae.nil ⟨_,rfl,(aa.put (aa.push rfl (aa.push rfl (aa.push rfl (aa.push rfl (aa.push rfl (aa.push rfl (aa.push rfl (aa.put (.refl _) (Less.eq (by rw [hB60])))))))))) (Less.eq (by rw [hB60]; rw [Bool.false_or])))⟩
 refine ae.val rfl (ah rfl) rfl ?_
 refine ae.bC 5 74 (.d (.bool (((((z47.Records).length:Int) != ((z8.Records).length:Int)) || (((z47.Comps).length:Int) != ((z8.Comps).length:Int))) || (((z47.Comps).length:Int) == 0)))) ?_ ?_
 ·
  rcases Bool.eq_false_or_eq_true (((((z47.Records).length:Int) != ((z8.Records).length:Int)) || (((z47.Comps).length:Int) != ((z8.Comps).length:Int)))) with hB61 | hB61
  ·
   refine ae.bool hB61 ?_
   refine ae.no rfl rfl ?_
   refine ae.no rfl rfl ?_
   refine ae.no rfl rfl ?_
   refine ae.no rfl rfl ?_
   refine ae.val rfl (az (b:=true) rfl rfl) rfl ?_
   exact ae.nil ⟨_,rfl,(aa.put (aa.push rfl (aa.push rfl (aa.push rfl (aa.push rfl (aa.put (.refl _) (Less.eq (by rw [hB61]))))))) (Less.eq (by rw [hB61]; rw [Bool.true_or])))⟩
  refine ae.bool hB61 ?_
  refine ae.val rfl (ai rfl iG nD rfl) rfl ?_
  refine ae.val rfl (av H59 (i:=0) rfl rfl (aA pF rfl)) rfl ?_
  refine ae.val rfl (jv H59 (i:=2) rfl rfl yJ) rfl ?_
  refine ae.val rfl (ay rfl rfl dD) rfl ?_
  refine ae.val rfl (az (b:=false) rfl rfl) rfl ?_
  exact ae.nil ⟨_,rfl,(aa.put (aa.push rfl (aa.push rfl (aa.push rfl (aa.push rfl (aa.put (.refl _) (Less.eq (by rw [hB61]))))))) (Less.eq (by rw [hB61]; rw [Bool.false_or])))⟩
 refine ae.nil ?_
 refine ax.cond rfl (fun hb62=>?_) (fun hb62=>?_)
 ·
  replace h:=cB hb62 h
  refine ax.seq ?_
  refine ax.region (dA E) rfl ?_
  refine ae.val rfl (aj rfl) rfl ?_
  refine ae.nil ?_
  have hr:=Option.some.inj h
  subst hr
  exact ax.ret ⟨_,rfl,rfl,dY (aD.eq .nil)⟩
 replace h:=cK hb62 h
 refine ax.skip ?_
 refine ax.seq ?_
 refine ax.region (dA E) rfl ?_
 refine ae.val rfl (ah rfl) rfl ?_
 refine ae.val rfl (ai rfl iZ oO rfl) rfl ?_
 refine ae.val rfl (av H59 (i:=0) rfl rfl (aA pK rfl)) rfl ?_
 refine ae.val rfl (jv H59 (i:=1) rfl rfl sD) rfl ?_
 refine ae.val rfl (ay rfl rfl iV) rfl ?_
 obtain ⟨z63,hzz63,h⟩:=bind_some h
 refine ae.ret rfl (aC rfl rfl) (aN E _ _ _ _ _ hzz63 _ _ (aD.eq (aD.eq (aD.eq .nil)))) rfl ?_
 refine ae.val rfl (aj rfl) rfl ?_
 refine ae.nil ?_
 refine ax.seq ?_
 refine ax.region (dA E) rfl ?_
 refine ae.val rfl (ah rfl) rfl ?_
 obtain ⟨z64,hzz64,h⟩:=bind_some h
 refine ae.ret rfl (aC rfl rfl) (aN E _ _ _ _ _ hzz64 _ _ (aD.eq (aD.eq (aD.eq .nil)))) rfl ?_
 refine ae.val rfl (ay rfl rfl bI) rfl ?_
 refine ae.val rfl (aj rfl) rfl ?_
 refine ae.nil ?_
 refine ax.seq ?_
 refine ax.region (dA E) rfl ?_
 refine ae.val rfl (ai rfl iZ oO rfl) rfl ?_
 refine ae.val rfl (av H59 (i:=0) rfl rfl (aA pK rfl)) rfl ?_
 refine ae.val rfl (ah rfl) rfl ?_
 obtain ⟨z65,hzz65,h⟩:=bind_some h
 refine ae.iM (enc:=aB) H59 rfl (i:=1) rfl rfl rfl hzz65 oK lY ((ak.len _).trans jm.symm) rfl ?_
 refine ae.val rfl (aj rfl) rfl ?_
 refine ae.nil ?_
 refine ax.join (B:=aF) (α:=(List aJ) × AV × Int × (List ak) × (List aJ)) (fun a=>aW n a1 z8 a.1 a.2.2.1 a.2.2.2.1 a.2.2.2.2=some r) (fun a=>[(4,(.ptr b5 0 0)),(9,(.ptr b9 0 0)),(14,(.ptr b55 0 0))]) (fun a=>[.box b55 [v53,a.2.1,(.d (.int .i64 a.2.2.1))],.row 8 v53 ((a.2.2.2.1).map aB),.box b9 [(.d (.sl ((z8.Records).map aB) false)),(.d (.sl ((z8.Comps).map aI) false)),(.d (.int .i64 z8.Cache))],.box b5 [(.d (.sl ((a1.Table.Parents).map (D.int .i64)) false)),(.d (.sl ((a1.Table.Kinds).map (D.int .i64)) false)),(.d (.sl ((a1.Table.Texts).map (D.int .i64)) false)),(.d (.sl ((a1.Table.Rules).map (D.int .i64)) false)),(.d (.sl ((a1.Table.Flags).map (D.int .i64)) false)),(.d (.sl ((a1.Table.fq).map (D.int .i64)) false)),(.d (.sl ((a1.Table.Comps).map (D.int .i64)) false)),(.d (.sl ((a1.Parts).map dH) false)),(.d (.int .i64 a1.Cache))],.row 8 a.2.1 ((a.1).map aI)]) ?_ ?_
 ·
  intro a S66 H67 h
  obtain ⟨x68,v69,x70,x71,x72⟩:=a
  replace h:aW n a1 z8 x68 x70 x71 x72=some r:=h
  replace H67:Has aF S66 [.box b55 [v53,v69,(.d (.int .i64 x70))],.row 8 v53 ((x71).map aB),.box b9 [(.d (.sl ((z8.Records).map aB) false)),(.d (.sl ((z8.Comps).map aI) false)),(.d (.int .i64 z8.Cache))],.box b5 [(.d (.sl ((a1.Table.Parents).map (D.int .i64)) false)),(.d (.sl ((a1.Table.Kinds).map (D.int .i64)) false)),(.d (.sl ((a1.Table.Texts).map (D.int .i64)) false)),(.d (.sl ((a1.Table.Rules).map (D.int .i64)) false)),(.d (.sl ((a1.Table.Flags).map (D.int .i64)) false)),(.d (.sl ((a1.Table.fq).map (D.int .i64)) false)),(.d (.sl ((a1.Table.Comps).map (D.int .i64)) false)),(.d (.sl ((a1.Parts).map dH) false)),(.d (.int .i64 a1.Cache))],.row 8 v69 ((x68).map aI)]:=H67
  unfold aW at h
  refine ax.seq ?_
  refine ax.seq ?_
  refine ax.region (dA E) rfl ?_
  refine ae.val rfl (av H67 (i:=0) rfl rfl (aZ tF nG rfl)) rfl ?_
  obtain ⟨z74,hzz74,h⟩:=bind_some h
  refine ae.J8 (dA E).toObjOk rfl (aC rfl rfl) (kY E n _ _ hzz74) rfl (.cons ((dK.eq (dK.mk x71 x68 x70)) ▸ qb.agg (ds:=[(.sl ((x71).map aB) false),(.sl ((x68).map aI) false),(.int .i64 x70)]) (.cons (qb.row H67 (i:=1) rfl) (.cons (qb.row H67 (i:=4) rfl) (.cons (.less (.refl _)) .nil))) rfl) .nil) rfl ?_
  refine ae.val rfl (ah rfl) rfl ?_
  obtain ⟨z76,hzz76,h⟩:=bind_some h
  refine ae.bC 4 171 (.d (.bool z76)) ?_ ?_
  ·
   rcases Bool.eq_false_or_eq_true (z74) with hB75 | hB75
   ·
    refine ae.bool hB75 ?_
    refine ae.no rfl rfl ?_
    refine ae.no rfl rfl ?_
    refine ae.no rfl rfl ?_
    refine ae.val rfl (az (b:=true) rfl rfl) rfl ?_
    replace hzz76:=cB hB75 hzz76
    cases hzz76
    exact ae.nil ⟨_,rfl,(aa.put (aa.push rfl (aa.push rfl (aa.push rfl (aa.put (.refl _) (Less.eq (by rw [hB75])))))) (.refl _))⟩
   refine ae.bool hB75 ?_
   replace hzz76:=cK hB75 hzz76
   refine ae.val rfl (av H67 (i:=2) rfl rfl (aZ tF nG rfl)) rfl ?_
   refine ae.less (Less.agg' (d:=iW z8) (au.eq rfl (au.eq rfl (au.eq rfl .nil))) ((dK.eq _).trans rfl)) ?_
   obtain ⟨z77,hzz77,hzz76⟩:=bind_some hzz76
   refine ae.ret rfl (aC rfl rfl) (kY E _ _ _ hzz77 _ _ (aD.eq .nil)) rfl ?_
   refine ae.val rfl (eZ rfl) rfl ?_
   refine ae.val rfl (az (b:=false) rfl rfl) rfl ?_
   cases hzz76
   exact ae.nil ⟨_,rfl,(aa.put (aa.push rfl (aa.push rfl (aa.push rfl (aa.put (.refl _) (Less.eq (by rw [hB75])))))) (.refl _))⟩
  refine ae.nil ?_
  refine ax.cond rfl (fun hb78=>?_) (fun hb78=>?_)
  ·
   replace h:=cB hb78 h
   refine ax.seq ?_
   refine ax.region (dA E) rfl ?_
   refine ae.val rfl (aj rfl) rfl ?_
   refine ae.nil ?_
   have hr:=Option.some.inj h
   subst hr
   exact ax.ret ⟨_,rfl,rfl,dY (aD.eq .nil)⟩
  replace h:=cK hb78 h
  refine ax.skip ?_
  refine ax.seq ?_
  refine ax.region (dA E) rfl ?_
  refine ae.val rfl (av H67 (i:=3) rfl rfl (aZ M6 Ng rfl)) rfl ?_
  refine ae.less (Less.agg' (d:=oC a1) (au.eq rfl (au.eq rfl (au.eq rfl (au.eq rfl (au.eq rfl (au.eq rfl (au.eq rfl (au.eq rfl (au.eq rfl .nil))))))))) ((jB.eq _).trans rfl)) ?_
  obtain ⟨z79,hzz79,h⟩:=bind_some h
  refine ae.ret rfl (aC rfl rfl) (mM E _ _ _ hzz79 _ _ (aD.eq .nil)) rfl ?_
  refine ae.alloc H67 rfl vC wC rfl rfl (fun b80 S81 H82=>?_)
  refine ae.store H82 (i:=0) rfl rfl rfl rfl (dK.bf _) rfl nG rfl Bj rfl rfl rfl (fun S83 H84=>?_)
  refine ae.nil ?_
  refine ax.seq ?_
  refine ax.region (dA E) rfl ?_
  refine ae.val rfl (av H84 (i:=3) rfl rfl (aZ tF nG rfl)) rfl ?_
  refine ae.less (Less.agg' (d:=iW z8) (au.eq rfl (au.eq rfl (au.eq rfl .nil))) ((dK.eq _).trans rfl)) ?_
  refine ae.val rfl (av H84 (i:=0) rfl rfl (aZ tF nG rfl)) rfl ?_
  refine ae.less (Less.agg' (d:=iW z79) (au.eq rfl (au.eq rfl (au.eq rfl .nil))) ((dK.eq _).trans rfl)) ?_
  obtain ⟨z85,hzz85,h⟩:=bind_some h
  refine ae.ret rfl (aC rfl rfl) (uT E _ _ _ _ hzz85 _ _ (aD.eq (aD.eq .nil))) rfl ?_
  refine ae.val rfl (ah rfl) rfl ?_
  obtain ⟨z87,hzz87,h⟩:=bind_some h
  refine ae.bC 2 179 (.d (.bool z87)) ?_ ?_
  ·
   rcases Bool.eq_false_or_eq_true (z85) with hB86 | hB86
   ·
    refine ae.bool hB86 ?_
    replace hzz87:=cB hB86 hzz87
    obtain ⟨z88,hzz88,hzz87⟩:=bind_some hzz87
    refine ae.ret rfl (aC rfl rfl) (qH E _  _ hzz88 _ _ .nil) rfl ?_
    refine ae.val rfl (az (b:=true) rfl rfl) rfl ?_
    cases hzz87
    exact ae.nil ⟨_,rfl,(aa.put (aa.push rfl (aa.put (.refl _) (Less.eq (by rw [hB86])))) (.refl _))⟩
   refine ae.bool hB86 ?_
   refine ae.no rfl rfl ?_
   refine ae.val rfl (az (b:=false) rfl rfl) rfl ?_
   replace hzz87:=cK hB86 hzz87
   cases hzz87
   exact ae.nil ⟨_,rfl,(aa.put (aa.push rfl (aa.put (.refl _) (Less.eq (by rw [hB86])))) (.refl _))⟩
  refine ae.val rfl (aj rfl) rfl ?_
  refine ae.nil ?_
  have hr:=Option.some.inj h
  subst hr
  exact ax.ret ⟨_,rfl,rfl,dY (aD.eq .nil)⟩
 refine ax.seq ?_
 refine ax.region (dA E) rfl ?_
 refine ae.val rfl (ah rfl) rfl ?_
 obtain ⟨z89,hzz89,h⟩:=bind_some h
 refine ae.ret rfl (aC rfl rfl) (aN E _ _ _ _ _ hzz89 _ _ (aD.eq (aD.eq (aD.eq .nil)))) rfl ?_
 refine ae.nil ?_
 refine ax.block ?_
 refine ax.seq ?_
 refine ax.region (dA E) rfl ?_
 refine ae.val rfl (ay rfl rfl dD) rfl ?_
 refine ae.val rfl (aj rfl) rfl ?_
 refine ae.nil ?_
 refine ax.cond rfl (fun hb90=>?_) (fun hb90=>?_)
 ·
  replace h:=cB hb90 h
  refine ax.region (dA E) rfl ?_
  refine ae.val rfl (ah rfl) rfl ?_
  refine ae.val rfl (ay rfl rfl bI) rfl ?_
  refine ae.val rfl (ai rfl xG kL rfl) rfl ?_
  refine ae.store H59 (i:=0) rfl rfl rfl rfl rfl rfl pI rfl xC rfl rfl rfl (fun S91 H92=>?_)
  refine ae.nil ?_
  exact ⟨⟨z47.Comps,v54,(IntKind.wrap .i64 (8 + (IntKind.wrap .i64 (1 + z64)))),z47.Records,z47.Comps⟩,_,_,S91,.refl _ _,.refl _,(aa.r rfl (aa.r rfl (aa.r rfl aa.nil))),H92.sl [0,1,3,4,2] rfl rfl,h⟩
 replace h:=cK hb90 h
 refine ax.seq ?_
 refine ax.region (dA E) rfl ?_
 refine ae.val rfl (ay rfl rfl dD) rfl ?_
 refine ae.val rfl (aj rfl) rfl ?_
 refine ae.nil ?_
 refine ax.cond rfl (fun hb93=>?_) (fun hb93=>?_)
 ·
  replace h:=cB hb93 h
  refine ax.region (dA E) rfl ?_
  refine ae.val rfl (ah rfl) rfl ?_
  refine ae.val rfl (Eb rfl) rfl ?_
  refine ae.val rfl (ai rfl xG kL rfl) rfl ?_
  refine ae.store H59 (i:=0) rfl rfl rfl rfl rfl rfl pI rfl xC rfl rfl rfl (fun S94 H95=>?_)
  refine ae.nil ?_
  exact ⟨⟨z47.Comps,v54,(IntKind.wrap .i64 (0 - (IntKind.wrap .i64 (1 + z64)))),z47.Records,z47.Comps⟩,_,_,S94,.refl _ _,.refl _,(aa.r rfl (aa.r rfl (aa.r rfl aa.nil))),H95.sl [0,1,3,4,2] rfl rfl,h⟩
 replace h:=cK hb93 h
 refine ax.seq ?_
 refine ax.region (dA E) rfl ?_
 refine ae.val rfl (ay rfl rfl dD) rfl ?_
 refine ae.val rfl (aj rfl) rfl ?_
 refine ae.nil ?_
 refine ax.cond rfl (fun hb96=>?_) (fun hb96=>?_)
 ·
  replace h:=cB hb96 h
  refine ax.region (dA E) rfl ?_
  refine ae.val rfl (ah rfl) rfl ?_
  refine ae.val rfl (ai rfl iG nD rfl) rfl ?_
  refine ae.val rfl (av H59 (i:=0) rfl rfl (aA pF rfl)) rfl ?_
  refine ae.val rfl (jv H59 (i:=2) rfl rfl yJ) rfl ?_
  refine ae.val rfl (ay rfl rfl iV) rfl ?_
  refine ae.val rfl (ah rfl) rfl ?_
  refine ae.val rfl (ay rfl rfl bI) rfl ?_
  refine ae.qQ H59 (i:=1) rfl hzz65 rfl rfl rfl ?_
  refine ae.gu H59 (i:=1) rfl hzz65 rfl rfl oN kL rfl rfl ?_
  refine ae.gV (enc:=aB) (z':=(ak.mk z65.Name z65.Parent z65.dX (IntKind.wrap .i64 ((IntKind.wrap .i64 (((z47.Comps).length:Int) - 1)) + (IntKind.wrap .i64 (1 + z64)))) z65.fT z65.aH)) (cv:=[(.int .i64 (IntKind.wrap .i64 ((IntKind.wrap .i64 (((z47.Comps).length:Int) - 1)) + (IntKind.wrap .i64 (1 + z64)))))]) H59 rfl (i:=1) rfl hzz65 rfl rfl rfl (.cons (.refl _) .nil) pI rfl xC (by rw [ak.len]; rfl) (by rw [ak.cells,ak.cells]; rfl) (ak.flat _) (fun S97 H98=>?_)
  refine ae.nil ?_
  exact ⟨⟨z47.Comps,v54,z47.Cache,(je z47.Records z63 (ak.mk z65.Name z65.Parent z65.dX (IntKind.wrap .i64 ((IntKind.wrap .i64 (((z47.Comps).length:Int) - 1)) + (IntKind.wrap .i64 (1 + z64)))) z65.fT z65.aH)),z47.Comps⟩,_,_,S97,.refl _ _,.refl _,(aa.r rfl (aa.r rfl (aa.r rfl aa.nil))),H98.sl [0,1,3,4,2] rfl rfl,h⟩
 replace h:=cK hb96 h
 refine ax.seq ?_
 refine ax.region (dA E) rfl ?_
 refine ae.val rfl (ay rfl rfl dD) rfl ?_
 refine ae.val rfl (aj rfl) rfl ?_
 refine ae.nil ?_
 refine ax.cond rfl (fun hb99=>?_) (fun hb99=>?_)
 ·
  replace h:=cB hb99 h
  refine ax.region (dA E) rfl ?_
  refine ae.val rfl (ah rfl) rfl ?_
  refine ae.val rfl (ah rfl) rfl ?_
  refine ae.val rfl (Eb rfl) rfl ?_
  refine ae.qQ H59 (i:=1) rfl hzz65 rfl rfl rfl ?_
  refine ae.gu H59 (i:=1) rfl hzz65 rfl rfl oN kL rfl rfl ?_
  refine ae.gV (enc:=aB) (z':=(ak.mk z65.Name z65.Parent z65.dX (IntKind.wrap .i64 (0 - (IntKind.wrap .i64 (1 + z64)))) z65.fT z65.aH)) (cv:=[(.int .i64 (IntKind.wrap .i64 (0 - (IntKind.wrap .i64 (1 + z64)))))]) H59 rfl (i:=1) rfl hzz65 rfl rfl rfl (.cons (.refl _) .nil) pI rfl xC (by rw [ak.len]; rfl) (by rw [ak.cells,ak.cells]; rfl) (ak.flat _) (fun S100 H101=>?_)
  refine ae.nil ?_
  exact ⟨⟨z47.Comps,v54,z47.Cache,(je z47.Records z63 (ak.mk z65.Name z65.Parent z65.dX (IntKind.wrap .i64 (0 - (IntKind.wrap .i64 (1 + z64)))) z65.fT z65.aH)),z47.Comps⟩,_,_,S100,.refl _ _,.refl _,(aa.r rfl (aa.r rfl (aa.r rfl aa.nil))),H101.sl [0,1,3,4,2] rfl rfl,h⟩
 replace h:=cK hb99 h
 refine ax.seq ?_
 refine ax.region (dA E) rfl ?_
 refine ae.val rfl (ay rfl rfl dD) rfl ?_
 refine ae.val rfl (aj rfl) rfl ?_
 refine ae.nil ?_
 refine ax.cond rfl (fun hb102=>?_) (fun hb102=>?_)
 ·
  replace h:=cB hb102 h
  refine ax.region (dA E) rfl ?_
  refine ae.val rfl (ah rfl) rfl ?_
  refine ae.val rfl (bH (cs:=[(.d (.int .i64 3)),(.d (.int .i64 0)),(.d (.str [110,111,119,104,101,114,101]))]) MG rfl (rQ) (cO rfl rfl rfl rfl (cO rfl rfl rfl rfl rfl))) rfl ?_
  refine ae.less (Less.agg' (d:=kS (aH.mk 3 0 [110,111,119,104,101,114,101])) (au.eq rfl (au.eq rfl (au.eq rfl .nil))) ((aH.eq _).trans rfl)) ?_
  refine ae.qQ H59 (i:=1) rfl hzz65 rfl rfl rfl ?_
  refine ae.gu H59 (i:=1) rfl hzz65 rfl rfl rA AU rfl rfl ?_
  refine ae.gV (enc:=aB) (z':=(ak.mk z65.Name z65.Parent z65.dX z65.aJ z65.fT (aH.mk 3 0 [110,111,119,104,101,114,101]))) (cv:=[(.int .i64 (aH.mk 3 0 [110,111,119,104,101,114,101]).Kind),(.int .i64 (aH.mk 3 0 [110,111,119,104,101,114,101]).Flag),(.str (aH.mk 3 0 [110,111,119,104,101,114,101]).To)]) H59 rfl (i:=1) rfl hzz65 rfl rfl (aH.bf _) (.refl _) FQ rfl ME (by rw [ak.len]; rfl) (by rw [ak.cells,ak.cells]; rfl) (ak.flat _) (fun S103 H104=>?_)
  refine ae.nil ?_
  exact ⟨⟨z47.Comps,v54,z47.Cache,(je z47.Records z63 (ak.mk z65.Name z65.Parent z65.dX z65.aJ z65.fT (aH.mk 3 0 [110,111,119,104,101,114,101]))),z47.Comps⟩,_,_,S103,.refl _ _,.refl _,(aa.r rfl (aa.r rfl (aa.r rfl aa.nil))),H104.sl [0,1,3,4,2] rfl rfl,h⟩
 replace h:=cK hb102 h
 refine ax.seq ?_
 refine ax.region (dA E) rfl ?_
 refine ae.val rfl (ay rfl rfl dD) rfl ?_
 refine ae.val rfl (aj rfl) rfl ?_
 refine ae.nil ?_
 refine ax.cond rfl (fun hb105=>?_) (fun hb105=>?_)
 ·
  replace h:=cB hb105 h
  refine ax.region (dA E) rfl ?_
  refine ae.val rfl (ah rfl) rfl ?_
  refine ae.val rfl (ah rfl) rfl ?_
  refine ae.val rfl (ay rfl rfl bI) rfl ?_
  refine ae.val rfl (bH (cs:=[(.d (.int .i64 2)),(.d (.int .i64 (IntKind.wrap .i64 (7 + (IntKind.wrap .i64 (1 + z64)))))),(.d (.str []))]) MG rfl (rQ) (cO rfl rfl rfl rfl (cO rfl rfl rfl rfl rfl))) rfl ?_
  refine ae.less (Less.agg' (d:=kS (aH.mk 2 (IntKind.wrap .i64 (7 + (IntKind.wrap .i64 (1 + z64)))) [])) (au.eq rfl (au.eq rfl (au.eq rfl .nil))) ((aH.eq _).trans rfl)) ?_
  refine ae.qQ H59 (i:=1) rfl hzz65 rfl rfl rfl ?_
  refine ae.gu H59 (i:=1) rfl hzz65 rfl rfl rA AU rfl rfl ?_
  refine ae.gV (enc:=aB) (z':=(ak.mk z65.Name z65.Parent z65.dX z65.aJ z65.fT (aH.mk 2 (IntKind.wrap .i64 (7 + (IntKind.wrap .i64 (1 + z64)))) []))) (cv:=[(.int .i64 (aH.mk 2 (IntKind.wrap .i64 (7 + (IntKind.wrap .i64 (1 + z64)))) []).Kind),(.int .i64 (aH.mk 2 (IntKind.wrap .i64 (7 + (IntKind.wrap .i64 (1 + z64)))) []).Flag),(.str (aH.mk 2 (IntKind.wrap .i64 (7 + (IntKind.wrap .i64 (1 + z64)))) []).To)]) H59 rfl (i:=1) rfl hzz65 rfl rfl (aH.bf _) (.refl _) FQ rfl ME (by rw [ak.len]; rfl) (by rw [ak.cells,ak.cells]; rfl) (ak.flat _) (fun S106 H107=>?_)
  refine ae.nil ?_
  exact ⟨⟨z47.Comps,v54,z47.Cache,(je z47.Records z63 (ak.mk z65.Name z65.Parent z65.dX z65.aJ z65.fT (aH.mk 2 (IntKind.wrap .i64 (7 + (IntKind.wrap .i64 (1 + z64)))) []))),z47.Comps⟩,_,_,S106,.refl _ _,.refl _,(aa.r rfl (aa.r rfl (aa.r rfl aa.nil))),H107.sl [0,1,3,4,2] rfl rfl,h⟩
 replace h:=cK hb105 h
 refine ax.seq ?_
 refine ax.region (dA E) rfl ?_
 refine ae.val rfl (ay rfl rfl dD) rfl ?_
 refine ae.val rfl (aj rfl) rfl ?_
 refine ae.nil ?_
 refine ax.cond rfl (fun hb108=>?_) (fun hb108=>?_)
 ·
  replace h:=cB hb108 h
  refine ax.region (dA E) rfl ?_
  refine ae.val rfl (ah rfl) rfl ?_
  refine ae.qQ H59 (i:=1) rfl hzz65 rfl rfl rfl ?_
  refine ae.gu H59 (i:=1) rfl hzz65 rfl rfl uf yO rfl rfl ?_
  refine ae.gV (enc:=aB) (z':=(ak.mk [65] z65.Parent z65.dX z65.aJ z65.fT z65.aH)) (cv:=[(.str [65])]) H59 rfl (i:=1) rfl hzz65 rfl rfl rfl (.cons (.refl _) .nil) Fp rfl Ji (by rw [ak.len]; rfl) (by rw [ak.cells,ak.cells]; rfl) (ak.flat _) (fun S109 H110=>?_)
  refine ae.nil ?_
  exact ⟨⟨z47.Comps,v54,z47.Cache,(je z47.Records z63 (ak.mk [65] z65.Parent z65.dX z65.aJ z65.fT z65.aH)),z47.Comps⟩,_,_,S109,.refl _ _,.refl _,(aa.r rfl (aa.r rfl (aa.r rfl aa.nil))),H110.sl [0,1,3,4,2] rfl rfl,h⟩
 replace h:=cK hb108 h
 refine ax.seq ?_
 refine ax.region (dA E) rfl ?_
 refine ae.val rfl (ay rfl rfl dD) rfl ?_
 refine ae.val rfl (aj rfl) rfl ?_
 refine ae.nil ?_
 refine ax.cond rfl (fun hb111=>?_) (fun hb111=>?_)
 ·
  replace h:=cB hb111 h
  refine ax.region (dA E) rfl ?_
  refine ae.val rfl (ah rfl) rfl ?_
  refine ae.val rfl (ah rfl) rfl ?_
  refine ae.qQ H59 (i:=1) rfl hzz65 rfl rfl rfl ?_
  refine ae.gu H59 (i:=1) rfl hzz65 rfl rfl sQ kL rfl rfl ?_
  refine ae.gV (enc:=aB) (z':=(ak.mk z65.Name z63 z65.dX z65.aJ z65.fT z65.aH)) (cv:=[(.int .i64 z63)]) H59 rfl (i:=1) rfl hzz65 rfl rfl rfl (.cons (.refl _) .nil) pI rfl xC (by rw [ak.len]; rfl) (by rw [ak.cells,ak.cells]; rfl) (ak.flat _) (fun S112 H113=>?_)
  refine ae.nil ?_
  exact ⟨⟨z47.Comps,v54,z47.Cache,(je z47.Records z63 (ak.mk z65.Name z63 z65.dX z65.aJ z65.fT z65.aH)),z47.Comps⟩,_,_,S112,.refl _ _,.refl _,(aa.r rfl (aa.r rfl (aa.r rfl aa.nil))),H113.sl [0,1,3,4,2] rfl rfl,h⟩
 replace h:=cK hb111 h
 refine ax.seq ?_
 refine ax.region (dA E) rfl ?_
 refine ae.val rfl (ay rfl rfl dD) rfl ?_
 refine ae.val rfl (aj rfl) rfl ?_
 refine ae.nil ?_
 refine ax.cond rfl (fun hb114=>?_) (fun hb114=>?_)
 ·
  replace h:=cB hb114 h
  refine ax.join (B:=aF) (α:=(List aJ)) (fun a=>fu n a1 z8 z47 z65 a=some r) (fun a=>[(4,(.ptr b5 0 0)),(9,(.ptr b9 0 0)),(14,(.ptr b55 0 0)),(17,(iF v53 (Int.toNat z63) 0))]) (fun a=>[.box b55 [v53,v54,(.d (.int .i64 z47.Cache))],.row 8 v53 ((z47.Records).map aB),.row 8 v54 ((a).map aI),.box b9 [(.d (.sl ((z8.Records).map aB) false)),(.d (.sl ((z8.Comps).map aI) false)),(.d (.int .i64 z8.Cache))],.box b5 [(.d (.sl ((a1.Table.Parents).map (D.int .i64)) false)),(.d (.sl ((a1.Table.Kinds).map (D.int .i64)) false)),(.d (.sl ((a1.Table.Texts).map (D.int .i64)) false)),(.d (.sl ((a1.Table.Rules).map (D.int .i64)) false)),(.d (.sl ((a1.Table.Flags).map (D.int .i64)) false)),(.d (.sl ((a1.Table.fq).map (D.int .i64)) false)),(.d (.sl ((a1.Table.Comps).map (D.int .i64)) false)),(.d (.sl ((a1.Parts).map dH) false)),(.d (.int .i64 a1.Cache))]]) ?_ ?_
  ·
   intro x117 S115 H116 h
   replace h:fu n a1 z8 z47 z65 x117=some r:=h
   replace H116:Has aF S115 [.box b55 [v53,v54,(.d (.int .i64 z47.Cache))],.row 8 v53 ((z47.Records).map aB),.row 8 v54 ((x117).map aI),.box b9 [(.d (.sl ((z8.Records).map aB) false)),(.d (.sl ((z8.Comps).map aI) false)),(.d (.int .i64 z8.Cache))],.box b5 [(.d (.sl ((a1.Table.Parents).map (D.int .i64)) false)),(.d (.sl ((a1.Table.Kinds).map (D.int .i64)) false)),(.d (.sl ((a1.Table.Texts).map (D.int .i64)) false)),(.d (.sl ((a1.Table.Rules).map (D.int .i64)) false)),(.d (.sl ((a1.Table.Flags).map (D.int .i64)) false)),(.d (.sl ((a1.Table.fq).map (D.int .i64)) false)),(.d (.sl ((a1.Table.Comps).map (D.int .i64)) false)),(.d (.sl ((a1.Parts).map dH) false)),(.d (.int .i64 a1.Cache))]]:=H116
   unfold fu at h
   obtain ⟨z119,hzz119,h⟩:=bind_some h
   refine ax.AP (dA E) pM Oz [(4,none),(9,none),(14,none)] (by kernel_rfl) 1 [11] (by decide) [some (.ptr b55 0 1),some v54,some (iF v53 (Int.toNat z63) 0),some (iF v53 (Int.toNat z63) 0),some (iF v53 (Int.toNat z63) 3),some (.d (.int .i64 z65.aJ)),some (.d (aG (aK.mk 3 0 [] [] [] []))),some (.d (.sl (([(aK.mk 3 0 [] [] [] [])]).map aG) true)),some (.d (aG (aK.mk 1 0 [112] [] [] [(aK.mk 3 0 [] [] [] [])]))),some (iF v54 (Int.toNat z65.aJ) 0),some (iF v54 (Int.toNat z65.aJ) 0),none] ?_
   refine ⟨[11],[0,1,2,3,4,5,6,7,8,9,10],⟨by decide,by decide⟩,by kernel_rfl,?_,?_⟩
   ·
    refine .v rfl rfl rfl rfl (ai rfl iG nD rfl) ?_
    refine .v rfl rfl rfl rfl (av H116 (i:=0) rfl rfl (aA pF rfl)) ?_
    refine .v rfl rfl rfl rfl (ah rfl) ?_
    refine .cons rfl rfl rfl (.step ?_) ?_
    ·
     refine ae.qQ H116 (i:=1) rfl hzz65 rfl rfl rfl ?_
     exact ae.nil ⟨_,_,rfl,fun _ ht=>by cases ht; exact ⟨rfl,.refl _⟩⟩
    refine .cons rfl rfl rfl (.step ?_) ?_
    ·
     refine ae.gu H116 (i:=1) rfl hzz65 rfl rfl oN kL rfl rfl ?_
     exact ae.nil ⟨_,_,rfl,fun _ ht=>by cases ht; exact ⟨rfl,.refl _⟩⟩
    refine .cons rfl rfl rfl (.step ?_) ?_
    ·
     refine ae.lC H116 rfl (i:=1) rfl hzz65 rfl (by rw [ak.cells]; exact dL jl rfl) rfl ?_
     exact ae.nil ⟨_,_,rfl,fun _ ht=>by cases ht; exact ⟨rfl,.refl _⟩⟩
    refine .cons rfl rfl rfl (.step ?_) ?_
    ·
     refine ae.val rfl (bH (cs:=[(.d (.int .i64 3)),(.d (.int .i64 0)),(.d (.str [])),(.d (.str [])),(.d .aO),(.d .aO)]) lJ rfl (iL) (cO rfl rfl rfl rfl rfl)) rfl ?_
     refine ae.less (Less.agg' (d:=aG (aK.mk 3 0 [] [] [] [])) (au.eq rfl (au.eq rfl (au.eq rfl (au.eq rfl (au.gJ rfl (.aO false) rfl rfl (au.gJ rfl (.aO false) rfl rfl .nil)))))) ((aK.eq _).trans rfl)) ?_
     exact ae.nil ⟨_,_,rfl,fun _ ht=>by cases ht; exact ⟨rfl,.refl _⟩⟩
    refine .v rfl rfl rfl rfl (aP (vs:=[(.d (aG (aK.mk 3 0 [] [] [] [])))]) (ds:=[(aG (aK.mk 3 0 [] [] [] []))]) FV nL jE lJ eU rfl (by decide) (.cons rfl (aK.len _) .nil) rfl (by intro d hd; simp only [List.mem_cons,List.not_mem_nil,or_false] at hd; rcases hd with rfl <;> exact aK.agg _) rfl) ?_
    refine .cons rfl rfl rfl (.step ?_) ?_
    ·
     refine ae.val rfl (bH (cs:=[(.d (.int .i64 1)),(.d (.int .i64 0)),(.d (.str [112])),(.d (.str [])),(.d .aO),(.d (.sl (([(aK.mk 3 0 [] [] [] [])]).map aG) true))]) lJ rfl (iL) (cO rfl rfl rfl rfl (cO rfl rfl rfl rfl (cO rfl rfl rfl rfl rfl)))) rfl ?_
     refine ae.less (Less.agg' (d:=aG (aK.mk 1 0 [112] [] [] [(aK.mk 3 0 [] [] [] [])])) (au.eq rfl (au.eq rfl (au.eq rfl (au.eq rfl (au.gJ rfl (.aO false) rfl rfl (au.gJ rfl (.jH _ _) rfl rfl .nil)))))) ((aK.eq _).trans rfl)) ?_
     exact ae.nil ⟨_,_,rfl,fun _ ht=>by cases ht; exact ⟨rfl,.refl _⟩⟩
    refine .cons rfl rfl rfl (.step ?_) ?_
    ·
     refine ae.iM (enc:=aI) H116 rfl (i:=2) rfl rfl rfl hzz119 tJ qx ((aJ.len _).trans jS.symm) rfl ?_
     exact ae.nil ⟨_,_,rfl,fun _ ht=>by cases ht; exact ⟨rfl,.refl _⟩⟩
    refine .cons rfl rfl rfl (.step ?_) ?_
    ·
     refine ae.gu H116 (i:=2) rfl hzz119 rfl rfl vM F7 rfl rfl ?_
     exact ae.nil ⟨_,_,rfl,fun _ ht=>by cases ht; exact ⟨rfl,.refl _⟩⟩
    exact .nil
   intro i hw122
   simp only [List.mem_cons,List.not_mem_nil,or_false] at hw122
   rcases hw122 with rfl
   refine ⟨_,_,rfl,rfl,.step ?_⟩
   refine ae.gV (enc:=aI) (z':=(aJ.mk (aK.mk 1 0 [112] [] [] [(aK.mk 3 0 [] [] [] [])]) z119.Init z119.On)) (cv:=[(.int .i64 (aK.mk 1 0 [112] [] [] [(aK.mk 3 0 [] [] [] [])]).Kind),(.int .i64 (aK.mk 1 0 [112] [] [] [(aK.mk 3 0 [] [] [] [])]).N),(.str (aK.mk 1 0 [112] [] [] [(aK.mk 3 0 [] [] [] [])]).Tag),(.str (aK.mk 1 0 [112] [] [] [(aK.mk 3 0 [] [] [] [])]).Text),(.sl (((aK.mk 1 0 [112] [] [] [(aK.mk 3 0 [] [] [] [])]).bR).map aR) false),(.sl (((aK.mk 1 0 [112] [] [] [(aK.mk 3 0 [] [] [] [])]).Kids).map aG) false)]) H116 rfl (i:=2) rfl hzz119 rfl rfl (aK.bf _) (.refl _) eU rfl nA (by rw [aJ.len]; rfl) (by rw [aJ.cells,aJ.cells]; rfl) (aJ.flat _) (fun S123 H124=>?_)
   refine ae.nil ⟨_,.any,_,rfl,(fun _ ht=>by cases ht),_,(.q (.q (.o (.o (.o (.w .any .nil)))))),(fun _ ht=>by cases ht),?_⟩
   refine ⟨rfl,[],by kernel_rfl,?_,_,rfl,?_⟩
   ·
    exact .nil
   exact ⟨⟨(je x117 z65.aJ (aJ.mk (aK.mk 1 0 [112] [] [] [(aK.mk 3 0 [] [] [] [])]) z119.Init z119.On)),v54,z47.Cache,z47.Records,(je x117 z65.aJ (aJ.mk (aK.mk 1 0 [112] [] [] [(aK.mk 3 0 [] [] [] [])]) z119.Init z119.On))⟩,_,_,S123,.refl _ _,.refl _,(aa.r rfl (aa.r rfl (aa.r rfl aa.nil))),H124.sl [0,1,3,4,2] rfl rfl,h⟩
  obtain ⟨z125,hzz125,h⟩:=bind_some h
  refine ax.AP (dA E) pM PD [(4,none),(9,none),(14,none),(17,none)] (by kernel_rfl) 1 [8] (by decide) [some (.ptr b55 0 1),some v54,some (iF v53 (Int.toNat z63) 0),some (iF v53 (Int.toNat z63) 0),some (iF v53 (Int.toNat z63) 3),some (.d (.int .i64 z65.aJ)),some (iF v54 (Int.toNat z65.aJ) 0),some (iF v54 (Int.toNat z65.aJ) 6),none] ?_
  refine ⟨[8],[0,1,2,3,4,5,6,7],⟨by decide,by decide⟩,by kernel_rfl,?_,?_⟩
  ·
   refine .v rfl rfl rfl rfl (ai rfl iG nD rfl) ?_
   refine .v rfl rfl rfl rfl (av H59 (i:=0) rfl rfl (aA pF rfl)) ?_
   refine .v rfl rfl rfl rfl (ah rfl) ?_
   refine .cons rfl rfl rfl (.step ?_) ?_
   ·
    refine ae.qQ H59 (i:=1) rfl hzz65 rfl rfl rfl ?_
    exact ae.nil ⟨_,_,rfl,fun _ ht=>by cases ht; exact ⟨rfl,.refl _⟩⟩
   refine .cons rfl rfl rfl (.step ?_) ?_
   ·
    refine ae.gu H59 (i:=1) rfl hzz65 rfl rfl oN kL rfl rfl ?_
    exact ae.nil ⟨_,_,rfl,fun _ ht=>by cases ht; exact ⟨rfl,.refl _⟩⟩
   refine .cons rfl rfl rfl (.step ?_) ?_
   ·
    refine ae.lC H59 rfl (i:=1) rfl hzz65 rfl (by rw [ak.cells]; exact dL jl rfl) rfl ?_
    exact ae.nil ⟨_,_,rfl,fun _ ht=>by cases ht; exact ⟨rfl,.refl _⟩⟩
   refine .cons rfl rfl rfl (.step ?_) ?_
   ·
    refine ae.iM (enc:=aI) H59 rfl (i:=2) rfl rfl rfl hzz125 tJ qx ((aJ.len _).trans jS.symm) rfl ?_
    exact ae.nil ⟨_,_,rfl,fun _ ht=>by cases ht; exact ⟨rfl,.refl _⟩⟩
   refine .cons rfl rfl rfl (.step ?_) ?_
   ·
    refine ae.gu H59 (i:=2) rfl hzz125 rfl rfl rF lV rfl rfl ?_
    exact ae.nil ⟨_,_,rfl,fun _ ht=>by cases ht; exact ⟨rfl,.refl _⟩⟩
   exact .nil
  intro i hw128
  simp only [List.mem_cons,List.not_mem_nil,or_false] at hw128
  rcases hw128 with rfl
  refine ⟨_,_,rfl,rfl,.step ?_⟩
  refine ae.gV (enc:=aI) (z':=(aJ.mk z125.aK [] z125.On)) (cv:=[(.sl (([]).map (D.int .i64)) false)]) H59 rfl (i:=2) rfl hzz125 rfl rfl rfl (.cons Li .nil) N7 rfl NM (by rw [aJ.len]; rfl) (by rw [aJ.cells,aJ.cells]; rfl) (aJ.flat _) (fun S129 H130=>?_)
  refine ae.nil ⟨_,.any,_,rfl,(fun _ ht=>by cases ht),_,(.q (.q (.w .any .nil))),(fun _ ht=>by cases ht),?_⟩
  refine ⟨rfl,[],by kernel_rfl,?_,_,rfl,?_⟩
  ·
   exact .nil
  exact ⟨(je z47.Comps z65.aJ (aJ.mk z125.aK [] z125.On)),_,_,S129,.refl _ _,.refl _,(aa.r rfl (aa.r rfl (aa.r rfl (aa.r rfl aa.nil)))),H130.sl [0,1,2,3,4] rfl rfl,h⟩
 replace h:=cK hb114 h
 refine ax.region (dA E) rfl ?_
 refine ae.val rfl (ai rfl iG nD rfl) rfl ?_
 refine ae.store H59 (i:=0) rfl rfl rfl rfl rfl rfl K5 rfl K9 rfl rfl rfl (fun S131 H132=>?_)
 refine ae.nil ?_
 have H133:=H132.JN 8
 exact ⟨⟨[],(.d .aO),z47.Cache,z47.Records,z47.Comps⟩,_,_,S131,.refl _ _,.refl _,(aa.r rfl (aa.r rfl (aa.r rfl aa.nil))),H133.sl [1,2,4,5,0] rfl rfl,h⟩
end
end Pr
end Go.Ev

namespace Go.Ev
namespace Pr
set_option linter.unusedVariables false
set_option linter.unusedSimpArgs false
theorem kz {n:Int} (h0:-9223372036854775808 ≤ n) (h1:n ≤ 9223372036854775807):IntKind.wrap .i64 n=n:=Go.IntWalk.i64_in n ⟨h0,h1⟩
theorem gH {α:Type} (l:List α) (i:Nat):idx l (i:Int)=l[i]?:=by
 unfold idx
 rw [if_pos (by omega)]
 simp
theorem iN {α:Type} {l done rest:List α} {z:α} (h:l=done ++ z :: rest):idx l (done.length:Int)=some z:=by
 rw [gH,h]; simp
theorem lU {α:Type} (l:List α) {i:Int} (h0:0 ≤ i) (h1:i < l.length):∃ x,idx l i=some x∧x ∈ l∧l[i.toNat]? = some x:=by
 obtain ⟨j,rfl⟩:=Int.eq_ofNat_of_zero_le h0
 have hj:j < l.length:=by omega
 exact ⟨l[j],by rw [gH]; exact List.getElem?_eq_getElem hj,List.getElem_mem hj,by simp [hj]⟩
theorem jD {α:Type} {nb:Nat} {l ys:List α} (h:(l.length + ys.length) * nb ≤ bound):app nb l ys=some (l ++ ys):=by
 unfold app; rw [if_pos h]
theorem wK {k:IntKind} {a b:Int} (h:b ≠ 0):FR k a b=some (a.tmod b):=by
 unfold FR; rw [if_neg h]
theorem bnd:bound=70368744177664:=rfl
end Pr
end Go.Ev

namespace Go.Ev
namespace Pr
namespace C
set_option linter.unusedVariables false
set_option linter.unusedSimpArgs false
set_option linter.unusedSectionVars false
theorem eY (n:Nat) (a lo hi:Int) (h1:lo ≤ hi) (h2:-1000000000000 ≤ lo) (h3:hi ≤ 1000000000000000):∃ r,aT n a lo hi=some r∧lo ≤ r∧r ≤ hi:=by
 unfold aT
 rw [kz (n:=hi - lo) (by omega) (by omega),kz (by omega) (by omega),wK (by omega),Option.bind_some]
 have k1:=Int.tmod_lt_of_pos a (show 0 < hi - lo + 1 by omega)
 have k2:=Int.lt_tmod_of_pos a (show 0 < hi - lo + 1 by omega)
 unfold fO
 by_cases hz:a.tmod (hi - lo + 1) < 0
 ·
  rw [if_pos (by simpa using hz)]
  rw [kz (n:=a.tmod (hi - lo + 1) + hi) (by omega) (by omega),kz (n:=a.tmod (hi - lo + 1) + hi - lo) (by omega) (by omega),kz (n:=a.tmod (hi - lo + 1) + hi - lo + 1) (by omega) (by omega),kz (by omega) (by omega)]
  exact ⟨_,rfl,by omega,by omega⟩
 ·
  rw [if_neg (by simpa using hz),kz (by omega) (by omega)]
  exact ⟨_,rfl,by omega,by omega⟩
theorem mi (n:Nat) (l:List Int) (i:Int) (h:0 ≤ i):∃ r,bX n l i=some r:=by
 unfold bX
 by_cases h0:l.length=0
 ·
  rw [if_pos (by simp; exact List.eq_nil_of_length_eq_zero h0)]; exact ⟨_,rfl⟩
 ·
  rw [if_neg (by simp; intro q; exact h0 (by rw [q]; rfl)),wK (by omega),Option.bind_some]
  have hp:(0:Int) < (l.length:Int):=by omega
  obtain ⟨x,hx,_⟩:=lU l (i:=i.tmod l.length) (Int.tmod_nonneg _ h) (Int.tmod_lt_of_pos _ hp)
  exact ⟨x,by rw [hx]; rfl⟩
theorem Eh (l:List Int) (q:Int→Bool):∀ (rest done:List Int) (f:Nat),l=done ++ rest→rest.length < f→l.length < 1000000→∃ r,bP l (fun y=>some (q y)) f (done.length:Int)=some r∧decide (0 ≤ r)=rest.any q
 | [],done,f + 1,h,hf,hl=>by
  refine ⟨-1,?_,rfl⟩
  rw [bP,if_neg (by subst h; simp)]
 | z :: rest,done,f + 1,h,hf,hl=>by
  have hd:done.length < l.length:=by subst h; simp
  rw [bP,if_pos (by rw [decide_eq_true_eq]; omega),iN h,Option.bind_some,Option.bind_some]
  by_cases hq:q z=true
  ·
   rw [if_pos hq]; exact ⟨_,rfl,by simp [hq]⟩
  ·
   rw [if_neg hq,kz (by omega) (by omega)]
   obtain ⟨r,h1,h2⟩:=Eh l q rest (done ++ [z]) f (by simp [h]) (by simp at hf; omega) hl
   refine ⟨r,by rw [← h1]; simp,?_⟩
   rw [h2]; simp [hq]
theorem KL (n:Nat) (l:List Int) (q:Int→Bool) (h:l.length < n) (hl:l.length < 1000000):fA n l (fun y=>some (q y))=some (l.any q):=by
 obtain ⟨r,h1,h2⟩:=Eh l q l [] n rfl h hl
 unfold fA iq
 rw [show (0:Int)=(([]:List Int).length:Int) from rfl,h1,Option.bind_some,← h2]; rfl
def A8 (v:Int):Bool:=decide (-1000 ≤ v) && decide (v ≤ 1000)
theorem Kh (n:Nat) (v:Int):tL n v=some (A8 v):=rfl
theorem Ml (n:Nat) (l:List Int) (h:l.length < n) (hl:l.length < 1000000) (hm:∀ v ∈ l,A8 v=true):qp n l=some true:=by
 unfold qp
 have e:(fun y2=>nV n y2)=fun y=>some (!A8 y):=by funext y; unfold nV; rw [Kh,Option.bind_some]
 rw [e,KL n l _ h hl,Option.bind_some]
 have:(l.any fun y=>!A8 y)=false:=by rw [List.any_eq_false]; intro x hx; simp [hm x hx]
 rw [this]; rfl
def KR (m:Nat) (o:On):Prop:=0 ≤ o.N∧o.N < m∧A8 o.Add=true
theorem EW {v:Int}:A8 v=true↔-1000 ≤ v∧v ≤ 1000:=by simp [A8]
theorem BF (a b:List Int):∀ (rest done rest2:List Int) (f:Nat),a=done ++ rest→b=done ++ rest2→rest.length=rest2.length→rest.length < f→a.length < 1000000→dJ a b f (done.length:Int)=some (rest == rest2)
 | [],done,[],f + 1,h,h2,_,hf,hl=>by rw [dJ,if_neg (by subst h; simp)]; rfl
 | z :: rest,done,y :: rest2,f + 1,h,h2,he,hf,hl=>by
  have hd:done.length < a.length:=by subst h; simp
  rw [dJ,if_pos (by rw [decide_eq_true_eq]; omega),iN h,iN h2,Option.bind_some,Option.bind_some]
  by_cases hq:z=y
  ·
   subst hq
   rw [if_neg (by simp),kz (by omega) (by omega)]
   have:=BF a b rest (done ++ [z]) rest2 f (by simp [h]) (by simp [h2]) (by simpa using he) (by simp at hf; omega) hl
   simp only [List.length_append,List.length_cons,List.length_nil,Nat.zero_add,Int.natCast_add,Int.cast_ofNat_Int] at this
   rw [this]; simp
  ·
   rw [if_pos (by simp [hq])]; simp [hq]
theorem KM (n:Nat) (a b:List Int) (h:a.length < n) (hl:a.length < 1000000):iU n a b=some (a == b):=by
 unfold iU
 by_cases he:a.length=b.length
 ·
  rw [if_neg (by simp [he])]
  exact BF a b a [] b n rfl rfl he h hl
 ·
  rw [if_pos (by simp; omega)]
  have:(a == b)=false:=by rw [beq_eq_false_iff_ne]; intro q; exact he (by rw [q])
  rw [this]
def letters:Str:=[97,98,99,100,101,102,103,104,105,106,107,108,109,110,111,112,113,114,115,116,117,118,119,120,121,122,48,49,50,51,52,53,54,55,56,57]
def C8 (o:On):Prop:=o.Event ≠ []∧o.Event.length ≤ 16∧lN 0 o.Event letters=some []
theorem Aw (n:Nat) (c:aJ):∀ (rest done:List On) (f:Nat),c.On=done ++ rest→rest.length < f→c.On.length < 1000000→(∀ o ∈ rest,KR c.Init.length o∧C8 o)→ig n c f (done.length:Int)=some true
 | [],done,f + 1,h,hf,hl,ho=>by rw [ig,if_neg (by rw [h]; simp)]
 | o :: rest,done,f + 1,h,hf,hl,ho=>by
  have hd:done.length < c.On.length:=by rw [h]; simp
  obtain ⟨⟨o1,o2,o3⟩,o4,o5,o6⟩:=ho o (by simp)
  have hT:lN n o.Event [97,98,99,100,101,102,103,104,105,106,107,108,109,110,111,112,113,114,115,116,117,118,119,120,121,122,48,49,50,51,52,53,54,55,56,57]=some []:=o6
  rw [ig,if_pos (by rw [decide_eq_true_eq]; omega),iN h,Option.bind_some]
  rw [if_pos (by simp [o4]; omega),hT,Option.bind_some,Option.bind_some,if_neg (by simp; omega),Kh,Option.bind_some,Option.bind_some,o3,if_neg (by simp),kz (by omega) (by omega)]
  have:=Aw n c rest (done ++ [o]) f (by simp [h]) (by simp at hf; omega) hl (fun p hp=>ho p (by simp [hp]))
  simp only [List.length_append,List.length_cons,List.length_nil,Nat.zero_add,Int.natCast_add,Int.cast_ofNat_Int] at this
  exact this
theorem IM (n:Nat) (hn:30 < n) (c:aJ) (h1:c.Init.length ≤ 6) (h2:∀ v ∈ c.Init,A8 v=true) (h3:c.On.length ≤ 24) (h4:jJ n c.aK (c.Init.length:Int)=some true) (h5:∀ o ∈ c.On,KR c.Init.length o∧C8 o):ja n c=some true:=by
 unfold ja
 rw [if_neg (by simp; omega),Ml n c.Init (by omega) (by omega) h2,Option.bind_some,Option.bind_some]
 rw [if_neg (by simp; omega),h4,Option.bind_some,Option.bind_some,if_neg (by simp)]
 exact Aw n c c.On [] n rfl (by omega) (by omega) h5
mutual
def jN:aK→Nat
 | .mk _ _ _ _ _ ks=>1 + jA ks
def jA:List aK→Nat
 | []=>0
 | t :: l=>jN t + jA l
end
mutual
def qC:aK→Nat
 | .mk _ _ _ _ _ ks=>1 + lS ks
def lS:List aK→Nat
 | []=>0
 | t :: l=>max (qC t) (lS l)
end
theorem dV (t:aK):jN t=1 + jA t.Kids:=by cases t; rw [jN]; rfl
theorem rR (t:aK):qC t=1 + lS t.Kids:=by cases t; rw [qC]; rfl
theorem Bq:∀ (a b:List aK),jA (a ++ b)=jA a + jA b
 | [],b=>by simp [jA]
 | x :: a,b=>by simp only [List.cons_append,jA,Bq a b]; omega
theorem Ci:∀ (a b:List aK),lS (a ++ b)=max (lS a) (lS b)
 | [],b=>by simp [lS]
 | x :: a,b=>by simp only [List.cons_append,lS,Ci a b]; omega
theorem kI:∀ (l:List aK),l.length ≤ jA l
 | []=>Nat.le_refl _
 | x :: l=>by
  have:=kI l
  have:=dV x
  simp only [List.length_cons,jA]; omega
theorem Bt:∀ {l:List aK} {z:aK},z ∈ l→jN z ≤ jA l
 | x :: l,z,h=>by
  rcases List.mem_cons.1 h with rfl | h
  ·
   simp only [jA]; omega
  ·
   have:=Bt h
   simp only [jA]; omega
theorem jX {t z:aK} (h:z ∈ t.Kids):jN z < jN t:=by
 have:=Bt h
 have:=dV t; omega
def oh:Str:=[111,117,116,108,101,116]
mutual
def pg (m:Int):aK→Prop
 | .mk k n g x a ks=>(1 ≤ k∧k ≤ m)∧(k ≠ 1→k ≠ 5→k ≠ 6→ks=[])∧g ≠ oh∧(0 ≤ n∧n ≤ 4)∧a.length ≤ 64∧Nn m ks
def Nn (m:Int):List aK→Prop
 | []=>True
 | t :: l=>pg m t∧Nn m l
end
theorem G8 {m:Int}:∀ {l:List aK},Nn m l↔∀ z ∈ l,pg m z
 | []=>by simp [Nn]
 | t :: l=>by
  rw [Nn,G8 (l:=l)]; simp
theorem oU {m:Int} (t:aK):pg m t↔(1 ≤ t.Kind∧t.Kind ≤ m)∧(t.Kind ≠ 1→t.Kind ≠ 5→t.Kind ≠ 6→t.Kids=[])∧t.Tag ≠ oh∧(0 ≤ t.N∧t.N ≤ 4)∧t.bR.length ≤ 64∧(∀ z ∈ t.Kids,pg m z):=by
 cases t
 rw [pg,G8]; rfl
theorem y8:∀ (m:Nat) (t:aK),jN t ≤ m→pg 6 t→pg 7 t
 | 0,t,h,_=>by have:=dV t; omega
 | m + 1,t,h,g=>by
  obtain ⟨⟨a1,a2⟩,a3,a4,a5,a6,a7⟩:=(oU t).1 g
  exact (oU t).2 ⟨⟨a1,by omega⟩,a3,a4,a5,a6,fun z hz=>y8 m z (by have:=jX hz; omega) (a7 z hz)⟩
theorem zT (n:Nat) (self:aK→Option (Int × Int)) (t:aK) (hs:∀ z ∈ t.Kids,self z=some ((jN z:Int),(qC z:Int))) (hl:jN t < 1000000) (hD:∀ z ∈ t.Kids,qC z < 1000000):∀ (rest done:List aK) (k a d:Nat),t.Kids=done ++ rest→rest.length < k→a + jA rest < 2000000→d < 1000000 →
  ik self t k (a:Int) (d:Int) (done.length:Int)=some (((a + jA rest:Nat):Int),((max d (lS rest) + 1:Nat):Int))
 | [],done,k + 1,a,d,h,hk,ha,hd=>by
  rw [ik,if_neg (by rw [h]; simp),kz (by omega) (by omega)]
  simp [jA,lS]
 | z :: rest,done,k + 1,a,d,h,hk,ha,hd=>by
  have hlen:done.length < t.Kids.length:=by rw [h]; simp
  have:=kI t.Kids
  have:=dV t
  have hz:z ∈ t.Kids:=by rw [h]; simp
  have hdz:=hD z hz
  simp only [jA] at ha
  rw [ik,if_pos (by rw [decide_eq_true_eq]; omega),iN h,Option.bind_some,hs z hz,Option.bind_some]
  have e:Kt (d:Int) (qC z:Int)=((max d (qC z):Nat):Int):=by unfold Kt; split <;> omega
  simp only [e]
  rw [kz (n:=(a:Int) + (jN z:Int)) (by omega) (by omega),kz (n:=(done.length:Int) + 1) (by omega) (by omega)]
  have:=zT n self t hs hl hD rest (done ++ [z]) k (a + jN z) (max d (qC z)) (by simp [h]) (by simp at hk; omega) (by omega) (by omega)
  simp only [List.length_append,List.length_cons,List.length_nil,Nat.zero_add,Int.natCast_add,Int.cast_ofNat_Int] at this
  rw [this]
  simp only [jA,lS,Option.some.injEq,Prod.mk.injEq]
  refine ⟨by omega,by omega⟩
theorem GZ:∀ (m:Nat) (t:aK),jN t ≤ m→qC t ≤ jN t
 | 0,t,h=>by have:=dV t; omega
 | m + 1,t,h=>by
  rw [dV,rR]
  have:∀ (l:List aK),(∀ z ∈ l,qC z ≤ jN z)→lS l ≤ jA l:=by
   intro l
   induction l with
   | nil=>intro _; exact Nat.le_refl _
   | cons z l ih =>
    intro hz
    have h1:=hz z (by simp)
    have h2:=ih (fun y hy=>hz y (by simp [hy]))
    simp only [lS,jA]; omega
  have:=this t.Kids (fun z hz=>GZ m z (by have:=jX hz; omega))
  omega
theorem Ez:∀ (m:Nat) (t:aK),jN t ≤ m→m < 1000000→∀ n,m < n→jM n t=some ((jN t:Int),(qC t:Int))
 | 0,t,h,_,n,_=>by have:=dV t; omega
 | m + 1,t,h,hm,n + 1,hn=>by
  have hk:=dV t
  have hlen:=kI t.Kids
  rw [jM]
  have:=zT n (jM n) t (fun z hz=>Ez m z (by have:=jX hz; omega) (by omega) n (by omega)) (by omega) (fun z hz=>by
   have:=GZ (jN z) z (Nat.le_refl _)
   have:=jX hz; omega) t.Kids [] n 1 0 rfl (by omega) (by omega) (by omega)
  simp only [List.length_nil,Int.natCast_zero,Int.ofNat_zero,Int.cast_ofNat_Int,Int.natCast_one,Int.ofNat_one] at this
  rw [this,dV,rR]
  simp only [Option.some.injEq,Prod.mk.injEq,true_and]
  omega
theorem yc (self:aK→Int→Bool→Option Bool) (t:aK) (b:Bool) (hl:t.Kids.length < 1000000):∀ (rest done:List aK) (k:Nat),t.Kids=done ++ rest→rest.length < k→(∀ z ∈ rest,self z 5 ((b || (t.Kind == 5)) || (t.Kind == 6))=some true) →
  iD self t 5 b k (done.length:Int)=some true
 | [],done,k + 1,h,hk,hs=>by rw [iD,if_neg (by rw [h]; simp)]
 | z :: rest,done,k + 1,h,hk,hs=>by
  have hlen:done.length < t.Kids.length:=by rw [h]; simp
  rw [iD,if_pos (by rw [decide_eq_true_eq]; omega),iN h,Option.bind_some,hs z (by simp),Option.bind_some,if_neg (by simp),kz (by omega) (by omega)]
  have:=yc self t b hl rest (done ++ [z]) k (by simp [h]) (by simp at hk; omega) (fun y hy=>hs y (by simp [hy]))
  simp only [List.length_append,List.length_cons,List.length_nil,Nat.zero_add,Int.natCast_add,Int.cast_ofNat_Int] at this
  exact this
theorem xS (n:Nat) (t:aK) (b:Bool) (h1:1 ≤ t.Kind) (h2:t.Kind ≤ 7) (h3:t.Kind ≠ 1→t.Kind ≠ 5→t.Kind ≠ 6→t.Kids=[]) (h4:t.Tag ≠ oh) (h5:0 ≤ t.N∧t.N ≤ 4) (h6:t.Kind=7→b=false) (hl:t.Kids.length < n) (hl2:t.Kids.length < 1000000)
  (hs:∀ z ∈ t.Kids,gp n z 5 ((b || (t.Kind == 5)) || (t.Kind == 6))=some true):gp (n + 1) t 5 b=some true:=by
 rw [gp]
 have c1:(((decide (t.Kind < 1)) || (decide (7 < t.Kind))) || ((!(((t.Kind == 1) || (t.Kind == 5)) || (t.Kind == 6))) && (decide (0 < ((t.Kids).length:Int)))))=false:=by
  by_cases k1:t.Kind=1
  ·
   simp [k1]
  ·
   by_cases k5:t.Kind=5
   ·
    simp [k5]
   ·
    by_cases k6:t.Kind=6
    ·
     simp [k6]
    ·
     rw [h3 k1 k5 k6]; simp; omega
 rw [if_neg (by rw [c1]; decide),if_neg (by simpa [oh] using h4)]
 unfold jY
 have c2:((t.Kind == 7) && b)=false:=by
  by_cases k7:t.Kind=7
  ·
   rw [h6 k7]; simp
  ·
   simp [k7]
 rw [if_neg (by rw [c2]; decide),if_neg (by simp; intro _; omega)]
 exact yc (gp n) t b hl2 t.Kids [] n rfl hl hs
theorem xH:∀ (m:Nat) (t:aK),jN t ≤ m→m < 1000000→pg 6 t→∀ n b,m < n→gp n t 5 b=some true
 | 0,t,h,_,_,n,_,_=>by have:=dV t; omega
 | m + 1,t,h,hm,g,n + 1,b,hn=>by
  obtain ⟨⟨a1,a2⟩,a3,a4,a5,a6,a7⟩:=(oU t).1 g
  have:=kI t.Kids
  have:=dV t
  exact xS n t b a1 (by omega) a3 a4 a5 (fun q=>by omega) (by omega) (by omega) (fun z hz=>xH m z (by have:=jX hz; omega) (by omega) (a7 z hz) n _ (by omega))
mutual
def wo:aK→aK
 | .mk k n g x a ks=>.mk k n g x a (Gc ks)
def Gc:List aK→List aK
 | []=>[]
 | t :: l=>if t.Kind=7 then Gc l else wo t :: Gc l
end
theorem GG (t:aK):wo t=.mk t.Kind t.N t.Tag t.Text t.bR (Gc t.Kids):=by cases t; rw [wo]; rfl
theorem FH:∀ (m:Nat) (t:aK),jN t ≤ m→jN (wo t) ≤ jN t∧qC (wo t) ≤ qC t∧(pg 7 t→t.Kind ≠ 7→pg 6 (wo t))
 | 0,t,h=>by have:=dV t; omega
 | m + 1,t,h=>by
  have key:∀ (l:List aK),(∀ z ∈ l,z ∈ t.Kids)→jA (Gc l) ≤ jA l∧lS (Gc l) ≤ lS l∧((∀ z ∈ l,pg 7 z)→∀ y ∈ Gc l,pg 6 y):=by
   intro l
   induction l with
   | nil=>intro _; exact ⟨Nat.le_refl _,Nat.le_refl _,fun _ y hy=>by simp [Gc] at hy⟩
   | cons z l ih =>
    intro hz
    obtain ⟨i1,i2,i3⟩:=ih (fun y hy=>hz y (by simp [hy]))
    obtain ⟨z1,z2,z3⟩:=FH m z (by have:=jX (hz z (by simp)); omega)
    rw [Gc]
    by_cases hk:z.Kind=7
    ·
     rw [if_pos hk]
     refine ⟨by simp only [jA]; omega,by simp only [lS]; omega,fun hg=>i3 (fun y hy=>hg y (by simp [hy]))⟩
    ·
     rw [if_neg hk]
     refine ⟨by simp only [jA]; omega,by simp only [lS]; omega,fun hg y hy=>?_⟩
     rcases List.mem_cons.1 hy with rfl | hy
     ·
      exact z3 (hg z (by simp)) hk
     ·
      exact i3 (fun y hy=>hg y (by simp [hy])) y hy
  obtain ⟨k1,k2,k3⟩:=key t.Kids (fun z hz=>hz)
  have e:=GG t
  refine ⟨?_,?_,fun g hk=>?_⟩
  ·
   rw [e,dV,dV t]; show 1 + jA (Gc t.Kids) ≤ _; omega
  ·
   rw [e,rR,rR t]; show 1 + lS (Gc t.Kids) ≤ _; omega
  ·
   obtain ⟨⟨a1,a2⟩,a3,a4,a5,a6,a7⟩:=(oU t).1 g
   rw [e]
   refine (oU _).2 ⟨⟨a1,by show t.Kind ≤ 6; omega⟩,fun q1 q5 q6=>?_,a4,a5,a6,k3 a7⟩
   show Gc t.Kids=[]
   rw [a3 q1 q5 q6]; rfl
theorem sK (self:aK→Option aK) (t:aK) (hs:∀ z ∈ t.Kids,self z=some (wo z)) (hl:t.Kids.length < 1000000):∀ (rest done acc:List aK) (k:Nat),t.Kids=done ++ rest→rest.length < k→acc.length ≤ done.length →
  aX self t k acc (done.length:Int)=some (.mk t.Kind t.N t.Tag t.Text t.bR (acc ++ Gc rest))
 | [],done,acc,k + 1,h,hk,ha=>by
  rw [aX,if_neg (by rw [h]; simp)]; simp [Gc]
 | z :: rest,done,acc,k + 1,h,hk,ha=>by
  have hlen:done.length < t.Kids.length:=by rw [h]; simp
  rw [aX,if_pos (by rw [decide_eq_true_eq]; omega),iN h,Option.bind_some,Gc]
  by_cases hz:z.Kind=7
  ·
   rw [if_neg (by simp [hz]),if_pos hz]
   unfold dE
   rw [kz (by omega) (by omega)]
   have:=sK self t hs hl rest (done ++ [z]) acc k (by simp [h]) (by simp at hk; omega) (by simp; omega)
   simp only [List.length_append,List.length_cons,List.length_nil,Nat.zero_add,Int.natCast_add,Int.cast_ofNat_Int] at this
   exact this
  ·
   rw [if_pos (by simp [hz]),if_neg hz,hs z (by rw [h]; simp),Option.bind_some,jD (by rw [bnd]; simp; omega),Option.bind_some]
   unfold dE
   rw [kz (by omega) (by omega)]
   have:=sK self t hs hl rest (done ++ [z]) (acc ++ [wo z]) k (by simp [h]) (by simp at hk; omega) (by simp; omega)
   simp only [List.length_append,List.length_cons,List.length_nil,Nat.zero_add,Int.natCast_add,Int.cast_ofNat_Int] at this
   rw [this]; simp
theorem vP:∀ (m:Nat) (t:aK),jN t ≤ m→m < 1000000→∀ n,m < n→bF n t=some (wo t)
 | 0,t,h,_,n,_=>by have:=dV t; omega
 | m + 1,t,h,hm,n + 1,hn=>by
  have:=kI t.Kids
  have:=dV t
  rw [bF]
  have:=sK (bF n) t (fun z hz=>vP m z (by have:=jX hz; omega) (by omega) n (by omega)) (by omega) t.Kids [] [] n rfl (by omega) (by simp)
  rw [show ((([]:List aK).length:Nat):Int)=0 from rfl] at this
  rw [this,GG]; simp
theorem yf (self:aK→Option aK) (t:aK) (hs:∀ z ∈ t.Kids,self z=some z) (hl:t.Kids.length < 1000000):∀ (rest done:List aK) (k:Nat),t.Kids=done ++ rest→rest.length < k →
  fC self t t.bR t.Kids k t.Kids (done.length:Int)=some t
 | [],done,k + 1,h,hk=>by
  rw [fC,if_neg (by rw [h]; simp)]; cases t; rfl
 | z :: rest,done,k + 1,h,hk=>by
  have hlen:done.length < t.Kids.length:=by rw [h]; simp
  rw [fC,if_pos (by rw [decide_eq_true_eq]; omega),iN h,Option.bind_some,hs z (by rw [h]; simp),Option.bind_some,Option.bind_some,kz (by omega) (by omega)]
  have e:je t.Kids (done.length:Int) z=t.Kids:=by
   unfold je
   rw [show ((done.length:Int)).toNat=done.length by omega,h,List.set_append_right _ _ (by omega)]; simp
  rw [e]
  have:=yf self t hs hl rest (done ++ [z]) k (by simp [h]) (by simp at hk; omega)
  simp only [List.length_append,List.length_cons,List.length_nil,Nat.zero_add,Int.natCast_add,Int.cast_ofNat_Int] at this
  exact this
theorem Ca:∀ (m:Nat) (t:aK),jN t ≤ m→m < 1000000→pg 7 t→∀ n,m < n→fZ n t=some t
 | 0,t,h,_,_,n,_=>by have:=dV t; omega
 | m + 1,t,h,hm,g,n + 1,hn=>by
  obtain ⟨_,_,_,_,a6,a7⟩:=(oU t).1 g
  have:=kI t.Kids
  have:=dV t
  rw [fZ]
  unfold fP gB
  rw [jD (by rw [bnd]; simp; omega),Option.bind_some,jD (by rw [bnd]; simp; omega),Option.bind_some,List.nil_append,List.nil_append]
  exact yf (fZ n) t (fun z hz=>Ca m z (by have:=jX hz; omega) (by omega) (a7 z hz) n (by omega)) (by omega) t.Kids [] n rfl (by omega)
def MO (t:dx):Prop:=(1 ≤ t.Kind∧t.Kind ≤ 7)∧t.Tag ≠ oh∧(0 ≤ t.N∧t.N ≤ 4)∧t.bR.length ≤ 64
def opens (t:dx):Prop:=t.Kind=1∨t.Kind=5∨t.Kind=6
structure Wd (nodes:List dx) (under:List Int) (lv:List Nat):Prop where
 lu:under.length=nodes.length
 ll:lv.length=nodes.length
 pos:0 < nodes.length
 le:nodes.length ≤ 13
 ok:∀ (j:Nat) (t:dx),nodes[j]? = some t→MO t
 root:under[0]? = some (-1)∧lv[0]? = some 1
 par:∀ (j:Nat),0 < j→j < nodes.length→∃ (p:Nat) (t:dx) (v:Nat),under[j]? = some (p:Int)∧p < j∧nodes[p]? = some t∧opens t∧lv[p]? = some v∧lv[j]? = some (v + 1)
 lim:∀ (j v:Nat),lv[j]? = some v→v ≤ 7∧1 ≤ v
section
variable {nodes:List dx} {under:List Int} {lv:List Nat}
theorem Hl (h:Wd nodes under lv):∀ (m j v:Nat),j ≤ m→lv[j]? = some v→∀ (k:Nat) (acc:Int),v + 1 < k→0 ≤ acc→acc + v ≤ 60→dU under k (j:Int) acc=some (acc + v)
 | m,0,v,_,hv,k + 2,acc,hk,h0,h1=>by
  have hr:=h.root
  rw [hr.2] at hv; cases hv
  rw [dU,if_pos (by simp; omega)]
  have:idx under ((0:Nat):Int)=some (-1):=by rw [gH]; exact hr.1
  rw [this,Option.bind_some,kz (by omega) (by omega),dU,if_neg (by simp)]
  rfl
 | m + 1,j + 1,v,hj,hv,k + 1,acc,hk,h0,h1=>by
  have hjl:j + 1 < nodes.length:=by
   have:=(List.getElem?_eq_some_iff.1 hv).1
   rw [h.ll] at this; exact this
  obtain ⟨p,t,v',hu,hp,_,_,hvp,hvj⟩:=h.par (j + 1) (by omega) hjl
  rw [hv] at hvj; cases hvj
  have hl:=(h.lim (j + 1) (v' + 1) hv).1
  rw [dU,if_pos (by simp; omega)]
  have:idx under ((j + 1:Nat):Int)=some (p:Int):=by rw [gH]; exact hu
  rw [this,Option.bind_some,kz (by omega) (by omega)]
  rw [Hl h m p v' (by omega) hvp k (acc + 1) (by omega) (by omega) (by omega)]
  congr 1
  push_cast; omega
 | m,0,v,_,hv,1,acc,hk,_,_=>by omega
theorem J6 (h:Wd nodes under lv) (n:Nat) (hn:20 < n) {j v:Nat} (hv:lv[j]? = some v):jV n under (j:Int)=some (v:Int):=by
 have hl:=(h.lim j v hv).1
 unfold jV
 rw [Hl h j j v (Nat.le_refl _) hv n 0 (by omega) (by omega) (by omega)]
 simp
def oq (under:List Int) (at_:Nat) (l:List Nat):List Nat:=l.filter fun j=>under[j]? == some (at_:Int)
def Az (nodes:List dx) (under:List Int):Nat→Nat→aK
 | 0,_=>.mk 0 0 [] [] [] []
 | f + 1,j=>match nodes[j]? with
  | some t=>.mk t.Kind t.N t.Tag t.Text t.bR ((oq under j (List.range nodes.length)).map (Az nodes under f))
  | none=>.mk 0 0 [] [] [] []
theorem uG (h:Wd nodes under lv) {j i:Nat} {l:List Nat} (hi:i ∈ oq under j l):i < nodes.length∧j < i∧∃ v,lv[j]? = some v∧lv[i]? = some (v + 1)∧∃ t,nodes[j]? = some t∧opens t:=by
 obtain ⟨_,h2⟩:=List.mem_filter.1 hi
 have h2:=eq_of_beq h2
 have hil:i < nodes.length:=by rw [← h.lu]; exact (List.getElem?_eq_some_iff.1 h2).1
 cases i with
 | zero=>rw [h.root.1] at h2; cases h2
 | succ i =>
  obtain ⟨p,t,v,hu,hp,ht,htg,hvp,hvj⟩:=h.par (i + 1) (by omega) hil
  rw [hu] at h2
  have:p=j:=by have:=Option.some.inj h2; omega
  subst this
  exact ⟨hil,hp,v,hvp,hvj,t,ht,htg⟩
theorem Ex (h:Wd nodes under lv):∀ (f g j:Nat),j < nodes.length→nodes.length ≤ j + f→nodes.length ≤ j + g→Az nodes under f j=Az nodes under g j
 | 0,g,j,hj,hf,_=>by omega
 | f + 1,0,j,hj,_,hg=>by omega
 | f + 1,g + 1,j,hj,hf,hg=>by
  rw [Az,Az]
  split
  ·
   congr 1
   apply List.map_congr_left
   intro i hi
   obtain ⟨h1,h2,_⟩:=uG h hi
   exact Ex h f g i h1 (by omega) (by omega)
  ·
   rfl
def gt (nodes:List dx) (under:List Int) (j:Nat):aK:=Az nodes under (nodes.length + 1) j
theorem GY (h:Wd nodes under lv) {j:Nat} {t:dx} (ht:nodes[j]? = some t):gt nodes under j=.mk t.Kind t.N t.Tag t.Text t.bR ((oq under j (List.range nodes.length)).map (gt nodes under)):=by
 unfold gt
 rw [Az]
 simp only [ht]
 congr 1
 apply List.map_congr_left
 intro i hi
 obtain ⟨h1,h2,_⟩:=uG h hi
 exact Ex h _ _ i h1 (by omega) (by omega)
theorem xK (h:Wd nodes under lv) (self:List dx→List Int→Int→Option aK) (j:Nat) (z:dx) (hs:∀ i,i < nodes.length→j < i→self nodes under (i:Int)=some (gt nodes under i)):∀ (m i k:Nat) (acc:List aK),nodes.length=i + m→m < k→acc.length ≤ i →
  dC self nodes under (j:Int) z k acc (i:Int)=some (.mk z.Kind z.N z.Tag z.Text z.bR (acc ++ (oq under j (List.range' i m)).map (gt nodes under)))
 | 0,i,k + 1,acc,hm,_,_=>by
  rw [dC,if_neg (by rw [hm]; simp)]
  simp [oq]
 | m + 1,i,k + 1,acc,hm,hk,ha=>by
  have hle:=h.le
  have hil:i < under.length:=by rw [h.lu]; omega
  rw [dC,if_pos (by rw [hm]; simp; omega),gH,List.getElem?_eq_getElem hil,Option.bind_some]
  rw [List.range'_succ]
  by_cases hu:under[i]=(j:Int)
  ·
   have hin:i ∈ oq under j [i]:=by simp [oq,hil,hu]
   obtain ⟨g1,g2,_⟩:=uG h hin
   rw [if_pos (by simpa using hu),hs i g1 g2,Option.bind_some,jD (by rw [bnd]; simp; omega),Option.bind_some]
   unfold fV
   rw [kz (by omega) (by omega)]
   have:=xK h self j z hs m (i + 1) k (acc ++ [gt nodes under i]) (by omega) (by omega) (by simp; omega)
   push_cast at this
   rw [this]
   have:oq under j (i :: List.range' (i + 1) m)=i :: oq under j (List.range' (i + 1) m):=by
    unfold oq; rw [List.filter_cons,if_pos (by simp [hil,hu])]
   rw [this]; simp
  ·
   rw [if_neg (by simpa using hu)]
   unfold fV
   rw [kz (by omega) (by omega)]
   have:=xK h self j z hs m (i + 1) k acc (by omega) (by omega) (by omega)
   push_cast at this
   rw [this]
   have:oq under j (i :: List.range' (i + 1) m)=oq under j (List.range' (i + 1) m):=by
    unfold oq; rw [List.filter_cons,if_neg (by simp [hil,hu])]
   rw [this]
theorem G7 (h:Wd nodes under lv):∀ (n j:Nat),j < nodes.length→2 * nodes.length + 2 ≤ j + n→dz n nodes under (j:Int)=some (gt nodes under j)
 | 0,j,hj,hn=>by omega
 | n + 1,j,hj,hn=>by
  rw [dz,gH,List.getElem?_eq_getElem hj,Option.bind_some]
  have:=xK h (dz n) j nodes[j] (fun i hi hji=>G7 h n i hi (by omega)) nodes.length 0 n [] (by omega) (by omega) (by simp)
  rw [show ((0:Nat):Int)=0 from rfl] at this
  rw [this,GY h (List.getElem?_eq_getElem hj),List.range_eq_range']
  rfl
theorem GU (h:Wd nodes under lv):∀ (m j v:Nat),nodes.length ≤ j + m→lv[j]? = some v→pg 7 (gt nodes under j)∧qC (gt nodes under j) + v ≤ 8
 | 0,j,v,hm,hv=>by
  have:=(List.getElem?_eq_some_iff.1 hv).1
  rw [h.ll] at this; omega
 | m + 1,j,v,hm,hv=>by
  have hj:j < nodes.length:=by rw [← h.ll]; exact (List.getElem?_eq_some_iff.1 hv).1
  have ht:=List.getElem?_eq_getElem hj
  have hv7:=h.lim j v hv
  rw [GY h ht]
  have hk:∀ i ∈ oq under j (List.range nodes.length),pg 7 (gt nodes under i)∧qC (gt nodes under i) + (v + 1) ≤ 8:=fun i hi=>by
   obtain ⟨g1,g2,v',g3,g4,_⟩:=uG h hi
   rw [hv] at g3; cases g3
   exact GU h m i (v + 1) (by omega) g4
  obtain ⟨a1,a2,a3,a4⟩:=h.ok j _ ht
  refine ⟨(oU _).2 ⟨a1,fun q1 q5 q6=>?_,a2,a3,a4,fun z hz=>?_⟩,?_⟩
  ·
   show List.map _ _=[]
   rw [List.map_eq_nil_iff]
   cases hq:oq under j (List.range nodes.length) with
   | nil=>rfl
   | cons i l =>
    obtain ⟨_,_,_,_,_,t,e1,e2⟩:=uG h (l:=List.range nodes.length) (i:=i) (j:=j) (by rw [hq]; simp)
    rw [ht] at e1; cases e1
    rcases e2 with e | e | e
    ·
     exact absurd e q1
    ·
     exact absurd e q5
    ·
     exact absurd e q6
  ·
   obtain ⟨i,hi,rfl⟩:=List.mem_map.1 hz
   exact (hk i hi).1
  ·
   rw [qC]
   have:∀ (l:List Nat),(∀ i ∈ l,qC (gt nodes under i) + (v + 1) ≤ 8)→lS (l.map (gt nodes under)) + (v + 1) ≤ 8:=by
    intro l
    induction l with
    | nil=>intro _; simp only [List.map_nil,lS]; omega
    | cons i l ih =>
     intro hl
     have h1:=hl i List.mem_cons_self
     have h2:=ih (fun i hi=>hl i (List.mem_cons_of_mem _ hi))
     simp only [List.map_cons,lS]; omega
   have:=this _ (fun i hi=>(hk i hi).2)
   omega
def mI (p:Nat→Bool) (f:Nat→Nat):List Nat→Nat
 | []=>0
 | i :: l=>(if p i then f i else 0) + mI p f l
theorem vG (f:Nat→aK) (p:Nat→Bool):∀ (l:List Nat),jA ((l.filter p).map f)=mI p (fun i=>jN (f i)) l
 | []=>rfl
 | i :: l=>by
  rw [List.filter_cons,mI]
  by_cases h:p i=true
  ·
   rw [if_pos h,if_pos h,List.map_cons,jA,vG f p l]
  ·
   rw [if_neg h,if_neg h,vG f p l]; omega
theorem xZ (f:Nat→Nat) (p q r:Nat→Bool):∀ (l:List Nat),(∀ i ∈ l,p i=(q i || r i)∧(q i && r i)=false)→mI p f l=mI q f l + mI r f l
 | [],_=>rfl
 | i :: l,h=>by
  obtain ⟨h1,h2⟩:=h i List.mem_cons_self
  have ih:=xZ f p q r l (fun i hi=>h i (List.mem_cons_of_mem _ hi))
  rw [mI,mI,mI,h1,ih]
  cases hq:q i <;> cases hr:r i <;> simp_all <;> omega
theorem vW (f:Nat→Nat) (p:Nat→Bool):∀ (l:List Nat),(∀ i ∈ l,p i=false)→mI p f l=0
 | [],_=>rfl
 | i :: l,h=>by
  rw [mI,h i List.mem_cons_self,vW f p l (fun i hi=>h i (List.mem_cons_of_mem _ hi))]; simp
theorem CF (f:Nat→Nat) (p:Nat→Bool):∀ (l m:List Nat),mI p f (l ++ m)=mI p f l + mI p f m
 | [],m=>by simp [mI]
 | i :: l,m=>by rw [List.cons_append,mI,mI,CF f p l m]; omega
def ahead (under:List Int) (m:Nat) (j:Nat):Bool:=match under[j]? with
 | some u=>decide (u < (m:Int))
 | none=>false
theorem Js (h:Wd nodes under lv):∀ (d m:Nat),m + d=nodes.length→mI (ahead under m) (fun i=>jN (gt nodes under i)) (List.range' m d)=d
 | 0,m,_=>rfl
 | d + 1,m,hm=>by
  have ih:=Js h d (m + 1) (by omega)
  have hml:m < nodes.length:=by omega
  have hmu:m < under.length:=by rw [h.lu]; exact hml
  rw [List.range'_succ,mI]
  have hself:ahead under m m=true:=by
   unfold ahead
   cases m with
   | zero=>rw [h.root.1]; rfl
   | succ m =>
    obtain ⟨p,_,_,hu,hp,_⟩:=h.par (m + 1) (by omega) hml
    rw [hu]; simp; omega
  rw [if_pos hself,GY h (List.getElem?_eq_getElem hml),jN]
  unfold oq
  rw [vG]
  have hr:List.range nodes.length=List.range' 0 (m + 1) ++ List.range' (m + 1) d:=by
   have hq:=List.range'_append_1 (s:=0) (m:=m + 1) (n:=d)
   rw [Nat.zero_add] at hq
   rw [List.range_eq_range',hq]
   congr 1; omega
  rw [hr,CF,vW _ _ (List.range' 0 (m + 1)) (fun i hi=>?_)]
  ·
   have hsp:=xZ (fun i=>jN (gt nodes under i)) (ahead under (m + 1)) (ahead under m) (fun j=>under[j]? == some (m:Int)) (List.range' (m + 1) d) (fun i hi=>?_)
   ·
    rw [hsp] at ih
    omega
   ·
    have hil:i < under.length:=by
     have:=List.mem_range'_1.1 hi
     rw [h.lu]; omega
    unfold ahead
    rw [List.getElem?_eq_getElem hil]
    generalize under[i]=u
    simp only
    rcases Int.lt_trichotomy u (m:Int) with q | q | q
    ·
     have q1:u < ((m + 1:Nat):Int):=by omega
     have q2:u ≠ (m:Int):=by omega
     simp only [q,q1,decide_true,Bool.true_or,Bool.true_and,true_and]
     simpa using q2
    ·
     subst q
     have q1:(m:Int) < ((m + 1:Nat):Int):=by omega
     have q2:¬ (m:Int) < (m:Int):=by omega
     simp only [q1,q2,decide_true,decide_false,Bool.false_or,Bool.false_and,and_true,beq_self_eq_true]
    ·
     have q1:¬ u < ((m + 1:Nat):Int):=by omega
     have q2:¬ u < (m:Int):=by omega
     have q3:u ≠ (m:Int):=by omega
     simp only [q1,q2,decide_false,Bool.false_or,Bool.false_and,and_true]
     symm; simpa using q3
  ·
   cases hc:under[i]? == some (m:Int) with
   | false=>rfl
   | true =>
    have him:=List.mem_range'_1.1 hi
    obtain ⟨_,q,_⟩:=uG h (l:=[i]) (i:=i) (j:=m) (by simp [oq,hc])
    omega
theorem MK (h:Wd nodes under lv):jN (gt nodes under 0)=nodes.length:=by
 obtain ⟨d,hd⟩:∃ d,nodes.length=d + 1:=⟨nodes.length - 1,by have:=h.pos; omega⟩
 have:=Js h nodes.length 0 (by omega)
 rw [hd,List.range'_succ,mI] at this
 have h0:ahead under 0 0=true:=by unfold ahead; rw [h.root.1]; rfl
 rw [if_pos h0,vW _ _ _ (fun i hi=>?_)] at this
 ·
  rw [hd]; omega
 ·
  have hi':=List.mem_range'_1.1 hi
  obtain ⟨p,_,_,hu,_⟩:=h.par i (by omega) (by omega)
  unfold ahead
  rw [hu]; simp
end
def words:List Str:=[[97],[98],[105,116,101,109],[120,32,121],[37],[97,47,98],[46,46],[122],[49],[108,105,115,116],[255],[63,61,38]]
def LA:List Str:=[[100,105,118],[112],[108,105],[98]]
def Mj:List Str:=[[105,100],[112,97],[112,98],[108,97,115,116]]
theorem MS:(words.length:Int)=12:=rfl
theorem ES:∀ s ∈ LA,s ≠ oh:=by decide
section
variable {nodes:List dx} {under:List Int} {lv:List Nat}
theorem getElem?_push {α:Type} (l:List α) (x:α) (j:Nat):(l ++ [x])[j]? = if j < l.length then l[j]? else if j=l.length then some x else none:=by
 by_cases h:j < l.length
 ·
  rw [if_pos h,List.getElem?_append_left h]
 ·
  rw [if_neg h,List.getElem?_append_right (by omega)]
  by_cases h2:j=l.length
  ·
   rw [if_pos h2,h2]; simp
  ·
   rw [if_neg h2]
   have:∃ k,j - l.length=k + 1:=⟨j - l.length - 1,by omega⟩
   obtain ⟨k,hk⟩:=this
   rw [hk]; rfl
theorem mV {α:Type} {l:List α} {x y:α} {j:Nat} (h:l[j]? = some y):(l ++ [x])[j]? = some y:=by
 rw [List.getElem?_append_left (List.getElem?_eq_some_iff.1 h).1]; exact h
theorem Lb (h:Wd nodes under lv) (hl:nodes.length ≤ 12) {t:dx} (ht:MO t) {p v:Nat} {tp:dx} (hp:nodes[p]? = some tp) (htp:opens tp) (hv:lv[p]? = some v) (h6:v ≤ 6):Wd (nodes ++ [t]) (under ++ [(p:Int)]) (lv ++ [v + 1]) where
 lu:=by simp [h.lu]
 ll:=by simp [h.ll]
 pos:=by simp
 le:=by simp; omega
 ok:=fun j u hu=>by
  rw [getElem?_push] at hu
  split at hu
  ·
   exact h.ok j u hu
  ·
   split at hu
   ·
    cases hu; exact ht
   ·
    cases hu
 root:=⟨mV h.root.1,mV h.root.2⟩
 par:=fun j h0 hj=>by
  simp only [List.length_append,List.length_singleton] at hj
  by_cases hjl:j < nodes.length
  ·
   obtain ⟨q,tq,vq,h1,h2,h3,h4,h5,h6⟩:=h.par j h0 hjl
   exact ⟨q,tq,vq,mV h1,h2,mV h3,h4,mV h5,mV h6⟩
  ·
   have hj:j=nodes.length:=by omega
   subst hj
   have hpl:=(List.getElem?_eq_some_iff.1 hp).1
   refine ⟨p,tp,v,?_,hpl,mV hp,htp,mV hv,?_⟩
   ·
    rw [getElem?_push,h.lu,if_neg (by omega),if_pos rfl]
   ·
    rw [getElem?_push,h.ll,if_neg (by omega),if_pos rfl]
 lim:=fun j w hw=>by
  rw [getElem?_push] at hw
  split at hw
  ·
   exact h.lim j w hw
  ·
   split at hw
   ·
    cases hw; omega
   ·
    cases hw
def AA (nodes:List dx):Prop:=∃ t,nodes[0]? = some t∧t.Kind=1
theorem MJ (hl:nodes.length ≤ 12) (hu:under.length ≤ 12) {i:Nat} (hi:i ≤ 20) (again:List dx→List Int→Int→Option aK) (p kd nn:Int) (tag text:Str) (ats:List Attr) :
  df nodes under (i:Int) again p kd nn tag text ats=again (nodes ++ [⟨kd,nn,tag,text,ats⟩]) (under ++ [p]) ((i + 1:Nat):Int):=by
 unfold df
 rw [jD (by rw [bnd]; simp; omega),Option.bind_some,jD (by rw [bnd]; simp; omega),Option.bind_some,kz (by omega) (by omega)]
 rfl
theorem CP (hl:nodes.length ≤ 12) (hu:under.length ≤ 12) (n:Nat) (k:cZ) {i:Nat} (hi:i ≤ 20) (again:List dx→List Int→Int→Option aK) (p:Int) :
  ∃ t,MO t∧dG n k words nodes under (i:Int) again p=again (nodes ++ [t]) (under ++ [p]) ((i + 1:Nat):Int):=by
 obtain ⟨r1,e1⟩:=mi n k.Kinds (i:Int) (by omega)
 obtain ⟨kd,k1,k2,k3⟩:=eY n r1 1 7 (by omega) (by omega) (by omega)
 obtain ⟨r2,e2⟩:=mi n k.Ns (i:Int) (by omega)
 obtain ⟨nn,n1,n2,n3⟩:=eY n r2 0 4 (by omega) (by omega) (by omega)
 obtain ⟨r3,e3⟩:=mi n k.Texts (i:Int) (by omega)
 have go:=fun (tag text:Str) (ats:List Attr)=>MJ hl hu hi again p kd nn tag text ats
 unfold dG
 rw [e1,Option.bind_some,k1,Option.bind_some,e2,Option.bind_some,n1,Option.bind_some,e3,Option.bind_some]
 simp only []
 have l4:IntKind.wrap .i64 ((([[100,105,118],[112],[108,105],[98]]:List Str).length:Int) - 1)=3:=by rw [kz (by simp) (by simp)]; rfl
 have l5:IntKind.wrap .i64 ((([[105,100],[112,97],[112,98],[108,97,115,116]]:List Str).length:Int) - 1)=3:=by rw [kz (by simp) (by simp)]; rfl
 have l12:IntKind.wrap .i64 ((words.length:Int) - 1)=11:=by rw [MS,kz (by omega) (by omega)]; rfl
 by_cases c1:kd=1
 ·
  rw [if_pos (by simp [c1]),l4]
  obtain ⟨q,q1,q2,q3⟩:=eY n r3 0 3 (by omega) (by omega) (by omega)
  obtain ⟨tag,t1,t2,_⟩:=lU LA q2 (by show q < 4; omega)
  have t1':idx [[100,105,118],[112],[108,105],[98]] q=some tag:=t1
  rw [q1,Option.bind_some,t1',Option.bind_some]
  by_cases c3:(dO .i64 r3 3 == 3)=true
  ·
   rw [if_pos c3]
   obtain ⟨r4,e4⟩:∃ r4,AJ .i64 r3 4=some r4:=⟨_,by unfold AJ; rw [if_neg (by omega)]⟩
   obtain ⟨q',q1',q2',q3'⟩:=eY n r4 0 11 (by omega) (by omega) (by omega)
   obtain ⟨w,w1,_,_⟩:=lU words q2' (by rw [MS]; omega)
   rw [e4,Option.bind_some,l12,q1',Option.bind_some,w1,Option.bind_some]
   exact ⟨_,⟨⟨k2,k3⟩,ES tag t2,⟨n2,n3⟩,by simp⟩,go _ _ _⟩
  ·
   rw [if_neg c3]
   exact ⟨_,⟨⟨k2,k3⟩,ES tag t2,⟨n2,n3⟩,by simp⟩,go _ _ _⟩
 ·
  rw [if_neg (by simp [c1])]
  by_cases c2:kd=2
  ·
   rw [if_pos (by simp [c2]),l12]
   obtain ⟨q,q1,q2,q3⟩:=eY n r3 0 11 (by omega) (by omega) (by omega)
   obtain ⟨w,w1,_,_⟩:=lU words q2 (by rw [MS]; omega)
   rw [q1,Option.bind_some,w1,Option.bind_some]
   exact ⟨_,⟨⟨k2,k3⟩,by simp [oh],⟨n2,n3⟩,by simp⟩,go _ _ _⟩
  ·
   rw [if_neg (by simp [c2])]
   by_cases c4:kd=4
   ·
    rw [if_pos (by simp [c4]),l5]
    obtain ⟨q,q1,q2,q3⟩:=eY n r3 0 3 (by omega) (by omega) (by omega)
    obtain ⟨w,w1,_,_⟩:=lU Mj q2 (by show q < 4; omega)
    have w1':idx [[105,100],[112,97],[112,98],[108,97,115,116]] q=some w:=w1
    rw [q1,Option.bind_some,w1',Option.bind_some]
    exact ⟨_,⟨⟨k2,k3⟩,by simp [oh],⟨n2,n3⟩,by simp⟩,go _ _ _⟩
   ·
    rw [if_neg (by simp [c4])]
    exact ⟨_,⟨⟨k2,k3⟩,by simp [oh],⟨n2,n3⟩,by simp⟩,go _ _ _⟩
theorem zg (n:Nat) (hn:100 < n) (k:cZ):∀ (m i f:Nat) (nodes:List dx) (under:List Int) (lv:List Nat),Wd nodes under lv→AA nodes→nodes.length=i + 1→i + m=11→m < f →
  ∃ nodes' under' lv',Wd nodes' under' lv'∧AA nodes'∧aY n k words f nodes under (i:Int)=dz n nodes' under' 0
 | m,i,f + 1,nodes,under,lv,h,hr,hl,hm,hf=>by
  rw [aY]
  by_cases hc:i < k.Under.length∧i < 11
  ·
   obtain ⟨m,rfl⟩:∃ m',m=m' + 1:=⟨m - 1,by omega⟩
   rw [if_pos (by simp; omega),gH,List.getElem?_eq_getElem hc.1,Option.bind_some]
   rw [kz (n:=(nodes.length:Int) - 1) (by omega) (by omega)]
   obtain ⟨q,q1,q2,q3⟩:=eY n k.Under[i] 0 ((nodes.length:Int) - 1) (by omega) (by omega) (by omega)
   obtain ⟨t,t1,t2,t3⟩:=lU nodes q2 (by omega)
   rw [q1,Option.bind_some,t1,Option.bind_some]
   have go:∀ (p:Nat) (tp:dx) (v:Nat),nodes[p]? = some tp→opens tp→lv[p]? = some v→v ≤ 6→∃ nodes' under' lv',Wd nodes' under' lv'∧AA nodes'∧dG n k words nodes under (i:Int) (aY n k words f) (p:Int)=dz n nodes' under' 0:=fun p tp v hp htp hv h6=>by
    obtain ⟨t',k1,k2⟩:=CP (nodes:=nodes) (under:=under) (i:=i) (by omega) (by rw [h.lu]; omega) n k (by omega) (aY n k words f) (p:Int)
    have hr':AA (nodes ++ [t']):=by
     obtain ⟨t0,h1,h2⟩:=hr
     exact ⟨t0,mV h1,h2⟩
    obtain ⟨n',u',l',g1,g2,g3⟩:=zg n hn k m (i + 1) f _ _ _ (Lb h (by omega) k1 hp htp hv h6) hr' (by simp; omega) (by omega) (by omega)
    exact ⟨n',u',l',g1,g2,by rw [k2,g3]⟩
   have root:∃ nodes' under' lv',Wd nodes' under' lv'∧AA nodes'∧dG n k words nodes under (i:Int) (aY n k words f) 0=dz n nodes' under' 0:=by
    obtain ⟨t0,h1,h2⟩:=hr
    exact go 0 t0 1 h1 (.inl h2) h.root.2 (by omega)
   have hqn:q=(q.toNat:Int):=by omega
   by_cases hb:(((t.Kind != 1) && (t.Kind != 5)) && (t.Kind != 6))=true
   ·
    rw [if_pos hb,Option.bind_some,if_pos rfl]
    exact root
   ·
    rw [if_neg hb]
    have ho:opens t:=by
     simp at hb
     unfold opens
     by_cases a:t.Kind=1
     ·
      exact .inl a
     ·
      by_cases b:t.Kind=5
      ·
       exact .inr (.inl b)
      ·
       exact .inr (.inr (hb a b))
    have hql:q.toNat < lv.length:=by rw [h.ll]; exact (List.getElem?_eq_some_iff.1 t3).1
    have hv:=List.getElem?_eq_getElem hql
    have hd:=J6 h n (by omega) hv
    rw [← hqn] at hd
    rw [hd,Option.bind_some,Option.bind_some]
    by_cases h5:5 < lv[q.toNat]
    ·
     rw [if_pos (by rw [decide_eq_true_eq]; omega)]
     exact root
    ·
     rw [if_neg (by rw [decide_eq_true_eq]; omega),hqn]
     exact go q.toNat t _ t3 ho hv (by omega)
  ·
   rw [if_neg (by simp; omega)]
   exact ⟨nodes,under,lv,h,hr,by cases dz n nodes under 0 <;> rfl⟩
end
theorem Kz (k:cZ) (n:Nat) (hn:100 < n):∃ t,iI n k=some t∧pg 7 t∧jN t ≤ 13∧qC t ≤ 7∧t.Kind=1:=by
 have h0:Wd [⟨1,0,[109,97,105,110],[],[]⟩] [-1] [1]:=by
  refine ⟨rfl,rfl,by simp,by simp,fun j t ht=>?_,⟨rfl,rfl⟩,fun j h1 h2=>?_,fun j v hv=>?_⟩
  ·
   cases j with
   | zero=>simp at ht; subst ht; exact ⟨⟨by simp,by simp⟩,by simp [oh],⟨by simp,by simp⟩,by simp⟩
   | succ j=>simp at ht
  ·
   simp at h2; omega
  ·
   cases j with
   | zero=>simp at hv; subst hv; omega
   | succ j=>simp at hv
 obtain ⟨nodes,under,lv,h,hr,he⟩:=zg n hn k 11 0 n _ _ _ h0 ⟨_,rfl,rfl⟩ rfl rfl (by omega)
 have hle:=h.le
 have hg:=GU h nodes.length 0 1 (by omega) h.root.2
 have hc:=MK h
 obtain ⟨t0,r1,r2⟩:=hr
 refine ⟨gt nodes under 0,?_,hg.1,by rw [hc]; exact hle,by omega,by rw [GY h r1]; exact r2⟩
 unfold iI kR
 rw [Option.bind_some]
 have:=G7 h n 0 h.pos (by omega)
 rw [show ((0:Nat):Int)=0 from rfl] at this he
 rw [← this,← he]
 rfl
theorem KG (n:Nat) (hn:100 < n) (t:aK) (o:Bool) (g:pg 7 t) (hc:jN t ≤ 13) (hd:qC t ≤ 7) (hk:t.Kind=1):∃ u,iB n t o=some u∧pg 7 u∧jN u ≤ 14∧jJ n u 5=some true:=by
 obtain ⟨c1,c2,c3⟩:=FH _ t (Nat.le_refl _)
 have g6:=c3 g (by omega)
 have hwk:(wo t).Kind=1:=by rw [GG]; exact hk
 have hlen:=kI (wo t).Kids
 have hpk:=dV (wo t)
 have hpd:=rR (wo t)
 obtain ⟨⟨a1,a2⟩,a3,a4,a5,a6,a7⟩:=(oU _).1 g6
 have fin:∀ u,pg 7 u→jN u ≤ 14→qC u ≤ 9→u.Kind=1→gp n u 5 false=some true→jJ n u 5=some true:=fun u h1 h2 h3 h4 h5=>by
  unfold jJ
  rw [Ez 14 u h2 (by omega) n (by omega),Option.bind_some,if_pos (by simp [h4]; omega),h5]; rfl
 unfold iB
 rw [vP 13 t hc (by omega) n (by omega),Option.bind_some]
 cases o with
 | false =>
  rw [if_neg (by simp)]
  unfold dW
  have e:aK.mk (wo t).Kind (wo t).N (wo t).Tag (wo t).Text (wo t).bR (wo t).Kids=wo t:=by cases wo t; rfl
  rw [e]
  exact ⟨_,rfl,y8 _ _ (Nat.le_refl _) g6,by omega,fin _ (y8 _ _ (Nat.le_refl _) g6) (by omega) (by omega) hwk (xH 13 _ (by omega) (by omega) g6 n false (by omega))⟩
 | true =>
  rw [if_pos rfl,jD (by rw [bnd]; simp; omega),Option.bind_some]
  unfold dW
  have go:pg 7 (aK.mk 7 0 [] [] [] []):=(oU _).2 ⟨⟨by decide,by decide⟩,fun _ _ _=>rfl,by decide,⟨by decide,by decide⟩,by decide,fun z hz=>by cases hz⟩
  have hp:pg 7 (aK.mk (wo t).Kind (wo t).N (wo t).Tag (wo t).Text (wo t).bR ((wo t).Kids ++ [aK.mk 7 0 [] [] [] []])):=by
   refine (oU _).2 ⟨⟨a1,by show (wo t).Kind ≤ 7; omega⟩,fun q=>absurd hwk q,a4,a5,a6,fun z hz=>?_⟩
   rcases List.mem_append.1 hz with hz | hz
   ·
    exact y8 _ _ (Nat.le_refl _) (a7 z hz)
   ·
    rw [List.mem_singleton.1 hz]; exact go
  have hcn:jN (aK.mk (wo t).Kind (wo t).N (wo t).Tag (wo t).Text (wo t).bR ((wo t).Kids ++ [aK.mk 7 0 [] [] [] []])) ≤ 14:=by
   rw [jN,Bq]; simp only [jA,jN]; omega
  have hdp:qC (aK.mk (wo t).Kind (wo t).N (wo t).Tag (wo t).Text (wo t).bR ((wo t).Kids ++ [aK.mk 7 0 [] [] [] []])) ≤ 9:=by
   rw [qC,Ci]; simp only [lS,qC]; omega
  refine ⟨_,rfl,hp,hcn,fin _ hp hcn hdp hwk ?_⟩
  obtain ⟨n,rfl⟩:∃ q,n=q + 1:=⟨n - 1,by omega⟩
  refine xS n _ false a1 (by show (wo t).Kind ≤ 7; omega) (fun q=>absurd hwk q) a4 a5 (fun _=>rfl) (by show List.length (_ ++ _) < n; simp; omega) (by show List.length (_ ++ _) < _; simp; omega) (fun z hz=>?_)
  have hb:((false || ((wo t).Kind == 5)) || ((wo t).Kind == 6))=false:=by rw [hwk]; rfl
  show gp n z 5 ((false || ((wo t).Kind == 5)) || ((wo t).Kind == 6))=some true
  rw [hb]
  rcases List.mem_append.1 hz with hz | hz
  ·
   exact xH 13 z (by have:=jX hz; omega) (by omega) (a7 z hz) n false (by omega)
  ·
   rw [List.mem_singleton.1 hz]
   obtain ⟨n,rfl⟩:∃ q,n=q + 1:=⟨n - 1,by omega⟩
   exact xS n _ false (by decide) (by decide) (fun _ _ _=>rfl) (by decide) ⟨by decide,by decide⟩ (fun _=>rfl) (by show 0 < n; omega) (by decide) (fun z hz=>by cases hz)
def FB (o:On):Prop:=KR 5 o∧C8 o∧-3 ≤ o.Add∧o.Add ≤ 3
def Dp:List Str:=[[117,112],[100,111,119,110],[97]]
theorem FI:∀ s ∈ Dp,s ≠ []∧s.length ≤ 16∧lN 0 s letters=some []:=by
 intro s hs
 simp only [Dp,List.mem_cons,List.not_mem_nil,or_false] at hs
 rcases hs with rfl | rfl | rfl <;> exact ⟨by decide,by decide,rfl⟩
theorem Cb (n:Nat) (k:eX) (t:aK) (ini:List Int):∀ (m i f:Nat) (acc:List On),acc.length=i→i + m=5→m < f→(∀ o ∈ acc,FB o) →
  ∃ ons:List On,ons.length ≤ 5∧(∀ o ∈ ons,FB o)∧dR n k t ini f acc (i:Int)=some (aJ.mk t ini ons)
 | m,i,f + 1,acc,hl,hm,hf,ho=>by
  rw [dR]
  by_cases hc:i < k.Adds.length∧i < 5
  ·
   obtain ⟨m,rfl⟩:∃ m',m=m' + 1:=⟨m - 1,by omega⟩
   rw [if_pos (by simp; omega),wK (by omega),Option.bind_some]
   have h3:(i:Int).tmod 3=((i % 3:Nat):Int):=by rw [Int.tmod_eq_emod_of_nonneg (by omega)]; omega
   have hi3:i % 3 < 3:=Nat.mod_lt _ (by omega)
   obtain ⟨s,s1,s2,_⟩:=lU Dp (i:=(i:Int).tmod 3) (by rw [h3]; omega) (by rw [h3]; show _ < (3:Int); omega)
   have s1':idx [[117,112],[100,111,119,110],[97]] ((i:Int).tmod 3)=some s:=s1
   rw [s1',Option.bind_some,gH,List.getElem?_eq_getElem hc.1,Option.bind_some]
   obtain ⟨q,q1,q2,q3⟩:=eY n k.Adds[i] 0 4 (by omega) (by omega) (by omega)
   obtain ⟨r4,e4⟩:∃ r4,AJ .i64 k.Adds[i] 5=some r4:=⟨_,by unfold AJ; rw [if_neg (by omega)]⟩
   obtain ⟨d,d1,d2,d3⟩:=eY n r4 (-3) 3 (by omega) (by omega) (by omega)
   rw [q1,Option.bind_some,e4,Option.bind_some,d1,Option.bind_some,jD (by rw [bnd]; simp; omega),Option.bind_some,kz (by omega) (by omega)]
   exact Cb n k t ini m (i + 1) f _ (by simp [hl]) (by omega) (by omega) (fun o hx=>by
    rcases List.mem_append.1 hx with hx | hx
    ·
     exact ho o hx
    ·
     rw [List.mem_singleton.1 hx]
     exact ⟨⟨q2,by show q < 5; omega,by rw [EW]; show -1000 ≤ d∧d ≤ 1000; omega⟩,FI s s2,d2,d3⟩)
  ·
   rw [if_neg (by simp; omega)]
   exact ⟨acc,by omega,ho,rfl⟩
theorem BM (n:Nat) (hn:100 < n) (k:eX) (t:aK):∀ (m i f:Nat) (acc:List Int),acc.length=i→i + m=5→m < f→(∀ v ∈ acc,A8 v=true) →
  ∃ (ini:List Int) (ons:List On),ini.length=5∧(∀ v ∈ ini,A8 v=true)∧ons.length ≤ 5∧(∀ o ∈ ons,FB o)∧dF n k t f acc (i:Int)=some (aJ.mk t ini ons)
 | 0,i,f + 1,acc,hl,hm,hf,ho=>by
  rw [dF,if_neg (by simp; omega)]
  obtain ⟨ons,o1,o2,o3⟩:=Cb n k t acc 5 0 n [] rfl rfl (by omega) (fun o ho=>by cases ho)
  exact ⟨acc,ons,by omega,ho,o1,o2,o3⟩
 | m + 1,i,f + 1,acc,hl,hm,hf,ho=>by
  rw [dF,if_pos (by simp; omega)]
  obtain ⟨r,e⟩:=mi n k.Init (i:Int) (by omega)
  obtain ⟨q,q1,q2,q3⟩:=eY n r (-2) 4 (by omega) (by omega) (by omega)
  rw [e,Option.bind_some,q1,Option.bind_some,jD (by rw [bnd]; simp; omega),Option.bind_some,kz (by omega) (by omega)]
  exact BM n hn k t m (i + 1) f _ (by simp [hl]) (by omega) (by omega) (fun v hx=>by
   rcases List.mem_append.1 hx with hx | hx
   ·
    exact ho v hx
   ·
    rw [List.mem_singleton.1 hx,EW]; omega)
section
variable {n:Nat} {c:aJ}
end
end C
end Pr
end Go.Ev

namespace Go.Ev
namespace Pr
set_option linter.unusedVariables false
set_option linter.unusedSimpArgs false
set_option linter.unusedSectionVars false
mutual
def EN:aK→Nat
 | .mk k _ _ _ _ ks=>(if k=7 then 1 else 0) + tC ks
def tC:List aK→Nat
 | []=>0
 | t :: l=>EN t + tC l
end
theorem wz (t:aK):EN t=(if t.Kind=7 then 1 else 0) + tC t.Kids:=by cases t; rw [EN]; rfl
theorem Ha:∀ (m:Nat) (t:aK),C.jN t ≤ m→EN t ≤ C.jN t
 | 0,t,hm=>by have:=C.dV t; omega
 | m + 1,t,hm=>by
  have hl:∀ (l:List aK),(∀ z ∈ l,EN z ≤ C.jN z)→tC l ≤ C.jA l:=by
   intro l
   induction l with
   | nil=>intro _; exact Nat.le_refl _
   | cons x l ih =>
    intro hz
    have:=hz x List.mem_cons_self
    have:=ih (fun z h=>hz z (List.mem_cons_of_mem _ h))
    simp only [tC,C.jA]; omega
  have:=hl t.Kids (fun z hz=>Ha m z (by have:=C.jX hz; omega))
  rw [wz,C.dV]; split <;> omega
theorem uw (self:aK→Option Int) (t:aK) (hl:t.Kids.length < 1000000):∀ (rest done:List aK) (k acc:Nat),t.Kids=done ++ rest→rest.length < k→(∀ z ∈ rest,self z=some (EN z:Int))→acc + tC rest < 1000000000 →
  iy self t k (acc:Int) (done.length:Int)=some ((acc + tC rest:Nat):Int)
 | [],done,k + 1,acc,h,hk,hs,ha=>by
  rw [iy,if_neg (by rw [decide_eq_true_eq,h]; simp)]
  simp [tC]
 | z :: rest,done,k + 1,acc,h,hk,hs,ha=>by
  have hlen:t.Kids.length=done.length + rest.length + 1:=by rw [h]; simp; omega
  have hw:IntKind.wrap .i64 ((done.length:Int) + 1)=(((done ++ [z]).length:Nat):Int):=by rw [kz (by omega) (by omega)]; simp
  simp only [tC] at ha
  have hw2:IntKind.wrap .i64 ((acc:Int) + (EN z:Int))=((acc + EN z:Nat):Int):=by rw [kz (by omega) (by omega)]; push_cast; rfl
  rw [iy,if_pos (by rw [decide_eq_true_eq]; omega),iN h,Option.bind_some,hs z List.mem_cons_self,Option.bind_some,hw,hw2,uw self t hl rest (done ++ [z]) k (acc + EN z) (by rw [h]; simp) (by simp at hk; omega) (fun z hz=>hs z (List.mem_cons_of_mem _ hz)) (by omega),tC,Nat.add_assoc]
theorem Br:∀ (m:Nat) (t:aK),C.jN t ≤ m→m < 1000000→∀ n,m < n→fB n t=some (EN t:Int)
 | 0,t,h,_,n,_=>by have:=C.dV t; omega
 | m + 1,t,h,hm,n + 1,hn=>by
  have h1:=C.dV t
  have h2:=C.kI t.Kids
  have h3:=Ha (m + 1) t h
  have h4:=wz t
  have hs:∀ z ∈ t.Kids,fB n z=some (EN z:Int):=fun z hz=>Br m z (by have:=C.jX hz; omega) (by omega) n (by omega)
  rw [fB]
  unfold kK
  by_cases c:t.Kind=7
  ·
   rw [if_pos (by simpa using c),h4,if_pos c]
   rw [if_pos c] at h4
   exact uw (fB n) t (by omega) t.Kids [] n 1 rfl (by omega) hs (by omega)
  ·
   rw [if_neg (by simpa using c),h4,if_neg c]
   rw [if_neg c] at h4
   exact uw (fB n) t (by omega) t.Kids [] n 0 rfl (by omega) hs (by omega)
end Pr
end Go.Ev

namespace Go.Ev
namespace Pr
set_option linter.unusedVariables false
set_option linter.unusedSimpArgs false
set_option linter.unusedSectionVars false
theorem eY (n:Nat) (a lo hi:Int) (h1:lo ≤ hi) (h2:-1000000000000 ≤ lo) (h3:hi ≤ 1000000000000000):∃ r,aT n a lo hi=some r∧lo ≤ r∧r ≤ hi:=by
 unfold aT
 rw [kz (n:=hi - lo) (by omega) (by omega),kz (by omega) (by omega),wK (by omega),Option.bind_some]
 have k1:=Int.tmod_lt_of_pos a (show 0 < hi - lo + 1 by omega)
 have k2:=Int.lt_tmod_of_pos a (show 0 < hi - lo + 1 by omega)
 unfold fO
 by_cases hz:a.tmod (hi - lo + 1) < 0
 ·
  rw [if_pos (by simpa using hz)]
  rw [kz (n:=a.tmod (hi - lo + 1) + hi) (by omega) (by omega),kz (n:=a.tmod (hi - lo + 1) + hi - lo) (by omega) (by omega),kz (n:=a.tmod (hi - lo + 1) + hi - lo + 1) (by omega) (by omega),kz (by omega) (by omega)]
  exact ⟨_,rfl,by omega,by omega⟩
 ·
  rw [if_neg (by simpa using hz),kz (by omega) (by omega)]
  exact ⟨_,rfl,by omega,by omega⟩
theorem mi (n:Nat) (l:List Int) (i:Int) (h:0 ≤ i):∃ r,bX n l i=some r:=by
 unfold bX
 by_cases h0:l.length=0
 ·
  rw [if_pos (by simp; exact List.eq_nil_of_length_eq_zero h0)]; exact ⟨_,rfl⟩
 ·
  rw [if_neg (by simp; intro q; exact h0 (by rw [q]; rfl)),wK (by omega),Option.bind_some]
  have hp:(0:Int) < (l.length:Int):=by omega
  obtain ⟨x,hx,_⟩:=lU l (i:=i.tmod l.length) (Int.tmod_nonneg _ h) (Int.tmod_lt_of_pos _ hp)
  exact ⟨x,by rw [hx]; rfl⟩
def nm (i:Int):Str:=([(IntKind.wrap .u8 (IntKind.wrap .i64 (97 + i)))]).map fun (n:Int)=>UInt8.ofNat n.toNat
def oW:Nat→Str
 | 0=>[104,111,109,101]
 | j + 1=>[114] ++ nm j
theorem BD {a b:Nat} (ha:a < 8) (hb:b < 8) (h:oW a=oW b):a=b:=by
 have key:∀ i ∈ List.range 8,∀ j ∈ List.range 8,oW i=oW j→i=j:=by decide +kernel
 exact key a (List.mem_range.2 ha) b (List.mem_range.2 hb) h
def texts:List Str:=[[97],[98],[105,116,101,109],[122],[49],[108,105,115,116]]
def Ce (j:Nat) (s:Seg):Prop:=(s.Kind=0∧s.Text ∈ texts)∨(1 ≤ s.Kind∧s.Kind ≤ 3∧∃ i:Nat,j=i + 1∧s.Text=[112] ++ nm i)
structure Rs (l:List ak):Prop where
 pos:0 < l.length
 le:l.length ≤ 8
 par:∀ (j:Nat) (r:ak),l[j]? = some r→-1 ≤ r.Parent∧r.Parent < j
 name:∀ (j:Nat) (r:ak),l[j]? = some r→r.Name=oW j
 segs:∀ (j:Nat) (r:ak),l[j]? = some r→r.dX.length ≤ 1
 sg:∀ (j:Nat) (r:ak),l[j]? = some r→r.dX=[]∨∃ s,r.dX=[s]∧Ce j s
 kid:∀ (j:Nat) (r:ak),l[j]? = some r→0 ≤ r.Parent→∃ p,idx l r.Parent=some p∧∀ s ∈ p.dX,s.Kind < 2
theorem Rs.snoc {l:List ak} (h:Rs l) (hl:l.length ≤ 7) {r:ak} (hn:r.Name=oW l.length) (hp:-1 ≤ r.Parent∧r.Parent < l.length) (hs:∃ s,r.dX=[s]∧Ce l.length s) (hk:0 ≤ r.Parent→∃ p,idx l r.Parent=some p∧∀ s ∈ p.dX,s.Kind < 2):Rs (l ++ [r]):=by
 have get:∀ (j:Nat) (x:ak),(l ++ [r])[j]? = some x→l[j]? = some x∨(j=l.length∧x=r):=fun j x hx=>by
  by_cases q:j < l.length
  ·
   rw [List.getElem?_append_left q] at hx; exact .inl hx
  ·
   rw [List.getElem?_append_right (by omega)] at hx
   have:j - l.length=0:=by
    have:=(List.getElem?_eq_some_iff.1 hx).1
    simp at this; omega
   rw [this] at hx
   simp at hx
   exact .inr ⟨by omega,hx.symm⟩
 have idxl:∀ (k:Int) (p:ak),idx l k=some p→idx (l ++ [r]) k=some p:=fun k p hk=>by
  obtain ⟨h1,h2⟩:=kC hk
  have h3:=(List.getElem?_eq_some_iff.1 h2).1
  unfold idx
  rw [if_pos h1,List.getElem?_append_left h3,h2]
 refine ⟨by simp,by simp; omega,fun j x hx=>?_,fun j x hx=>?_,fun j x hx=>?_,fun j x hx=>?_,fun j x hx h0=>?_⟩
 ·
  rcases get j x hx with q | ⟨rfl,rfl⟩
  ·
   exact h.par j x q
  ·
   exact hp
 ·
  rcases get j x hx with q | ⟨rfl,rfl⟩
  ·
   exact h.name j x q
  ·
   exact hn
 ·
  rcases get j x hx with q | ⟨rfl,rfl⟩
  ·
   exact h.segs j x q
  ·
   obtain ⟨s,hs,_⟩:=hs; rw [hs]; simp
 ·
  rcases get j x hx with q | ⟨rfl,rfl⟩
  ·
   exact h.sg j x q
  ·
   exact .inr hs
 ·
  rcases get j x hx with q | ⟨rfl,rfl⟩
  ·
   obtain ⟨p,p1,p2⟩:=h.kid j x q h0
   exact ⟨p,idxl _ _ p1,p2⟩
  ·
   obtain ⟨p,p1,p2⟩:=hk h0
   exact ⟨p,idxl _ _ p1,p2⟩
def RO (l:List ak) (r:ak):Prop:=(0 ≤ r.aH.Kind∧r.aH.Kind ≤ 4)∧(0 ≤ r.aH.Flag∧r.aH.Flag ≤ 3)∧(r.aH.Kind=3∨r.aH.Kind=4→∃ p ∈ l,p.Name=r.aH.To)∧(¬(r.aH.Kind=3∨r.aH.Kind=4)→r.aH.To=[])∧(0 ≤ r.aJ∧r.aJ ≤ 3)
theorem RO.snoc {l:List ak} (h:∀ r ∈ l,RO l r) {x:ak} (hx:RO l x):∀ r ∈ l ++ [x],RO (l ++ [x]) r:=by
 have up:∀ r,RO l r→RO (l ++ [x]) r:=fun r ⟨a,b,c,d,e⟩=>⟨a,b,fun h=>by
  obtain ⟨p,p1,p2⟩:=c h
  exact ⟨p,List.mem_append_left _ p1,p2⟩,d,e⟩
 intro r hr
 rcases List.mem_append.1 hr with hr | hr
 ·
  exact up r (h r hr)
 ·
  rw [List.mem_singleton.1 hr]; exact up x hx
def NI (i:Int) (s:Seg):Prop:=(s.Kind=0∧s.Text ∈ texts)∨(1 ≤ s.Kind∧s.Kind ≤ 3∧s.Text=[112] ++ nm i)
section
variable {n:Nat} {a1:gQ} {l:List ak} {dp:List Int} {again:List ak→List Int→Int→Option (List ak)}
theorem FU (hl:l.length ≤ 8) (hd:dp.length ≤ 8) (i x28 x32 x44:Int) (x45 z47:Str) (z48 z50 x63 x64:Int) (x65:Str):∃ rec:ak,rec.Name=z47∧rec.Parent=x28∧rec.dX=[Seg.mk x44 x45]∧(rec.aJ=z50∧rec.aH=aH.mk x63 x64 x65)∧dw l dp i again x28 x32 x44 x45 z47 z48 z50 x63 x64 x65=again (l ++ [rec]) (dp ++ [x32]) (IntKind.wrap .i64 (i + 1)):=by
 unfold dw
 rw [jD (by rw [bnd]; simp; omega),Option.bind_some,jD (by rw [bnd]; simp; omega),Option.bind_some]
 exact ⟨_,rfl,rfl,rfl,⟨rfl,rfl⟩,rfl⟩
theorem JP {a b:Str} (h:a.length + b.length ≤ 1000):cat a b=some (a ++ b):=by unfold cat; rw [if_pos (by omega)]
theorem Jf (hp:0 < l.length) (hl:l.length ≤ 8) (hd:dp.length ≤ 8) {i:Int} (h0:0 ≤ i) (h7:i ≤ 7) (x28 x32 x44:Int) (x45:Str):∃ rec:ak,rec.Name=[114] ++ nm i∧rec.Parent=x28∧rec.dX=[Seg.mk x44 x45]∧RO l rec∧dP n a1 l dp i again x28 x32 x44 x45=again (l ++ [rec]) (dp ++ [x32]) (IntKind.wrap .i64 (i + 1)):=by
 unfold dP
 have hc:cat [114] (([(IntKind.wrap .u8 (IntKind.wrap .i64 (97 + i)))]).map fun (n:Int)=>UInt8.ofNat n.toNat)=some ([114] ++ nm i):=JP (by simp)
 obtain ⟨k1,e1⟩:=mi n a1.fq i h0
 obtain ⟨k2,e2⟩:=mi n a1.Comps i h0
 obtain ⟨w1,f1,f1a,f1b⟩:=eY n k2 0 3 (by omega) (by omega) (by omega)
 obtain ⟨k3,e3⟩:=mi n a1.Rules i h0
 rw [hc,Option.bind_some,e1,Option.bind_some,e2,Option.bind_some,f1,Option.bind_some,e3,Option.bind_some]
 split
 ·
  rw [Option.bind_some]
  have hq:AJ .i64 k3 4=some (IntKind.wrap .i64 (k3.tdiv 4)):=by unfold AJ; rw [if_neg (by omega)]
  obtain ⟨w2,f2,f2a,f2b⟩:=eY n (IntKind.wrap .i64 (k3.tdiv 4)) 0 4 (by omega) (by omega) (by omega)
  obtain ⟨k4,e4⟩:=mi n a1.Flags i h0
  obtain ⟨w3,f3,f3a,f3b⟩:=eY n k4 0 3 (by omega) (by omega) (by omega)
  rw [hq,Option.bind_some,f2,Option.bind_some,e4,Option.bind_some,f3,Option.bind_some]
  split
  ·
   rename_i hh
   have hh':w2=3∨w2=4:=by simpa using hh
   have hw:IntKind.wrap .i64 (i + 1)=i + 1:=kz (by omega) (by omega)
   obtain ⟨k5,e5⟩:=mi n a1.Flags (IntKind.wrap .i64 (i + 1)) (by rw [hw]; omega)
   have hw2:IntKind.wrap .i64 ((l.length:Int) - 1)=(l.length:Int) - 1:=kz (by omega) (by omega)
   obtain ⟨w4,f4,g1,g2⟩:=eY n k5 0 (IntKind.wrap .i64 ((l.length:Int) - 1)) (by rw [hw2]; omega) (by omega) (by rw [hw2]; omega)
   rw [hw2] at g2
   obtain ⟨x,hx,hxm,_⟩:=lU l (i:=w4) g1 (by omega)
   rw [e5,Option.bind_some,f4,Option.bind_some,hx,Option.bind_some]
   obtain ⟨rec,q1,q2,q3,⟨q5,q6⟩,q4⟩:=FU (again:=again) hl hd i x28 x32 x44 x45 ([114] ++ nm i) k1 w1 w2 w3 x.Name
   exact ⟨rec,q1,q2,q3,by unfold RO; rw [q5,q6]; exact ⟨⟨f2a,f2b⟩,⟨f3a,f3b⟩,fun _=>⟨x,hxm,rfl⟩,fun h=>absurd hh' h,f1a,f1b⟩,q4⟩
  ·
   rename_i hh
   obtain ⟨rec,q1,q2,q3,⟨q5,q6⟩,q4⟩:=FU (again:=again) hl hd i x28 x32 x44 x45 ([114] ++ nm i) k1 w1 w2 w3 []
   have hh':¬(w2=3∨w2=4):=by simpa using hh
   exact ⟨rec,q1,q2,q3,by unfold RO; rw [q5,q6]; exact ⟨⟨f2a,f2b⟩,⟨f3a,f3b⟩,fun h=>absurd h hh',fun _=>rfl,f1a,f1b⟩,q4⟩
 ·
  obtain ⟨rec,q1,q2,q3,⟨q5,q6⟩,q4⟩:=FU (again:=again) hl hd i x28 x32 x44 x45 ([114] ++ nm i) k1 w1 0 0 []
  exact ⟨rec,q1,q2,q3,by unfold RO; rw [q5,q6]; exact ⟨⟨by simp,by simp⟩,⟨by simp,by simp⟩,fun h=>by simp at h,fun _=>rfl,f1a,f1b⟩,q4⟩
theorem CP (hp:0 < l.length) (hl:l.length ≤ 8) (hd:dp.length ≤ 8) {i:Int} (h0:0 ≤ i) (h7:i ≤ 7) (x28 x32:Int):∃ rec:ak,rec.Name=[114] ++ nm i∧rec.Parent=x28∧(∃ s,rec.dX=[s]∧NI i s)∧RO l rec∧dN n a1 l dp i again x28 x32=again (l ++ [rec]) (dp ++ [x32]) (IntKind.wrap .i64 (i + 1)):=by
 unfold dN
 obtain ⟨k1,e1⟩:=mi n a1.Kinds i h0
 obtain ⟨w1,f1,f10,f14⟩:=eY n k1 0 4 (by omega) (by omega) (by omega)
 have hc:cat [112] (([(IntKind.wrap .u8 (IntKind.wrap .i64 (97 + i)))]).map fun (n:Int)=>UInt8.ofNat n.toNat)=some ([112] ++ nm i):=JP (by simp)
 rw [e1,Option.bind_some,f1,Option.bind_some,hc,Option.bind_some]
 split
 ·
  obtain ⟨k2,e2⟩:=mi n a1.Texts i h0
  have h6:IntKind.wrap .i64 ((([[97],[98],[105,116,101,109],[122],[49],[108,105,115,116]]:List Str).length:Int) - 1)=5:=by rw [kz (by simp) (by simp)]; rfl
  obtain ⟨w2,f2,g1,g2⟩:=eY n k2 0 5 (by omega) (by omega) (by omega)
  obtain ⟨x,hx,hxm,_⟩:=lU ([[97],[98],[105,116,101,109],[122],[49],[108,105,115,116]]:List Str) (i:=w2) g1 (by simp; omega)
  rw [e2,Option.bind_some,h6,f2,Option.bind_some,hx,Option.bind_some]
  obtain ⟨rec,q1,q2,q3,q4r,q4⟩:=Jf (n:=n) (a1:=a1) (again:=again) hp hl hd h0 h7 x28 x32 (Seg.mk 0 x).Kind (Seg.mk 0 x).Text
  exact ⟨rec,q1,q2,⟨_,q3,.inl ⟨rfl,hxm⟩⟩,q4r,q4⟩
 ·
  rename_i hk
  simp only [decide_eq_true_eq] at hk
  rw [kz (by omega) (by omega)] at hk
  obtain ⟨rec,q1,q2,q3,q4r,q4⟩:=Jf (n:=n) (a1:=a1) (again:=again) hp hl hd h0 h7 x28 x32 (Seg.mk (IntKind.wrap .i64 (w1 - 1)) ([112] ++ nm i)).Kind (Seg.mk (IntKind.wrap .i64 (w1 - 1)) ([112] ++ nm i)).Text
  refine ⟨rec,q1,q2,⟨_,q3,.inr ⟨?_,?_,rfl⟩⟩,q4r,q4⟩
  ·
   simp only; rw [kz (by omega) (by omega)]; omega
  ·
   simp only; rw [kz (by omega) (by omega)]; omega
theorem LM (hp:0 < l.length) (hl:l.length ≤ 8) (hd:dp.length=l.length) {i x28:Int} (h0:0 ≤ i) (h7:i ≤ 7) (hx:x28 < l.length):∃ (rec:ak) (x32:Int),rec.Name=[114] ++ nm i∧rec.Parent=x28∧(∃ s,rec.dX=[s]∧NI i s)∧RO l rec∧dn n a1 l dp i again x28=again (l ++ [rec]) (dp ++ [x32]) (IntKind.wrap .i64 (i + 1)):=by
 unfold dn
 by_cases h:0 ≤ x28
 ·
  obtain ⟨x,hx,_⟩:=lU dp (i:=x28) h (by omega)
  rw [if_pos (by simpa using h),hx,Option.bind_some]
  obtain ⟨rec,q⟩:=CP (n:=n) (a1:=a1) (again:=again) (l:=l) (dp:=dp) hp hl (by omega) h0 h7 x28 (IntKind.wrap .i64 (x + 1))
  exact ⟨rec,_,q⟩
 ·
  rw [if_neg (by simpa using h)]
  obtain ⟨rec,q⟩:=CP (n:=n) (a1:=a1) (again:=again) (l:=l) (dp:=dp) hp hl (by omega) h0 h7 x28 1
  exact ⟨rec,_,q⟩
end
theorem Lj (n:Nat) (s:List Seg) (h:s.length ≤ 1):∃ b,jr n s=some b∧(b=false→∀ x ∈ s,x.Kind < 2):=by
 unfold jr
 match s,h with
 | [],_=>exact ⟨false,rfl,fun _ x hx=>by cases hx⟩
 | [x],_ =>
  refine ⟨decide (2 ≤ x.Kind),?_,fun hb y hy=>?_⟩
  ·
   rw [if_pos (by simp),show IntKind.wrap .i64 ((([x]:List Seg).length:Int) - 1)=0 from by rw [kz (by simp) (by simp)]; rfl]
   rfl
  ·
   simp at hy hb; subst hy; exact hb
theorem GX {n:Nat} {a1:gQ}:∀ (r i f:Nat) (l:List ak) (dp:List Int),i + r=min a1.Parents.length 7→r < f→Rs l→(∀ r ∈ l,RO l r)→l.length=i + 1→dp.length=i + 1→∃ l',aM n a1 f l dp (i:Int)=some l'∧Rs l'∧(∀ r ∈ l',RO l' r)
 | 0,i,f + 1,l,dp,hi,hf,hR,hO,hl,hd=>by
  refine ⟨l,?_,hR,hO⟩
  rw [aM,if_neg (by simp only [Bool.and_eq_true,decide_eq_true_eq]; omega)]
 | r + 1,i,f + 1,l,dp,hi,hf,hR,hO,hl,hd=>by
  have hii:i < a1.Parents.length:=by omega
  have hw2:IntKind.wrap .i64 ((l.length:Int) - 1)=(l.length:Int) - 1:=kz (by omega) (by omega)
  obtain ⟨z,fz,z1,z2⟩:=eY n a1.Parents[i] (-1) (IntKind.wrap .i64 ((l.length:Int) - 1)) (by rw [hw2]; omega) (by omega) (by rw [hw2]; omega)
  rw [hw2] at z2
  have hin:∃ b,(if (decide (0 ≤ z))=true then ((idx dp z).bind fun z101=>((if (decide (3 < z101))=true then some true else ((idx l z).bind fun z102=>((jr n z102.dX).bind fun z103=>(some z103)))).bind fun z103=>(some z103))) else some false)=some b∧(b=false→0 ≤ z→∃ p,idx l z=some p∧∀ s ∈ p.dX,s.Kind < 2):=by
   by_cases h0:0 ≤ z
   ·
    obtain ⟨x,hx,_⟩:=lU dp (i:=z) h0 (by omega)
    obtain ⟨y,hy,_,hy2⟩:=lU l (i:=z) h0 (by omega)
    obtain ⟨b,hb,hb2⟩:=Lj n y.dX (hR.segs _ _ hy2)
    rw [if_pos (by simpa using h0),hx,Option.bind_some,hy,Option.bind_some,hb]
    split
    ·
     exact ⟨true,rfl,fun h=>by cases h⟩
    ·
     exact ⟨b,rfl,fun h _=>⟨y,rfl,hb2 h⟩⟩
   ·
    rw [if_neg (by simpa using h0)]; exact ⟨false,rfl,fun _ h=>absurd h h0⟩
  obtain ⟨b,hb,hbk⟩:=hin
  rw [aM,if_pos (by simp only [Bool.and_eq_true,decide_eq_true_eq]; omega),gH,List.getElem?_eq_getElem hii,Option.bind_some,fz,Option.bind_some,hb,Option.bind_some]
  have fin:∀ x28:Int,-1 ≤ x28→x28 < l.length→(0 ≤ x28→∃ p,idx l x28=some p∧∀ s ∈ p.dX,s.Kind < 2)→∃ l',dn n a1 l dp (i:Int) (aM n a1 f) x28=some l'∧Rs l'∧(∀ r ∈ l',RO l' r):=fun x28 g1 g2 g3=>by
   obtain ⟨rec,x32,q1,q2,⟨sg,q3,q5⟩,q4r,q4⟩:=LM (n:=n) (a1:=a1) (again:=aM n a1 f) hR.pos hR.le (by omega:dp.length=l.length) (i:=(i:Int)) (x28:=x28) (by omega) (by omega) g2
   rw [q4,show IntKind.wrap .i64 ((i:Int) + 1)=((i + 1:Nat):Int) by rw [kz (by omega) (by omega)]; push_cast; rfl]
   exact GX r (i + 1) f (l ++ [rec]) (dp ++ [x32]) (by omega) (by omega) (hR.snoc (by omega) (by rw [q1,hl]; rfl) (by rw [q2]; exact ⟨g1,g2⟩) ⟨sg,q3,q5.imp id (fun q=>⟨q.1,q.2.1,i,by omega,q.2.2⟩)⟩ (by rw [q2]; exact g3)) (RO.snoc hO q4r) (by simp [hl]) (by simp [hd])
  cases b with
  | true=>exact fin (-1) (by omega) (by omega) (fun h=>by omega)
  | false=>exact fin z z1 (by omega) (hbk rfl)
theorem Fz {n:Nat} (hn:10 ≤ n) (a1:gQ):∃ l,gF n a1=some l∧Rs l∧(∀ r ∈ l,RO l r):=by
 unfold gF
 refine GX (min a1.Parents.length 7) 0 n _ _ (by omega) (by omega) ⟨by simp,by simp,fun j r h=>?_,fun j r h=>?_,fun j r h=>?_,fun j r h=>?_,fun j r h h0=>?_⟩ (fun r hr=>by
  rw [List.mem_singleton.1 hr]
  exact ⟨⟨by simp,by simp⟩,⟨by simp,by simp⟩,fun h=>by simp at h,fun _=>rfl,by simp,by simp⟩) rfl rfl <;>
 ·
  have hj:j=0:=by have:=(List.getElem?_eq_some_iff.1 h).1; simp at this; omega
  subst hj
  simp at h
  subst h
  simp_all [oW]
end Pr
end Go.Ev

namespace Go.Ev
namespace Pr
set_option linter.unusedVariables false
set_option linter.unusedSimpArgs false
theorem EE {α:Type} {d r:List α} {z z':α}:je (d ++ z :: r) (d.length:Int) z'=d ++ z' :: r:=by
 unfold je; simp
theorem Gy:∀ (k:Nat) (m p s:List Int) (f:Nat),m.length ≤ k→m.length < f→(p ++ m ++ s).length < 1000000→bL f (p ++ m ++ s) (p.length:Int) ((p.length:Int) + m.length - 1)=some (p ++ m.reverse ++ s)
 | k,[],p,s,f + 1,hk,hf,hl=>by
  rw [bL,if_neg (by simp; omega)]; simp
 | k,[a],p,s,f + 1,hk,hf,hl=>by
  rw [bL,if_neg (by simp)]; simp
 | k + 1,a :: b :: t,p,s,f + 1,hk,hf,hl=>by
  obtain ⟨m',c,hm⟩:∃ m' c,b :: t=m' ++ [c]:=⟨(b :: t).dropLast,(b :: t).getLast (by simp),(List.dropLast_concat_getLast (by simp)).symm⟩
  have hml:(b :: t).length=m'.length + 1:=by rw [hm]; simp
  simp only [List.length_cons] at hml
  have e:p ++ (a :: b :: t) ++ s=p ++ a :: (m' ++ c :: s):=by rw [hm]; simp
  have e2:p ++ (a :: b :: t) ++ s=(p ++ a :: m') ++ c :: s:=by rw [e]; simp
  have hlen:(p ++ (a :: b :: t) ++ s).length=p.length + (t.length + 2) + s.length:=by simp; omega
  have hj:(p.length:Int) + (a :: b :: t).length - 1=(((p ++ a :: m').length:Nat):Int):=by simp; omega
  have i1:idx (p ++ (a :: b :: t) ++ s) ((p.length:Int) + (a :: b :: t).length - 1)=some c:=by rw [hj]; exact iN e2
  have i2:idx (p ++ (a :: b :: t) ++ s) (p.length:Int)=some a:=iN e
  have s1:je (p ++ (a :: b :: t) ++ s) (p.length:Int) c=(p ++ c :: m') ++ c :: s:=by rw [e,EE]; simp
  have hj2:(p.length:Int) + (a :: b :: t).length - 1=(((p ++ c :: m').length:Nat):Int):=by simp; omega
  have i3:idx ((p ++ c :: m') ++ c :: s) ((p.length:Int) + (a :: b :: t).length - 1)=some c:=by rw [hj2]; exact iN rfl
  have s2:je ((p ++ c :: m') ++ c :: s) ((p.length:Int) + (a :: b :: t).length - 1) a=(p ++ [c]) ++ m' ++ (a :: s):=by rw [hj2,EE]; simp
  rw [bL,if_pos (by simp only [List.length_cons,decide_eq_true_eq]; omega),i1,Option.bind_some,i2,Option.bind_some,s1,i3,Option.bind_some,s2]
  have ih:=Gy k m' (p ++ [c]) (a :: s) f (by simp at hk; omega) (by simp at hf; omega) (by rw [hlen] at hl; simp; omega)
  have w1:IntKind.wrap .i64 ((p.length:Int) + 1)=(((p ++ [c]).length:Nat):Int):=by rw [kz (by omega) (by rw [hlen] at hl; omega)]; simp
  have w2:IntKind.wrap .i64 ((p.length:Int) + (a :: b :: t).length - 1 - 1)=(((p ++ [c]).length:Nat):Int) + m'.length - 1:=by
   rw [kz (by simp only [List.length_cons]; omega) (by simp only [List.length_cons]; rw [hlen] at hl; omega)]
   simp; omega
  rw [w1,w2,ih,hm]
  simp
theorem FD {n:Nat} {a:List Int} (hn:a.length < n) (hl:a.length < 1000000):gM n a=some a.reverse:=by
 unfold gM
 have:=Gy a.length a [] [] n (Nat.le_refl _) hn (by simpa using hl)
 simp only [List.nil_append,List.append_nil,List.length_nil] at this
 rw [kz (by omega) (by omega)]
 rw [show ((0:Nat):Int) + (a.length:Int) - 1=(a.length:Int) - 1 by omega] at this
 exact this
theorem lM {α:Type} {l:List α} {i:Int} {x:α} (h:idx l i=some x):0 ≤ i∧i < l.length∧l[i.toNat]? = some x:=by
 obtain ⟨h1,h2⟩:=kC h
 have:=(List.getElem?_eq_some_iff.1 h2).1
 exact ⟨h1,by omega,h2⟩
inductive Up (l:List ak):Int→List Int→Prop
 | top {i:Int} {r:ak} (h:idx l i=some r) (hp:r.Parent < 0):Up l i [i]
 | up {i:Int} {r:ak} {us:List Int} (h:idx l i=some r) (hp:0 ≤ r.Parent) (k:Up l r.Parent us):Up l i (i :: us)
structure Pk (l:List ak) (K:Int):Prop where
 par:∀ k r,idx l k=some r→k ≤ K→-1 ≤ r.Parent∧r.Parent < k
 segs:∀ k r,idx l k=some r→k ≤ K→r.dX.length ≤ 2
theorem Rs.pk {l:List ak} (h:Rs l) (K:Int):Pk l K:=⟨fun k r hr _=>by
  obtain ⟨h1,_,h2⟩:=lM hr
  have:=h.par _ r h2
  omega,fun k r hr _=>by
  obtain ⟨h1,_,h2⟩:=lM hr
  have:=h.segs _ r h2
  omega⟩
theorem Up.exists {l:List ak} (hR:Rs l):∀ (m:Nat) (i:Int),0 ≤ i→i < l.length→i < m→∃ us,Up l i us∧us.length ≤ i.toNat + 1
 | 0,i,h0,_,hm=>by omega
 | m + 1,i,h0,hl,hm=>by
  obtain ⟨r,hr,_,hr2⟩:=lU l h0 hl
  have hp:=hR.par _ r hr2
  by_cases h:r.Parent < 0
  ·
   exact ⟨[i],.top hr h,by simp⟩
  ·
   obtain ⟨us,hu,hl'⟩:=Up.exists hR m r.Parent (by omega) (by omega) (by omega)
   exact ⟨i :: us,.up hr (by omega) hu,by simp; omega⟩
theorem Up.to {l m:List ak} {K:Int} (hP:Pk l K) (hm:∀ k r,k ≤ K→idx l k=some r→∃ r',idx m k=some r'∧r'.Parent=r.Parent) {i:Int} {us:List Int} (h:Up l i us):i ≤ K→Up m i us:=by
 induction h with
 | top h hp =>
  intro hi
  obtain ⟨r',h1,h2⟩:=hm _ _ hi h
  exact .top h1 (by omega)
 | up h hp k ih =>
  intro hi
  obtain ⟨r',h1,h2⟩:=hm _ _ hi h
  have:=hP.par _ _ h hi
  exact .up h1 (by omega) (by rw [h2]; exact ih (by omega))
theorem Up.le {l:List ak} {K:Int} (hP:Pk l K) {i:Int} {us:List Int} (h:Up l i us):i ≤ K→∀ k ∈ us,k ≤ i:=by
 induction h with
 | top h hp=>intro _ k hk; simp at hk; omega
 | up h hp k ih =>
  intro hi x hx
  have:=hP.par _ _ h hi
  rcases List.mem_cons.1 hx with rfl | hx
  ·
   omega
  ·
   have:=ih (by omega) x hx; omega
theorem Ii {n:Nat} {l:List ak} {K:Int} (hP:Pk l K) {i:Int} {us:List Int} (h:Up l i us):i ≤ K→∀ (f:Nat) (acc:List Int),us.length < f→acc.length + us.length ≤ 1000→gq n l f i acc=jy n (acc ++ us):=by
 induction h with
 | top h hp =>
  intro hi f acc hf hl
  obtain ⟨f,rfl⟩:∃ g,f=g + 2:=⟨f - 2,by simp at hf; omega⟩
  obtain ⟨h1,h2,h3⟩:=lM h
  simp at hl
  rw [gq,if_pos (by simp only [Bool.and_eq_true,decide_eq_true_eq]; exact ⟨h1,h2⟩),jD (by rw [bnd]; simp; omega),Option.bind_some,h,Option.bind_some,if_neg (by rw [decide_eq_true_eq]; omega),gq,if_neg (by simp only [Bool.and_eq_true,decide_eq_true_eq]; omega)]
 | up h hp k ih =>
  intro hi f acc hf hl
  rename_i i r us
  obtain ⟨f,rfl⟩:∃ g,f=g + 1:=⟨f - 1,by simp at hf; omega⟩
  obtain ⟨h1,h2,h3⟩:=lM h
  have hpar:=hP.par _ _ h hi
  simp at hl hf
  rw [gq,if_pos (by simp only [Bool.and_eq_true,decide_eq_true_eq]; exact ⟨h1,h2⟩),jD (by rw [bnd]; simp; omega),Option.bind_some,h,Option.bind_some,if_neg (by rw [decide_eq_true_eq]; omega),ih (by omega) f (acc ++ [i]) (by omega) (by simp; omega)]
  simp
theorem JR {n:Nat} (hn:100 ≤ n) {l:List ak} {K:Int} (hP:Pk l K) {i:Int} {us:List Int} (h:Up l i us) (hi:i ≤ K) (hu:us.length ≤ 50):oz n l i=some us.reverse:=by
 unfold oz
 rw [Ii hP h hi n [] (by omega) (by simp; omega),List.nil_append,jy,FD (by omega) (by omega)]
 rfl
inductive Down (l:List ak):List Int→Int→Prop
 | top {i:Int} {r:ak} (h:idx l i=some r) (hp:r.Parent = -1):Down l [i] i
 | snoc {c:List Int} {p i:Int} {r:ak} (k:Down l c p) (h:idx l i=some r) (hp:r.Parent=p) (h0:0 ≤ p):Down l (c ++ [i]) i
theorem Up.down {l:List ak} {K:Int} (hP:Pk l K) {i:Int} {us:List Int} (h:Up l i us):i ≤ K→Down l us.reverse i:=by
 induction h with
 | top h hp =>
  intro hi
  have:=hP.par _ _ h hi
  exact .top h (by omega)
 | up h hp k ih =>
  intro hi
  have:=hP.par _ _ h hi
  rw [List.reverse_cons]; exact .snoc (ih (by omega)) h rfl hp
theorem Down.last {l:List ak} {c:List Int} {i:Int} (h:Down l c i):∃ d,c=d ++ [i]:=by
 cases h with
 | top h hp=>exact ⟨[],rfl⟩
 | snoc k h hp h0=>exact ⟨_,rfl⟩
theorem Down.at {l:List ak} {c:List Int} {i:Int} (h:Down l c i):∀ (m:Nat) (k:Int),c[m]? = some k→∃ r,idx l k=some r∧((m=0∧r.Parent = -1)∨(0 < m∧c[m - 1]? = some r.Parent)):=by
 induction h with
 | top h hp =>
  intro m k hk
  have hm:m=0:=by have:=(List.getElem?_eq_some_iff.1 hk).1; simp at this; omega
  subst hm
  simp at hk; subst hk
  exact ⟨_,h,.inl ⟨rfl,hp⟩⟩
 | snoc k h hp h0 ih =>
  rename_i c p i r
  intro m x hx
  obtain ⟨d,hd⟩:=k.last
  by_cases q:m < c.length
  ·
   rw [List.getElem?_append_left q] at hx
   obtain ⟨r',h1,h2⟩:=ih m x hx
   refine ⟨r',h1,?_⟩
   rcases h2 with h2 | ⟨h2,h3⟩
   ·
    exact .inl h2
   ·
    exact .inr ⟨h2,by rw [List.getElem?_append_left (by omega)]; exact h3⟩
  ·
   have hm:m=c.length:=by have:=(List.getElem?_eq_some_iff.1 hx).1; simp at this; omega
   subst hm
   rw [List.getElem?_append_right (Nat.le_refl _)] at hx
   simp at hx; subst hx
   have hcl:c.length=d.length + 1:=by rw [hd]; simp
   refine ⟨r,h,.inr ⟨by omega,?_⟩⟩
   rw [List.getElem?_append_left (by omega),hp]
   rw [hcl,Nat.add_sub_cancel,hd]
   simp
def jG (l:List ak) (k:Int):List Seg:=match idx l k with | some r=>r.dX | none=>[]
theorem EX {l:List ak} {K:Int} (hP:Pk l K) (c:List Int) (hc:∀ k ∈ c,0 ≤ k∧k < l.length∧k ≤ K) (hcl:c.length ≤ 50):∀ (rest done:List Int) (out:List Seg) (f:Nat),c=done ++ rest→rest.length < f→out.length ≤ 2 * done.length→iw l c f out (done.length:Int)=some (out ++ rest.flatMap (jG l))
 | [],done,out,f + 1,h,hf,ho=>by
  rw [iw,if_neg (by rw [h]; simp)]; simp
 | k :: rest,done,out,f + 1,h,hf,ho=>by
  have hlen:c.length=done.length + rest.length + 1:=by rw [h]; simp; omega
  obtain ⟨h0,h1,hK⟩:=hc k (by rw [h]; simp)
  obtain ⟨r,hr,_,hr2⟩:=lU l h0 h1
  have hs:=hP.segs _ r hr hK
  have hseg:jG l k=r.dX:=by unfold jG; rw [hr]
  rw [iw,if_pos (by rw [decide_eq_true_eq]; omega),iN h,Option.bind_some,hr,Option.bind_some,jD (by rw [bnd]; omega),Option.bind_some]
  have ih:=EX hP c hc hcl rest (done ++ [k]) (out ++ r.dX) f (by rw [h]; simp) (by simp at hf; omega) (by simp; omega)
  have hw:IntKind.wrap .i64 ((done.length:Int) + 1)=(((done ++ [k]).length:Nat):Int):=by rw [kz (by omega) (by omega)]; simp
  rw [hw,ih]
  simp [hseg]
theorem Lm {n:Nat} (hn:100 ≤ n) {l:List ak} {K:Int} (hP:Pk l K) {i:Int} {us:List Int} (h:Up l i us) (hi:i ≤ K) (hu:us.length ≤ 50):mq n l i=some (us.reverse.flatMap (jG l)):=by
 have hc:∀ k ∈ us.reverse,0 ≤ k∧k < l.length∧k ≤ K:=fun k hk=>by
  obtain ⟨m,hm⟩:=List.getElem?_of_mem hk
  obtain ⟨r,hr,_⟩:=(h.down hP hi).at m k hm
  have:=lM hr
  have:=h.le hP hi k (by simpa using hk)
  exact ⟨by omega,by omega,by omega⟩
 unfold mq
 rw [JR hn hP h hi hu,Option.bind_some]
 have:=EX hP us.reverse hc (by simpa using hu) us.reverse [] [] n rfl (by simp; omega) (by simp)
 simpa using this
end Pr
end Go.Ev

namespace Go.Ev
namespace Pr
set_option linter.unusedVariables false
set_option linter.unusedSimpArgs false
theorem uM (n:Nat) (s:Str):gK n s=gK 0 s:=rfl
set_option maxRecDepth 100000 in
theorem Ea:∀ t ∈ texts,gK 0 t=some true:=by decide +kernel
set_option maxRecDepth 100000 in
theorem IQ:∀ i ∈ List.range 8,gK 0 ([112] ++ nm (i:Int))=some true:=by decide +kernel
set_option maxRecDepth 100000 in
theorem BX:∀ j ∈ List.range 8,gK 0 (oW j)=some true:=by decide +kernel
theorem LZ {a b:Nat} (ha:a < 8) (hb:b < 8) (h:nm (a:Int)=nm (b:Int)):a=b:=by
 have key:∀ i ∈ List.range 8,∀ j ∈ List.range 8,nm (i:Int)=nm (j:Int)→i=j:=by decide +kernel
 exact key a (List.mem_range.2 ha) b (List.mem_range.2 hb) h
theorem Ce.named {j:Nat} {s:Seg} (h:Ce j s) (hj:j ≤ 8) (n:Nat):gK n s.Text=some true∧0 ≤ s.Kind∧s.Kind ≤ 3:=by
 rcases h with ⟨h1,h2⟩ | ⟨h1,h2,i,rfl,h3⟩
 ·
  exact ⟨by rw [uM]; exact Ea _ h2,by omega,by omega⟩
 ·
  exact ⟨by rw [uM,h3]; exact IQ i (List.mem_range.2 (by omega)),by omega,by omega⟩
theorem Ch {n:Nat} (a:List Seg) (p:Seg→Option Bool) (hp:∀ t ∈ a,p t=some false) (hl:a.length < 1000000):∀ (rest done:List Seg) (f:Nat),a=done ++ rest→rest.length < f→bz a p f (done.length:Int)=some (-1)
 | [],done,f + 1,h,hf=>by rw [bz,if_neg (by rw [decide_eq_true_eq,h]; simp)]
 | t :: rest,done,f + 1,h,hf=>by
  have hlen:a.length=done.length + rest.length + 1:=by rw [h]; simp; omega
  have hw:IntKind.wrap .i64 ((done.length:Int) + 1)=(((done ++ [t]).length:Nat):Int):=by rw [kz (by omega) (by omega)]; simp
  rw [bz,if_pos (by rw [decide_eq_true_eq]; omega),iN h,Option.bind_some,hp t (by rw [h]; simp),Option.bind_some,if_neg (by simp),hw]
  exact Ch (n:=n) a p hp hl rest (done ++ [t]) f (by rw [h]; simp) (by simp at hf; omega)
theorem Eu {n:Nat} {a:List Seg} {p:Seg→Option Bool} (hp:∀ t ∈ a,p t=some false) (hl:a.length < n) (hl2:a.length < 1000000):di n a p=some false:=by
 unfold di fE
 have:=Ch (n:=n) a p hp hl2 a [] n rfl hl
 rw [List.length_nil,show ((0:Nat):Int)=0 from rfl] at this
 rw [this]; rfl
structure Gj (a:List Seg) (N:Nat):Prop where
 nam:∀ (q:Nat) (s:Seg),a[q]? = some s→q < N→∀ n,gK n s.Text=some true∧0 ≤ s.Kind∧s.Kind ≤ 3
 last:∀ (q:Nat) (s:Seg),a[q]? = some s→q < N→2 ≤ s.Kind→q + 1=a.length
 twice:∀ (q q':Nat) (s t:Seg),a[q]? = some s→q < N→a[q']? = some t→q' < q→s.Kind ≠ 0→¬(t.Kind ≠ 0∧t.Text=s.Text)
theorem He {n:Nat} (hn:100 ≤ n) {a:List Seg} {N:Nat} (hN:N ≤ a.length) (ha:a.length ≤ 50) (G:Gj a N):∀ (r q f:Nat),q + r=N→r ≤ f→eD n a f (q:Int)=eD n a (f - r) (N:Int)
 | 0,q,f,hq,hf=>by rw [show q=N by omega]; rfl
 | r + 1,q,f + 1,hq,hf=>by
  have hqa:q < a.length:=by omega
  have hg:a[q]? = some a[q]:=List.getElem?_eq_getElem hqa
  obtain ⟨h1,h2,h3⟩:=G.nam q _ hg (by omega) n
  have hw:IntKind.wrap .i64 ((q:Int) + 1)=((q + 1:Nat):Int):=by rw [kz (by omega) (by omega)]; push_cast; rfl
  have hw1:IntKind.wrap .i64 ((a.length:Int) - 1)=(a.length:Int) - 1:=kz (by omega) (by omega)
  have c1:decide (a[q].Kind < 0)=false:=by rw [decide_eq_false_iff_not]; omega
  have c2:decide (3 < a[q].Kind)=false:=by rw [decide_eq_false_iff_not]; omega
  have c3:¬(decide (2 ≤ a[q].Kind) && (!((q:Int) == IntKind.wrap .i64 ((a.length:Int) - 1))))=true:=by
   rw [hw1]
   simp only [Bool.and_eq_true,decide_eq_true_eq,Bool.not_eq_true',beq_eq_false_iff_ne]
   rintro ⟨k1,k2⟩
   have:=G.last q _ hg (by omega) k1
   apply k2; omega
  have c4:(if (a[q].Kind != 0)=true then ((cut a 0 (q:Int)).bind fun z25=>((di n z25 (fun y26=>jF n y26 a[q])).bind fun z27=>(some z27))) else some false)=some false:=by
   by_cases hk:a[q].Kind=0
   ·
    rw [if_neg (by simp [hk])]
   ·
    have hcut:cut a 0 (q:Int)=some (a.take q):=by unfold cut; rw [if_pos ⟨by omega,by omega,by omega⟩]; simp
    rw [if_pos (by simp [hk]),hcut,Option.bind_some,Eu (fun t ht=>?_) (by simp; omega) (by simp; omega)]
    ·
     rfl
    ·
     obtain ⟨q',hq'⟩:=List.getElem?_of_mem ht
     have hlt:q' < q:=by have:=(List.getElem?_eq_some_iff.1 hq').1; simp at this; omega
     rw [List.getElem?_take_of_lt hlt] at hq'
     have:=G.twice q q' _ t hg (by omega) hq' hlt hk
     unfold jF
     congr 1
     simp only [Bool.and_eq_false_iff,bne_eq_false_iff_eq,beq_eq_false_iff_ne]
     by_cases ht0:t.Kind=0
     ·
      exact .inl ht0
     ·
      exact .inr (fun e=>this ⟨ht0,e⟩)
  rw [eD,if_pos (by rw [decide_eq_true_eq]; omega),gH,hg,Option.bind_some,h1,Option.bind_some,c1,c2,if_neg (by simp),if_neg c3,c4,Option.bind_some,if_neg (by simp),hw]
  rw [He hn hN ha G r (q + 1) f (by omega) (by omega)]
  congr 1
  omega
theorem GN {n:Nat} (hn:100 ≤ n) {a:List Seg} (ha:a.length ≤ 8) (G:Gj a a.length):gN n a=some true:=by
 unfold gN
 rw [if_neg (by rw [decide_eq_true_eq]; omega)]
 have:=He hn (Nat.le_refl _) (by omega) G a.length 0 n (by omega) (by omega)
 rw [show ((0:Nat):Int)=0 from rfl] at this
 obtain ⟨g,hg⟩:∃ g,n - a.length=g + 1:=⟨n - a.length - 1,by omega⟩
 rw [this,hg,eD,if_neg (by simp)]
theorem FM {n:Nat} (hn:100 ≤ n) {s:Str} {b:Bool} (hs:gK 0 s=some b):gN n [Seg.mk 0 s]=some b:=by
 cases b with
 | true =>
  refine GN hn (by simp) ⟨fun q x hx hq m=>?_,fun q x hx hq hk=>?_,fun q q' x t hx hq ht hlt hk=>?_⟩
  ·
   simp at hq; subst hq; simp at hx; subst hx; exact ⟨by rw [uM]; exact hs,by simp,by simp⟩
  ·
   simp at hq; subst hq; simp
  ·
   simp at hq; omega
 | false =>
  unfold gN
  obtain ⟨g,rfl⟩:∃ g,n=g + 1:=⟨n - 1,by omega⟩
  rw [if_neg (by simp),eD,if_pos (by simp),show idx [Seg.mk 0 s] 0=some (Seg.mk 0 s) from rfl,Option.bind_some,uM]
  simp only []
  rw [hs,Option.bind_some,if_pos (by simp)]
structure dX (l:List ak) (c:List Int) (i:Int):Prop where
 ok:∀ s ∈ c.flatMap (jG l),∃ j:Nat,j < 8∧(j:Int) ≤ i∧Ce j s
 pw:(c.flatMap (jG l)).Pairwise (fun s t=>¬(t.Kind ≠ 0∧s.Kind ≠ 0∧s.Text=t.Text))
 sp:∃ y,c.flatMap (jG l)=y ++ jG l i∧∀ s ∈ y,s.Kind < 2
 len:(c.flatMap (jG l)).length ≤ c.length
theorem DX {l:List ak} {i:Int} {r:ak} (h:idx l i=some r):jG l i=r.dX:=by unfold jG; rw [h]
theorem Ah {l:List ak} (hR:Rs l) {i:Int} {r:ak} (h:idx l i=some r):(jG l i).length ≤ 1∧∀ s ∈ jG l i,∃ j:Nat,(j:Int)=i∧j < 8∧Ce j s:=by
 obtain ⟨h0,h1,h2⟩:=lM h
 have hle:=hR.le
 rw [DX h]
 refine ⟨hR.segs _ r h2,fun s hs=>?_⟩
 rcases hR.sg _ r h2 with q | ⟨s',q,q'⟩
 ·
  rw [q] at hs; cases hs
 ·
  rw [q] at hs
  simp at hs; subst hs
  exact ⟨i.toNat,by omega,by omega,q'⟩
theorem K8 {l:List ak} (hR:Rs l) {c:List Int} {i:Int} (h:Down l c i):dX l c i:=by
 induction h with
 | top h hp =>
  rename_i i r
  obtain ⟨h1,h2⟩:=Ah hR h
  have e:([i]:List Int).flatMap (jG l)=jG l i:=by simp
  refine ⟨fun s hs=>?_,?_,⟨[],by rw [e]; rfl,by simp⟩,by rw [e]; simpa using h1⟩
  ·
   rw [e] at hs; obtain ⟨j,a,b,d⟩:=h2 s hs; exact ⟨j,b,by omega,d⟩
  ·
   rw [e]
   match jG l i,h1 with
   | [],_=>exact .nil
   | [x],_=>simp
 | snoc k h hp h0 ih =>
  rename_i c p i r
  obtain ⟨h1,h2⟩:=Ah hR h
  obtain ⟨g0,g1,g2⟩:=lM h
  have hpi:=hR.par _ r g2
  obtain ⟨pr,hpr,hkid⟩:=hR.kid _ r g2 (by omega)
  rw [hp] at hpr
  obtain ⟨y,hy,hy2⟩:=ih.sp
  have e:(c ++ [i]).flatMap (jG l)=c.flatMap (jG l) ++ jG l i:=by simp
  have low:∀ s ∈ c.flatMap (jG l),s.Kind < 2:=fun s hs=>by
   rw [hy] at hs
   rcases List.mem_append.1 hs with q | q
   ·
    exact hy2 s q
   ·
    rw [DX hpr] at q; exact hkid s q
  refine ⟨fun s hs=>?_,?_,⟨_,e,low⟩,by rw [e,List.length_append,List.length_append]; have:=ih.len; simp only [List.length_cons,List.length_nil]; omega⟩
  ·
   rw [e] at hs
   rcases List.mem_append.1 hs with q | q
   ·
    obtain ⟨j,a,b,d⟩:=ih.ok s q; exact ⟨j,a,by omega,d⟩
   ·
    obtain ⟨j,a,b,d⟩:=h2 s q; exact ⟨j,b,by omega,d⟩
  ·
   rw [e]
   refine List.pairwise_append.2 ⟨ih.pw,?_,fun s hs t ht=>?_⟩
   ·
    match jG l i,h1 with
    | [],_=>exact .nil
    | [x],_=>simp
   ·
    rintro ⟨k1,k2,k3⟩
    obtain ⟨j,a1,a2,a3⟩:=ih.ok s hs
    obtain ⟨j',b1,b2,b3⟩:=h2 t ht
    rcases a3 with ⟨a3,_⟩ | ⟨_,_,m,rfl,a3⟩
    ·
     exact k2 a3
    ·
     rcases b3 with ⟨b3,_⟩ | ⟨_,_,m',rfl,b3⟩
     ·
      exact k1 b3
     ·
      rw [a3,b3] at k3
      have:=LZ (by omega) (by omega) (List.append_cancel_left k3)
      subst this
      omega
theorem dX.good {l:List ak} {c:List Int} {i:Int} (S:dX l c i) (h1:(jG l i).length ≤ 1):Gj (c.flatMap (jG l)) (c.flatMap (jG l)).length:=by
 refine ⟨fun q s hs hq n=>?_,fun q s hs hq hk=>?_,fun q q' s t hs hq ht hlt hk=>?_⟩
 ·
  obtain ⟨j,a,b,d⟩:=S.ok s (List.mem_of_getElem? hs)
  exact d.named (by omega) n
 ·
  obtain ⟨y,hy,hy2⟩:=S.sp
  rw [hy] at hs ⊢
  by_cases hqy:q < y.length
  ·
   rw [List.getElem?_append_left hqy] at hs
   have:=hy2 s (List.mem_of_getElem? hs); omega
  ·
   have:=(List.getElem?_eq_some_iff.1 hs).1
   simp at this ⊢; omega
 ·
  obtain ⟨e1,e2⟩:=List.getElem?_eq_some_iff.1 hs
  obtain ⟨e3,e4⟩:=List.getElem?_eq_some_iff.1 ht
  have:=List.pairwise_iff_getElem.1 S.pw q' q e3 e1 hlt
  rw [e2,e4] at this
  rintro ⟨k1,k2⟩
  exact this ⟨hk,k1,k2⟩
end Pr
end Go.Ev

namespace Go.Ev
namespace Pr
set_option linter.unusedVariables false
set_option linter.unusedSimpArgs false
set_option linter.unusedSectionVars false
section
variable {κ ν:Type} [BEq κ] [LawfulBEq κ]
theorem uC (k:κ):∀ (m:List (κ × ν)) (i:Nat),(o8 k m i).map (·.2)=(o8 k m 0).map (·.2)
 | [],i=>rfl
 | (a,b) :: l,i=>by
  simp only [o8]
  split
  ·
   rfl
  ·
   rw [uC k l (i + 1),uC k l 1]
theorem rO (a:κ) (b:ν) (l:List (κ × ν)) (k:κ):FW ((a,b) :: l) k=if (k == a)=true then some b else FW l k:=by
 unfold FW
 simp only [o8]
 split
 ·
  rfl
 ·
  exact uC k l 1
theorem Cc (k:κ):∀ (m:List (κ × ν)) (i:Nat),o8 k m (i + 1)=(o8 k m i).map fun r=>(r.1 + 1,r.2)
 | [],i=>rfl
 | (c,e) :: m,i=>by
  simp only [o8]
  cases (k == c) with
  | true=>rfl
  | false=>exact Cc k m (i + 1)
theorem Ie (a:κ) (b:ν) (l:List (κ × ν)) (k:κ) (v:ν):xw ((a,b) :: l) k v=if (k == a)=true then (k,v) :: l else (a,b) :: xw l k v:=by
 unfold xw
 simp only [o8,Cc]
 cases h:(k == a) with
 | true=>have:=eq_of_beq h; subst this; simp
 | false=>cases o8 k l 0 <;> simp
theorem Cm:∀ (m:List (κ × ν)) (k k':κ) (v:ν),FW (xw m k v) k'=if (k' == k)=true then some v else FW m k'
 | [],k,k',v=>by
  have:xw ([]:List (κ × ν)) k v=[(k,v)]:=rfl
  rw [this,rO]
 | (a,b) :: l,k,k',v=>by
  rw [Ie]
  by_cases h:(k == a)=true
  ·
   rw [if_pos h,rO,rO]
   have:=eq_of_beq h
   subst this
   by_cases h2:(k' == k)=true
   ·
    rw [if_pos h2,if_pos h2]
   ·
    rw [if_neg h2,if_neg h2,if_neg h2]
  ·
   rw [if_neg h,rO,Cm l k k' v,rO]
   by_cases h2:(k' == a)=true
   ·
    rw [if_pos h2,if_pos h2]
    have:=eq_of_beq h2
    subst this
    have h3:(k' == k)=false:=by
     cases hq:k' == k with
     | false=>rfl
     | true=>have:=eq_of_beq hq; subst this; simp at h
    rw [h3]; rfl
   ·
    rw [if_neg h2,if_neg h2]
theorem vB (m:List (κ × ν)) (k k':κ) (v z:ν):mg (xw m k v) k' z=if (k' == k)=true then v else mg m k' z:=by
 unfold mg
 rw [Cm]
 split <;> rfl
end
end Pr
end Go.Ev

namespace Go.Ev
namespace Pr
set_option linter.unusedVariables false
set_option linter.unusedSimpArgs false
structure Agree (l m:List ak) (b:Nat):Prop where
 rs:Rs l
 le:b ≤ l.length
 lm:b ≤ m.length
 eq:∀ k:Nat,k < b→m[k]? = l[k]?
section
variable {l m:List ak} {b:Nat}
theorem Agree.pk (A:Agree l m b):Pk m ((b:Int) - 1):=by
 have get:∀ k r,idx m k=some r→k ≤ (b:Int) - 1→idx l k=some r:=fun k r h hk=>by
  obtain ⟨h0,_,h2⟩:=lM h
  rw [A.eq _ (by omega)] at h2
  unfold idx
  rw [if_pos h0,h2]
 have P:=A.rs.pk ((b:Int) - 1)
 exact ⟨fun k r h hk=>P.par k r (get k r h hk) hk,fun k r h hk=>P.segs k r (get k r h hk) hk⟩
theorem Agree.to (A:Agree l m b):∀ k r,k ≤ (b:Int) - 1→idx l k=some r→∃ r',idx m k=some r'∧r'.Parent=r.Parent:=fun k r hk h=>by
 obtain ⟨h0,_,h2⟩:=lM h
 refine ⟨r,?_,rfl⟩
 unfold idx
 rw [if_pos h0,A.eq _ (by omega),h2]
theorem Agree.Oe (A:Agree l m b) {k:Int} (hk:k ≤ (b:Int) - 1):jG m k=jG l k:=by
 unfold jG idx
 by_cases h0:0 ≤ k
 ·
  rw [if_pos h0,if_pos h0,A.eq _ (by omega)]
 ·
  rw [if_neg h0,if_neg h0]
theorem zZ {f g:Int→List Seg}:∀ (c:List Int),(∀ k ∈ c,f k=g k)→c.flatMap f=c.flatMap g
 | [],_=>rfl
 | a :: c,h=>by simp only [List.flatMap_cons]; rw [h a List.mem_cons_self,zZ c (fun k hk=>h k (List.mem_cons_of_mem _ hk))]
theorem Agree.full (A:Agree l m b) {n:Nat} (hn:100 ≤ n) {j:Nat} (hj:j < b):∃ a,mq n m (j:Int)=some a∧gN n a=some true:=by
 have hle:=A.rs.le
 have hlb:=A.le
 obtain ⟨us,hU,hul⟩:=Up.exists A.rs (j + 1) (j:Int) (by omega) (by omega) (by omega)
 have hUm:=hU.to (A.rs.pk ((b:Int) - 1)) A.to (by omega)
 have hf:=Lm hn A.pk hUm (by omega) (by omega)
 have hle2:=hU.le (A.rs.pk ((b:Int) - 1)) (by omega)
 have e:us.reverse.flatMap (jG m)=us.reverse.flatMap (jG l):=zZ _ (fun k hk=>A.Oe (by have:=hle2 k (by simpa using hk); omega))
 have hD:=hU.down (A.rs.pk (j:Int)) (Int.le_refl _)
 have S:=K8 A.rs hD
 obtain ⟨r,hr,_⟩:=lU l (i:=(j:Int)) (by omega) (by omega)
 refine ⟨_,hf,?_⟩
 rw [e]
 have hl:=S.len
 simp only [List.length_reverse] at hl
 exact GN hn (by omega) (S.good (Ah A.rs hr).1)
structure Names (map:List (Str × Int)) (j:Nat):Prop where
 old:∀ k,k < j→mg map (oW k) 0=1
 new:∀ k,j ≤ k→k < 8→mg map (oW k) 0=0
 other:mg map [] 0=0
theorem Kb (k:Nat):oW k ≠ []:=by cases k <;> simp [oW]
end
theorem Names.put {map:List (Str × Int)} {j:Nat} (h:Names map j) (hj:j < 8) (v:Int) (hv:v=1):Names (xw map (oW j) v) (j + 1):=by
 refine ⟨fun k hk=>?_,fun k h1 h2=>?_,?_⟩
 ·
  rw [vB]
  by_cases q:k=j
  ·
   subst q; rw [if_pos (by simp)]; exact hv
  ·
   rw [if_neg (by simp only [beq_iff_eq]; intro e; exact q (BD (by omega) hj e))]
   exact h.old k (by omega)
 ·
  rw [vB,if_neg (by simp only [beq_iff_eq]; intro e; have:=BD h2 hj e; omega)]
  exact h.new k (by omega) h2
 ·
  rw [vB,if_neg (by simp only [beq_iff_eq]; intro e; exact Kb j e.symm)]
  exact h.other
theorem BZ:Names [] 0:=⟨fun k h=>by omega,fun k _ _=>rfl,rfl⟩
theorem Dz {l m:List ak} {b n:Nat} (hn:100 ≤ n) (A:Agree l m b):∀ (r j f:Nat) (map:List (Str × Int)),j + r=b→r ≤ f→Names map j→∃ map',fF n m f map (j:Int)=fF n m (f - r) map' (b:Int)∧Names map' b
 | 0,j,f,map,hj,hf,hN=>⟨map,by rw [show j=b by omega]; rfl,by rw [show b=j by omega]; exact hN⟩
 | r + 1,j,f + 1,map,hj,hf,hN=>by
  have hle:=A.rs.le
  have hlb:=A.le
  have hlm:=A.lm
  have hjl:j < l.length:=by omega
  have hg:m[j]? = some l[j]:=by rw [A.eq j (by omega)]; exact List.getElem?_eq_getElem hjl
  have hgl:l[j]? = some l[j]:=List.getElem?_eq_getElem hjl
  have hname:=A.rs.name j _ hgl
  have hpar:=A.rs.par j _ hgl
  obtain ⟨a,ha,hpr⟩:=A.full hn (j:=j) (by omega)
  have hnm:=BX j (List.mem_range.2 (by omega))
  have hw:IntKind.wrap .i64 ((j:Int) + 1)=((j + 1:Nat):Int):=by rw [kz (by omega) (by omega)]; push_cast; rfl
  have h0:=hN.new j (Nat.le_refl _) (by omega)
  obtain ⟨map',e1,e2⟩:=Dz hn A r (j + 1) f (xw map (oW j) (IntKind.wrap .i64 (mg map (oW j) 0 + 1))) (by omega) (by omega) (hN.put (by omega) _ (by rw [h0,kz (by omega) (by omega)]; rfl))
  refine ⟨map',?_,e2⟩
  have c1:decide (l[j].Parent < -1)=false:=by rw [decide_eq_false_iff_not]; omega
  have c2:decide ((j:Int) ≤ l[j].Parent)=false:=by rw [decide_eq_false_iff_not]; omega
  rw [fF,if_pos (by rw [decide_eq_true_eq]; omega),gH,hg,Option.bind_some,hname,FM hn hnm,Option.bind_some,h0,c1,c2,if_neg (by simp),ha,Option.bind_some,hpr,Option.bind_some,Option.bind_some,if_neg (by simp),hw]
  rw [h0] at e1
  rw [e1]
  congr 1
  omega
theorem Ag {n:Nat} (hn:100 ≤ n) {l:List ak} (hR:Rs l):fU n l=some true:=by
 have hle:=hR.le
 have hpos:=hR.pos
 obtain ⟨map',e1,_⟩:=Dz hn (l:=l) (m:=l) (b:=l.length) ⟨hR,Nat.le_refl _,Nat.le_refl _,fun _ _=>rfl⟩ l.length 0 n [] (by omega) (by omega) BZ
 unfold fU
 rw [if_neg (by simp only [Bool.or_eq_true,decide_eq_true_eq]; omega)]
 rw [show ((0:Nat):Int)=0 from rfl] at e1
 obtain ⟨g,hg⟩:∃ g,n - l.length=g + 1:=⟨n - l.length - 1,by omega⟩
 rw [e1,hg,fF,if_neg (by simp)]
theorem yl {n:Nat} (hn:100 ≤ n) {l m:List ak} {b:Nat} (A:Agree l m b) (hm:b < m.length) (hm9:m.length ≤ 16) {r:ak} (hr:m[b]? = some r)
  (hbad:∀ map,Names map b→∃ nb,gN n [Seg.mk 0 r.Name]=some nb∧(((((!nb) || (decide (0 < (mg map r.Name 0)))) || (decide (r.Parent < (-1)))) || (decide ((b:Int) ≤ r.Parent)))=true∨∃ a,mq n m (b:Int)=some a∧gN n a=some false)):fU n m=some false:=by
 have hlb:=A.le
 have hle:=A.rs.le
 obtain ⟨map',e1,e2⟩:=Dz hn A b 0 n [] (by omega) (by omega) BZ
 obtain ⟨nb,h1,h2⟩:=hbad map' e2
 unfold fU
 rw [if_neg (by simp only [Bool.or_eq_true,decide_eq_true_eq]; omega)]
 rw [show ((0:Nat):Int)=0 from rfl] at e1
 obtain ⟨g,hg⟩:∃ g,n - b=g + 1:=⟨n - b - 1,by omega⟩
 rw [e1,hg,fF,if_pos (by rw [decide_eq_true_eq]; omega),gH,hr,Option.bind_some,h1,Option.bind_some]
 rcases h2 with h2 | ⟨a,h2,h3⟩
 ·
  rw [if_pos h2,Option.bind_some,if_pos rfl]
 ·
  split
  ·
   rw [Option.bind_some,if_pos rfl]
  ·
   rw [h2,Option.bind_some,h3,Option.bind_some,Option.bind_some,if_pos (by simp)]
end Pr
end Go.Ev

namespace Go.Ev
namespace Pr
set_option linter.unusedVariables false
set_option linter.unusedSimpArgs false
theorem Kg (a b:List aK):tC (a ++ b)=tC a + tC b:=by
 induction a with
 | nil=>simp [tC]
 | cons x a ih=>simp only [List.cons_append,tC,ih]; omega
theorem G6:∀ (m:Nat) (t:aK),C.jN t ≤ m→C.pg 6 t→EN t=0
 | 0,t,hm,_=>by have:=C.dV t; omega
 | m + 1,t,hm,h=>by
  have h':=(C.oU t).1 h
  have hl:∀ (l:List aK),(∀ z ∈ l,EN z=0)→tC l=0:=by
   intro l
   induction l with
   | nil=>intro _; rfl
   | cons x l ih =>
    intro hz
    have:=hz x List.mem_cons_self
    have:=ih (fun z h=>hz z (List.mem_cons_of_mem _ h))
    simp only [tC]; omega
  have:=hl t.Kids (fun z hz=>G6 m z (by have:=C.jX hz; omega) (h'.2.2.2.2.2 z hz))
  rw [wz,this,if_neg (by omega)]
theorem Iy (n:Nat) (hn:100 < n) (t u:aK) (o:Bool) (g:C.pg 7 t) (hc:C.jN t ≤ 13) (hk:t.Kind=1) (h:iB n t o=some u):EN u=if o=true then 1 else 0:=by
 obtain ⟨c1,c2,c3⟩:=C.FH _ t (Nat.le_refl _)
 have g6:=c3 g (by omega)
 have hwk:(C.wo t).Kind=1:=by rw [C.GG]; exact hk
 have h0:=G6 _ _ (Nat.le_refl _) g6
 have hlen:=C.kI (C.wo t).Kids
 have hpk:=C.dV (C.wo t)
 rw [wz,if_neg (by omega)] at h0
 unfold iB at h
 rw [C.vP 13 t hc (by omega) n (by omega),Option.bind_some] at h
 cases o with
 | false =>
  rw [if_neg (by simp)] at h
  unfold dW at h
  rw [← Option.some.inj h,EN,hwk]
  simp only [Bool.false_eq_true,if_false]
  rw [if_neg (by omega)]; omega
 | true =>
  rw [if_pos rfl,jD (by rw [bnd]; simp; omega),Option.bind_some] at h
  unfold dW at h
  rw [← Option.some.inj h,EN,hwk,if_neg (by omega),Kg]
  simp only [tC,EN,if_true]; omega
structure GC (n:Nat) (o:Bool) (c:aJ):Prop where
 rt:ja n c=some true
 sl:fB n c.aK=some (if o=true then 1 else 0)
 pg:C.pg 7 c.aK
 cnt:C.jN c.aK ≤ 14
 il:c.Init.length=5
 ol:c.On.length ≤ 5
theorem Ew (k:eX) (n:Nat) (hn:100 < n):∃ c,gI n k=some c∧GC n k.Outlet c:=by
 obtain ⟨t,t1,t2,t3,t4,t5⟩:=C.Kz k.Page n hn
 obtain ⟨u,u1,u2,u3,u4⟩:=C.KG n hn t k.Outlet t2 t3 t4 t5
 have u5:=Iy n hn t u k.Outlet t2 t3 t5 u1
 obtain ⟨ini,ons,i1,i2,i3,i4,i5⟩:=C.BM n hn k u 5 0 n [] rfl rfl (by omega) (fun v hv=>by cases hv)
 refine ⟨aJ.mk u ini ons,?_,C.IM n (by omega) _ (by show ini.length ≤ 6; omega) i2 (by show ons.length ≤ 24; omega) ?_ (fun o ho=>?_),?_,u2,u3,i1,i3⟩
 ·
  unfold gI
  rw [t1,Option.bind_some,u1,Option.bind_some]
  exact i5
 ·
  show jJ n u (ini.length:Int)=_
  rw [i1]; exact u4
 ·
  obtain ⟨p1,p2,_⟩:=i4 o ho
  exact ⟨by show C.KR ini.length o; rw [i1]; exact p1,p2⟩
 ·
  show fB n u=_
  rw [Br 14 u u3 (by omega) n (by omega),u5]
  cases k.Outlet <;> rfl
def CS (n:Nat) (cs:List aJ):Prop:=∀ (i:Nat) (c:aJ),cs[i]? = some c→GC n (i % 2 == 1) c
theorem CS.two {n:Nat} {cs:List aJ} (h:CS n cs) (he:cs.length % 2=0) {a b:aJ} (ha:GC n false a) (hb:GC n true b):CS n (cs ++ [a] ++ [b]):=by
 intro i c hc
 by_cases q:i < cs.length
 ·
  rw [List.append_assoc,List.getElem?_append_left q] at hc; exact h i c hc
 ·
  rw [List.append_assoc,List.getElem?_append_right (by omega)] at hc
  have hlt:=(List.getElem?_eq_some_iff.1 hc).1
  simp at hlt
  by_cases q0:i=cs.length
  ·
   subst q0; simp at hc; subst hc
   have:(cs.length % 2 == 1)=false:=by rw [he]; rfl
   rw [this]; exact ha
  ·
   have e:i - cs.length=1:=by omega
   rw [e] at hc; simp at hc; subst hc
   have:(i % 2 == 1)=true:=by rw [beq_iff_eq]; omega
   rw [this]; exact hb
theorem BO {n:Nat} (hn:100 < n) (a1:jB) (l:List ak) (ca:Int):∀ (m i f:Nat) (cs:List aJ),i + m=4→m < f→cs.length=2 * i→CS n cs→∃ cs',cs'.length=8∧CS n cs'∧bJ n a1 l ca f cs (i:Int)=bA n l ca cs' n l 0
 | 0,i,f + 1,cs,hi,hf,hl,hC=>by
  refine ⟨cs,by omega,hC,?_⟩
  rw [bJ,if_neg (by rw [decide_eq_true_eq]; omega)]
 | m + 1,i,f + 1,cs,hi,hf,hl,hC=>by
  have hw:IntKind.wrap .i64 ((i:Int) + 1)=((i + 1:Nat):Int):=by rw [kz (by omega) (by omega)]; push_cast; rfl
  have fin:∀ (x36 x37 x38 x39 x40 x41:List Int) (x42:Bool),∃ cs',cs'.length=8∧CS n cs'∧fe n cs (i:Int) (bJ n a1 l ca f) x36 x37 x38 x39 x40 x41 x42=bA n l ca cs' n l 0:=fun x36 x37 x38 x39 x40 x41 x42=>by
   obtain ⟨a,a1',a2⟩:=Ew (eX.mk (cZ.mk x36 x37 x38 x39) x40 x41 false) n hn
   obtain ⟨b,b1',b2⟩:=Ew (eX.mk (cZ.mk x36 x37 x38 x39) x40 x41 true) n hn
   unfold fe
   rw [a1',Option.bind_some,jD (by rw [bnd]; simp; omega),Option.bind_some,b1',Option.bind_some,jD (by rw [bnd]; simp; omega),Option.bind_some,hw]
   exact BO hn a1 l ca m (i + 1) f _ (by omega) (by omega) (by simp; omega) (hC.two (by omega) a2 b2)
  rw [bJ,if_pos (by rw [decide_eq_true_eq]; omega)]
  split
  ·
   rename_i h
   rw [decide_eq_true_eq] at h
   rw [gH,List.getElem?_eq_getElem (by omega),Option.bind_some]
   exact fin _ _ _ _ _ _ _
  ·
   exact fin _ _ _ _ _ _ _
def iA (l:List ak) (i:Int):Bool:=l.any fun r=>r.Parent == i
def Ee (r:ak) (c:Int):ak:=ak.mk r.Name r.Parent r.dX c r.fT r.aH
theorem or_one:∀ w ∈ [(0:Int),1,2,3],Nt .i64 (2 * w) 1=2 * w + 1∧Nt .i64 (2 * w + 1) 1=2 * w + 1∧IntKind.wrap .i64 (2 * w)=2 * w:=by decide
theorem zo (l:List ak) (hl:l.length ≤ 8) (i:Int) (again:List ak→Int→Option dK) (w:Int) (hw:w ∈ [(0:Int),1,2,3]):∀ (rest done:List ak) (k:Nat),l=done ++ rest→rest.length < k →
  bM l i again k (2 * w + (if iA done i=true then 1 else 0)) (done.length:Int)=(idx l i).bind fun z=>again (je l i (Ee z (2 * w + (if iA l i=true then 1 else 0)))) (IntKind.wrap .i64 (i + 1))
 | [],done,k + 1,h,hk=>by
  have e:l=done:=by rw [h]; simp
  subst e
  rw [bM,if_neg (by simp)]
  rfl
 | r :: rest,done,k + 1,h,hk=>by
  have hlen:l.length=done.length + rest.length + 1:=by rw [h]; simp; omega
  have hw1:IntKind.wrap .i64 ((done.length:Int) + 1)=(((done ++ [r]).length:Nat):Int):=by rw [kz (by omega) (by omega)]; simp
  obtain ⟨o1,o2,_⟩:=or_one w hw
  have hin:iA (done ++ [r]) i=(iA done i || r.Parent == i):=by simp [iA]
  have ih:=zo l hl i again w hw rest (done ++ [r]) k (by rw [h]; simp) (by simp at hk; omega)
  rw [bM,if_pos (by rw [decide_eq_true_eq]; omega),iN h,Option.bind_some]
  unfold fK
  rw [hw1,← ih,hin]
  cases hp:(r.Parent == i) with
  | true =>
   rw [if_pos rfl]
   cases iA done i <;> simp [o1,o2]
  | false=>rw [if_neg (by simp)]; simp
structure Fix (l m:List ak) (k:Nat):Prop where
 len:m.length=l.length
 at_:∀ (j:Nat) (r:ak),l[j]? = some r→∃ c,m[j]? = some (Ee r c)∧(j < k→0 ≤ c∧c < 8∧(iA l (j:Int)=true→c % 2=1))
theorem Fix.inner {l m:List ak} {k:Nat} (h:Fix l m k) (i:Int):iA m i=iA l i:=by
 have key:m.map (·.Parent)=l.map (·.Parent):=by
  apply List.ext_getElem?
  intro j
  rw [List.getElem?_map,List.getElem?_map]
  cases hj:l[j]? with
  | none =>
   have:l.length ≤ j:=by rw [List.getElem?_eq_none_iff] at hj; exact hj
   rw [List.getElem?_eq_none_iff.2 (by rw [h.len]; exact this)]
  | some r =>
   obtain ⟨c,hc,_⟩:=h.at_ j r hj
   rw [hc]; rfl
 have e:∀ l:List ak,iA l i=(l.map (·.Parent)).any (fun p=>p == i):=fun l=>by unfold iA; rw [List.any_map]; rfl
 rw [e,e,key]
theorem lD {α:Type} (l:List α) (i:Nat) (z:α):je l (i:Int) z=l.set i z:=by unfold je; simp
theorem Bu {n:Nat} (hn:100 < n) (l:List ak) (hl:l.length ≤ 8) (ca:Int) (cs:List aJ):∀ (r i f:Nat) (m:List ak),i + r=l.length→r < f→Fix l m i→∃ m',Fix l m' l.length∧bA n l ca cs f m (i:Int)=some (dK.mk m' cs ca)
 | 0,i,f + 1,m,hi,hf,hF=>by
  refine ⟨m,by rw [← hi]; exact hF,?_⟩
  rw [bA,if_neg (by rw [decide_eq_true_eq]; omega)]
 | r + 1,i,f + 1,m,hi,hf,hF=>by
  have hil:i < l.length:=by omega
  obtain ⟨c,hc,_⟩:=hF.at_ i l[i] (List.getElem?_eq_getElem hil)
  obtain ⟨w,w1,w2,w3⟩:=C.eY n c 0 3 (by omega) (by omega) (by omega)
  have hw:w ∈ [(0:Int),1,2,3]:=by simp; omega
  have hz:(Ee l[i] c).aJ=c:=rfl
  have hi1:IntKind.wrap .i64 ((i:Int) + 1)=((i + 1:Nat):Int):=by rw [kz (by omega) (by omega)]; push_cast; rfl
  rw [bA,if_pos (by rw [decide_eq_true_eq]; omega),gH,hc,Option.bind_some,hz,w1,Option.bind_some,(or_one w hw).2.2]
  have:=zo m (by rw [hF.len]; exact hl) (i:Int) (bA n l ca cs f) w hw m [] n rfl (by rw [hF.len]; omega)
  have hnil:iA [] (i:Int)=false:=rfl
  simp only [List.length_nil,hnil,Bool.false_eq_true,if_false,Int.add_zero] at this
  rw [show ((0:Nat):Int)=0 from rfl] at this
  rw [this,gH,hc,Option.bind_some,hi1,lD]
  refine Bu hn l hl ca cs r (i + 1) f _ (by omega) (by omega) ⟨by simp [hF.len],fun j x hx=>?_⟩
  by_cases hj:j=i
  ·
   subst hj
   have ex:x=l[j]:=by rw [List.getElem?_eq_getElem hil] at hx; exact (Option.some.inj hx).symm
   subst ex
   refine ⟨_,by rw [List.getElem?_set_self (by rw [hF.len]; exact hil)]; rfl,fun _=>?_⟩
   have e2:iA m (j:Int)=iA l (j:Int):=hF.inner (j:Int)
   have:w ≤ 3:=w3
   split
   ·
    exact ⟨by omega,by omega,fun _=>by omega⟩
   ·
    rename_i h; exact ⟨by omega,by omega,fun q=>absurd (e2.trans q) h⟩
  ·
   obtain ⟨c',h1,h2⟩:=hF.at_ j x hx
   refine ⟨c',by rw [List.getElem?_set_ne (by omega)]; exact h1,fun q=>h2 (by omega)⟩
structure qo (n:Nat) (a:dK):Prop where
 rs:Rs a.Records
 ru:∀ r ∈ a.Records,(0 ≤ r.aH.Kind∧r.aH.Kind ≤ 4)∧(0 ≤ r.aH.Flag∧r.aH.Flag ≤ 3)∧(r.aH.Kind=3∨r.aH.Kind=4→∃ p ∈ a.Records,p.Name=r.aH.To)∧(¬(r.aH.Kind=3∨r.aH.Kind=4)→r.aH.To=[])
 cp:∀ (j:Nat) (r:ak),a.Records[j]? = some r→0 ≤ r.aJ∧r.aJ < 8∧(iA a.Records (j:Int)=true→r.aJ % 2=1)
 cl:a.Comps.length=8
 cs:CS n a.Comps
 ca:0 ≤ a.Cache∧a.Cache ≤ 4
theorem Rs.like {l m:List ak} (h:Rs l) (hl:m.length=l.length) (hm:∀ (j:Nat) (r':ak),m[j]? = some r'→∃ r,l[j]? = some r∧r'.Name=r.Name∧r'.Parent=r.Parent∧r'.dX=r.dX):Rs m:=by
 refine ⟨by rw [hl]; exact h.pos,by rw [hl]; exact h.le,fun j r' hr=>?_,fun j r' hr=>?_,fun j r' hr=>?_,fun j r' hr=>?_,fun j r' hr h0=>?_⟩ <;> obtain ⟨r,q1,q2,q3,q4⟩:=hm j r' hr
 ·
  rw [q3]; exact h.par j r q1
 ·
  rw [q2]; exact h.name j r q1
 ·
  rw [q4]; exact h.segs j r q1
 ·
  rw [q4]; exact h.sg j r q1
 ·
  rw [q3] at h0
  obtain ⟨p,p1,p2⟩:=h.kid j r q1 h0
  obtain ⟨x1,x2⟩:=kC p1
  have hlt:=(List.getElem?_eq_some_iff.1 x2).1
  obtain ⟨s,s1,s2,s3,s4⟩:=hm r.Parent.toNat _ (List.getElem?_eq_getElem (by rw [hl]; exact hlt))
  rw [x2] at s1
  have:=Option.some.inj s1
  subst this
  refine ⟨_,by rw [q3]; unfold idx; rw [if_pos h0]; exact List.getElem?_eq_getElem (by rw [hl]; exact hlt),?_⟩
  rw [s4]; exact p2
theorem KN {n:Nat} (hn:100 < n) (k:jB):∃ a,fM n k=some a∧qo n a:=by
 obtain ⟨l,l1,l2,l3⟩:=Fz (n:=n) (by omega) k.Table
 obtain ⟨ca,c1,c2,c3⟩:=C.eY n k.Cache 0 4 (by omega) (by omega) (by omega)
 obtain ⟨cs,s1,s2,s3⟩:=BO hn k l ca 4 0 n [] rfl (by omega) rfl (fun i c h=>by cases i <;> cases h)
 obtain ⟨m,m1,m2⟩:=Bu hn l l2.le ca cs l.length 0 n l (by omega) (by have:=l2.le; omega) ⟨rfl,fun j r hr=>⟨r.aJ,by rw [hr]; rfl,fun h=>by omega⟩⟩
 have back:∀ (j:Nat) (r':ak),m[j]? = some r'→∃ r c,l[j]? = some r∧r'=Ee r c∧0 ≤ c∧c < 8∧(iA l (j:Int)=true→c % 2=1):=fun j r' hr=>by
  have hj:j < l.length:=by rw [← m1.len]; exact (List.getElem?_eq_some_iff.1 hr).1
  obtain ⟨c,hc,hc2⟩:=m1.at_ j l[j] (List.getElem?_eq_getElem hj)
  rw [hr] at hc
  exact ⟨l[j],c,List.getElem?_eq_getElem hj,Option.some.inj hc,hc2 hj⟩
 refine ⟨dK.mk m cs ca,?_,⟨l2.like m1.len (fun j r' hr=>?_),fun r' hr'=>?_,fun j r' hr=>?_,s1,s2,c2,c3⟩⟩
 ·
  unfold fM gU
  rw [l1,Option.bind_some,c1,Option.bind_some]
  rw [show ((0:Nat):Int)=0 from rfl] at s3 m2
  rw [s3]; exact m2
 ·
  obtain ⟨r,c,q1,q2,_⟩:=back j r' hr
  exact ⟨r,q1,by rw [q2]; exact ⟨rfl,rfl,rfl⟩⟩
 ·
  obtain ⟨j,hj,hjr⟩:=List.getElem_of_mem hr'
  obtain ⟨r,c,q1,q2,_⟩:=back j r' (by rw [List.getElem?_eq_getElem hj]; exact congrArg some hjr)
  obtain ⟨o1,o2,o3,o4,_⟩:=l3 r (List.mem_of_getElem? q1)
  rw [q2]
  refine ⟨o1,o2,fun h=>?_,o4⟩
  obtain ⟨p,p1,p2⟩:=o3 h
  obtain ⟨i,hi,hip⟩:=List.getElem_of_mem p1
  obtain ⟨c',h1,_⟩:=m1.at_ i p (by rw [List.getElem?_eq_getElem hi]; exact congrArg some hip)
  exact ⟨Ee p c',List.mem_of_getElem? h1,p2⟩
 ·
  obtain ⟨r,c,q1,q2,q3,q4,q5⟩:=back j r' hr
  rw [q2]
  exact ⟨q3,q4,fun h=>q5 (by rw [← m1.inner]; exact h)⟩
end Pr
end Go.Ev

namespace Go.Ev
namespace Pr
set_option linter.unusedVariables false
set_option linter.unusedSimpArgs false
set_option linter.unusedSectionVars false
theorem Af (l:List ak) (p:ak→Option Bool) (q:ak→Bool) (hp:∀ r,p r=some (q r)):∀ (rest done:List ak) (f:Nat),l=done ++ rest→rest.length < f→l.length < 1000000→∃ r,aV l p f (done.length:Int)=some r∧decide (0 ≤ r)=rest.any q
 | [],done,f + 1,h,hf,hl=>by
  rw [aV,if_neg (by rw [decide_eq_true_eq,h]; simp)]
  exact ⟨_,rfl,rfl⟩
 | x :: rest,done,f + 1,h,hf,hl=>by
  have hlen:l.length=done.length + rest.length + 1:=by rw [h]; simp; omega
  have hw:IntKind.wrap .i64 ((done.length:Int) + 1)=(((done ++ [x]).length:Nat):Int):=by rw [kz (by omega) (by omega)]; simp
  rw [aV,if_pos (by rw [decide_eq_true_eq]; omega),iN h,Option.bind_some,hp,Option.bind_some,List.any_cons]
  cases hq:q x with
  | true=>rw [if_pos rfl]; exact ⟨_,rfl,by simp⟩
  | false =>
   rw [if_neg (by simp),hw]
   obtain ⟨r,r1,r2⟩:=Af l p q hp rest (done ++ [x]) f (by rw [h]; simp) (by simp at hf; omega) hl
   exact ⟨r,r1,by simpa using r2⟩
theorem zq {n:Nat} (b:dK) (i:Int) (h:b.Records.length < n) (hl:b.Records.length < 1000000):j5 n b i=some (iA b.Records i):=by
 unfold j5 dS bW
 obtain ⟨r,r1,r2⟩:=Af b.Records (fun y9=>mh n y9 i) (fun r=>r.Parent == i) (fun _=>rfl) b.Records [] n rfl h hl
 rw [show ([]:List ak).length=0 from rfl,show ((0:Nat):Int)=0 from rfl] at r1
 rw [r1,Option.bind_some,Option.bind_some,r2]; rfl
theorem G9 {n:Nat} (b:dK) (u:aH) (h:b.Records.length < n) (hl:b.Records.length < 1000000):mE n b u=some (if (u.Kind != 3 && u.Kind != 4)=true then true else b.Records.any fun r=>r.Name == u.To):=by
 unfold mE qI bW
 obtain ⟨r,r1,r2⟩:=Af b.Records (fun y=>mf n y u.To) (fun r=>r.Name == u.To) (fun _=>rfl) b.Records [] n rfl h hl
 rw [show ([]:List ak).length=0 from rfl,show ((0:Nat):Int)=0 from rfl] at r1
 split
 ·
  rfl
 ·
  rw [r1,Option.bind_some,Option.bind_some,r2]; rfl
def ve (u:aH):Bool:=((((decide (0 ≤ u.Kind)) && (decide (u.Kind ≤ 4))) && (decide (0 ≤ u.Flag))) && (decide (u.Flag < 8))) && (((u.Kind == 3) || (u.Kind == 4)) || (u.To == []))
def qP (l:List ak) (u:aH):Bool:=if (u.Kind != 3 && u.Kind != 4)=true then true else l.any fun r=>r.Name == u.To
def Pass (n:Nat) (b:dK) (k:Nat):Prop:=∃ r,b.Records[k]? = some r∧0 ≤ r.aJ∧r.aJ < b.Comps.length∧ve r.aH=true∧qP b.Records r.aH=true∧(iA b.Records (k:Int)=true→∃ c,idx b.Comps r.aJ=some c∧fB n c.aK=some 1)
def NC (n:Nat) (b:dK) (k:Nat):Prop:=∃ r,b.Records[k]? = some r∧((r.aJ < 0∨(b.Comps.length:Int) ≤ r.aJ)∨ve r.aH=false∨qP b.Records r.aH=false∨(iA b.Records (k:Int)=true∧∃ c s,idx b.Comps r.aJ=some c∧fB n c.aK=some s∧s ≠ 1))
section
variable {n:Nat} {b:dK} (hl:b.Records.length < 1000) (hn:1000 < n)
include hl hn
theorem BK {k f:Nat} (h:Pass n b k):dQ n b (f + 1) (k:Int)=dQ n b f ((k + 1:Nat):Int):=by
 obtain ⟨r,h1,h2,h3,h4,h5,h6⟩:=h
 have hk:=(List.getElem?_eq_some_iff.1 h1).1
 have hw:IntKind.wrap .i64 ((k:Int) + 1)=((k + 1:Nat):Int):=by rw [kz (by omega) (by omega)]; push_cast; rfl
 have hr:qB n r.aH=some true:=by rw [← h4]; rfl
 have ha:mE n b r.aH=some true:=by rw [G9 b _ (by omega) (by omega)]; exact congrArg some h5
 rw [dQ,if_pos (by rw [decide_eq_true_eq]; omega),gH,h1,Option.bind_some,if_neg (by simp only [Bool.or_eq_true,decide_eq_true_eq]; omega),hr,Option.bind_some,Option.bind_some,if_neg (by simp),ha,Option.bind_some,Option.bind_some,if_neg (by simp),zq b _ (by omega) (by omega),Option.bind_some,hw]
 cases hi:iA b.Records (k:Int) with
 | false=>rw [if_neg (by simp),Option.bind_some,if_neg (by simp)]
 | true =>
  obtain ⟨c,c1,c2⟩:=h6 hi
  rw [if_pos rfl,c1,Option.bind_some,c2,Option.bind_some,Option.bind_some,if_neg (by simp)]
theorem Ik {k f:Nat} (h:NC n b k):dQ n b (f + 1) (k:Int)=some false:=by
 obtain ⟨r,h1,h2⟩:=h
 have hk:=(List.getElem?_eq_some_iff.1 h1).1
 have hr:qB n r.aH=some (ve r.aH):=rfl
 have ha:mE n b r.aH=some (qP b.Records r.aH):=by rw [G9 b _ (by omega) (by omega)]; rfl
 rw [dQ,if_pos (by rw [decide_eq_true_eq]; omega),gH,h1,Option.bind_some]
 by_cases c1:((decide (r.aJ < 0)) || (decide (((b.Comps).length:Int) ≤ r.aJ)))=true
 ·
  rw [if_pos c1,Option.bind_some,if_pos rfl,Option.bind_some,if_pos rfl]
 ·
  rw [if_neg c1,hr,Option.bind_some,Option.bind_some]
  simp only [Bool.or_eq_true,decide_eq_true_eq] at c1
  cases c2:ve r.aH with
  | false=>rw [if_pos (by rfl),Option.bind_some,if_pos rfl]
  | true =>
   rw [if_neg (by simp),ha,Option.bind_some,Option.bind_some]
   cases c3:qP b.Records r.aH with
   | false=>rw [if_pos (by rfl)]
   | true =>
    rw [if_neg (by simp),zq b _ (by omega) (by omega),Option.bind_some]
    rcases h2 with h2 | h2 | h2 | ⟨h2,c,s,h3,h4,h5⟩
    ·
     exact absurd h2 c1
    ·
     rw [h2] at c2; cases c2
    ·
     rw [h2] at c3; cases c3
    ·
     rw [h2,if_pos rfl,h3,Option.bind_some,h4,Option.bind_some,Option.bind_some,if_pos (by simpa using h5)]
theorem EA:∀ (m j f:Nat),j + m=b.Records.length→m < f→(∀ k,j ≤ k→k < b.Records.length→Pass n b k)→dQ n b f (j:Int)=some true
 | 0,j,f + 1,hj,hf,hp=>by
  rw [dQ,if_neg (by rw [decide_eq_true_eq]; omega)]
 | m + 1,j,f + 1,hj,hf,hp=>by
  rw [BK hl hn (hp j (Nat.le_refl _) (by omega))]
  exact EA m (j + 1) f (by omega) (by omega) (fun k h1 h2=>hp k (by omega) h2)
theorem BA {i:Nat} (hf:NC n b i):∀ (m j f:Nat),j + m=i→m < f→(∀ k,j ≤ k→k < i→Pass n b k)→dQ n b f (j:Int)=some false
 | 0,j,f + 1,hj,hff,hp=>by
  have:j=i:=by omega
  subst this
  exact Ik hl hn hf
 | m + 1,j,f + 1,hj,hff,hp=>by
  rw [BK hl hn (hp j (Nat.le_refl _) (by omega))]
  exact BA hf m (j + 1) f (by omega) (by omega) (fun k h1 h2=>hp k (by omega) h2)
omit hl in
theorem Ad (hcl:b.Comps.length ≤ 16):∀ (m j f:Nat),j + m ≤ b.Comps.length→m < f→(∀ (k:Nat) (c:aJ),b.Comps[k]? = some c→k < j + m→ja n c=some true)→fG n b f (j:Int)=fG n b (f - m) ((j + m:Nat):Int)
 | 0,j,f + 1,hj,hf,hp=>rfl
 | m + 1,j,f + 1,hj,hf,hp=>by
  have hw:IntKind.wrap .i64 ((j:Int) + 1)=((j + 1:Nat):Int):=by rw [kz (by omega) (by omega)]; push_cast; rfl
  rw [fG,if_pos (by rw [decide_eq_true_eq]; omega),gH,List.getElem?_eq_getElem (by omega),Option.bind_some,hp j b.Comps[j] (List.getElem?_eq_getElem (by omega)) (by omega),Option.bind_some,if_neg (by simp),hw,Ad hcl m (j + 1) f (by omega) (by omega) (fun k c h1 h2=>hp k c h1 (by omega))]
  rw [show f + 1 - (m + 1)=f - m by omega,show j + 1 + m=j + (m + 1) by omega]
omit hl in
theorem DU (hr:fU n b.Records=some true) (hc1:1 ≤ b.Comps.length) (hc2:b.Comps.length ≤ 16) (hca:0 ≤ b.Cache∧b.Cache ≤ 8) (hcs:∀ (k:Nat) (c:aJ),b.Comps[k]? = some c→ja n c=some true):eP n b=dQ n b n 0:=by
 unfold eP
 rw [hr,Option.bind_some,if_neg (by simp; omega)]
 have:=Ad (n:=n) (b:=b) hn hc2 b.Comps.length 0 n (by omega) (by omega) (fun k c h _=>hcs k c h)
 rw [show ((0:Nat):Int)=0 from rfl] at this
 obtain ⟨g,hg⟩:∃ g,n - b.Comps.length=g + 1:=⟨n - b.Comps.length - 1,by omega⟩
 rw [this,hg,fG,if_neg (by rw [decide_eq_true_eq]; omega)]
omit hl in
theorem uk (hb:fU n b.Records=some false∨(∃ x,fU n b.Records=some x)∧(b.Comps.length < 1∨b.Cache < 0∨8 < b.Cache)):eP n b=some false:=by
 unfold eP
 rcases hb with hb | ⟨⟨x,hx⟩,hb⟩
 ·
  rw [hb,Option.bind_some,if_pos (by simp)]
 ·
  rw [hx,Option.bind_some,if_pos]
  simp only [Bool.or_eq_true,decide_eq_true_eq]
  omega
end
section
variable {n:Nat} {a:dK} (hn:1000 < n) (A:qo n a)
include hn A
theorem qo.len:a.Records.length ≤ 8:=A.rs.le
theorem qo.route:fU n a.Records=some true:=Ag (by omega) A.rs
theorem qo.IW (k:Nat) (c:aJ) (h:a.Comps[k]? = some c):ja n c=some true:=(A.cs k c h).rt
theorem qo.ve {r:ak} (h:r ∈ a.Records):Pr.ve r.aH=true∧qP a.Records r.aH=true:=by
 obtain ⟨h1,h2,h3,h4⟩:=A.ru r h
 constructor
 ·
  unfold Pr.ve
  by_cases c:r.aH.Kind=3∨r.aH.Kind=4
  ·
   rcases c with c | c <;> simp [c] <;> omega
  ·
   have:=h4 c
   simp [this]; omega
 ·
  unfold qP
  split
  ·
   rfl
  ·
   rename_i hc
   have hc':r.aH.Kind=3∨r.aH.Kind=4:=by
    simp only [Bool.and_eq_true,bne_iff_ne,ne_eq] at hc
    by_cases c3:r.aH.Kind=3
    ·
     exact .inl c3
    ·
     exact .inr (by omega)
   obtain ⟨p,p1,p2⟩:=h3 hc'
   exact List.any_eq_true.2 ⟨p,p1,by simpa using p2⟩
theorem qo.pass {k:Nat} (hk:k < a.Records.length):Pass n a k:=by
 have hg:=List.getElem?_eq_getElem hk
 obtain ⟨c1,c2,c3⟩:=A.cp k _ hg
 obtain ⟨r1,r2⟩:=A.ve hn (List.getElem_mem hk)
 refine ⟨_,hg,c1,by rw [A.cl]; exact c2,r1,r2,fun hi=>?_⟩
 have hodd:=c3 hi
 have hlt:(a.Records[k].aJ).toNat < a.Comps.length:=by rw [A.cl]; omega
 refine ⟨a.Comps[(a.Records[k].aJ).toNat],?_,?_⟩
 ·
  unfold idx; rw [if_pos c1]; exact List.getElem?_eq_getElem hlt
 ·
  have:=(A.cs _ _ (List.getElem?_eq_getElem hlt)).sl
  have e:((a.Records[k].aJ).toNat % 2 == 1)=true:=by rw [beq_iff_eq]; omega
  rw [e] at this; exact this
theorem qo.right:eP n a=some true:=by
 have hlen:=A.len hn
 rw [DU hn (A.route hn) (by rw [A.cl]; omega) (by rw [A.cl]; omega) (by have:=A.ca; omega) (fun k c h=>A.IW hn k c h)]
 exact EA (by omega) hn a.Records.length 0 n (by omega) (by omega) (fun k _ h=>A.pass hn h)
end
end Pr
end Go.Ev

namespace Go.Ev
namespace Pr
set_option linter.unusedVariables false
set_option linter.unusedSimpArgs false
set_option linter.unusedSectionVars false
theorem qh {α:Type} {l:List α} {j:Nat} {z:α} (h:l[j]? = some z):l.set j z=l:=by
 apply List.ext_getElem?
 intro i
 by_cases q:i=j
 ·
  subst q; rw [List.getElem?_set_self (List.getElem?_eq_some_iff.1 h).1,h]
 ·
  rw [List.getElem?_set_ne (by omega)]
section
variable {n:Nat} {a:dK} (hn:1000 < n) (A:qo n a)
include hn A
theorem EB:∀ (m j f:Nat),j + m=a.Comps.length→m < f→ic n a a.Records a.Comps f a.Comps (j:Int)=some a
 | 0,j,f + 1,hj,hf=>by
  rw [ic,if_neg (by rw [decide_eq_true_eq]; omega)]
 | m + 1,j,f + 1,hj,hf=>by
  have hlt:j < a.Comps.length:=by omega
  have hg:=List.getElem?_eq_getElem hlt
  have hcl:=A.cl
  have G:=A.cs j _ hg
  have hil:=G.il
  have hol:=G.ol
  have hw:IntKind.wrap .i64 ((j:Int) + 1)=((j + 1:Nat):Int):=by rw [kz (by omega) (by omega)]; push_cast; rfl
  have ht:fZ n a.Comps[j].aK=some a.Comps[j].aK:=C.Ca 14 _ G.cnt (by omega) G.pg n (by omega)
  rw [ic,if_pos (by rw [decide_eq_true_eq]; omega),gH,hg,Option.bind_some,ht,Option.bind_some]
  unfold jg gP
  rw [jD (by rw [bnd]; simp; omega),Option.bind_some,jD (by rw [bnd]; simp; omega),Option.bind_some,Option.bind_some,hw,lD]
  simp only [List.nil_append]
  rw [show aJ.mk a.Comps[j].aK a.Comps[j].Init a.Comps[j].On=a.Comps[j] from rfl,qh hg]
  exact EB m (j + 1) f (by omega) (by omega)
theorem E5:∀ (m j f:Nat),j + m=a.Records.length→m < f→ib n a a.Records f a.Records (j:Int)=some a
 | 0,j,f + 1,hj,hf=>by
  have hcl:=A.cl
  rw [ib,if_neg (by rw [decide_eq_true_eq]; omega)]
  unfold fQ
  rw [jD (by rw [bnd]; simp; omega),Option.bind_some,List.nil_append]
  exact EB hn A a.Comps.length 0 n (by omega) (by omega)
 | m + 1,j,f + 1,hj,hf=>by
  have hlt:j < a.Records.length:=by omega
  have hg:=List.getElem?_eq_getElem hlt
  have hle:=A.rs.le
  have hs:=A.rs.segs j _ hg
  have hw:IntKind.wrap .i64 ((j:Int) + 1)=((j + 1:Nat):Int):=by rw [kz (by omega) (by omega)]; push_cast; rfl
  rw [ib,if_pos (by rw [decide_eq_true_eq]; omega),gH,hg,Option.bind_some]
  unfold gz
  rw [jD (by rw [bnd]; simp; omega),Option.bind_some,Option.bind_some,hw,lD]
  simp only [List.nil_append]
  rw [show ak.mk a.Records[j].Name a.Records[j].Parent a.Records[j].dX a.Records[j].aJ a.Records[j].fT a.Records[j].aH=a.Records[j] from rfl,qh hg]
  exact E5 m (j + 1) f (by omega) (by omega)
theorem KP:ql n a=some a:=by
 have hle:=A.rs.le
 unfold ql eT
 rw [jD (by rw [bnd]; simp; omega),Option.bind_some,List.nil_append]
 exact E5 hn A a.Records.length 0 n (by omega) (by omega)
end
theorem F5 {l:List ak} {i:Nat} {r r':ak} (h:l[i]? = some r) (hp:r'.Parent=r.Parent) (k:Int):iA (l.set i r') k=iA l k:=by
 have e:∀ l:List ak,iA l k=(l.map (·.Parent)).any (fun p=>p == k):=fun l=>by unfold iA; rw [List.any_map]; rfl
 rw [e,e,List.map_set,hp,qh (by rw [List.getElem?_map,h]; rfl)]
theorem IJ {l:List ak} {i:Nat} {r r':ak} (h:l[i]? = some r) (hp:r'.Name=r.Name) (s:Str):((l.set i r').any fun r=>r.Name == s)=l.any fun r=>r.Name == s:=by
 have e:∀ l:List ak,(l.any fun r=>r.Name == s)=(l.map (·.Name)).any (fun p=>p == s):=fun l=>by rw [List.any_map]; rfl
 rw [e,e,List.map_set,hp,qh (by rw [List.getElem?_map,h]; rfl)]
theorem BN {l:List ak} {i:Nat} {r r':ak} (h:l[i]? = some r) (hp:r'.Name=r.Name) (u:aH):qP (l.set i r') u=qP l u:=by
 unfold qP; rw [IJ h hp]
section
variable {n:Nat} {a:dK} (hn:1000 < n) (A:qo n a)
include hn A
theorem qo.L9 {i:Nat} {r r':ak} (h:a.Records[i]? = some r) (h1:r'.Name=r.Name) (h2:r'.Parent=r.Parent) (h3:r'.dX=r.dX):Rs (a.Records.set i r'):=by
 refine A.rs.like (by simp) (fun j x hx=>?_)
 by_cases q:j=i
 ·
  subst q
  rw [List.getElem?_set_self (List.getElem?_eq_some_iff.1 h).1] at hx
  rw [← Option.some.inj hx]
  exact ⟨r,h,h1,h2,h3⟩
 ·
  rw [List.getElem?_set_ne (by omega)] at hx
  exact ⟨x,hx,rfl,rfl,rfl⟩
theorem qo.others {i:Nat} {r r':ak} (h:a.Records[i]? = some r) (h1:r'.Name=r.Name) (h2:r'.Parent=r.Parent) (cs:List aJ) (ca:Int) {k:Nat} (hk:k < a.Records.length) (hki:k ≠ i):Pass n (dK.mk (a.Records.set i r') (a.Comps ++ cs) ca) k:=by
 obtain ⟨x,x1,x2,x3,x4,x5,x6⟩:=A.pass hn hk
 refine ⟨x,?_,x2,by show x.aJ < ((a.Comps ++ cs).length:Int); simp; omega,x4,?_,fun hi=>?_⟩
 ·
  show (a.Records.set i r')[k]? = some x
  rw [List.getElem?_set_ne (by omega)]; exact x1
 ·
  show qP (a.Records.set i r') x.aH=true
  rw [BN h h1]; exact x5
 ·
  have hi:iA (a.Records.set i r') (k:Int)=true:=hi
  rw [F5 h h2] at hi
  obtain ⟨c,c1,c2⟩:=x6 hi
  refine ⟨c,?_,c2⟩
  obtain ⟨d1,d2⟩:=kC c1
  show idx (a.Comps ++ cs) x.aJ=some c
  unfold idx
  rw [if_pos d1,List.getElem?_append_left (List.getElem?_eq_some_iff.1 d2).1,d2]
end
theorem KV:jd 10000=some true:=by decide +kernel
def two:List aK:=[(aK.mk 7 0 [] [] [] []),(aK.mk 7 0 [] [] [] [])]
end Pr
end Go.Ev

namespace Go.Ev
namespace Pr
set_option linter.unusedVariables false
set_option linter.unusedSimpArgs false
set_option linter.unusedSectionVars false
theorem Jy (a:List Seg) (ha:a.length < 1000000):∀ (rest done:List Seg) (k:Nat),a=done ++ rest→rest.length < k→cu a a k (done.length:Int)=some true
 | [],done,k + 1,h,hk=>by rw [cu,if_neg (by rw [decide_eq_true_eq,h]; simp)]
 | x :: rest,done,k + 1,h,hk=>by
  have hlen:a.length=done.length + rest.length + 1:=by rw [h]; simp; omega
  have hw:IntKind.wrap .i64 ((done.length:Int) + 1)=(((done ++ [x]).length:Nat):Int):=by rw [kz (by omega) (by omega)]; simp
  rw [cu,if_pos (by rw [decide_eq_true_eq]; omega),iN h,Option.bind_some,Option.bind_some,if_neg (by simp [Seg.beq]),hw]
  exact Jy a ha rest (done ++ [x]) k (by rw [h]; simp) (by simp at hk; omega)
theorem J4 (a:List Attr) (ha:a.length < 1000000):∀ (rest done:List Attr) (k:Nat),a=done ++ rest→rest.length < k→bU a a k (done.length:Int)=some true
 | [],done,k + 1,h,hk=>by rw [bU,if_neg (by rw [decide_eq_true_eq,h]; simp)]
 | x :: rest,done,k + 1,h,hk=>by
  have hlen:a.length=done.length + rest.length + 1:=by rw [h]; simp; omega
  have hw:IntKind.wrap .i64 ((done.length:Int) + 1)=(((done ++ [x]).length:Nat):Int):=by rw [kz (by omega) (by omega)]; simp
  rw [bU,if_pos (by rw [decide_eq_true_eq]; omega),iN h,Option.bind_some,Option.bind_some,if_neg (by simp [Attr.beq]),hw]
  exact J4 a ha rest (done ++ [x]) k (by rw [h]; simp) (by simp at hk; omega)
theorem LH (a:List On) (ha:a.length < 1000000):∀ (rest done:List On) (k:Nat),a=done ++ rest→rest.length < k→dh a a k (done.length:Int)=some true
 | [],done,k + 1,h,hk=>by rw [dh,if_neg (by rw [decide_eq_true_eq,h]; simp)]
 | x :: rest,done,k + 1,h,hk=>by
  have hlen:a.length=done.length + rest.length + 1:=by rw [h]; simp; omega
  have hw:IntKind.wrap .i64 ((done.length:Int) + 1)=(((done ++ [x]).length:Nat):Int):=by rw [kz (by omega) (by omega)]; simp
  rw [dh,if_pos (by rw [decide_eq_true_eq]; omega),iN h,Option.bind_some,Option.bind_some,if_neg (by simp [On.beq]),hw]
  exact LH a ha rest (done ++ [x]) k (by rw [h]; simp) (by simp at hk; omega)
theorem KT {n:Nat} (a:List Seg) (h:a.length < n) (ha:a.length < 1000000):gL n a a=some true:=by
 unfold gL; rw [if_neg (by simp)]; exact Jy a ha a [] n rfl h
theorem KW {n:Nat} (a:List Attr) (h:a.length < n) (ha:a.length < 1000000):gD n a a=some true:=by
 unfold gD; rw [if_neg (by simp)]; exact J4 a ha a [] n rfl h
theorem Mt {n:Nat} (a:List On) (h:a.length < n) (ha:a.length < 1000000):gW n a a=some true:=by
 unfold gW; rw [if_neg (by simp)]; exact LH a ha a [] n rfl h
theorem Kl (self:aK→aK→Option Bool) (t:aK) (ht:t.Kids.length < 1000000) (hs:∀ z ∈ t.Kids,self z z=some true):∀ (rest done:List aK) (k:Nat),t.Kids=done ++ rest→rest.length < k→eF self t t k (done.length:Int)=some true
 | [],done,k + 1,h,hk=>by rw [eF,if_neg (by rw [decide_eq_true_eq,h]; simp)]
 | x :: rest,done,k + 1,h,hk=>by
  have hlen:t.Kids.length=done.length + rest.length + 1:=by rw [h]; simp; omega
  have hw:IntKind.wrap .i64 ((done.length:Int) + 1)=(((done ++ [x]).length:Nat):Int):=by rw [kz (by omega) (by omega)]; simp
  rw [eF,if_pos (by rw [decide_eq_true_eq]; omega),iN h,Option.bind_some,Option.bind_some,hs x (by rw [h]; simp),Option.bind_some,if_neg (by simp),hw]
  exact Kl self t ht hs rest (done ++ [x]) k (by rw [h]; simp) (by simp at hk; omega)
theorem GL:∀ (m:Nat) (t:aK),C.jN t ≤ m→m < 1000000→C.pg 7 t→∀ n,m + 100 < n→fJ n t t=some true
 | 0,t,hm,_,_,n,_=>by have:=C.dV t; omega
 | m + 1,t,hm,hm2,hg,n + 1,hn=>by
  have h1:=C.dV t
  have h2:=C.kI t.Kids
  have hgi:=(C.oU t).1 hg
  have hat:=hgi.2.2.2.2.1
  rw [fJ,if_neg (by simp),KW _ (by omega) (by omega),Option.bind_some,Option.bind_some,if_neg (by simp)]
  exact Kl (fJ n) t (by omega) (fun z hz=>GL m z (by have:=C.jX hz; omega) (by omega) (hgi.2.2.2.2.2 z hz) n (by omega)) t.Kids [] n rfl (by omega)
section
variable {n:Nat} {a:dK} (hn:1000 < n) (A:qo n a)
include hn A
theorem E8:∀ (m j f:Nat),j + m=a.Comps.length→m < f→eG n a a f (j:Int)=some true
 | 0,j,f + 1,hj,hf=>by rw [eG,if_neg (by rw [decide_eq_true_eq]; omega)]
 | m + 1,j,f + 1,hj,hf=>by
  have hcl:=A.cl
  have hlt:j < a.Comps.length:=by omega
  have hg:=List.getElem?_eq_getElem hlt
  have G:=A.cs j _ hg
  have hil:=G.il
  have hol:=G.ol
  have hw:IntKind.wrap .i64 ((j:Int) + 1)=((j + 1:Nat):Int):=by rw [kz (by omega) (by omega)]; push_cast; rfl
  rw [eG,if_pos (by rw [decide_eq_true_eq]; omega),gH,hg,Option.bind_some,Option.bind_some,GL 14 _ G.cnt (by omega) G.pg n (by omega),Option.bind_some,if_neg (by simp),C.KM n _ _ (by omega) (by omega),Option.bind_some,Option.bind_some,if_neg (by simp),Mt _ (by omega) (by omega),Option.bind_some,Option.bind_some,if_neg (by simp),hw]
  exact E8 m (j + 1) f (by omega) (by omega)
theorem Es:∀ (m j f:Nat),j + m=a.Records.length→m < f→eB n a a f (j:Int)=some true
 | 0,j,f + 1,hj,hf=>by
  have hcl:=A.cl
  rw [eB,if_neg (by rw [decide_eq_true_eq]; omega)]
  exact E8 hn A a.Comps.length 0 n (by omega) (by omega)
 | m + 1,j,f + 1,hj,hf=>by
  have hle:=A.rs.le
  have hlt:j < a.Records.length:=by omega
  have hg:=List.getElem?_eq_getElem hlt
  have hs:=A.rs.segs j _ hg
  have hw:IntKind.wrap .i64 ((j:Int) + 1)=((j + 1:Nat):Int):=by rw [kz (by omega) (by omega)]; push_cast; rfl
  rw [eB,if_pos (by rw [decide_eq_true_eq]; omega),gH,hg,Option.bind_some,Option.bind_some,if_neg (by simp),KT _ (by omega) (by omega),Option.bind_some,Option.bind_some,if_neg (by simp [aH.beq]),hw]
  exact Es m (j + 1) f (by omega) (by omega)
theorem Lc:jU n a a=some true:=by
 have hle:=A.rs.le
 unfold jU
 rw [if_neg (by simp)]
 exact Es hn A a.Records.length 0 n (by omega) (by omega)
end
section
variable {k:jB} {a:dK} (h1:fM 10000 k=some a) (A:qo 10000 a)
include h1 A
theorem rE {rs:List ak} {cs cs':List aJ} {ca:Int} (hb:eP 10000 (dK.mk rs cs ca)=some false):aW 10000 k a cs ca rs cs'=some true:=by
 unfold aW
 rw [hb,Option.bind_some,if_neg (by simp),A.right (by omega),Option.bind_some,Option.bind_some,if_neg (by simp),h1,Option.bind_some,Lc (by omega) A,Option.bind_some,if_pos rfl,KV]
 rfl
omit h1 in
theorem fell {i:Nat} {r r':ak} (h:a.Records[i]? = some r) (e1:r'.Name=r.Name) (e2:r'.Parent=r.Parent) (e3:r'.dX=r.dX) (hF:(r'.aJ < 0∨8 ≤ r'.aJ)∨ve r'.aH=false∨qP a.Records r'.aH=false):eP 10000 (dK.mk (a.Records.set i r') a.Comps a.Cache)=some false:=by
 have hcl:=A.cl
 have hle:=A.rs.le
 have hi:=(List.getElem?_eq_some_iff.1 h).1
 rw [DU (b:=dK.mk (a.Records.set i r') a.Comps a.Cache) (by omega) (Ag (by omega) (A.L9 (by omega) h e1 e2 e3)) (by show 1 ≤ a.Comps.length; omega) (by show a.Comps.length ≤ 16; omega) (by have:=A.ca; show 0 ≤ a.Cache∧a.Cache ≤ 8; omega) (fun k c hc=>A.IW (by omega) k c hc)]
 refine BA (i:=i) (by show (a.Records.set i r').length < 1000; simp; omega) (by omega) ⟨r',List.getElem?_set_self hi,?_⟩ i 0 10000 (by omega) (by omega) (fun k _ hk=>?_)
 ·
  rcases hF with hF | hF | hF
  ·
   exact .inl (by show r'.aJ < 0∨(a.Comps.length:Int) ≤ r'.aJ; omega)
  ·
   exact .inr (.inl hF)
  ·
   exact .inr (.inr (.inl (by show qP (a.Records.set i r') r'.aH=false; rw [BN h e1]; exact hF)))
 ·
  have:=A.others (by omega) h e1 e2 [] a.Cache (k:=k) (by omega) (by omega)
  rw [List.append_nil] at this
  exact this
omit h1 in
theorem Cs {i:Nat} (hi:i < a.Records.length) (r':ak):Agree a.Records (a.Records.set i r') i :=
 ⟨A.rs,by omega,by simp; omega,fun k hk=>by rw [List.getElem?_set_ne (by omega)]⟩
omit h1 in
theorem Ht {i:Nat} (hi:i < a.Records.length) {r':ak} (hn:r'.Name=[65]):eP 10000 (dK.mk (a.Records.set i r') a.Comps a.Cache)=some false:=by
 have hle:=A.rs.le
 refine uk (by omega) (.inl (yl (by omega) (Cs A hi r') (by simp; omega) (by simp; omega) (List.getElem?_set_self hi) (fun map _=>⟨false,?_,.inl (by simp)⟩)))
 rw [hn]
 exact FM (by omega) (by decide +kernel)
omit h1 in
theorem EI {i:Nat} (hi:i < a.Records.length) {r':ak} (hn:r'.Name=a.Records[i].Name) (hp:r'.Parent=(i:Int)):eP 10000 (dK.mk (a.Records.set i r') a.Comps a.Cache)=some false:=by
 have hle:=A.rs.le
 refine uk (by omega) (.inl (yl (by omega) (Cs A hi r') (by simp; omega) (by simp; omega) (List.getElem?_set_self hi) (fun map _=>⟨true,?_,.inl (by rw [hp]; simp)⟩)))
 rw [hn,A.rs.name i _ (List.getElem?_eq_getElem hi)]
 exact FM (by omega) (BX i (List.mem_range.2 (by omega)))
omit h1 in
theorem Iu {q:Nat} (hq:q < a.Comps.length) {c:aJ} (hc:ja 10000 c=some false):eP 10000 (dK.mk a.Records (a.Comps.set q c) a.Cache)=some false:=by
 have hcl:=A.cl
 have hca:=A.ca
 have hroute:fU 10000 a.Records=some true:=A.route (by omega)
 unfold eP
 rw [show fU 10000 (dK.mk a.Records (a.Comps.set q c) a.Cache).Records=some true from hroute,Option.bind_some,if_neg (by simp; omega)]
 have:=Ad (n:=10000) (b:=dK.mk a.Records (a.Comps.set q c) a.Cache) (by omega) (by show (a.Comps.set q c).length ≤ 16; simp; omega) q 0 10000 (by show 0 + q ≤ (a.Comps.set q c).length; simp; omega) (by omega) (fun k x hx hk=>by
  have hx:(a.Comps.set q c)[k]? = some x:=hx
  rw [List.getElem?_set_ne (by omega)] at hx
  exact A.IW (by omega) k x hx)
 rw [show ((0:Nat):Int)=0 from rfl] at this
 obtain ⟨g,hg⟩:∃ g,10000 - q=g + 1:=⟨10000 - q - 1,by omega⟩
 have hself:(a.Comps.set q c)[0 + q]? = some c:=by rw [Nat.zero_add]; exact List.getElem?_set_self hq
 rw [this,hg,fG,if_pos (by rw [decide_eq_true_eq]; show ((0 + q:Nat):Int) < ((a.Comps.set q c).length:Int); simp; omega),gH]
 show ((a.Comps.set q c)[0 + q]?.bind _)=_
 rw [hself,Option.bind_some,hc,Option.bind_some,if_pos (by simp)]
end
def Mm:aK:=aK.mk 1 0 [112] [] [] [(aK.mk 3 0 [] [] [] [])]
theorem Gz:qp 10000 []=some true∧jJ 10000 Mm 0=some false:=by decide +kernel
theorem Kk (ons:List On) (h:ons.length ≤ 24):ja 10000 (aJ.mk Mm [] ons)=some false:=by
 unfold ja
 rw [if_neg (by simp)]
 show ((qp 10000 []).bind _).bind _=_
 rw [Gz.1,Option.bind_some,Option.bind_some,if_neg (by simp; omega)]
 show ((jJ 10000 Mm 0).bind _).bind _=_
 rw [Gz.2,Option.bind_some,Option.bind_some,if_pos (by simp)]
theorem Fx:∀ j ∈ List.range 8,(oW j == [110,111,119,104,101,114,101])=false:=by decide +kernel
theorem nowhere {l:List ak} (h:Rs l):qP l (aH.mk 3 0 [110,111,119,104,101,114,101])=false:=by
 unfold qP
 rw [if_neg (by simp)]
 rw [List.any_eq_false]
 intro r hr
 obtain ⟨j,hj,hjr⟩:=List.getElem_of_mem hr
 have hle:=h.le
 have hn:=h.name j r (by rw [List.getElem?_eq_getElem hj]; exact congrArg some hjr)
 have:=Fx j (List.mem_range.2 (by omega))
 show ¬ (r.Name == [110,111,119,104,101,114,101])=true
 rw [hn,this]; simp
end Pr
end Go.Ev

namespace Go.Ev
namespace Pr
set_option linter.unusedVariables false
set_option linter.unusedSimpArgs false
set_option linter.unusedSectionVars false
section
variable {k:jB} {a:dK} (h1:fM 10000 k=some a) (A:qo 10000 a)
include h1 A
omit h1 in
theorem Ck (i:Int) (again:Int→Option Bool):∀ (rest done:List ak) (f:Nat),a.Records=done ++ rest→rest.length < f→cz 10000 a i again f (iA done i) (done.length:Int)=again (IntKind.wrap .i64 (i + 1))
 | [],done,f + 1,h,hf=>by
  have e:a.Records=done:=by rw [h]; simp
  have hle:=A.rs.le
  rw [cz,if_neg (by rw [decide_eq_true_eq,e]; omega),zq a i (by omega) (by omega),Option.bind_some,e,if_neg (by simp)]
 | x :: rest,done,f + 1,h,hf=>by
  have hle:=A.rs.le
  have hlen:a.Records.length=done.length + rest.length + 1:=by rw [h]; simp; omega
  have hw:IntKind.wrap .i64 ((done.length:Int) + 1)=(((done ++ [x]).length:Nat):Int):=by rw [kz (by omega) (by omega)]; simp
  have hin:(iA done i || x.Parent == i)=iA (done ++ [x]) i:=by simp [iA]
  rw [cz,if_pos (by rw [decide_eq_true_eq]; omega),iN h,Option.bind_some,hw,hin]
  exact Ck i again rest (done ++ [x]) f (by rw [h]; simp) (by simp at hf; omega)
theorem Jj (a2 a3 a4:Int) (f:Nat):bu 10000 k a2 a3 a4 a (f + 1) (a.Records.length:Int)=some true:=by
 have hle:=A.rs.le
 have hpos:=A.rs.pos
 have hcl:=A.cl
 have hca:=A.ca
 have hroute:fU 10000 a.Records=some true:=A.route (by omega)
 have hw:IntKind.wrap .i64 ((a.Records.length:Int) - 1)=(a.Records.length:Int) - 1:=kz (by omega) (by omega)
 obtain ⟨i,i1,i2,i3⟩:=C.eY 10000 a3 0 ((a.Records.length:Int) - 1) (by omega) (by omega) (by omega)
 obtain ⟨m,m1,m2,m3⟩:=C.eY 10000 a4 0 1099511627776 (by omega) (by omega) (by omega)
 obtain ⟨w,w1,w2,w3⟩:=C.eY 10000 a2 0 9 (by omega) (by omega) (by omega)
 obtain ⟨j,rfl⟩:=Int.eq_ofNat_of_zero_le i2
 have hj:j < a.Records.length:=by omega
 have hg:=List.getElem?_eq_getElem hj
 have hm:IntKind.wrap .i64 (1 + m)=1 + m:=kz (by omega) (by omega)
 have hm8:IntKind.wrap .i64 (8 + (1 + m))=8 + (1 + m):=kz (by omega) (by omega)
 have hm7:IntKind.wrap .i64 (7 + (1 + m))=7 + (1 + m):=kz (by omega) (by omega)
 have hm0:IntKind.wrap .i64 (0 - (1 + m))=0 - (1 + m):=kz (by omega) (by omega)
 have hc7:IntKind.wrap .i64 ((a.Comps.length:Int) - 1)=7:=by rw [kz (by omega) (by omega)]; omega
 have hany:∃ x,fU 10000 a.Records=some x:=⟨_,hroute⟩
 obtain ⟨c1,c2,_⟩:=A.cp j _ hg
 rw [bu,if_neg (by rw [decide_eq_true_eq]; omega),KP (by omega) A,Option.bind_some,if_neg (by simp; intro q; rw [q] at hcl; simp at hcl),hw,i1,Option.bind_some,m1,Option.bind_some,gH,hg,Option.bind_some,w1,Option.bind_some,hm,hm8,hm7,hm0,hc7,hm7,lD,lD,lD,lD,lD,lD]
 by_cases q0:w=0
 ·
  rw [if_pos (by simpa using q0)]
  exact rE h1 A (uk (by omega) (.inr ⟨hany,by right; right; show 8 < 8 + (1 + m); omega⟩))
 rw [if_neg (by simpa using q0)]
 by_cases q1:w=1
 ·
  rw [if_pos (by simpa using q1)]
  exact rE h1 A (uk (by omega) (.inr ⟨hany,by right; left; show 0 - (1 + m) < 0; omega⟩))
 rw [if_neg (by simpa using q1)]
 by_cases q2:w=2
 ·
  rw [if_pos (by simpa using q2)]
  exact rE h1 A (fell A hg rfl rfl rfl (.inl (.inr (by show 8 ≤ 7 + (1 + m); omega))))
 rw [if_neg (by simpa using q2)]
 by_cases q3:w=3
 ·
  rw [if_pos (by simpa using q3)]
  exact rE h1 A (fell A hg rfl rfl rfl (.inl (.inl (by show 0 - (1 + m) < 0; omega))))
 rw [if_neg (by simpa using q3)]
 by_cases q4:w=4
 ·
  rw [if_pos (by simpa using q4)]
  exact rE h1 A (fell A hg rfl rfl rfl (.inr (.inr (nowhere A.rs))))
 rw [if_neg (by simpa using q4)]
 by_cases q5:w=5
 ·
  rw [if_pos (by simpa using q5)]
  refine rE h1 A (fell A hg rfl rfl rfl (.inr (.inl ?_)))
  have:decide (7 + (1 + m) < 8)=false:=by rw [decide_eq_false_iff_not]; omega
  unfold ve
  simp only [this,Bool.and_false,Bool.false_and]
 rw [if_neg (by simpa using q5)]
 by_cases q6:w=6
 ·
  rw [if_pos (by simpa using q6)]
  exact rE h1 A (Ht A hj rfl)
 rw [if_neg (by simpa using q6)]
 by_cases q7:w=7
 ·
  rw [if_pos (by simpa using q7)]
  exact rE h1 A (EI A hj rfl rfl)
 rw [if_neg (by simpa using q7)]
 by_cases q8:w=8
 ·
  rw [if_pos (by simpa using q8)]
  obtain ⟨q,hq⟩:=Int.eq_ofNat_of_zero_le c1
  have hql:q < a.Comps.length:=by omega
  have hgq:=List.getElem?_eq_getElem hql
  have hol:=(A.cs q _ hgq).ol
  rw [hq,gH,hgq,Option.bind_some]
  unfold fu
  rw [hq,lD,gH,List.getElem?_set_self hql,Option.bind_some,lD,List.set_set]
  exact rE h1 A (Iu A hql (Kk _ (by show a.Comps[q].On.length ≤ 24; omega)))
 rw [if_neg (by simpa using q8)]
 exact rE h1 A (uk (by omega) (.inr ⟨hany,by left; show ([]:List aJ).length < 1; simp⟩))
theorem Kc (a2 a3 a4:Int):∀ (m j f:Nat),j + m=a.Records.length→m < f→bu 10000 k a2 a3 a4 a f (j:Int)=some true
 | 0,j,f + 1,hj,hf=>by
  have:j=a.Records.length:=by omega
  rw [this]; exact Jj h1 A a2 a3 a4 f
 | m + 1,j,f + 1,hj,hf=>by
  have hle:=A.rs.le
  have hw:IntKind.wrap .i64 ((j:Int) + 1)=((j + 1:Nat):Int):=by rw [kz (by omega) (by omega)]; push_cast; rfl
  have:=Ck A (j:Int) (bu 10000 k a2 a3 a4 a f) a.Records [] 10000 rfl (by omega)
  rw [bu,if_pos (by rw [decide_eq_true_eq]; omega)]
  rw [hw] at this
  exact this.trans (Kc a2 a3 a4 m (j + 1) f (by omega) (by omega))
end
theorem KF (k:jB) (a2 a3 a4:Int):iO 10000 k a2 a3 a4=some true:=by
 obtain ⟨a,a1,A⟩:=KN (n:=10000) (by omega) k
 have hle:=A.rs.le
 unfold iO
 rw [a1,Option.bind_some,A.right (by omega),Option.bind_some,if_neg (by simp)]
 exact Kc a1 A a2 a3 a4 a.Records.length 0 10000 (by omega) (by omega)
end Pr
end Go.Ev

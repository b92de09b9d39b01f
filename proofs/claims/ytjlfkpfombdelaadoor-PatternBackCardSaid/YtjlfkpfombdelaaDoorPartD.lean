import Derived.Test.YtjlfkpfombdelaaDoorPartC
import Derived.IntWalk
namespace Go.Ev
namespace Pr
set_option linter.unusedVariables false
set_option linter.unusedSimpArgs false
open Go.Proofs
section
variable {R:bf} (E:CQ R)
include E
set_option maxRecDepth 20000 in
set_option maxHeartbeats 4000000 in
theorem tL (n:Nat) (a1:bT) (a2:fE) (a3:(List Int)) (a4:Int) (a5:Bool) (r:Bool) (h:dB n a1 a2 a3 a4 a5=some r):aY R cfg.P 4 [(fZ a1),(jR a2),(.sl ((a3).map (D.int .i64)) false),(.int .i64 a4),(.bool a5)] (.d (.bool r)):=by
 unfold dB at h
 refine aY.of_wp E.obj.toObjOk (C:=cfg) Tryd.func4 rfl EA rfl ?_
 have H0:Has ax ax []:=Has.pure
 refine aj.seq ?_
 refine aj.region E.obj rfl ?_
 refine ai.box H0 rfl rfl rfl (bT.dX _) rfl (fun b6 S7 H8=>?_)
 refine ai.box H8 rfl rfl rfl (fE.dX _) rfl (fun b9 S10 H11=>?_)
 refine ai.val rfl (ah rfl) rfl ?_
 refine ai.nil ?_
 refine aj.seq ?_
 refine aj.region E.obj rfl ?_
 refine ai.val rfl (aK H11 (i:=1) rfl rfl (iW D7 DI rfl)) rfl ?_
 refine ai.less (Less.agg' (d:=fZ a1) (aQ.eq rfl (aQ.eq rfl (aQ.eq rfl .nil))) ((bT.eq _).trans rfl)) ?_
 obtain ⟨z12,hzz12,h⟩:=bind_some h
 refine ai.ret rfl (aA rfl rfl) (jG E _ _ _ hzz12 _ _ (au.eq .nil)) rfl ?_
 refine ai.val rfl (ah rfl) rfl ?_
 refine ai.nil ?_
 refine aj.seq ?_
 refine aj.region E.obj rfl ?_
 obtain ⟨z13,hzz13,h⟩:=bind_some h
 refine ai.ret rfl (aA rfl rfl) (jh E _  _ hzz13 _ _ .nil) rfl ?_
 refine ai.val rfl (ah rfl) rfl ?_
 refine ai.nil ?_
 refine aj.seq ?_
 refine aj.region E.obj rfl ?_
 refine ai.val rfl (ah rfl) rfl ?_
 refine ai.nil ?_
 refine aj.seq ?_
 refine aj.seq ?_
 refine aj.region E.obj rfl ?_
 refine ai.val rfl (aa rfl) rfl ?_
 refine ai.val rfl (aR rfl wP) rfl ?_
 refine ai.val rfl (aa rfl) rfl ?_
 refine ai.nil ?_
 refine aj.block ?_
 have H147:=H11.vz
 refine lZ.start (B:=ax) (α:=(List Str) × AV × Int) (fun k a=>aB n a2 a3 a4 a5 z12 z13 k a.1 a.2.2=some r) (fun a=>[(2,(.d (.sl ((a3).map (D.int .i64)) false))),(3,(.d (.int .i64 a4))),(4,(.d (.bool a5))),(6,(.ptr b9 0 0)),(11,(.d (.sl ((z12).map aM) false))),(12,(.d (.sl ((z13).map D.str) false))),(13,a.2.1),(34,(.d (.sl ((z12).map aM) false))),(35,(.d (.int .i64 ((z12).length:Int)))),(36,(.d (.int .i64 a.2.2)))]) (fun a=>[.box b9 [(.d (.sl ((a2.Path).map (D.int .i64)) false)),(.d (.sl ((a2.Names).map (D.int .i64)) false)),(.d (.sl ((a2.Values).map (D.int .i64)) false))],.grow a.2.1 ((a.1).map D.str)]) ?_ ?_ n ⟨⟨[],(.d .bK),0⟩,_,_,S10,.refl _ _,.refl _,(ae.r rfl (ae.r rfl (ae.r rfl (ae.r rfl (ae.r rfl (ae.r rfl (ae.r rfl (ae.r rfl (ae.r rfl (ae.r rfl ae.nil)))))))))),H147.sl [1,0] rfl rfl,h⟩
 ·
  intro a h; simp [aB] at h
 intro k26 a S21 H22 h
 obtain ⟨x23,v24,x25⟩:=a
 replace h:aB n a2 a3 a4 a5 z12 z13 (k26 + 1) x23 x25=some r:=h
 replace H22:Has ax S21 [.box b9 [(.d (.sl ((a2.Path).map (D.int .i64)) false)),(.d (.sl ((a2.Names).map (D.int .i64)) false)),(.d (.sl ((a2.Values).map (D.int .i64)) false))],.grow v24 ((x23).map D.str)]:=H22
 unfold aB at h
 refine aj.seq ?_
 refine aj.region E.obj rfl ?_
 refine ai.val rfl (ak rfl rfl bV) rfl ?_
 refine ai.nil ?_
 refine aj.seq ?_
 refine aj.cond rfl (fun hb27=>?_) (fun hb27=>?_)
 ·
  replace h:=bL hb27 h
  refine aj.skip ?_
  refine aj.join (B:=ax) (α:=(List Str) × AV) (fun a=>aZ x25 (aB n a2 a3 a4 a5 z12 z13 k26) a.1=some r) (fun a=>[(2,(.d (.sl ((a3).map (D.int .i64)) false))),(3,(.d (.int .i64 a4))),(4,(.d (.bool a5))),(6,(.ptr b9 0 0)),(11,(.d (.sl ((z12).map aM) false))),(12,(.d (.sl ((z13).map D.str) false))),(13,a.2),(34,(.d (.sl ((z12).map aM) false))),(35,(.d (.int .i64 ((z12).length:Int)))),(36,(.d (.int .i64 x25)))]) (fun a=>[.box b9 [(.d (.sl ((a2.Path).map (D.int .i64)) false)),(.d (.sl ((a2.Names).map (D.int .i64)) false)),(.d (.sl ((a2.Values).map (D.int .i64)) false))],.grow a.2 ((a.1).map D.str)]) ?_ ?_
  ·
   intro a S28 H29 h
   obtain ⟨x30,v31⟩:=a
   replace h:aZ x25 (aB n a2 a3 a4 a5 z12 z13 k26) x30=some r:=h
   replace H29:Has ax S28 [.box b9 [(.d (.sl ((a2.Path).map (D.int .i64)) false)),(.d (.sl ((a2.Names).map (D.int .i64)) false)),(.d (.sl ((a2.Values).map (D.int .i64)) false))],.grow v31 ((x30).map D.str)]:=H29
   unfold aZ at h
   refine aj.region E.obj rfl ?_
   refine ai.val rfl (ak rfl rfl bY) rfl ?_
   refine ai.val rfl (aa rfl) rfl ?_
   refine ai.nil ?_
   exact ⟨⟨x30,v31,(IntKind.wrap .i64 (x25 + 1))⟩,_,_,S28,.refl _ _,.refl _,(ae.r rfl (ae.r rfl (ae.r rfl (ae.r rfl (ae.r rfl (ae.r rfl (ae.r rfl (ae.r rfl (ae.r rfl (ae.r rfl ae.nil)))))))))),H29.sl [0,1] rfl rfl,h⟩
  refine aj.block ?_
  refine aj.seq ?_
  refine aj.region E.obj rfl ?_
  refine ai.val rfl (aa rfl) rfl ?_
  obtain ⟨z33,hzz33,h⟩:=bind_some h
  refine ai.val rfl (bF rfl rfl (bU (enc:=aM) hzz33 qM pE ((Seg.len _).trans gN.symm))) rfl ?_
  refine ai.val rfl (aT rfl (Seg.kS pO gN)) rfl ?_
  refine ai.alloc H22 rfl y9 nM rfl rfl (fun b34 S35 H36=>?_)
  refine ai.val rfl (ah rfl) rfl ?_
  refine ai.store H36 (i:=0) rfl rfl rfl rfl (Seg.dX _) rfl gN rfl pE rfl rfl rfl (fun S37 H38=>?_)
  refine ai.nil ?_
  refine aj.seq ?_
  refine aj.region E.obj rfl ?_
  refine ai.val rfl (ah rfl) rfl ?_
  refine ai.nil ?_
  refine aj.join (B:=ax) (α:=Int) (fun a=>bG a5 z13 x23 x25 (aB n a2 a3 a4 a5 z12 z13 k26) z33 a=some r) (fun a=>[(2,(.d (.sl ((a3).map (D.int .i64)) false))),(3,(.d (.int .i64 a4))),(4,(.d (.bool a5))),(6,(.ptr b9 0 0)),(11,(.d (.sl ((z12).map aM) false))),(12,(.d (.sl ((z13).map D.str) false))),(13,v24),(15,(.ptr b34 0 0)),(16,(.d (.int .i64 a))),(34,(.d (.sl ((z12).map aM) false))),(35,(.d (.int .i64 ((z12).length:Int)))),(36,(.d (.int .i64 x25)))]) (fun a=>[.box b34 [(.d (.int .i64 z33.Kind)),(.d (.str z33.Text))],.box b9 [(.d (.sl ((a2.Path).map (D.int .i64)) false)),(.d (.sl ((a2.Names).map (D.int .i64)) false)),(.d (.sl ((a2.Values).map (D.int .i64)) false))],.grow v24 ((x23).map D.str)]) ?_ ?_
  ·
   intro x41 S39 H40 h
   replace h:bG a5 z13 x23 x25 (aB n a2 a3 a4 a5 z12 z13 k26) z33 x41=some r:=h
   replace H40:Has ax S39 [.box b34 [(.d (.int .i64 z33.Kind)),(.d (.str z33.Text))],.box b9 [(.d (.sl ((a2.Path).map (D.int .i64)) false)),(.d (.sl ((a2.Names).map (D.int .i64)) false)),(.d (.sl ((a2.Values).map (D.int .i64)) false))],.grow v24 ((x23).map D.str)]:=H40
   unfold bG at h
   refine aj.block ?_
   refine aj.seq ?_
   refine aj.region E.obj rfl ?_
   refine ai.val rfl (az rfl iT yK rfl) rfl ?_
   refine ai.val rfl (aK H40 (i:=0) rfl rfl (aS uA rfl)) rfl ?_
   refine ai.val rfl (ak rfl rfl dH) rfl ?_
   refine ai.val rfl (ah rfl) rfl ?_
   refine ai.nil ?_
   refine aj.cond rfl (fun hb43=>?_) (fun hb43=>?_)
   ·
    replace h:=bL hb43 h
    refine aj.region E.obj rfl ?_
    refine ai.val rfl (aa rfl) rfl ?_
    refine ai.val rfl (az rfl kP xN rfl) rfl ?_
    refine ai.val rfl (aK H40 (i:=0) rfl rfl (aS kK rfl)) rfl ?_
    refine ai.val rfl (aL (vs:=[(.d (.str z33.Text))]) (ds:=[(.str z33.Text)]) jY fV kK za jy rfl (by decide) (.cons rfl rfl .nil) rfl (by intro d hd; simp only [List.mem_cons,List.not_mem_nil,or_false] at hd; rcases hd with rfl <;> rfl) rfl) rfl ?_
    obtain ⟨z44,hzz44,h⟩:=bind_some h
    refine ai.append (xs:=(x23).map D.str) (ys:=([z33.Text]).map D.str) (zs:=(z44).map D.str) H40 rfl rfl rfl (i:=2) rfl rfl jY uz fV (cu hzz44) AZ rfl (aN (enc:=D.str) (fun _=>jy.symm) _) (aN (enc:=D.str) (fun _=>jy.symm) _) A9 rfl (eZ hzz44) (fun v45 S46 H47=>?_)
    refine ai.val rfl (ah rfl) rfl ?_
    refine ai.nil ?_
    exact ⟨⟨z44,v45⟩,_,_,S46,.refl _ _,.refl _,(ae.r rfl (ae.r rfl (ae.r rfl (ae.r rfl (ae.r rfl (ae.r rfl (ae.r rfl (ae.r rfl (ae.r rfl (ae.r rfl ae.nil)))))))))),H47.sl [1,2] rfl rfl,h⟩
   replace h:=bN hb43 h
   refine aj.seq ?_
   refine aj.region E.obj rfl ?_
   refine ai.val rfl (az rfl iT yK rfl) rfl ?_
   refine ai.val rfl (aK H40 (i:=0) rfl rfl (aS uA rfl)) rfl ?_
   refine ai.val rfl (ak rfl rfl dH) rfl ?_
   refine ai.val rfl (aa rfl) rfl ?_
   refine ai.bP 8 74 (.d (.bool ((z33.Kind == 1) || ((z33.Kind == 2) && (!a5))))) ?_ ?_
   ·
    rcases Bool.eq_false_or_eq_true ((z33.Kind == 1)) with hB48 | hB48
    ·
     refine ai.bool hB48 ?_
     refine ai.no rfl rfl ?_
     refine ai.no rfl rfl ?_
     refine ai.no rfl rfl ?_
     refine ai.no rfl rfl ?_
     refine ai.no rfl rfl ?_
     refine ai.no rfl rfl ?_
     refine ai.no rfl rfl ?_
     refine ai.val rfl (ay (b:=true) rfl rfl) rfl ?_
     exact ai.nil ⟨_,rfl,(ae.put (ae.push rfl (ae.push rfl (ae.push rfl (ae.push rfl (ae.push rfl (ae.push rfl (ae.push rfl (ae.put (.refl _) (Less.eq (by rw [hB48])))))))))) (Less.eq (by rw [hB48]; rw [Bool.true_or])))⟩
    refine ai.bool hB48 ?_
    refine ai.val rfl (az rfl iT yK rfl) rfl ?_
    refine ai.val rfl (aK H40 (i:=0) rfl rfl (aS uA rfl)) rfl ?_
    refine ai.val rfl (ak rfl rfl dH) rfl ?_
    refine ai.val rfl (aa rfl) rfl ?_
    refine ai.bP 3 73 (.d (.bool ((z33.Kind == 2) && (!a5)))) ?_ ?_
    ·
     rcases Bool.eq_false_or_eq_true ((z33.Kind == 2)) with hB49 | hB49
     ·
      refine ai.bool hB49 ?_
      refine ai.val rfl (aa rfl) rfl ?_
      refine ai.val rfl (bu rfl) rfl ?_
      refine ai.val rfl (ay (b:=true) rfl rfl) rfl ?_
      exact ai.nil ⟨_,rfl,(ae.put (ae.push rfl (ae.push rfl (ae.put (.refl _) (Less.eq (by rw [hB49]))))) (Less.eq (by rw [hB49]; rw [Bool.true_and])))⟩
     refine ai.bool hB49 ?_
     refine ai.no rfl rfl ?_
     refine ai.no rfl rfl ?_
     refine ai.val rfl (ay (b:=false) rfl rfl) rfl ?_
     exact ai.nil ⟨_,rfl,(ae.put (ae.push rfl (ae.push rfl (ae.put (.refl _) (Less.eq (by rw [hB49]))))) (Less.eq (by rw [hB49]; rw [Bool.false_and])))⟩
    refine ai.val rfl (ay (b:=false) rfl rfl) rfl ?_
    exact ai.nil ⟨_,rfl,(ae.put (ae.push rfl (ae.push rfl (ae.push rfl (ae.push rfl (ae.push rfl (ae.put (.refl _) (Less.eq (by rw [hB48])))))))) (Less.eq (by rw [hB48]; rw [Bool.false_or])))⟩
   refine ai.val rfl (ah rfl) rfl ?_
   refine ai.nil ?_
   refine aj.cond rfl (fun hb50=>?_) (fun hb50=>?_)
   ·
    replace h:=bL hb50 h
    refine aj.region E.obj rfl ?_
    refine ai.val rfl (aa rfl) rfl ?_
    refine ai.val rfl (aa rfl) rfl ?_
    refine ai.val rfl (aa rfl) rfl ?_
    obtain ⟨z51,hzz51,h⟩:=bind_some h
    refine ai.val rfl (bF rfl rfl (bU (enc:=D.str) hzz51 fV xO (((fun _=>rfl) _).trans jy.symm))) rfl ?_
    refine ai.val rfl (aT rfl (cz kK rfl)) rfl ?_
    refine ai.val rfl (aL (vs:=[(.d (.str z51))]) (ds:=[(.str z51)]) jY fV kK za jy rfl (by decide) (.cons rfl rfl .nil) rfl (by intro d hd; simp only [List.mem_cons,List.not_mem_nil,or_false] at hd; rcases hd with rfl <;> rfl) rfl) rfl ?_
    obtain ⟨z52,hzz52,h⟩:=bind_some h
    refine ai.append (xs:=(x23).map D.str) (ys:=([z51]).map D.str) (zs:=(z52).map D.str) H40 rfl rfl rfl (i:=2) rfl rfl jY uz fV (cu hzz52) AZ rfl (aN (enc:=D.str) (fun _=>jy.symm) _) (aN (enc:=D.str) (fun _=>jy.symm) _) A9 rfl (eZ hzz52) (fun v53 S54 H55=>?_)
    refine ai.val rfl (ah rfl) rfl ?_
    refine ai.nil ?_
    exact ⟨⟨z52,v53⟩,_,_,S54,.refl _ _,.refl _,(ae.r rfl (ae.r rfl (ae.r rfl (ae.r rfl (ae.r rfl (ae.r rfl (ae.r rfl (ae.r rfl (ae.r rfl (ae.r rfl ae.nil)))))))))),H55.sl [1,2] rfl rfl,h⟩
   replace h:=bN hb50 h
   refine aj.seq ?_
   refine aj.region E.obj rfl ?_
   refine ai.val rfl (az rfl iT yK rfl) rfl ?_
   refine ai.val rfl (aK H40 (i:=0) rfl rfl (aS uA rfl)) rfl ?_
   refine ai.val rfl (ak rfl rfl dH) rfl ?_
   refine ai.val rfl (aa rfl) rfl ?_
   refine ai.bP 3 89 (.d (.bool ((z33.Kind == 3) && (!a5)))) ?_ ?_
   ·
    rcases Bool.eq_false_or_eq_true ((z33.Kind == 3)) with hB56 | hB56
    ·
     refine ai.bool hB56 ?_
     refine ai.val rfl (aa rfl) rfl ?_
     refine ai.val rfl (bu rfl) rfl ?_
     refine ai.val rfl (ay (b:=true) rfl rfl) rfl ?_
     exact ai.nil ⟨_,rfl,(ae.put (ae.push rfl (ae.push rfl (ae.put (.refl _) (Less.eq (by rw [hB56]))))) (Less.eq (by rw [hB56]; rw [Bool.true_and])))⟩
    refine ai.bool hB56 ?_
    refine ai.no rfl rfl ?_
    refine ai.no rfl rfl ?_
    refine ai.val rfl (ay (b:=false) rfl rfl) rfl ?_
    exact ai.nil ⟨_,rfl,(ae.put (ae.push rfl (ae.push rfl (ae.put (.refl _) (Less.eq (by rw [hB56]))))) (Less.eq (by rw [hB56]; rw [Bool.false_and])))⟩
   refine ai.val rfl (ah rfl) rfl ?_
   refine ai.nil ?_
   refine aj.cond rfl (fun hb57=>?_) (fun hb57=>?_)
   ·
    replace h:=bL hb57 h
    obtain ⟨z58,hzz58,h⟩:=bind_some h
    obtain ⟨z59,hzz59,h⟩:=bind_some h
    obtain ⟨z60,hzz60,h⟩:=bind_some h
    obtain ⟨z61,hzz61,h⟩:=bind_some h
    refine aj.nO E.obj um En [(2,none),(3,none),(4,none),(6,none),(11,none),(12,none),(13,some 15),(34,none),(35,none),(36,none)] (by kernel_rfl) [14] (by decide) [some v24,some (.d (.sl ((z13).map D.str) false)),some (.d (.int .i64 x41)),some (.eptr (.str z58) 0),some (.d (.str z58)),some (.d (.sl ((z13).map D.str) false)),some (.d (.int .i64 x41)),some (.d (.int .i64 (IntKind.wrap .i64 (x41 + 3)))),some (.d (.sl ((z13).map D.str) false)),some (.d (.int .i64 ((z13).length:Int))),some (.d (.int .i64 z59)),some (.eptr (.str z60) 0),some (.d (.str z60)),some (.d (.sl (([z58,z60]).map D.str) true)),none,none] ?_
    refine ⟨[0,1,2,3,4,5,6,7,8,9,10,11,12,13],by kernel_rfl,?_,_,_,rfl,rfl,.step ?_⟩
    ·
     refine .v rfl rfl rfl rfl (aa rfl) ?_
     refine .v rfl rfl rfl rfl (aa rfl) ?_
     refine .v rfl rfl rfl rfl (aa rfl) ?_
     refine .v rfl rfl rfl rfl (bF rfl rfl (bU (enc:=D.str) hzz58 fV xO (((fun _=>rfl) _).trans jy.symm))) ?_
     refine .v rfl rfl rfl rfl (aT rfl (cz kK rfl)) ?_
     refine .v rfl rfl rfl rfl (aa rfl) ?_
     refine .v rfl rfl rfl rfl (aa rfl) ?_
     refine .v rfl rfl rfl rfl (ak rfl rfl bY) ?_
     refine .v rfl rfl rfl rfl (aa rfl) ?_
     refine .v rfl rfl rfl rfl (aR rfl mr) ?_
     refine .v rfl rfl rfl rfl (ak rfl rfl (qh hzz59)) ?_
     refine .v rfl rfl rfl rfl (bF rfl rfl (bU (enc:=D.str) hzz60 fV xO (((fun _=>rfl) _).trans jy.symm))) ?_
     refine .v rfl rfl rfl rfl (aT rfl (cz kK rfl)) ?_
     refine .v rfl rfl rfl rfl (aL (vs:=[(.d (.str z58)),(.d (.str z60))]) (ds:=[(.str z58),(.str z60)]) jY fV kK za jy rfl (by decide) (.cons rfl rfl (.cons rfl rfl .nil)) rfl (by intro d hd; simp only [List.mem_cons,List.not_mem_nil,or_false] at hd; rcases hd with rfl | rfl <;> rfl) rfl) ?_
     exact .nil
    refine ai.append (xs:=(x23).map D.str) (ys:=([z58,z60]).map D.str) (zs:=(z61).map D.str) H40 rfl rfl rfl (i:=2) rfl rfl jY uz fV (cu hzz61) AZ rfl (aN (enc:=D.str) (fun _=>jy.symm) _) (aN (enc:=D.str) (fun _=>jy.symm) _) A9 rfl (eZ hzz61) (fun v65 S66 H67=>?_)
    refine ai.nil ⟨_,_,_,rfl,(fun _ ht=>by cases ht; rfl),_,(.q (.q (.q (.o (.o (.w v65 (.w v65 .nil))))))),(fun _ ht=>by cases ht; exact ⟨_,rfl,.refl _⟩),?_⟩
    refine ⟨[15],by kernel_rfl,?_,_,rfl,?_⟩
    ·
     refine .v rfl rfl rfl rfl (ah rfl) ?_
     exact .nil
    exact ⟨⟨z61,v65⟩,_,_,S66,.refl _ _,.refl _,(ae.r rfl (ae.r rfl (ae.r rfl (ae.r rfl (ae.r rfl (ae.r rfl (ae.r rfl (ae.r rfl (ae.r rfl (ae.r rfl ae.nil)))))))))),H67.sl [1,2] rfl rfl,h⟩
   replace h:=bN hb57 h
   refine aj.skip ?_
   exact ⟨⟨x23,v24⟩,_,_,S39,.refl _ _,.refl _,(ae.r rfl (ae.r rfl (ae.r rfl (ae.r rfl (ae.r rfl (ae.r rfl (ae.r rfl (ae.r rfl (ae.r rfl (ae.r rfl ae.nil)))))))))),H40.sl [1,2] rfl rfl,h⟩
  refine aj.seq ?_
  refine aj.region E.obj rfl ?_
  refine ai.val rfl (aa rfl) rfl ?_
  refine ai.val rfl (aa rfl) rfl ?_
  refine ai.val rfl (aR rfl zG) rfl ?_
  refine ai.val rfl (ak rfl rfl bV) rfl ?_
  refine ai.nil ?_
  refine aj.cond rfl (fun hb68=>?_) (fun hb68=>?_)
  ·
   replace h:=bL hb68 h
   refine aj.region E.obj rfl ?_
   refine ai.val rfl (aa rfl) rfl ?_
   refine ai.val rfl (aa rfl) rfl ?_
   obtain ⟨z69,hzz69,h⟩:=bind_some h
   refine ai.val rfl (bF rfl rfl (bU (enc:=(D.int .i64)) hzz69 zo Cs (((fun _=>rfl) _).trans Cv.symm))) rfl ?_
   refine ai.val rfl (aT rfl (cz uA rfl)) rfl ?_
   refine ai.val rfl (aa rfl) rfl ?_
   refine ai.val rfl (aR rfl mr) rfl ?_
   refine ai.val rfl (ak rfl rfl fA) rfl ?_
   obtain ⟨z70,hzz70,h⟩:=bind_some h
   refine ai.ret rfl (aA rfl rfl) (bA E _ _ _ _ _ hzz70 _ _ (au.eq (au.eq (au.eq .nil)))) rfl ?_
   refine ai.val rfl (ah rfl) rfl ?_
   refine ai.nil ?_
   exact ⟨z70,_,_,S37,.refl _ _,.refl _,(ae.r rfl (ae.r rfl (ae.r rfl (ae.r rfl (ae.r rfl (ae.r rfl (ae.r rfl (ae.r rfl (ae.r rfl (ae.r rfl (ae.r rfl (ae.r rfl ae.nil)))))))))))),H38.sl [0,1,2] rfl rfl,h⟩
  replace h:=bN hb68 h
  refine aj.skip ?_
  exact ⟨0,_,_,S37,.refl _ _,.refl _,(ae.r rfl (ae.r rfl (ae.r rfl (ae.r rfl (ae.r rfl (ae.r rfl (ae.r rfl (ae.r rfl (ae.r rfl (ae.r rfl (ae.r rfl (ae.r rfl ae.nil)))))))))))),H38.sl [0,1,2] rfl rfl,h⟩
 replace h:=bN hb27 h
 refine aj.exit ?_
 refine aj.seq ?_
 refine aj.region E.obj rfl ?_
 refine ai.val rfl (aa rfl) rfl ?_
 refine ai.val rfl (aa rfl) rfl ?_
 obtain ⟨z71,hzz71,h⟩:=bind_some h
 refine ai.ret rfl (aA rfl rfl) (gW E _ _ _ _ hzz71 _ _ (au.eq (au.grow H22 (i:=1) rfl .nil))) rfl ?_
 refine ai.val rfl (aa rfl) rfl ?_
 refine ai.val rfl (aC rfl rfl) rfl ?_
 refine ai.val rfl (aC rfl rfl) rfl ?_
 refine ai.val rfl (ah rfl) rfl ?_
 refine ai.val rfl (ah rfl) rfl ?_
 refine ai.nil ?_
 refine aj.seq ?_
 refine aj.seq ?_
 refine aj.region E.obj rfl ?_
 refine ai.val rfl (aa rfl) rfl ?_
 obtain ⟨z72,hzz72,h⟩:=bind_some h
 refine ai.ret rfl (aA rfl rfl) (gT E _ _ _ hzz72 _ _ (au.eq .nil)) rfl ?_
 refine ai.val rfl (bu rfl) rfl ?_
 refine ai.val rfl (aa rfl) rfl ?_
 refine ai.bP 3 118 (.d (.bool ((!z72) || (!z71.2)))) ?_ ?_
 ·
  rcases Bool.eq_false_or_eq_true ((!z72)) with hB73 | hB73
  ·
   refine ai.bool hB73 ?_
   refine ai.no rfl rfl ?_
   refine ai.no rfl rfl ?_
   refine ai.val rfl (ay (b:=true) rfl rfl) rfl ?_
   exact ai.nil ⟨_,rfl,(ae.put (ae.push rfl (ae.push rfl (ae.put (.refl _) (Less.eq (by rw [hB73]))))) (Less.eq (by rw [hB73]; rw [Bool.true_or])))⟩
  refine ai.bool hB73 ?_
  refine ai.val rfl (aa rfl) rfl ?_
  refine ai.val rfl (bu rfl) rfl ?_
  refine ai.val rfl (ay (b:=false) rfl rfl) rfl ?_
  exact ai.nil ⟨_,rfl,(ae.put (ae.push rfl (ae.push rfl (ae.put (.refl _) (Less.eq (by rw [hB73]))))) (Less.eq (by rw [hB73]; rw [Bool.false_or])))⟩
 refine ai.nil ?_
 refine aj.cond rfl (fun hb74=>?_) (fun hb74=>?_)
 ·
  replace h:=bL hb74 h
  refine aj.seq ?_
  refine aj.region E.obj rfl ?_
  refine ai.val rfl (ah rfl) rfl ?_
  refine ai.nil ?_
  have hr:=Option.some.inj h
  subst hr
  exact aj.ret ⟨_,rfl,rfl,eF (au.eq .nil)⟩
 replace h:=bN hb74 h
 refine aj.skip ?_
 refine aj.seq ?_
 refine aj.region E.obj rfl ?_
 refine ai.val rfl (aa rfl) rfl ?_
 refine ai.val rfl (aa rfl) rfl ?_
 refine ai.val rfl (aR rfl tY) rfl ?_
 obtain ⟨z75,hzz75,h⟩:=bind_some h
 refine ai.ret rfl (aA rfl rfl) (bA E _ _ _ _ _ hzz75 _ _ (au.eq (au.eq (au.eq .nil)))) rfl ?_
 refine ai.val rfl (ah rfl) rfl ?_
 refine ai.nil ?_
 refine aj.seq ?_
 obtain ⟨z76,hzz76,h⟩:=bind_some h
 obtain ⟨z77,hzz77,h⟩:=bind_some h
 obtain ⟨z79,hzz79,h⟩:=bind_some h
 obtain ⟨z83,hzz83,h⟩:=bind_some h
 refine aj.nO E.obj um EB [(6,none),(11,none),(13,none),(17,none),(20,some 9)] (by kernel_rfl) [4,8] (by decide) [some (.d (.sl (([]).map av) true)),some (.d (.sl ((z71.1).map av) false)),some (.d (.int .i64 z75)),some (.d (.sl ((z76).map av) false)),none,some (.d (.sl ((z71.1).map av) false)),some (.d (.int .i64 z75)),some (.d (.sl ((z77).map av) false)),none,none] ?_
 refine ⟨[0,1,2,3,5,6,7],by kernel_rfl,?_,_,_,rfl,rfl,.step ?_⟩
 ·
  refine .v rfl rfl rfl rfl (jg kJ iB lT) ?_
  refine .v rfl rfl rfl rfl (aa rfl) ?_
  refine .v rfl rfl rfl rfl (aa rfl) ?_
  refine .v rfl rfl rfl rfl (sN rfl rfl iB Ck (fun z=>(aG.len z).trans eO.symm) hzz76) ?_
  refine .v rfl rfl rfl rfl (aa rfl) ?_
  refine .v rfl rfl rfl rfl (aa rfl) ?_
  refine .v rfl rfl rfl rfl (oq rfl rfl iB Ck (fun z=>(aG.len z).trans eO.symm) hzz77) ?_
  exact .nil
 have H87:=H22.yl (([]).map av)
 refine ai.append (xs:=([]).map av) (ys:=(z76).map av) (zs:=(z79).map av) H87 rfl rfl rfl (i:=0) rfl rfl kJ vS iB (cu hzz79) vT rfl (aN (enc:=av) (fun z=>(aG.len z).trans eO.symm) _) (aN (enc:=av) (fun z=>(aG.len z).trans eO.symm) _) wz rfl (eZ hzz79) (fun v88 S89 H90=>?_)
 refine ai.nil ⟨_,_,_,rfl,(fun _ ht=>by cases ht; rfl),_,(.q (.w v88 (.o (.o (.o (.n (.n .nil))))))),(fun _ ht=>by cases ht; exact ⟨_,rfl,.refl _⟩),?_⟩
 refine ⟨[5,6,7],by kernel_rfl,?_,_,_,rfl,rfl,.step ?_⟩
 ·
  refine .v rfl rfl rfl rfl (aa rfl) ?_
  refine .v rfl rfl rfl rfl (aa rfl) ?_
  refine .v rfl rfl rfl rfl (oq rfl rfl iB Ck (fun z=>(aG.len z).trans eO.symm) hzz77) ?_
  exact .nil
 refine ai.append (xs:=(z79).map av) (ys:=(z77).map av) (zs:=(z83).map av) H90 rfl rfl rfl (i:=0) rfl rfl kJ vS iB (cu hzz83) vT rfl (aN (enc:=av) (fun z=>(aG.len z).trans eO.symm) _) (aN (enc:=av) (fun z=>(aG.len z).trans eO.symm) _) wz rfl (eZ hzz83) (fun v91 S92 H93=>?_)
 refine ai.nil ⟨_,_,_,rfl,(fun _ ht=>by cases ht; rfl),_,(.q (.q (.w v91 (.w v91 .nil)))),(fun _ ht=>by cases ht; exact ⟨_,rfl,.refl _⟩),?_⟩
 refine ⟨[9],by kernel_rfl,?_,_,rfl,?_⟩
 ·
  refine .v rfl rfl rfl rfl (ah rfl) ?_
  exact .nil
 refine aj.seq ?_
 refine aj.region E.obj rfl ?_
 refine ai.val rfl (aa rfl) rfl ?_
 refine ai.val rfl (aa rfl) rfl ?_
 obtain ⟨z94,hzz94,h⟩:=bind_some h
 refine ai.ret rfl (aA rfl rfl) (eH E _ _ _ _ hzz94 _ _ (au.eq (au.grow H93 (i:=0) rfl .nil))) rfl ?_
 refine ai.val rfl (aa rfl) rfl ?_
 refine ai.val rfl (aC rfl rfl) rfl ?_
 refine ai.val rfl (aC rfl rfl) rfl ?_
 refine ai.val rfl (ah rfl) rfl ?_
 refine ai.val rfl (ah rfl) rfl ?_
 refine ai.nil ?_
 refine aj.seq ?_
 refine aj.seq ?_
 refine aj.region E.obj rfl ?_
 refine ai.val rfl (aa rfl) rfl ?_
 refine ai.val rfl (bu rfl) rfl ?_
 refine ai.val rfl (aa rfl) rfl ?_
 obtain ⟨z96,hzz96,h⟩:=bind_some h
 refine ai.bP 5 145 (.d (.bool z96)) ?_ ?_
 ·
  rcases Bool.eq_false_or_eq_true ((!z94.2)) with hB95 | hB95
  ·
   refine ai.bool hB95 ?_
   refine ai.no rfl rfl ?_
   refine ai.no rfl rfl ?_
   refine ai.no rfl rfl ?_
   refine ai.no rfl rfl ?_
   refine ai.val rfl (ay (b:=true) rfl rfl) rfl ?_
   replace hzz96:=bL hB95 hzz96
   cases hzz96
   exact ai.nil ⟨_,rfl,(ae.put (ae.push rfl (ae.push rfl (ae.push rfl (ae.push rfl (ae.put (.refl _) (Less.eq (by rw [hB95]))))))) (.refl _))⟩
  refine ai.bool hB95 ?_
  replace hzz96:=bN hB95 hzz96
  refine ai.val rfl (aa rfl) rfl ?_
  refine ai.val rfl (aa rfl) rfl ?_
  obtain ⟨z97,hzz97,hzz96⟩:=bind_some hzz96
  refine ai.ret rfl (aA rfl rfl) (eX E _ _ _ _ hzz97 _ _ (au.eq (au.grow H93 (i:=2) rfl .nil))) rfl ?_
  refine ai.val rfl (bu rfl) rfl ?_
  refine ai.val rfl (ay (b:=false) rfl rfl) rfl ?_
  cases hzz96
  exact ai.nil ⟨_,rfl,(ae.put (ae.push rfl (ae.push rfl (ae.push rfl (ae.push rfl (ae.put (.refl _) (Less.eq (by rw [hB95]))))))) (.refl _))⟩
 refine ai.nil ?_
 refine aj.cond rfl (fun hb98=>?_) (fun hb98=>?_)
 ·
  replace h:=bL hb98 h
  refine aj.seq ?_
  refine aj.region E.obj rfl ?_
  refine ai.val rfl (ah rfl) rfl ?_
  refine ai.nil ?_
  have hr:=Option.some.inj h
  subst hr
  exact aj.ret ⟨_,rfl,rfl,eF (au.eq .nil)⟩
 replace h:=bN hb98 h
 refine aj.skip ?_
 refine aj.seq ?_
 refine aj.region E.obj rfl ?_
 refine ai.val rfl (aa rfl) rfl ?_
 refine ai.val rfl (jg kJ iB lT) rfl ?_
 refine ai.val rfl (aa rfl) rfl ?_
 have H99:=H93.yl (([]).map av)
 obtain ⟨z100,hzz100,h⟩:=bind_some h
 refine ai.append (xs:=([]).map av) (ys:=(z71.1).map av) (zs:=(z100).map av) H99 rfl rfl rfl (i:=0) rfl rfl kJ vS iB (cu hzz100) vT rfl (aN (enc:=av) (fun z=>(aG.len z).trans eO.symm) _) (aN (enc:=av) (fun z=>(aG.len z).trans eO.symm) _) wz rfl (eZ hzz100) (fun v101 S102 H103=>?_)
 refine ai.val rfl (cK (cs:=[(.d (.str [110,111,110,101])),(.d (.str [49]))]) j4 rfl (dz) (dW rfl rfl rfl rfl (dW rfl rfl rfl rfl rfl))) rfl ?_
 refine ai.less (Less.agg' (d:=av (aG.mk [110,111,110,101] [49])) (aQ.eq rfl (aQ.eq rfl .nil)) ((aG.eq _).trans rfl)) ?_
 refine ai.val rfl (aL (vs:=[(.d (av (aG.mk [110,111,110,101] [49])))]) (ds:=[(av (aG.mk [110,111,110,101] [49]))]) kJ iB lT j4 eO rfl (by decide) (.cons rfl (aG.len _) .nil) rfl (by intro d hd; simp only [List.mem_cons,List.not_mem_nil,or_false] at hd; rcases hd with rfl <;> exact aG.agg _) rfl) rfl ?_
 obtain ⟨z104,hzz104,h⟩:=bind_some h
 refine ai.append (xs:=(z100).map av) (ys:=([(aG.mk [110,111,110,101] [49])]).map av) (zs:=(z104).map av) H103 rfl rfl rfl (i:=0) rfl rfl kJ vS iB (cu hzz104) vT rfl (aN (enc:=av) (fun z=>(aG.len z).trans eO.symm) _) (aN (enc:=av) (fun z=>(aG.len z).trans eO.symm) _) wz rfl (eZ hzz104) (fun v105 S106 H107=>?_)
 obtain ⟨z108,hzz108,h⟩:=bind_some h
 refine ai.ret rfl (aA rfl rfl) (eH E _ _ _ _ hzz108 _ _ (au.eq (au.grow H107 (i:=0) rfl .nil))) rfl ?_
 refine ai.val rfl (aa rfl) rfl ?_
 refine ai.val rfl (aC rfl rfl) rfl ?_
 refine ai.val rfl (aC rfl rfl) rfl ?_
 refine ai.val rfl (ah rfl) rfl ?_
 refine ai.val rfl (ah rfl) rfl ?_
 refine ai.nil ?_
 refine aj.seq ?_
 refine aj.region E.obj rfl ?_
 refine ai.val rfl (ah rfl) rfl ?_
 refine ai.nil ?_
 refine aj.join (B:=ax) (α:=Bool) (fun a=>bB n a2 z12 z108 a=some r) (fun a=>[(6,(.ptr b9 0 0)),(11,(.d (.sl ((z12).map aM) false))),(24,(.d (.bool z108.2))),(25,(.d (.bool a)))]) (fun a=>[.box b9 [(.d (.sl ((a2.Path).map (D.int .i64)) false)),(.d (.sl ((a2.Names).map (D.int .i64)) false)),(.d (.sl ((a2.Values).map (D.int .i64)) false))]]) ?_ ?_
 ·
  intro x111 S109 H110 h
  replace h:bB n a2 z12 z108 x111=some r:=h
  replace H110:Has ax S109 [.box b9 [(.d (.sl ((a2.Path).map (D.int .i64)) false)),(.d (.sl ((a2.Names).map (D.int .i64)) false)),(.d (.sl ((a2.Values).map (D.int .i64)) false))]]:=H110
  unfold bB at h
  refine aj.seq ?_
  refine aj.region E.obj rfl ?_
  refine ai.val rfl (aK H110 (i:=0) rfl rfl (iW De DF rfl)) rfl ?_
  refine ai.less (Less.agg' (d:=jR a2) (aQ.eq rfl (aQ.eq rfl (aQ.eq rfl .nil))) ((fE.eq _).trans rfl)) ?_
  obtain ⟨z113,hzz113,h⟩:=bind_some h
  refine ai.ret rfl (aA rfl rfl) (l8 E _ _ _ hzz113 _ _ (au.eq .nil)) rfl ?_
  refine ai.val rfl (wU (by rw [lh.eq] <;> rfl) rfl rV (cz Ba rfl)) rfl ?_
  refine ai.val rfl (ah rfl) rfl ?_
  refine ai.nil ?_
  refine aj.seq ?_
  refine aj.region E.obj rfl ?_
  refine ai.val rfl (aa rfl) rfl ?_
  refine ai.val rfl (aa rfl) rfl ?_
  obtain ⟨z114,hzz114,h⟩:=bind_some h
  refine ai.ret rfl (aA rfl rfl) (gW E _ _ _ _ hzz114 _ _ (au.eq (au.eq .nil))) rfl ?_
  refine ai.val rfl (aa rfl) rfl ?_
  refine ai.val rfl (aC rfl rfl) rfl ?_
  refine ai.val rfl (aC rfl rfl) rfl ?_
  refine ai.val rfl (ah rfl) rfl ?_
  refine ai.val rfl (ah rfl) rfl ?_
  refine ai.nil ?_
  refine aj.join (B:=ax) (α:=Unit) (fun a=>bC n z108 x111=some r) (fun a=>[(24,(.d (.bool z108.2))),(25,(.d (.bool x111)))]) (fun a=>[]) ?_ ?_
  ·
   intro a S115 H116 h
   replace h:bC n z108 x111=some r:=h
   replace H116:Has ax S115 []:=H116
   unfold bC at h
   refine aj.seq ?_
   refine aj.region E.obj rfl ?_
   refine ai.val rfl (aa rfl) rfl ?_
   refine ai.val rfl (bu rfl) rfl ?_
   refine ai.val rfl (aa rfl) rfl ?_
   refine ai.bP 3 202 (.d (.bool ((!z108.2) && (!x111)))) ?_ ?_
   ·
    rcases Bool.eq_false_or_eq_true ((!z108.2)) with hB118 | hB118
    ·
     refine ai.bool hB118 ?_
     refine ai.val rfl (aa rfl) rfl ?_
     refine ai.val rfl (bu rfl) rfl ?_
     refine ai.val rfl (ay (b:=true) rfl rfl) rfl ?_
     exact ai.nil ⟨_,rfl,(ae.put (ae.push rfl (ae.push rfl (ae.put (.refl _) (Less.eq (by rw [hB118]))))) (Less.eq (by rw [hB118]; rw [Bool.true_and])))⟩
    refine ai.bool hB118 ?_
    refine ai.no rfl rfl ?_
    refine ai.no rfl rfl ?_
    refine ai.val rfl (ay (b:=false) rfl rfl) rfl ?_
    exact ai.nil ⟨_,rfl,(ae.put (ae.push rfl (ae.push rfl (ae.put (.refl _) (Less.eq (by rw [hB118]))))) (Less.eq (by rw [hB118]; rw [Bool.false_and])))⟩
   refine ai.val rfl (aa rfl) rfl ?_
   obtain ⟨z120,hzz120,h⟩:=bind_some h
   refine ai.bP 2 205 (.d (.bool z120)) ?_ ?_
   ·
    rcases Bool.eq_false_or_eq_true (((!z108.2) && (!x111))) with hB119 | hB119
    ·
     refine ai.bool hB119 ?_
     replace hzz120:=bL hB119 hzz120
     obtain ⟨z121,hzz121,hzz120⟩:=bind_some hzz120
     refine ai.ret rfl (aA rfl rfl) (jU E _  _ hzz121 _ _ .nil) rfl ?_
     refine ai.val rfl (ay (b:=true) rfl rfl) rfl ?_
     cases hzz120
     exact ai.nil ⟨_,rfl,(ae.put (ae.push rfl (ae.put (.refl _) (Less.eq (by rw [hB119])))) (.refl _))⟩
    refine ai.bool hB119 ?_
    refine ai.no rfl rfl ?_
    refine ai.val rfl (ay (b:=false) rfl rfl) rfl ?_
    replace hzz120:=bN hB119 hzz120
    cases hzz120
    exact ai.nil ⟨_,rfl,(ae.put (ae.push rfl (ae.put (.refl _) (Less.eq (by rw [hB119])))) (.refl _))⟩
   refine ai.val rfl (ah rfl) rfl ?_
   refine ai.nil ?_
   have hr:=Option.some.inj h
   subst hr
   exact aj.ret ⟨_,rfl,rfl,eF (au.eq .nil)⟩
  refine aj.seq ?_
  refine aj.region E.obj rfl ?_
  refine ai.val rfl (aa rfl) rfl ?_
  refine ai.nil ?_
  refine aj.cond rfl (fun hb122=>?_) (fun hb122=>?_)
  ·
   replace h:=bL hb122 h
   refine aj.seq ?_
   refine aj.region E.obj rfl ?_
   refine ai.val rfl (aa rfl) rfl ?_
   refine ai.val rfl (aa rfl) rfl ?_
   obtain ⟨z123,hzz123,h⟩:=bind_some h
   refine ai.ret rfl (aA rfl rfl) (eH E _ _ _ _ hzz123 _ _ (au.eq (au.eq .nil))) rfl ?_
   refine ai.val rfl (aa rfl) rfl ?_
   refine ai.val rfl (aC rfl rfl) rfl ?_
   refine ai.val rfl (aC rfl rfl) rfl ?_
   refine ai.val rfl (ah rfl) rfl ?_
   refine ai.val rfl (ah rfl) rfl ?_
   refine ai.nil ?_
   refine aj.seq ?_
   refine aj.region E.obj rfl ?_
   refine ai.val rfl (aa rfl) rfl ?_
   refine ai.val rfl (bu rfl) rfl ?_
   refine ai.val rfl (aa rfl) rfl ?_
   obtain ⟨z125,hzz125,h⟩:=bind_some h
   refine ai.bP 5 196 (.d (.bool z125)) ?_ ?_
   ·
    rcases Bool.eq_false_or_eq_true ((!z123.2)) with hB124 | hB124
    ·
     refine ai.bool hB124 ?_
     refine ai.no rfl rfl ?_
     refine ai.no rfl rfl ?_
     refine ai.no rfl rfl ?_
     refine ai.no rfl rfl ?_
     refine ai.val rfl (ay (b:=true) rfl rfl) rfl ?_
     replace hzz125:=bL hB124 hzz125
     cases hzz125
     exact ai.nil ⟨_,rfl,(ae.put (ae.push rfl (ae.push rfl (ae.push rfl (ae.push rfl (ae.put (.refl _) (Less.eq (by rw [hB124]))))))) (.refl _))⟩
    refine ai.bool hB124 ?_
    replace hzz125:=bN hB124 hzz125
    refine ai.val rfl (aa rfl) rfl ?_
    refine ai.val rfl (aa rfl) rfl ?_
    obtain ⟨z126,hzz126,hzz125⟩:=bind_some hzz125
    refine ai.ret rfl (aA rfl rfl) (eX E _ _ _ _ hzz126 _ _ (au.eq (au.eq .nil))) rfl ?_
    refine ai.val rfl (bu rfl) rfl ?_
    refine ai.val rfl (ay (b:=false) rfl rfl) rfl ?_
    cases hzz125
    exact ai.nil ⟨_,rfl,(ae.put (ae.push rfl (ae.push rfl (ae.push rfl (ae.push rfl (ae.put (.refl _) (Less.eq (by rw [hB124]))))))) (.refl _))⟩
   refine ai.nil ?_
   refine aj.cond rfl (fun hb127=>?_) (fun hb127=>?_)
   ·
    replace h:=bL hb127 h
    refine aj.seq ?_
    refine aj.region E.obj rfl ?_
    refine ai.val rfl (ah rfl) rfl ?_
    refine ai.nil ?_
    have hr:=Option.some.inj h
    subst hr
    exact aj.ret ⟨_,rfl,rfl,eF (au.eq .nil)⟩
   replace h:=bN hb127 h
   refine aj.skip ?_
   exact ⟨(),_,_,S109,.refl _ _,.refl _,(ae.r rfl (ae.r rfl ae.nil)),H110.sl [] rfl rfl,h⟩
  replace h:=bN hb122 h
  refine aj.skip ?_
  exact ⟨(),_,_,S109,.refl _ _,.refl _,(ae.r rfl (ae.r rfl ae.nil)),H110.sl [] rfl rfl,h⟩
 refine aj.seq ?_
 refine aj.region E.obj rfl ?_
 refine ai.val rfl (aa rfl) rfl ?_
 refine ai.val rfl (aR rfl tY) rfl ?_
 refine ai.val rfl (ak rfl rfl lq) rfl ?_
 refine ai.nil ?_
 refine aj.cond rfl (fun hb128=>?_) (fun hb128=>?_)
 ·
  replace h:=bL hb128 h
  obtain ⟨z129,hzz129,h⟩:=bind_some h
  obtain ⟨z131,hzz131,h⟩:=bind_some h
  obtain ⟨z135,hzz135,h⟩:=bind_some h
  obtain ⟨z139,hzz139,h⟩:=bind_some h
  refine aj.nO E.obj um Ep [(6,none),(11,none),(24,none),(25,some 13)] (by kernel_rfl) [3,8] (by decide) [some (.d (.sl ((z12).map aM) false)),some (.d (.sl (([]).map av) true)),some (.d (.sl ((z71.1).map av) false)),none,some (.d (.sl ((z71.1).map av) false)),some (.eptr (av z129) 0),some (.d (av z129)),some (.d (.sl (([z129]).map av) true)),none,none,none,none,none,none] ?_
  refine ⟨[0,1,2,4,5,6,7],by kernel_rfl,?_,_,_,rfl,rfl,.step ?_⟩
  ·
   refine .v rfl rfl rfl rfl (aa rfl) ?_
   refine .v rfl rfl rfl rfl (jg kJ iB lT) ?_
   refine .v rfl rfl rfl rfl (aa rfl) ?_
   refine .v rfl rfl rfl rfl (aa rfl) ?_
   refine .v rfl rfl rfl rfl (bF rfl rfl (bU (enc:=av) hzz129 iB uB ((aG.len _).trans eO.symm))) ?_
   refine .v rfl rfl rfl rfl (aT rfl (aG.kS lT eO)) ?_
   refine .v rfl rfl rfl rfl (aL (vs:=[(.d (av z129))]) (ds:=[(av z129)]) kJ iB lT j4 eO rfl (by decide) (.cons rfl (aG.len _) .nil) rfl (by intro d hd; simp only [List.mem_cons,List.not_mem_nil,or_false] at hd; rcases hd with rfl <;> exact aG.agg _) rfl) ?_
   exact .nil
  have H140:=H107.yl (([]).map av)
  refine ai.append (xs:=([]).map av) (ys:=(z71.1).map av) (zs:=(z131).map av) H140 rfl rfl rfl (i:=0) rfl rfl kJ vS iB (cu hzz131) vT rfl (aN (enc:=av) (fun z=>(aG.len z).trans eO.symm) _) (aN (enc:=av) (fun z=>(aG.len z).trans eO.symm) _) wz rfl (eZ hzz131) (fun v141 S142 H143=>?_)
  refine ai.nil ⟨_,_,_,rfl,(fun _ ht=>by cases ht; rfl),_,(.o (.o (.o (.w v141 (.q (.m (.n (.n .nil)))))))),(fun _ ht=>by cases ht; exact ⟨_,rfl,.refl _⟩),?_⟩
  refine ⟨[0,4,5,6,7],by kernel_rfl,?_,_,_,rfl,rfl,.step ?_⟩
  ·
   refine .v rfl rfl rfl rfl (aa rfl) ?_
   refine .v rfl rfl rfl rfl (aa rfl) ?_
   refine .v rfl rfl rfl rfl (bF rfl rfl (bU (enc:=av) hzz129 iB uB ((aG.len _).trans eO.symm))) ?_
   refine .v rfl rfl rfl rfl (aT rfl (aG.kS lT eO)) ?_
   refine .v rfl rfl rfl rfl (aL (vs:=[(.d (av z129))]) (ds:=[(av z129)]) kJ iB lT j4 eO rfl (by decide) (.cons rfl (aG.len _) .nil) rfl (by intro d hd; simp only [List.mem_cons,List.not_mem_nil,or_false] at hd; rcases hd with rfl <;> exact aG.agg _) rfl) ?_
   exact .nil
  refine ai.append (xs:=(z131).map av) (ys:=([z129]).map av) (zs:=(z135).map av) H143 rfl rfl rfl (i:=0) rfl rfl kJ vS iB (cu hzz135) vT rfl (aN (enc:=av) (fun z=>(aG.len z).trans eO.symm) _) (aN (enc:=av) (fun z=>(aG.len z).trans eO.symm) _) wz rfl (eZ hzz135) (fun v144 S145 H146=>?_)
  refine ai.nil ⟨_,_,_,rfl,(fun _ ht=>by cases ht; rfl),_,(.q (.q (.w v144 (.w (.tup [(.d (.sl ((z139.1).map D.str) false)),(.d (.bool z139.2))]) (.w (.tup [(.d (.sl ((z139.1).map D.str) false)),(.d (.bool z139.2))]) (.w (.d (.sl ((z139.1).map D.str) false)) (.w (.d (.bool z139.2)) (.w (.d (.bool z139.2)) .nil)))))))),(fun _ ht=>by cases ht; exact ⟨_,rfl,.refl _⟩),?_⟩
  refine ⟨[0,9,10,11,12,13],by kernel_rfl,?_,_,rfl,?_⟩
  ·
   refine .v rfl rfl rfl rfl (aa rfl) ?_
   refine .cons rfl rfl rfl (.step ?_) ?_
   ·
    refine ai.ret rfl (aA rfl rfl) (eH E _ _ _ _ hzz139 _ _ (au.eq (au.grow H146 (i:=0) rfl .nil))) rfl ?_
    exact ai.nil ⟨_,_,rfl,fun _ ht=>by cases ht; exact ⟨rfl,.refl _⟩⟩
   refine .v rfl rfl rfl rfl (aa rfl) ?_
   refine .v rfl rfl rfl rfl (aC rfl rfl) ?_
   refine .v rfl rfl rfl rfl (aC rfl rfl) ?_
   refine .v rfl rfl rfl rfl (ah rfl) ?_
   exact .nil
  exact ⟨z139.2,_,_,S145,.refl _ _,.refl _,(ae.r rfl (ae.r rfl (ae.r rfl (ae.r rfl ae.nil)))),H146.sl [3] rfl rfl,h⟩
 replace h:=bN hb128 h
 refine aj.skip ?_
 exact ⟨false,_,_,S106,.refl _ _,.refl _,(ae.r rfl (ae.r rfl (ae.r rfl (ae.r rfl ae.nil)))),H107.sl [2] rfl rfl,h⟩
end
end Pr
end Go.Ev

namespace Go.Ev
namespace Pr
set_option linter.unusedVariables false
set_option linter.unusedSimpArgs false
theorem xP {n:Int} (h0:-9223372036854775808 ≤ n) (h1:n ≤ 9223372036854775807):IntKind.wrap .i64 n=n:=Go.IntWalk.i64_in n ⟨h0,h1⟩
theorem nD {α:Type} (l:List α) (i:Nat):idx l (i:Int)=l[i]?:=by
 unfold idx
 rw [if_pos (by omega)]
 simp
theorem iO {α:Type} {l done rest:List α} {z:α} (h:l=done ++ z :: rest):idx l (done.length:Int)=some z:=by
 rw [nD,h]; simp
theorem mY {α:Type} (l:List α) {i:Int} (h0:0 ≤ i) (h1:i < l.length):∃ x,idx l i=some x∧x ∈ l∧l[i.toNat]? = some x:=by
 obtain ⟨j,rfl⟩:=Int.eq_ofNat_of_zero_le h0
 have hj:j < l.length:=by omega
 exact ⟨l[j],by rw [nD]; exact List.getElem?_eq_getElem hj,List.getElem_mem hj,by simp [hj]⟩
theorem fB {α:Type} {nb:Nat} {l ys:List α} (h:(l.length + ys.length) * nb ≤ bound):app nb l ys=some (l ++ ys):=by
 unfold app; rw [if_pos h]
theorem vK {k:IntKind} {a b:Int} (h:b ≠ 0):xR k a b=some (a.tmod b):=by
 unfold xR; rw [if_neg h]
theorem bnd:bound=70368744177664:=rfl
end Pr
end Go.Ev

namespace Go.Ev
namespace Pr
set_option linter.unusedVariables false
set_option linter.unusedSimpArgs false
def yA {α σ ρ:Type} (step:α→σ→Except ρ σ) (fin:σ→ρ):List α→σ→ρ
 | [],s=>fin s
 | x :: l,s=>match step x s with
  | .error r=>r
  | .ok s'=>yA step fin l s'
theorem xg {α σ ρ:Type} {f:Nat→σ→Int→Option ρ} {l:List α} {step:α→σ→Except ρ σ} {fin:σ→ρ} (P:List α→σ→Prop)
  (hP:∀ x rest s s',P (x :: rest) s→step x s=.ok s'→P rest s')
  (hs:∀ (k:Nat) (s:σ) (x:α) (rest:List α) (i:Nat),i < l.length→idx l (i:Int)=some x→P (x :: rest) s→f (k + 1) s (i:Int)=match step x s with | .error r=>some r | .ok s'=>f k s' ((i + 1:Nat):Int))
  (he:∀ (k:Nat) (s:σ),P [] s→f (k + 1) s ((l.length:Nat):Int)=some (fin s)) :
  ∀ (rest done:List α) (k:Nat) (s:σ),l=done ++ rest→rest.length < k→P rest s→f k s ((done.length:Nat):Int)=some (yA step fin rest s)
 | [],done,k + 1,s,h,hk,hp=>by
  have:done.length=l.length:=by rw [h]; simp
  rw [this]
  exact he k s hp
 | x :: rest,done,k + 1,s,h,hk,hp=>by
  have hl:done.length < l.length:=by rw [h]; simp
  rw [hs k s x rest done.length hl (iO h) hp]
  cases hst:step x s with
  | error r=>simp only [yA,hst]
  | ok s' =>
   simp only [yA,hst]
   have:=xg P hP hs he rest (done ++ [x]) k s' (by rw [h]; simp) (by simp at hk; omega) (hP x rest s s' hp hst)
   simpa using this
theorem uO {α σ ρ:Type} {f:Nat→σ→Int→Option ρ} {l:List α} {step:α→σ→Except ρ σ} {fin:σ→ρ} (P:List α→σ→Prop)
  (hP:∀ x rest s s',P (x :: rest) s→step x s=.ok s'→P rest s')
  (hs:∀ (k:Nat) (s:σ) (x:α) (rest:List α) (i:Nat),i < l.length→idx l (i:Int)=some x→P (x :: rest) s→f (k + 1) s (i:Int)=match step x s with | .error r=>some r | .ok s'=>f k s' ((i + 1:Nat):Int))
  (he:∀ (k:Nat) (s:σ),P [] s→f (k + 1) s ((l.length:Nat):Int)=some (fin s))
  {k:Nat} {s:σ} (hk:l.length < k) (hp:P l s):f k s 0=some (yA step fin l s) :=
 xg P hP hs he l [] k s rfl hk hp
theorem vR {α σ ρ:Type} {step:α→σ→Except ρ σ} {fin:σ→ρ} {g:σ→α→σ} (h:∀ x s,step x s=.ok (g s x)):∀ (l:List α) (s:σ),yA step fin l s=fin (l.foldl g s)
 | [],s=>rfl
 | x :: l,s=>by rw [yA,h]; exact vR h l (g s x)
theorem A8 {i N:Nat} (h:i < N) (hN:N ≤ 1000000000):IntKind.wrap .i64 ((i:Int) + 1)=((i + 1:Nat):Int):=by rw [xP (by omega) (by omega)]; push_cast; rfl
end Pr
end Go.Ev

namespace Go.Ev
namespace Pr
set_option linter.unusedVariables false
set_option linter.unusedSimpArgs false
def letters:Str:=[97,98,99,100,101,102,103,104,105,106,107,108,109,110,111,112,113,114,115,116,117,118,119,120,121,122,48,49,50,51,52,53,54,55,56,57]
def jv (s:Str):Bool:=!(s == []) && decide ((s.length:Int) ≤ 16) && (Lib.trimS s letters == [])
theorem Aw (n:Nat) (s:Str):gZ n s=some (jv s):=by
 unfold gZ jv
 by_cases h:(!(s == []) && decide ((s.length:Int) ≤ 16))=true
 ·
  have h':=h
  simp only [Bool.and_eq_true,decide_eq_true_eq] at h'
  have ht:iX n s letters=some (Lib.trimS s letters):=by
   unfold iX
   rw [if_pos ⟨by rw [bnd]; omega,by decide,by decide⟩]
  rw [if_pos h]
  show (Option.bind (iX n s letters) _).bind _=_
  rw [ht,h]; rfl
 ·
  rw [if_neg h]
  simp only [Bool.not_eq_true] at h
  rw [h]; rfl
def qi (x y:Seg):Bool:=y.Kind != 0 && y.Text == x.Text
theorem yS (p:Seg→Option Bool) (q:Seg→Bool) (hp:∀ t,p t=some (q t)) (a:List Seg) (hl:a.length < 1000000):∀ (rest done:List Seg) (f:Nat),a=done ++ rest→rest.length < f→∃ r,aJ a p f (done.length:Int)=some r∧decide (0 ≤ r)=rest.any q
 | [],done,f + 1,h,hf=>by
  rw [aJ,if_neg (by rw [decide_eq_true_eq,h]; simp)]
  exact ⟨_,rfl,rfl⟩
 | t :: rest,done,f + 1,h,hf=>by
  have hlen:a.length=done.length + rest.length + 1:=by rw [h]; simp; omega
  have hw:IntKind.wrap .i64 ((done.length:Int) + 1)=(((done ++ [t]).length:Nat):Int):=by rw [xP (by omega) (by omega)]; simp
  rw [aJ,if_pos (by rw [decide_eq_true_eq]; omega),iO h,Option.bind_some,hp,Option.bind_some]
  cases hq:q t with
  | true =>
   rw [if_pos rfl]
   exact ⟨_,rfl,by rw [List.any_cons,hq]; simp⟩
  | false =>
   rw [if_neg (by simp),hw]
   obtain ⟨r,h1,h2⟩:=yS p q hp a hl rest (done ++ [t]) f (by rw [h]; simp) (by simp at hf; omega)
   exact ⟨r,h1,by rw [List.any_cons,hq,h2]; rfl⟩
theorem xn {n:Nat} (p:Seg→Option Bool) (q:Seg→Bool) (hp:∀ t,p t=some (q t)) (a:List Seg) (hl:a.length < n) (hl2:a.length < 1000000):aX n a p=some (a.any q):=by
 unfold aX cO
 obtain ⟨r,h1,h2⟩:=yS p q hp a hl2 a [] n rfl hl
 rw [List.length_nil,show ((0:Nat):Int)=0 from rfl] at h1
 rw [h1,Option.bind_some,h2]
def ow (done:List Seg):List Seg→Bool
 | []=>true
 | x :: l=>jv x.Text && decide (0 ≤ x.Kind) && decide (x.Kind ≤ 3) && (decide (x.Kind < 2) || l.isEmpty) && !(x.Kind != 0 && done.any (qi x)) && ow (done ++ [x]) l
def kL (l:List Seg):Bool:=decide (l.length ≤ 8) && ow [] l
theorem yX {n:Nat} (a:List Seg) (ha:a.length ≤ 8) (hn:100 ≤ n):∀ (rest done:List Seg) (f:Nat),a=done ++ rest→rest.length < f→dh n a f (done.length:Int)=some (ow done rest)
 | [],done,f + 1,h,hf=>by
  rw [dh,if_neg (by rw [decide_eq_true_eq,h]; simp)]; rfl
 | x :: rest,done,f + 1,h,hf=>by
  have hlen:a.length=done.length + rest.length + 1:=by rw [h]; simp; omega
  have hw:IntKind.wrap .i64 ((done.length:Int) + 1)=(((done ++ [x]).length:Nat):Int):=by rw [xP (by omega) (by omega)]; simp
  have hw1:IntKind.wrap .i64 ((a.length:Int) - 1)=(a.length:Int) - 1:=xP (by omega) (by omega)
  have hcut:cut a 0 (done.length:Int)=some done:=by
   unfold cut; rw [if_pos ⟨by omega,by omega,by omega⟩,h]; simp
  rw [dh,if_pos (by rw [decide_eq_true_eq]; omega),iO h,Option.bind_some,Aw,Option.bind_some,hw1,ow]
  have e1:((done.length:Int) == (a.length:Int) - 1)=rest.isEmpty:=by
   cases rest with
   | nil=>simp at hlen ⊢; omega
   | cons y r=>simp at hlen ⊢; omega
  rw [e1,hcut]
  by_cases c1:jv x.Text=true
  ·
   by_cases c2:0 ≤ x.Kind
   ·
    by_cases c3:x.Kind ≤ 3
    ·
     rw [if_neg (by simp [c1]; omega)]
     by_cases c4:(decide (2 ≤ x.Kind) && !rest.isEmpty)=true
     ·
      rw [if_pos c4]
      simp only [Bool.and_eq_true,decide_eq_true_eq,Bool.not_eq_true'] at c4
      have:(decide (x.Kind < 2) || rest.isEmpty)=false:=by rw [c4.2]; simp; omega
      rw [this]; simp
     ·
      rw [if_neg c4]
      have c4':(decide (x.Kind < 2) || rest.isEmpty)=true:=by
       simp only [Bool.and_eq_true,decide_eq_true_eq,Bool.not_eq_true',not_and,Bool.not_eq_false,Bool.or_eq_true] at c4 ⊢
       by_cases q:x.Kind < 2
       ·
        exact .inl q
       ·
        exact .inr (c4 (by omega))
      have hin:(if (x.Kind != 0)=true then ((some done).bind fun z25=>((aX n z25 (fun y26=>fu n y26 x)).bind fun z27=>(some z27))) else some false)=some (x.Kind != 0 && done.any (qi x)):=by
       cases hk:(x.Kind != 0) with
       | false=>rfl
       | true =>
        rw [if_pos rfl,Option.bind_some,xn (n:=n) (fun y26=>fu n y26 x) (qi x) (fun t=>rfl) done (by omega) (by omega),Option.bind_some]; rfl
      rw [hin,Option.bind_some,c1,c4']
      cases hq:(x.Kind != 0 && done.any (qi x)) with
      | true=>simp
      | false =>
       rw [if_neg (by simp),hw]
       rw [yX a ha hn rest (done ++ [x]) f (by rw [h]; simp) (by simp at hf; omega)]
       simp [c2,c3]
    ·
     rw [if_pos (by simp; omega)]
     have:decide (x.Kind ≤ 3)=false:=by simpa using c3
     rw [this]; simp
   ·
    rw [if_pos (by simp; omega)]
    have:decide (0 ≤ x.Kind)=false:=by simpa using c2
    rw [this]; simp
  ·
   rw [if_pos (by simp [c1])]
   simp only [Bool.not_eq_true] at c1
   rw [c1]; simp
theorem rO {n:Nat} (hn:100 ≤ n) (a:List Seg):dZ n a=some (kL a):=by
 unfold dZ kL
 by_cases h:a.length ≤ 8
 ·
  rw [if_neg (by rw [decide_eq_true_eq]; omega)]
  have:=yX a h hn a [] n rfl (by omega)
  rw [List.length_nil,show ((0:Nat):Int)=0 from rfl] at this
  rw [this,decide_eq_true h]; rfl
 ·
  rw [if_pos (by rw [decide_eq_true_eq]; omega),decide_eq_false h]; rfl
def Names (l:List Seg):Prop:=l.Pairwise (fun s t=>¬(s.Kind ≠ 0∧t.Kind ≠ 0∧s.Text=t.Text))
theorem ql:∀ (l done:List Seg),ow done l=true↔(∀ x ∈ l,jv x.Text=true∧0 ≤ x.Kind∧x.Kind ≤ 3)∧(∀ pre x post,l=pre ++ x :: post→2 ≤ x.Kind→post=[])∧Names l∧(∀ x ∈ l,x.Kind ≠ 0→∀ y ∈ done,¬(y.Kind ≠ 0∧y.Text=x.Text))
 | [],done=>by simp [ow,Names]
 | x :: l,done=>by
  rw [ow,Bool.and_eq_true,ql l (done ++ [x])]
  simp only [Bool.and_eq_true,decide_eq_true_eq,Bool.or_eq_true,Bool.not_eq_true',List.isEmpty_iff,Names,List.pairwise_cons,List.mem_cons,List.mem_append,List.not_mem_nil,or_false]
  constructor
  ·
   rintro ⟨⟨⟨⟨⟨h1,h2⟩,h3⟩,h4⟩,h5⟩,h6,h7,h8,h9⟩
   refine ⟨?_,?_,⟨?_,h8⟩,?_⟩
   ·
    rintro y (rfl | hy)
    ·
     exact ⟨h1,h2,h3⟩
    ·
     exact h6 y hy
   ·
    intro pre y post e hk
    cases pre with
    | nil =>
     simp only [List.nil_append,List.cons.injEq] at e
     obtain ⟨rfl,rfl⟩:=e
     rcases h4 with q | q
     ·
      omega
     ·
      exact q
    | cons z pre =>
     simp only [List.cons_append,List.cons.injEq] at e
     exact h7 pre y post e.2 hk
   ·
    rintro y hy ⟨k1,k2,k3⟩
    exact h9 y hy k2 x (.inr rfl) ⟨k1,k3⟩
   ·
    rintro y (rfl | hy) hk z hz ⟨q1,q2⟩
    ·
     simp only [Bool.and_eq_false_iff,bne_eq_false_iff_eq,List.any_eq_false] at h5
     rcases h5 with h5 | h5
     ·
      exact hk h5
     ·
      exact h5 z hz (by simp [qi,q1,q2])
    ·
     exact h9 y hy hk z (.inl hz) ⟨q1,q2⟩
  ·
   rintro ⟨h1,h2,⟨h3,h4⟩,h5⟩
   have hx:=h1 x (.inl rfl)
   refine ⟨⟨⟨⟨⟨hx.1,hx.2.1⟩,hx.2.2⟩,?_⟩,?_⟩,fun y hy=>h1 y (.inr hy),fun pre y post e hk=>h2 (x :: pre) y post (by rw [e]; rfl) hk,h4,?_⟩
   ·
    by_cases q:x.Kind < 2
    ·
     exact .inl q
    ·
     exact .inr (h2 [] x l rfl (by omega))
   ·
    simp only [Bool.and_eq_false_iff,bne_eq_false_iff_eq,List.any_eq_false]
    by_cases q:x.Kind=0
    ·
     exact .inl q
    ·
     refine .inr (fun z hz=>?_)
     have:=h5 x (.inl rfl) q z hz
     simp only [qi,Bool.and_eq_true,bne_iff_ne,beq_iff_eq]
     exact this
   ·
    rintro y hy hk z (hz | rfl) ⟨q1,q2⟩
    ·
     exact h5 y (.inr hy) hk z hz ⟨q1,q2⟩
    ·
     exact h3 y hy ⟨q1,hk,q2⟩
theorem iy (l:List Seg):kL l=true↔l.length ≤ 8∧(∀ x ∈ l,jv x.Text=true∧0 ≤ x.Kind∧x.Kind ≤ 3)∧(∀ pre x post,l=pre ++ x :: post→2 ≤ x.Kind→post=[])∧Names l:=by
 unfold kL
 rw [Bool.and_eq_true,ql,decide_eq_true_eq]
 constructor
 ·
  rintro ⟨h1,h2,h3,h4,_⟩; exact ⟨h1,h2,h3,h4⟩
 ·
  rintro ⟨h1,h2,h3,h4⟩; exact ⟨h1,h2,h3,h4,fun _ _ _ _ h=>by cases h⟩
end Pr
end Go.Ev

namespace Go.Ev
namespace Pr
set_option linter.unusedVariables false
set_option linter.unusedSimpArgs false
def om (c:UInt8):Bool:=(gU 0 (c.toNat:Int)).getD false
theorem wJ (n:Nat) (c:UInt8):gU n (c.toNat:Int)=some (om c):=by
 have h:gU n (c.toNat:Int)=gU 0 (c.toNat:Int):=rfl
 rw [h,om]
 unfold gU strings_IndexByte
 split <;> rfl
def oO:Str:=[48,49,50,51,52,53,54,55,56,57,65,66,67,68,69,70]
def kV (k:Nat):UInt8:=oO.getD k 0
def nN (c:UInt8):Str:=if om c=true then [c] else [37,kV (c.toNat / 16),kV (c.toNat % 16)]
def encS (s:Str):Str:=s.flatMap nN
theorem nA {s:Str} (c:UInt8) (h:s.length ≤ 1000000):uq s (c.toNat:Int)=some (s ++ [c]):=by
 unfold uq
 have:=c.toNat_lt
 rw [if_pos ⟨by omega,by omega,by rw [bnd]; omega⟩]
 simp
theorem rR {p:UInt8→Prop} (h:∀ m ∈ List.range 256,p (UInt8.ofNat m)) (c:UInt8):p c:=by
 have:=h c.toNat (List.mem_range.2 c.toNat_lt)
 simpa using this
set_option maxRecDepth 100000 in
theorem Ah (c:UInt8):((zC .u8 ((c.toNat:Nat):Int) 4).bind fun z=>idx oO z)=some (kV (c.toNat / 16))∧idx oO (Bt .u8 ((c.toNat:Nat):Int) 15)=some (kV (c.toNat % 16)) :=
 rR (p:=fun c=>((zC .u8 ((c.toNat:Nat):Int) 4).bind fun z=>idx oO z)=some (kV (c.toNat / 16))∧idx oO (Bt .u8 ((c.toNat:Nat):Int) 15)=some (kV (c.toNat % 16))) (by decide +kernel) c
set_option maxRecDepth 100000 in
theorem zS (c:UInt8):gy 0 (((kV (c.toNat / 16)).toNat:Nat):Int)=some ((c.toNat / 16:Nat):Int)∧gy 0 (((kV (c.toNat % 16)).toNat:Nat):Int)=some ((c.toNat % 16:Nat):Int) ∧
  ((zl .i64 ((c.toNat / 16:Nat):Int) 4).bind fun z=>some (IntKind.wrap .u8 (Cz .i64 z ((c.toNat % 16:Nat):Int))))=some ((c.toNat:Nat):Int) :=
 rR (p:=fun c=>gy 0 (((kV (c.toNat / 16)).toNat:Nat):Int)=some ((c.toNat / 16:Nat):Int)∧gy 0 (((kV (c.toNat % 16)).toNat:Nat):Int)=some ((c.toNat % 16:Nat):Int) ∧
  ((zl .i64 ((c.toNat / 16:Nat):Int) 4).bind fun z=>some (IntKind.wrap .u8 (Cz .i64 z ((c.toNat % 16:Nat):Int))))=some ((c.toNat:Nat):Int)) (by decide +kernel) c
set_option maxRecDepth 100000 in
theorem kD (c:UInt8):(nN c).all (fun b=>!(b == 47))=true∧(nN c).length ≤ 3∧1 ≤ (nN c).length∧(om c=true→c ≠ 37) :=
 rR (p:=fun c=>(nN c).all (fun b=>!(b == 47))=true∧(nN c).length ≤ 3∧1 ≤ (nN c).length∧(om c=true→c ≠ 37)) (by decide +kernel) c
theorem xc (c:UInt8):(nN c).length ≤ 3:=(kD c).2.1
theorem tq:∀ (s:Str),(encS s).length ≤ 3 * s.length
 | []=>by simp [encS]
 | c :: s=>by
  have h1:=xc c
  have h2:=tq s
  unfold encS at h2 ⊢
  rw [List.flatMap_cons,List.length_append,List.length_cons]; omega
theorem sV (s:Str):∀ b ∈ encS s,b ≠ 47:=by
 intro b hb
 unfold encS at hb
 rw [List.mem_flatMap] at hb
 obtain ⟨c,_,hc⟩:=hb
 have:=(kD c).1
 rw [List.all_eq_true] at this
 have:=this b hc
 simpa using this
theorem AY {s:Str} (h:s ≠ []):encS s ≠ []:=by
 cases s with
 | nil=>exact absurd rfl h
 | cons c s =>
  intro q
  have h1:=(kD c).2.2.1
  unfold encS at q
  rw [List.flatMap_cons,List.append_eq_nil_iff] at q
  rw [q.1] at h1; simp at h1
theorem ze {n:Nat} (s:Str) (h:s.length < n) (h2:s.length ≤ 100000):jS n s=some (encS s):=by
 unfold jS
 have e:encS s=(fun x:Str=>x) (s.foldl (fun (acc:Str) c=>acc ++ nN c) []):=by
  have:∀ (l acc:Str),l.foldl (fun (acc:Str) c=>acc ++ nN c) acc=acc ++ encS l:=by
   intro l
   induction l with
   | nil=>intro acc; simp [encS]
   | cons c l ih=>intro acc; rw [List.foldl_cons,ih,encS,encS,List.flatMap_cons,List.append_assoc]
  simp [this]
 rw [e,← vR (fin:=fun x:Str=>x) (g:=fun (acc:Str) c=>acc ++ nN c) (step:=fun c (acc:Str)=>(Except.ok (acc ++ nN c):Except Str Str)) (fun x s=>rfl)]
 refine uO (f:=fun k a i=>bM n s k a i) (fun rest (a:Str)=>a.length + 3 * rest.length ≤ 500000) (fun x rest a a' hp he=>?_) (fun k a x rest i hi hx hp=>?_) (fun k a hp=>?_) h (by simp; omega)
 ·
  cases he
  have:=xc x
  simp only [List.length_append,List.length_cons] at hp ⊢; omega
 ·
  simp only [List.length_cons] at hp
  show bM n s (k + 1) a (i:Int)=bM n s k (a ++ nN x) ((i + 1:Nat):Int)
  rw [bM,if_pos (by rw [decide_eq_true_eq]; omega),hx,Option.bind_some,wJ,Option.bind_some]
  unfold nN fM
  rw [A8 hi (by omega)]
  cases hq:om x with
  | true=>rw [if_pos rfl,if_pos rfl,nA x (by omega),Option.bind_some]
  | false =>
   obtain ⟨f1,f2⟩:=Ah x
   rw [if_neg (by simp),if_neg (by simp),show (37:Int)=(((37:UInt8).toNat:Nat):Int) from rfl,nA 37 (by omega),Option.bind_some]
   cases hz:zC .u8 (x.toNat:Int) 4 with
   | none=>rw [hz] at f1; cases f1
   | some z =>
    rw [hz,Option.bind_some] at f1
    rw [Option.bind_some,show idx ([48,49,50,51,52,53,54,55,56,57,65,66,67,68,69,70]:Str) z=_ from f1,Option.bind_some,nA _ (by simp; omega),Option.bind_some,show idx ([48,49,50,51,52,53,54,55,56,57,65,66,67,68,69,70]:Str) _=_ from f2,Option.bind_some,nA _ (by simp; omega),Option.bind_some]
    simp
 ·
  show bM n s (k + 1) a _=_
  rw [bM,if_neg (by simp)]
theorem oQ {α:Type} (l:List α) (k:Nat) (h:k ≤ l.length):cut l (k:Int) (l.length:Int)=some (l.drop k):=by
 unfold cut
 rw [if_pos ⟨by omega,by omega,by omega⟩]
 simp
theorem rU {n:Nat}:∀ (s acc:Str) (k:Nat),s.length < k→acc.length + s.length ≤ 100000→bW n k acc (encS s)=some (acc ++ s,true)
 | [],acc,k + 1,_,_=>by rw [bW,if_neg (by simp [encS])]; simp
 | c :: s,acc,k + 1,hk,hl=>by
  have e:encS (c :: s)=nN c ++ encS s:=by unfold encS; rw [List.flatMap_cons]
  simp only [List.length_cons] at hk hl
  have ih:=rU (n:=n) s (acc ++ [c]) k (by omega) (by simp; omega)
  rw [e,nN]
  cases hq:om c with
  | true =>
   have h37:=(kD c).2.2.2 hq
   have hc:¬((c.toNat:Int) == 37)=true:=by
    rw [beq_iff_eq]; intro q
    have h37':c.toNat=37:=by omega
    exact h37 (by rw [← UInt8.ofNat_toNat (x:=c),h37']; rfl)
   rw [if_pos rfl,bW,if_pos (by simp),show idx ([c] ++ encS s:Str) 0=some c from rfl,Option.bind_some,if_neg hc,wJ,hq,Option.bind_some,if_neg (by simp)]
   unfold eP
   rw [nA c (by omega),Option.bind_some,show (1:Int)=((1:Nat):Int) from rfl,oQ _ 1 (by simp),Option.bind_some]
   rw [show ([c] ++ encS s).drop 1=encS s from rfl,ih]; simp
  | false =>
   obtain ⟨g1,g2,g3⟩:=zS c
   rw [if_neg (by simp),bW,if_pos (by simp),show idx ([37,kV (c.toNat / 16),kV (c.toNat % 16)] ++ encS s:Str) 0=some 37 from rfl,Option.bind_some,if_pos (by decide),if_neg (by simp; omega),show idx ([37,kV (c.toNat / 16),kV (c.toNat % 16)] ++ encS s:Str) 1=some (kV (c.toNat / 16)) from rfl,Option.bind_some,show gy n=gy 0 from rfl,g1,Option.bind_some,
    show idx ([37,kV (c.toNat / 16),kV (c.toNat % 16)] ++ encS s:Str) 2=some (kV (c.toNat % 16)) from rfl,Option.bind_some,g2,Option.bind_some,if_neg (by simp; omega)]
   cases hz:zl .i64 ((c.toNat / 16:Nat):Int) 4 with
   | none=>rw [hz] at g3; cases g3
   | some z =>
    rw [hz,Option.bind_some,Option.some.injEq] at g3
    rw [Option.bind_some,g3]
    unfold eP
    rw [nA c (by omega),Option.bind_some,show (3:Int)=((3:Nat):Int) from rfl,oQ _ 3 (by simp),Option.bind_some]
    rw [show ([37,kV (c.toNat / 16),kV (c.toNat % 16)] ++ encS s).drop 3=encS s from rfl,ih]; simp
theorem zB {n:Nat} (s:Str) (h:s.length < n) (h2:s.length ≤ 100000):jZ n (encS s)=some (s,true):=by
 unfold jZ
 have:=rU (n:=n) s [] n h (by simpa using h2)
 simpa using this
theorem rG {c:UInt8}:∀ (x:Str),(∀ b ∈ x,b ≠ c)→iP c x=[x]
 | [],_=>rfl
 | b :: x,h=>by
  rw [iP,if_neg (by simpa using h b List.mem_cons_self),rG x (fun y hy=>h y (List.mem_cons_of_mem _ hy))]
theorem tZ {c:UInt8}:∀ (x y:Str),(∀ b ∈ x,b ≠ c)→iP c (x ++ c :: y)=x :: iP c y
 | [],y,_=>by rw [List.nil_append,iP,if_pos (by simp)]
 | b :: x,y,h=>by
  rw [List.cons_append,iP,if_neg (by simpa using h b List.mem_cons_self),tZ x y (fun z hz=>h z (List.mem_cons_of_mem _ hz))]
theorem nY {c:UInt8}:∀ (x:Str) (l:List Str),(∀ y ∈ x :: l,∀ b ∈ y,b ≠ c)→iP c (Lib.join (x :: l) [c])=x :: l
 | x,[],h=>by rw [Lib.join_one]; exact rG x (h x List.mem_cons_self)
 | x,y :: l,h=>by
  have e:Lib.join (x :: y :: l) [c]=x ++ c :: Lib.join (y :: l) [c]:=by
   rw [Lib.join_cons,Lib.join_cons,Lib.joinTail,List.map_cons,List.flatten_cons]; simp [Lib.joinTail]
  rw [e,tZ x _ (h x List.mem_cons_self),nY y l (fun z hz=>h z (List.mem_cons_of_mem _ hz))]
theorem rE {c:UInt8} {m:Nat}:∀ (l:List Str),(∀ y ∈ l,y.length ≤ m)→(Lib.join l [c]).length ≤ (m + 1) * l.length
 | [],_=>by simp [Lib.join_nil]
 | [x],h=>by rw [Lib.join_one]; have:=h x List.mem_cons_self; simp; omega
 | x :: y :: l,h=>by
  have e:Lib.join (x :: y :: l) [c]=x ++ c :: Lib.join (y :: l) [c]:=by
   rw [Lib.join_cons,Lib.join_cons,Lib.joinTail,List.map_cons,List.flatten_cons]; simp [Lib.joinTail]
  have h1:=h x List.mem_cons_self
  have h2:=rE (c:=c) (y :: l) (fun z hz=>h z (List.mem_cons_of_mem _ hz))
  rw [e,List.length_append,List.length_cons,List.length_cons (a:=x),Nat.mul_add]; omega
def mU (p:List Str):Prop:=p.length ≤ 8∧∀ w ∈ p,w ≠ []∧w.length ≤ 64
def mf (p:List Str):Str:=Lib.join (p.map encS) [47]
theorem Bz {n:Nat} (hn:1000 ≤ n) (p:List Str) (h:p.length ≤ 50) (h2:∀ w ∈ p,w.length ≤ 64):iR n p=some (mf p):=by
 unfold iR
 have e:mf p=Lib.join (p.foldl (fun (acc:List Str) c=>acc ++ [encS c]) []) [47]:=by
  have:∀ (l acc:List Str),l.foldl (fun (acc:List Str) c=>acc ++ [encS c]) acc=acc ++ l.map encS:=by
   intro l
   induction l with
   | nil=>intro acc; simp
   | cons c l ih=>intro acc; rw [List.foldl_cons,ih,List.map_cons,List.append_assoc]; rfl
  simp [this,mf]
 rw [e,← vR (fin:=fun x:List Str=>Lib.join x [47]) (g:=fun (acc:List Str) c=>acc ++ [encS c]) (step:=fun c (acc:List Str)=>(Except.ok (acc ++ [encS c]):Except Str (List Str))) (fun x s=>rfl)]
 refine uO (f:=fun k a i=>bQ n p k a i) (fun rest (a:List Str)=>a.length + rest.length ≤ 50∧(∀ w ∈ rest,w.length ≤ 64)∧∀ w ∈ a,w.length ≤ 192) (fun x rest a a' hp he=>?_) (fun k a x rest i hi hx hp=>?_) (fun k a hp=>?_) (by omega) ⟨by simpa using h,h2,by simp⟩
 ·
  cases he
  obtain ⟨p1,p2,p3⟩:=hp
  refine ⟨by simp only [List.length_append,List.length_cons,List.length_nil] at p1 ⊢; omega,fun w hw=>p2 w (List.mem_cons_of_mem _ hw),fun w hw=>?_⟩
  rcases List.mem_append.1 hw with q | q
  ·
   exact p3 w q
  ·
   simp at q; subst q
   have:=tq x
   have:=p2 x List.mem_cons_self
   omega
 ·
  obtain ⟨p1,p2,p3⟩:=hp
  have hx2:=p2 x List.mem_cons_self
  simp only [List.length_cons] at p1
  show bQ n p (k + 1) a (i:Int)=bQ n p k (a ++ [encS x]) ((i + 1:Nat):Int)
  rw [bQ,if_pos (by rw [decide_eq_true_eq]; omega),hx,Option.bind_some,ze x (by omega) (by omega),Option.bind_some,fB (by rw [bnd]; simp; omega),Option.bind_some,A8 hi (by omega)]
 ·
  obtain ⟨p1,p2,p3⟩:=hp
  show bQ n p (k + 1) a _=_
  have hj:=rE (c:=47) a p3
  simp only [List.length_nil] at p1
  have hj2:(192 + 1) * a.length ≤ 193 * 50:=Nat.mul_le_mul_left _ (by omega)
  have:strings_Join n a [47]=some (Lib.join a [47]):=by
   unfold strings_Join
   rw [if_pos ⟨by rw [bnd]; omega,by rw [bnd]; omega⟩]
  rw [bQ,if_neg (by simp),this,Option.bind_some]
theorem zg {n:Nat} (hn:1000 ≤ n) (p:List Str) (h:mU p):gK n (mf p)=some (p,true):=by
 obtain ⟨h1,h2⟩:=h
 unfold gK
 cases p with
 | nil=>rw [if_pos (by simp [mf,Lib.join_nil])]
 | cons x p =>
  have hne:mf (x :: p) ≠ []:=by
   intro q
   have e:=nY (c:=47) (encS x) (p.map encS) (fun y hy b hb=>by
    rw [← List.map_cons,List.mem_map] at hy
    obtain ⟨z,_,rfl⟩:=hy
    exact sV z b hb)
   rw [mf,List.map_cons] at q
   rw [q] at e
   simp only [iP,List.cons.injEq] at e
   exact AY (h2 x List.mem_cons_self).1 e.1.symm
  have hs:strings_Split n (mf (x :: p)) [47]=some ((x :: p).map encS):=by
   have hj:=rE (c:=47) (m:=192) ((x :: p).map encS) (fun y hy=>by
    rw [List.mem_map] at hy
    obtain ⟨z,hz,rfl⟩:=hy
    have:=tq z
    have:=(h2 z hz).2
    omega)
   rw [List.length_map] at hj
   have hj2:(192 + 1) * (x :: p).length ≤ 193 * 8:=Nat.mul_le_mul_left _ h1
   show (if (mf (x :: p)).length ≤ 1000000 then some (iP 47 (mf (x :: p))) else none)=_
   rw [if_pos (by unfold mf; omega)]
   congr 1
   exact nY (c:=47) (encS x) (p.map encS) (fun y hy b hb=>by
    rw [← List.map_cons,List.mem_map] at hy
    obtain ⟨z,_,rfl⟩:=hy
    exact sV z b hb)
  rw [if_neg (by simpa using hne),hs,Option.bind_some]
  generalize hq:x :: p=q at h1 h2
  have key:∀ (rest done:List Str) (k:Nat),q=done ++ rest→rest.length < k→cB n (q.map encS) k done (done.length:Int)=some (q,true):=by
   intro rest
   induction rest with
   | nil =>
    intro done k e hk
    cases k with
    | zero=>omega
    | succ k =>
     rw [cB,if_neg (by rw [e]; simp),e]; simp
   | cons y rest ih =>
    intro done k e hk
    cases k with
    | zero=>omega
    | succ k =>
     have hlen:q.length=done.length + rest.length + 1:=by rw [e]; simp; omega
     have hy:=(h2 y (by rw [e]; simp))
     have hi:idx (q.map encS) (done.length:Int)=some (encS y):=by
      rw [e,List.map_append,List.map_cons]
      have:=iO (l:=done.map encS ++ encS y :: rest.map encS) (done:=done.map encS) (z:=encS y) (rest:=rest.map encS) rfl
      rw [List.length_map] at this; exact this
     rw [cB,if_pos (by rw [decide_eq_true_eq]; simp; omega),hi,Option.bind_some,zB y (by omega) (by omega),Option.bind_some,if_neg (by simp; omega),fB (by rw [bnd]; simp; omega),Option.bind_some,A8 (N:=q.length) (by omega) (by omega)]
     have:=ih (done ++ [y]) k (by rw [e]; simp) (by simp at hk; omega)
     simpa using this
  exact key q [] n rfl (by omega)
end Pr
end Go.Ev

namespace Go.Ev
namespace Pr
set_option linter.unusedVariables false
set_option linter.unusedSimpArgs false
def bS:List Seg→List Str→Option (List aG)
 | [],[]=>some []
 | [],_ :: _=>none
 | s :: l,p=>if s.Kind=3 then some [aG.mk s.Text (mf p)] else match p with
  | []=>if s.Kind=2 then some [] else none
  | w :: p'=>if s.Kind=0 then (if w=s.Text then bS l p' else none) else (bS l p').map (aG.mk s.Text w :: ·)
def uF (acc:List aG):Option (List aG)→List aG × Bool
 | some x=>(acc ++ x,true)
 | none=>([],false)
theorem zq (acc:List aG):uF acc none=([],false):=rfl
theorem uP (x:List aG):uF [] (some x)=(x,true):=rfl
theorem DY {α:Type} (w:α) (p:List α):cut (w :: p) 1 (((w :: p).length:Nat):Int)=some p:=by
 rw [show (1:Int)=((1:Nat):Int) from rfl,oQ _ 1 (by simp)]; rfl
theorem wB {n:Nat} (hn:1000 ≤ n) (a:List Seg) (ha:a.length ≤ 100):∀ (rest done:List Seg) (k:Nat) (p:List Str) (acc:List aG),a=done ++ rest→rest.length < k→p.length ≤ 50→(∀ w ∈ p,w.length ≤ 64)→acc.length ≤ done.length→bJ n a k p acc (done.length:Int)=some (uF acc (bS rest p))
 | [],done,k + 1,p,acc,h,hk,hp,hw,hacc=>by
  rw [bJ,if_neg (by rw [decide_eq_true_eq,h]; simp)]
  cases p with
  | nil=>rw [if_neg (by simp)]; simp [bS,uF]
  | cons w p=>rw [if_pos (by simp)]; simp [bS,uF]
 | s :: rest,done,k + 1,p,acc,h,hk,hp,hw,hacc=>by
  have hlen:a.length=done.length + rest.length + 1:=by rw [h]; simp; omega
  have hi:IntKind.wrap .i64 ((done.length:Int) + 1)=(((done ++ [s]).length:Nat):Int):=by rw [xP (by omega) (by omega)]; simp
  rw [bJ,if_pos (by rw [decide_eq_true_eq]; omega),iO h,Option.bind_some,bS.eq_def]
  simp only []
  by_cases h3:s.Kind=3
  ·
   rw [if_pos (by simpa using h3),if_pos h3,Bz hn p hp hw,Option.bind_some,fB (by rw [bnd]; simp; omega),Option.bind_some]; rfl
  ·
   rw [if_neg (by simpa using h3),if_neg h3]
   cases p with
   | nil =>
    rw [if_pos (by simp)]
    by_cases h2:s.Kind=2
    ·
     rw [if_pos (by simpa using h2),if_pos h2]; simp [uF]
    ·
     rw [if_neg (by simpa using h2),if_neg h2]; rfl
   | cons w p =>
    simp only []
    rw [if_neg (by simp; omega),show idx (w :: p) 0=some w from rfl,Option.bind_some,DY,Option.bind_some]
    unfold dU
    by_cases h0:s.Kind=0
    ·
     rw [if_neg (by simp [h0]),if_pos h0]
     by_cases he:w=s.Text
     ·
      rw [if_neg (by simp [he]),if_pos he,hi]
      exact wB hn a ha rest (done ++ [s]) k p acc (by rw [h]; simp) (by simp at hk; omega) (by simp at hp; omega) (fun x hx=>hw x (List.mem_cons_of_mem _ hx)) (by simp; omega)
     ·
      rw [if_pos (by simpa using he),if_neg he]; rfl
    ·
     rw [if_pos (by simpa using h0),if_neg h0,fB (by rw [bnd]; simp; omega),Option.bind_some,hi]
     rw [wB hn a ha rest (done ++ [s]) k p (acc ++ [aG.mk s.Text w]) (by rw [h]; simp) (by simp at hk; omega) (by simp at hp; omega) (fun x hx=>hw x (List.mem_cons_of_mem _ hx)) (by simp; omega)]
     cases bS rest p with
     | none=>rfl
     | some x=>simp [uF]
def lL (l:List Seg) (p:List Str):Option (List aG):=if kL l=true then bS l p else none
theorem tX {n:Nat} (hn:1000 ≤ n) (l:List Seg) (p:List Str) (hp:p.length ≤ 50) (hw:∀ w ∈ p,w.length ≤ 64):eu n l p=some (uF [] (lL l p)):=by
 unfold eu lL
 rw [rO (by omega),Option.bind_some]
 cases hr:kL l with
 | false=>simp [uF]
 | true =>
  have hl:=((iy l).1 hr).1
  rw [if_neg (by simp),if_pos rfl]
  exact wB hn l (by omega) l [] n p [] rfl (by omega) hp hw (by simp)
def dA (ps:List aG) (name:Str):Option Str:=(ps.find? (fun q=>q.Name == name)).map (·.Value)
theorem xC {n:Nat} (ps:List aG) (name:Str) (h:ps.length < n) (h2:ps.length ≤ 100000):gz n ps name=some ((dA ps name).getD [],(dA ps name).isSome):=by
 have key:∀ (rest done:List aG) (k:Nat),ps=done ++ rest→rest.length < k→dY (lh.mk [] ps) name k (done.length:Int)=some ((dA rest name).getD [],(dA rest name).isSome):=by
  intro rest
  induction rest with
  | nil =>
   intro done k e hk
   cases k with
   | zero=>omega
   | succ k=>rw [dY,if_neg (by simp [e])]; rfl
  | cons q rest ih =>
   intro done k e hk
   cases k with
   | zero=>omega
   | succ k =>
    have hlen:ps.length=done.length + rest.length + 1:=by rw [e]; simp; omega
    rw [dY,if_pos (by rw [decide_eq_true_eq]; show (done.length:Int) < (ps.length:Int); omega),show (lh.mk [] ps).Query=ps from rfl,iO e,Option.bind_some]
    unfold dA at ih ⊢
    rw [List.find?_cons]
    cases hq:(q.Name == name) with
    | true=>rw [if_pos rfl]; rfl
    | false =>
     rw [if_neg (by simp),A8 (N:=ps.length) (by omega) (by omega)]
     have:=ih (done ++ [q]) k (by rw [e]; simp) (by simp at hk; omega)
     simpa using this
 unfold gz rD
 rw [show dY (lh.mk [] ps) name n 0=_ from key ps [] n rfl h]; rfl
theorem iG (q:aG) (ps:List aG) (name:Str):dA (q :: ps) name=if q.Name=name then some q.Value else dA ps name:=by
 unfold dA
 rw [List.find?_cons]
 by_cases h:q.Name=name
 ·
  rw [if_pos h]; simp [h]
 ·
  rw [if_neg h]
  have:(q.Name == name)=false:=by simpa using h
  rw [this]
theorem qB {ps:List aG} {name:Str} (h:∀ q ∈ ps,q.Name ≠ name):dA ps name=none:=by
 unfold dA
 rw [Option.map_eq_none_iff,List.find?_eq_none]
 intro q hq; simpa using h q hq
def Once (ps:List aG):Prop:=ps.Pairwise (fun a b=>a.Name ≠ b.Name)
theorem j3:∀ {ps:List aG},Once ps→∀ {q:aG},q ∈ ps→dA ps q.Name=some q.Value
 | [],_,q,h=>by cases h
 | p :: ps,ho,q,h=>by
  rw [iG]
  unfold Once at ho
  rw [List.pairwise_cons] at ho
  rcases List.mem_cons.1 h with rfl | h
  ·
   rw [if_pos rfl]
  ·
   rw [if_neg (ho.1 q h)]; exact j3 ho.2 h
theorem nV (a b:List aG) (name:Str):dA (a ++ b) name=(dA a name).or (dA b name):=by
 unfold dA
 rw [List.find?_append]
 cases a.find? (fun q=>q.Name == name) <;> simp
theorem Once.perm {a b:List aG} (h:Once a) (p:a.Perm b):Once b:=(p.pairwise_iff (fun h=>Ne.symm h)).1 h
theorem qL {a b:List aG} (h:Once a) (p:a.Perm b) (name:Str):dA b name=dA a name:=by
 by_cases hq:∃ q ∈ a,q.Name=name
 ·
  obtain ⟨q,h1,rfl⟩:=hq
  rw [j3 h h1,j3 (h.perm p) (p.subset h1)]
 ·
  have h1:∀ q ∈ a,q.Name ≠ name:=fun q hm e=>hq ⟨q,hm,e⟩
  rw [qB h1,qB (fun q hm=>h1 q (p.symm.subset hm))]
theorem mM:∀ {l:List Seg} {p:List Str} {x:List aG},bS l p=some x→∀ q ∈ x,∃ s ∈ l,s.Kind ≠ 0∧s.Text=q.Name
 | [],[],x,h,q,hq=>by simp [bS] at h; subst h; cases hq
 | [],_ :: _,x,h,q,hq=>by simp [bS] at h
 | s :: l,p,x,h,q,hq=>by
  rw [bS.eq_def] at h
  simp only [] at h
  by_cases h3:s.Kind=3
  ·
   rw [if_pos h3] at h
   cases h
   simp at hq; subst hq
   exact ⟨s,List.mem_cons_self,by omega,rfl⟩
  ·
   rw [if_neg h3] at h
   cases p with
   | nil =>
    simp only [] at h
    split at h
    ·
     cases h; cases hq
    ·
     cases h
   | cons w p =>
    simp only [] at h
    by_cases h0:s.Kind=0
    ·
     rw [if_pos h0] at h
     split at h
     ·
      obtain ⟨t,a,b⟩:=mM h q hq
      exact ⟨t,List.mem_cons_of_mem _ a,b⟩
     ·
      cases h
    ·
     rw [if_neg h0] at h
     cases hm:bS l p with
     | none=>rw [hm] at h; cases h
     | some y =>
      rw [hm] at h; cases h
      rcases List.mem_cons.1 hq with rfl | hq
      ·
       exact ⟨s,List.mem_cons_self,h0,rfl⟩
      ·
       obtain ⟨t,a,b⟩:=mM hm q hq
       exact ⟨t,List.mem_cons_of_mem _ a,b⟩
theorem lY:∀ {l:List Seg} {p:List Str} {x:List aG},Names l→bS l p=some x→Once x
 | [],[],x,_,h=>by simp [bS] at h; subst h; exact .nil
 | [],_ :: _,x,_,h=>by simp [bS] at h
 | s :: l,p,x,hn,h=>by
  rw [bS.eq_def] at h
  simp only [] at h
  unfold Names at hn
  rw [List.pairwise_cons] at hn
  by_cases h3:s.Kind=3
  ·
   rw [if_pos h3] at h; cases h; exact .cons (fun _ h=>by cases h) .nil
  ·
   rw [if_neg h3] at h
   cases p with
   | nil =>
    simp only [] at h
    split at h
    ·
     cases h; exact .nil
    ·
     cases h
   | cons w p =>
    simp only [] at h
    by_cases h0:s.Kind=0
    ·
     rw [if_pos h0] at h
     split at h
     ·
      exact lY hn.2 h
     ·
      cases h
    ·
     rw [if_neg h0] at h
     cases hm:bS l p with
     | none=>rw [hm] at h; cases h
     | some y =>
      rw [hm] at h; cases h
      refine .cons (fun q hq=>?_) (lY hn.2 hm)
      obtain ⟨t,a,b,c⟩:=mM hm q hq
      intro e
      exact hn.1 t a ⟨h0,b,by rw [c]; exact e⟩
theorem zZ {n:Nat} (hn:1000 ≤ n) (a:List Seg) (ha:a.length ≤ 100) (ps:List aG) (hps:ps.length ≤ 100):∀ (rest done:List Seg) (k:Nat) (acc p:List Str) (x:List aG),a=done ++ rest→rest.length < k→acc.length ≤ done.length→mU p→(∀ s ∈ rest,0 ≤ s.Kind∧s.Kind ≤ 3) →
  (∀ pre s post,rest=pre ++ s :: post→2 ≤ s.Kind→post=[])→Names rest→bS rest p=some x→(∀ s ∈ rest,s.Kind ≠ 0→dA ps s.Text=dA x s.Text)→aV n a ps k acc (done.length:Int)=some (acc ++ p,true)
 | [],done,k + 1,acc,p,x,h,hk,hacc,hp,hkd,hlast,hnm,hm,hv=>by
  rw [aV,if_neg (by rw [decide_eq_true_eq,h]; simp)]
  cases p with
  | nil=>simp
  | cons w p=>simp [bS] at hm
 | s :: rest,done,k + 1,acc,p,x,h,hk,hacc,hp,hkd,hlast,hnm,hm,hv=>by
  have hlen:a.length=done.length + rest.length + 1:=by rw [h]; simp; omega
  have hi:IntKind.wrap .i64 ((done.length:Int) + 1)=(((done ++ [s]).length:Nat):Int):=by rw [xP (by omega) (by omega)]; simp
  have hks:=hkd s List.mem_cons_self
  have hnm':=hnm
  unfold Names at hnm'
  rw [List.pairwise_cons] at hnm'
  have next:∀ (acc' p':List Str) (x':List aG),acc'.length ≤ done.length + 1→mU p'→bS rest p'=some x'→(∀ t ∈ rest,t.Kind ≠ 0→dA ps t.Text=dA x' t.Text)→aV n a ps k acc' (((done ++ [s]).length:Nat):Int)=some (acc' ++ p',true):=fun acc' p' x' h1 h2 h3 h4 =>
   zZ hn a ha ps hps rest (done ++ [s]) k acc' p' x' (by rw [h]; simp) (by simp at hk; omega) (by simpa using h1) h2 (fun t ht=>hkd t (List.mem_cons_of_mem _ ht)) (fun pre t post e=>hlast (s :: pre) t post (by rw [e]; rfl)) hnm'.2 h3 h4
  rw [bS.eq_def] at hm
  simp only [] at hm
  rw [aV,if_pos (by rw [decide_eq_true_eq]; omega),iO h,Option.bind_some,xC ps _ (by omega) (by omega),Option.bind_some]
  unfold dm
  rw [hi]
  by_cases h3:s.Kind=3
  ·
   rw [if_pos h3] at hm; cases hm
   have hv0:=hv s List.mem_cons_self (by omega)
   rw [iG,if_pos rfl] at hv0
   have hr:rest=[]:=hlast [] s rest rfl (by omega)
   subst hr
   rw [if_neg (by simp [h3]),if_neg (by simp [h3]),if_neg (by simp [h3]),hv0]
   simp only [Option.getD_some,Option.isSome_some]
   rw [zg hn p hp,Option.bind_some,if_neg (by simp),fB (by have:=hp.1; show (acc.length + p.length) * 16 ≤ bound; rw [bnd]; omega),Option.bind_some]
   have:=hp.1
   cases k with
   | zero=>simp at hk
   | succ k=>rw [aV,if_neg (by rw [decide_eq_true_eq,h]; simp)]
  ·
   rw [if_neg h3] at hm
   cases p with
   | nil =>
    simp only [] at hm
    by_cases h2:s.Kind=2
    ·
     rw [if_pos h2] at hm; cases hm
     have hv0:=hv s List.mem_cons_self (by omega)
     rw [show dA [] s.Text=none from rfl] at hv0
     have hr:rest=[]:=hlast [] s rest rfl (by omega)
     subst hr
     rw [if_neg (by simp [h2]),if_neg (by simp [h2]),if_pos (by simp [h2]),hv0,if_neg (by simp)]
     cases k with
     | zero=>simp at hk
     | succ k=>rw [aV,if_neg (by rw [decide_eq_true_eq,h]; simp)]; simp
    ·
     rw [if_neg h2] at hm; cases hm
   | cons w p =>
    simp only [] at hm
    have hp':mU p:=⟨by have:=hp.1; simp at this; omega,fun y hy=>hp.2 y (List.mem_cons_of_mem _ hy)⟩
    by_cases h0:s.Kind=0
    ·
     rw [if_pos h0] at hm
     by_cases he:w=s.Text
     ·
      rw [if_pos he] at hm
      rw [if_pos (by simp [h0]),fB (by rw [bnd]; simp; omega),Option.bind_some]
      rw [next (acc ++ [s.Text]) p x (by simp; omega) hp' hm (fun t ht hk'=>hv t (List.mem_cons_of_mem _ ht) hk'),he]; simp
     ·
      rw [if_neg he] at hm; cases hm
    ·
     rw [if_neg h0] at hm
     cases hmm:bS rest p with
     | none=>rw [hmm] at hm; cases hm
     | some y =>
      rw [hmm] at hm; cases hm
      have hv0:=hv s List.mem_cons_self h0
      rw [iG,if_pos rfl] at hv0
      have hv1:∀ t ∈ rest,t.Kind ≠ 0→dA ps t.Text=dA y t.Text:=fun t ht hk'=>by
       have:=hv t (List.mem_cons_of_mem _ ht) hk'
       rw [iG,if_neg (fun e=>hnm'.1 t ht ⟨h0,hk',e⟩)] at this
       exact this
      rw [if_neg (by simpa using h0),hv0]
      have fin:=next (acc ++ [w]) p y (by simp; omega) hp' hmm hv1
      by_cases h1:s.Kind=1
      ·
       rw [if_pos (by simpa using h1),if_neg (by simp),Option.getD_some,fB (by rw [bnd]; simp; omega),Option.bind_some,fin]; simp
      ·
       rw [if_neg (by simpa using h1),if_pos (by simp; omega),if_pos (by simp),Option.getD_some,fB (by rw [bnd]; simp; omega),Option.bind_some,fin]; simp
theorem Bg {n:Nat} (hn:1000 ≤ n) (p:List Str) (h:mU p):ll n (lh.mk p [])=some true:=by
 obtain ⟨h1,h2⟩:=h
 unfold ll
 rw [if_neg (by simp; omega)]
 have key:∀ (rest done:List Str) (k:Nat),p=done ++ rest→rest.length < k→dP n (lh.mk p []) k (done.length:Int)=some true:=by
  intro rest
  induction rest with
  | nil =>
   intro done k e hk
   cases k with
   | zero=>omega
   | succ k =>
    obtain ⟨m,rfl⟩:∃ m,n=m + 1:=⟨n - 1,by omega⟩
    rw [dP,if_neg (by simp [e]),fD,if_neg (by simp)]
  | cons y rest ih =>
   intro done k e hk
   cases k with
   | zero=>omega
   | succ k =>
    have hlen:p.length=done.length + rest.length + 1:=by rw [e]; simp; omega
    obtain ⟨q1,q2⟩:=h2 y (by rw [e]; simp)
    have q3:1 ≤ y.length:=by cases y with | nil=>exact absurd rfl q1 | cons _ _=>simp
    have ht:jQ n y 1=some true:=by unfold jQ; congr 1; simp; omega
    rw [dP,if_pos (by rw [decide_eq_true_eq]; show (done.length:Int) < (p.length:Int); omega),show (lh.mk p []).Path=p from rfl,iO e,Option.bind_some,ht,Option.bind_some,if_neg (by simp),A8 (N:=p.length) (by omega) (by omega)]
    have:=ih (done ++ [y]) k (by rw [e]; simp) (by simp at hk; omega)
    simpa using this
 exact key p [] n rfl (by omega)
def nz (a b:List aG):Bool:=a.length == b.length && a.all (fun q=>dA b q.Name == some q.Value)
theorem zY {n:Nat} (a b:List aG) (ha:a.length < n) (hb:b.length < n) (ha2:a.length ≤ 100000) (hb2:b.length ≤ 100000):ig n a b=some (nz a b):=by
 unfold ig nz
 by_cases h:a.length=b.length
 ·
  have e:(a.length == b.length)=true:=by simpa using h
  rw [if_neg (by simp; omega),e,Bool.true_and]
  have key:∀ (rest done:List aG) (k:Nat),a=done ++ rest→rest.length < k→df n a b k (done.length:Int)=some (rest.all (fun q=>dA b q.Name == some q.Value)):=by
   intro rest
   induction rest with
   | nil =>
    intro done k e hk
    cases k with
    | zero=>omega
    | succ k=>rw [df,if_neg (by simp [e])]; rfl
   | cons q rest ih =>
    intro done k e hk
    cases k with
    | zero=>omega
    | succ k =>
     have hlen:a.length=done.length + rest.length + 1:=by rw [e]; simp; omega
     rw [df,if_pos (by rw [decide_eq_true_eq]; omega),iO e,Option.bind_some,xC b _ hb hb2,Option.bind_some,List.all_cons]
     cases hv:dA b q.Name with
     | none=>rw [if_pos (by simp)]; simp
     | some v =>
      by_cases hvq:v=q.Value
      ·
       rw [if_neg (by simp [hvq]),A8 (N:=a.length) (by omega) (by omega)]
       have:=ih (done ++ [q]) k (by rw [e]; simp) (by simp at hk; omega)
       simp only [List.length_append,List.length_cons,List.length_nil,Nat.zero_add] at this
       rw [this,hvq]; simp
      ·
       rw [if_pos (by simpa using hvq)]
       have:(some v == some q.Value)=false:=by simpa using hvq
       rw [this]; simp
  exact key a [] n rfl ha
 ·
  have e:(a.length == b.length)=false:=by simpa using h
  rw [if_pos (by simp; omega),e]; rfl
theorem lN {n:Nat} (hn:1000 ≤ n) {l:List Seg} {p:List Str} {x ps:List aG} (hp:mU p) (hm:lL l p=some x) (hps:ps.length ≤ 100) (hv:∀ s ∈ l,s.Kind ≠ 0→dA ps s.Text=dA x s.Text):dD n l ps=some (if nz x ps=true then (p,true) else ([],false)):=by
 unfold lL at hm
 by_cases hr:kL l=true
 ·
  rw [if_pos hr] at hm
  obtain ⟨r1,r2,r3,r4⟩:=(iy l).1 hr
  have hxl:x.length ≤ l.length:=by
   clear hv hp hps r1 r2 r3 r4 hr
   induction l generalizing p x with
   | nil=>cases p <;> simp [bS] at hm; subst hm; simp
   | cons s l ih =>
    rw [bS.eq_def] at hm
    simp only [] at hm
    split at hm
    ·
     cases hm; simp
    ·
     cases p with
     | nil=>simp only [] at hm; split at hm <;> cases hm; simp
     | cons w p =>
      simp only [] at hm
      split at hm
      ·
       split at hm
       ·
        have:=ih hm; simp; omega
       ·
        cases hm
      ·
       cases hq:bS l p with
       | none=>rw [hq] at hm; cases hm
       | some y=>rw [hq] at hm; cases hm; have:=ih hq; simp; omega
  have hpath:iY n l ps=some (p,true):=by
   unfold iY
   have:=zZ hn l (by omega) ps hps l [] n [] p x rfl (by omega) (by simp) hp (fun s hs=>(r2 s hs).2) r3 r4 hm hv
   simpa using this
  unfold dD
  rw [rO (by omega),hr,Option.bind_some,if_neg (by simp),hpath,Option.bind_some,if_neg (by simp),Bg hn p hp,Option.bind_some,Option.bind_some,if_neg (by simp),tX hn l p (by have:=hp.1; omega) (fun w hw=>(hp.2 w hw).2),Option.bind_some]
  unfold lL
  rw [if_pos hr,hm]
  simp only [uF,List.nil_append,Bool.not_true]
  rw [if_neg (by simp),zY x ps (by omega) (by omega) (by omega) (by omega),Option.bind_some,Option.bind_some]
  cases nz x ps <;> simp
 ·
  rw [if_neg hr] at hm; cases hm
theorem sF {x ps:List aG} (h:Once x) (p:x.Perm ps):nz x ps=true:=by
 unfold nz
 rw [Bool.and_eq_true,beq_iff_eq,List.all_eq_true]
 refine ⟨p.length_eq,fun q hq=>?_⟩
 rw [qL h p,j3 h hq]; simp
theorem u6 {x ps:List aG} (h:x.length ≠ ps.length):nz x ps=false:=by
 unfold nz
 have:(x.length == ps.length)=false:=by simpa using h
 rw [this]; rfl
end Pr
end Go.Ev

namespace Go.Ev
namespace Pr
set_option linter.unusedVariables false
set_option linter.unusedSimpArgs false
theorem iE (n:Nat) (a lo hi:Int) (h1:lo ≤ hi) (h2:-1000000000000 ≤ lo) (h3:hi ≤ 1000000000000000):∃ r,bE n a lo hi=some r∧lo ≤ r∧r ≤ hi:=by
 unfold bE
 rw [xP (n:=hi - lo) (by omega) (by omega),xP (by omega) (by omega),vK (by omega),Option.bind_some]
 have k1:=Int.tmod_lt_of_pos a (show 0 < hi - lo + 1 by omega)
 have k2:=Int.lt_tmod_of_pos a (show 0 < hi - lo + 1 by omega)
 unfold dn
 by_cases hz:a.tmod (hi - lo + 1) < 0
 ·
  rw [if_pos (by simpa using hz)]
  rw [xP (n:=a.tmod (hi - lo + 1) + hi) (by omega) (by omega),xP (n:=a.tmod (hi - lo + 1) + hi - lo) (by omega) (by omega),xP (n:=a.tmod (hi - lo + 1) + hi - lo + 1) (by omega) (by omega),xP (by omega) (by omega)]
  exact ⟨_,rfl,by omega,by omega⟩
 ·
  rw [if_neg (by simpa using hz),xP (by omega) (by omega)]
  exact ⟨_,rfl,by omega,by omega⟩
theorem y8 (n:Nat) (l:List Int) (i:Int) (h:0 ≤ i):∃ r,eG n l i=some r:=by
 unfold eG
 by_cases h0:l.length=0
 ·
  rw [if_pos (by simp; exact List.eq_nil_of_length_eq_zero h0)]; exact ⟨_,rfl⟩
 ·
  rw [if_neg (by simp; intro q; exact h0 (by rw [q]; rfl)),vK (by omega),Option.bind_some]
  have hp:(0:Int) < (l.length:Int):=by omega
  obtain ⟨x,hx,_⟩:=mY l (i:=i.tmod l.length) (Int.tmod_nonneg _ h) (Int.tmod_lt_of_pos _ hp)
  exact ⟨x,by rw [hx]; rfl⟩
theorem Ci {a b:Str} (h:a.length + b.length ≤ 100000):cat a b=some (a ++ b):=by unfold cat; rw [if_pos (by omega)]
def AB:List Str:=[[97],[98],[105,116,101,109],[122],[49],[108,105,115,116]]
def pn (i:Int):Str:=[112] ++ ([(IntKind.wrap .u8 (IntKind.wrap .i64 (48 + i)))]).map fun (n:Int)=>UInt8.ofNat n.toNat
def vk:Str:=[108,97,115,116]
def yZ:Str:=[110,111,110,101]
def wu (i:Nat) (s:Seg):Prop:=s.Kind=0∧s.Text ∈ AB∨s.Kind=1∧s.Text=pn (i:Int)
def Body (l:List Seg):Prop:=∀ (i:Nat) (s:Seg),l[i]? = some s→wu i s
structure tT (l:List Seg):Prop where
 sp:∃ b t,l=b ++ t∧b.length ≤ 4∧Body b∧(t=[]∨∃ k,(k=2∨k=3)∧t=[Seg.mk k vk])
theorem Body.snoc {l:List Seg} (h:Body l) {s:Seg} (hs:wu l.length s):Body (l ++ [s]):=fun i x hx=>by
 by_cases q:i < l.length
 ·
  rw [List.getElem?_append_left q] at hx; exact h i x hx
 ·
  rw [List.getElem?_append_right (by omega)] at hx
  have:i - l.length=0:=by
   have:=(List.getElem?_eq_some_iff.1 hx).1
   simp at this; omega
  rw [this] at hx
  simp at hx; subst hx
  rw [show i=l.length by omega]; exact hs
theorem zO {n:Nat} (a:bT):∀ (r i k:Nat) (l:List Seg),i + r=min a.Kinds.length 4→r < k→l.length=i→Body l→∃ l',aI n a k l (i:Int)=some l'∧tT l'
 | 0,i,k + 1,l,hi,hk,hl,hb=>by
  rw [aI,if_neg (by simp only [Bool.and_eq_true,decide_eq_true_eq]; omega)]
  obtain ⟨z,hz,z1,z2⟩:=iE n a.Last 0 5 (by omega) (by omega) (by omega)
  rw [hz,Option.bind_some]
  unfold bR
  by_cases c:((z == 2) || (z == 3))=true
  ·
   rw [if_pos c,fB (by rw [bnd]; simp; omega),Option.bind_some]
   simp only [Bool.or_eq_true,beq_iff_eq] at c
   exact ⟨_,rfl,⟨l,[Seg.mk z vk],rfl,by omega,hb,.inr ⟨z,c,rfl⟩⟩⟩
  ·
   rw [if_neg c]
   exact ⟨_,rfl,⟨l,[],by simp,by omega,hb,.inl rfl⟩⟩
 | r + 1,i,k + 1,l,hi,hk,hl,hb=>by
  have hii:i < a.Kinds.length:=by omega
  have h4:i < 4:=by omega
  obtain ⟨z,hz,z1,z2⟩:=iE n a.Kinds[i] 0 1 (by omega) (by omega) (by omega)
  obtain ⟨p,hp⟩:=y8 n a.Texts (i:Int) (by omega)
  have h6:IntKind.wrap .i64 ((([[97],[98],[105,116,101,109],[122],[49],[108,105,115,116]]:List Str).length:Int) - 1)=5:=by rw [xP (by simp) (by simp)]; rfl
  obtain ⟨y,hy,y1,y2⟩:=iE n p 0 5 (by omega) (by omega) (by omega)
  obtain ⟨t,ht,ht2,_⟩:=mY ([[97],[98],[105,116,101,109],[122],[49],[108,105,115,116]]:List Str) (i:=y) y1 (by simp; omega)
  rw [aI,if_pos (by simp only [Bool.and_eq_true,decide_eq_true_eq]; omega),nD,List.getElem?_eq_getElem hii,Option.bind_some,hz,Option.bind_some,hp,Option.bind_some,h6,hy,Option.bind_some,ht,Option.bind_some]
  have step:∀ x:Str,wu i (Seg.mk z x)→∃ l',bD l (i:Int) (aI n a k) z t x=some l'∧tT l':=fun x hx=>by
   unfold bD
   rw [fB (by rw [bnd]; simp; omega),Option.bind_some,A8 (N:=4) h4 (by omega)]
   exact zO a r (i + 1) k _ (by omega) (by omega) (by simp [hl]) (hb.snoc (by rw [hl]; exact hx))
  by_cases c:z=1
  ·
   rw [if_pos (by simpa using c),Ci (by simp),Option.bind_some]
   exact step _ (.inr ⟨c,rfl⟩)
  ·
   rw [if_neg (by simpa using c)]
   exact step _ (.inl ⟨by show z=0; omega,ht2⟩)
theorem Bf {n:Nat} (hn:10 ≤ n) (a:bT):∃ l,dx n a=some l∧tT l:=by
 unfold dx
 exact zO a (min a.Kinds.length 4) 0 n [] (by omega) (by omega) rfl (fun i s h=>by simp at h)
set_option maxRecDepth 100000 in
theorem wZ:∀ t ∈ AB,jv t=true:=by decide +kernel
set_option maxRecDepth 100000 in
theorem Ag:∀ i ∈ List.range 5,jv (pn (i:Int))=true∧pn (i:Int) ≠ yZ∧pn (i:Int) ≠ vk:=by decide +kernel
set_option maxRecDepth 100000 in
theorem sH:jv vk=true∧vk ≠ yZ:=by decide +kernel
theorem BM {a b:Nat} (ha:a < 5) (hb:b < 5) (h:pn (a:Int)=pn (b:Int)):a=b:=by
 have key:∀ i ∈ List.range 5,∀ j ∈ List.range 5,pn (i:Int)=pn (j:Int)→i=j:=by decide +kernel
 exact key a (List.mem_range.2 ha) b (List.mem_range.2 hb) h
theorem tT.right {l:List Seg} (h:tT l):kL l=true∧l.length ≤ 5∧∀ s ∈ l,s.Kind ≠ 0→s.Text ≠ yZ:=by
 obtain ⟨b,t,rfl,hb,hB,ht⟩:=h.sp
 have hbs:∀ s ∈ b,∃ i,i < 4∧b[i]? = some s∧wu i s:=fun s hs=>by
  obtain ⟨i,hi⟩:=List.getElem?_of_mem hs
  have:=(List.getElem?_eq_some_iff.1 hi).1
  exact ⟨i,by omega,hi,hB i s hi⟩
 have hlow:∀ s ∈ b,jv s.Text=true∧0 ≤ s.Kind∧s.Kind < 2∧(s.Kind ≠ 0→s.Text ≠ yZ∧s.Text ≠ vk):=fun s hs=>by
  obtain ⟨i,h1,h2,h3⟩:=hbs s hs
  rcases h3 with ⟨k,q⟩ | ⟨k,q⟩
  ·
   exact ⟨wZ _ q,by omega,by omega,fun x=>absurd k x⟩
  ·
   have:=Ag i (List.mem_range.2 (by omega))
   exact ⟨by rw [q]; exact this.1,by omega,by omega,fun _=>by rw [q]; exact this.2⟩
 have hnb:Names b:=by
  refine List.pairwise_iff_getElem.2 (fun i j hi hj hij=>?_)
  rintro ⟨k1,k2,k3⟩
  have e1:=hB i b[i] (List.getElem?_eq_getElem hi)
  have e2:=hB j b[j] (List.getElem?_eq_getElem hj)
  rcases e1 with ⟨e1,_⟩ | ⟨_,e1⟩
  ·
   exact k1 e1
  ·
   rcases e2 with ⟨e2,_⟩ | ⟨_,e2⟩
   ·
    exact k2 e2
   ·
    rw [e1,e2] at k3
    have:=BM (by omega) (by omega) k3
    omega
 rcases ht with rfl | ⟨k,hk,rfl⟩
 ·
  rw [List.append_nil]
  refine ⟨(iy b).2 ⟨by omega,fun s hs=>⟨(hlow s hs).1,(hlow s hs).2.1,by have:=(hlow s hs).2.2.1; omega⟩,fun pre x post e hx=>?_,hnb⟩,by omega,fun s hs hx=>((hlow s hs).2.2.2 hx).1⟩
  have:=(hlow x (by rw [e]; simp)).2.2.1; omega
 ·
  refine ⟨(iy _).2 ⟨by simp; omega,fun s hs=>?_,fun pre x post e hx=>?_,?_⟩,by simp; omega,fun s hs hx=>?_⟩
  ·
   rcases List.mem_append.1 hs with hs | hs
   ·
    exact ⟨(hlow s hs).1,(hlow s hs).2.1,by have:=(hlow s hs).2.2.1; omega⟩
   ·
    simp at hs; subst hs
    exact ⟨sH.1,by show 0 ≤ k; omega,by show k ≤ 3; omega⟩
  ·
   rcases List.append_eq_append_iff.1 e with ⟨c,h1,h2⟩ | ⟨c,h1,h2⟩
   ·
    cases c with
    | nil=>simp at h2; exact h2.2
    | cons y c=>simp at h2
   ·
    cases c with
    | nil=>simp at h2; exact h2.2
    | cons y c =>
     simp only [List.cons_append,List.cons.injEq] at h2
     have:=(hlow x (by rw [h1,h2.1]; simp)).2.2.1; omega
  ·
   refine List.pairwise_append.2 ⟨hnb,by simp,fun s hs t ht=>?_⟩
   simp at ht; subst ht
   rintro ⟨k1,k2,k3⟩
   exact ((hlow s hs).2.2.2 k1).2 k3
  ·
   rcases List.mem_append.1 hs with hs | hs
   ·
    exact ((hlow s hs).2.2.2 hx).1
   ·
    simp at hs; subst hs; exact sH.2
def dw:List Str:=[[97],[98],[105,116,101,109],[120,32,121],[37],[97,47,98],[46,46],[122],[49],[108,105,115,116],[255],[63,61,38]]
theorem jX:∀ w ∈ dw,w ≠ []∧w.length ≤ 64:=by decide
theorem yE {s:Str} (h:jv s=true):s ≠ []∧s.length ≤ 64:=by
 unfold jv at h
 simp only [Bool.and_eq_true,Bool.not_eq_true',beq_eq_false_iff_ne,decide_eq_true_eq] at h
 exact ⟨h.1.1,by omega⟩
theorem BD {n:Nat} (a:fE) (p:List Str):∀ (r i k:Nat) (q:List aG),i + r=min a.Names.length 3→r < k→q.length=i→∃ u,bq n a dw p k q (i:Int)=some u∧u.Path=p
 | 0,i,k + 1,q,hi,hk,hl=>by
  rw [bq,if_neg (by simp only [Bool.and_eq_true,decide_eq_true_eq]; omega)]
  exact ⟨_,rfl,rfl⟩
 | r + 1,i,k + 1,q,hi,hk,hl=>by
  have hii:i < a.Names.length:=by omega
  have h12:IntKind.wrap .i64 ((dw.length:Int) - 1)=11:=by decide
  obtain ⟨z,hz,z1,z2⟩:=iE n a.Names[i] 0 11 (by omega) (by omega) (by omega)
  obtain ⟨t,ht,_,_⟩:=mY dw (i:=z) z1 (by simp [dw]; omega)
  obtain ⟨v,hv⟩:=y8 n a.Values (i:Int) (by omega)
  obtain ⟨y,hy,y1,y2⟩:=iE n v 0 11 (by omega) (by omega) (by omega)
  obtain ⟨s,hs,_,_⟩:=mY dw (i:=y) y1 (by simp [dw]; omega)
  rw [bq,if_pos (by simp only [Bool.and_eq_true,decide_eq_true_eq]; omega),nD,List.getElem?_eq_getElem hii,Option.bind_some,h12,hz,Option.bind_some,ht,Option.bind_some,hv,Option.bind_some,hy,Option.bind_some,hs,Option.bind_some,fB (by rw [bnd]; simp; omega),Option.bind_some,A8 (N:=3) (by omega) (by omega)]
  exact BD a p r (i + 1) k _ (by omega) (by omega) (by simp [hl])
theorem BG {n:Nat} (hn:10 ≤ n) (a:fE):∀ (r i k:Nat) (p:List Str),i + r=min a.Path.length 5→r < k→p.length=i→(∀ w ∈ p,w ∈ dw)→∃ u,bz n a dw k p (i:Int)=some u∧u.Path.length ≤ 5∧∀ w ∈ u.Path,w ∈ dw
 | 0,i,k + 1,p,hi,hk,hl,hw=>by
  rw [bz,if_neg (by simp only [Bool.and_eq_true,decide_eq_true_eq]; omega)]
  obtain ⟨u,h1,h2⟩:=BD (n:=n) a p (min a.Names.length 3) 0 n [] (by omega) (by omega) rfl
  exact ⟨u,h1,by rw [h2]; omega,by rw [h2]; exact hw⟩
 | r + 1,i,k + 1,p,hi,hk,hl,hw=>by
  have hii:i < a.Path.length:=by omega
  have h12:IntKind.wrap .i64 ((dw.length:Int) - 1)=11:=by decide
  obtain ⟨z,hz,z1,z2⟩:=iE n a.Path[i] 0 11 (by omega) (by omega) (by omega)
  obtain ⟨t,ht,ht2,_⟩:=mY dw (i:=z) z1 (by simp [dw]; omega)
  rw [bz,if_pos (by simp only [Bool.and_eq_true,decide_eq_true_eq]; omega),nD,List.getElem?_eq_getElem hii,Option.bind_some,h12,hz,Option.bind_some,ht,Option.bind_some,fB (by rw [bnd]; simp; omega),Option.bind_some,A8 (N:=5) (by omega) (by omega)]
  exact BG hn a r (i + 1) k _ (by omega) (by omega) (by simp [hl]) (fun w hm=>by
   rcases List.mem_append.1 hm with q | q
   ·
    exact hw w q
   ·
    simp at q; subst q; exact ht2)
theorem Cg {n:Nat} (hn:10 ≤ n) (a:fE):∃ u,dV n a=some u∧u.Path.length ≤ 5∧∀ w ∈ u.Path,w ∈ dw:=by
 unfold dV
 rw [show dS n=some dw from rfl,Option.bind_some]
 exact BG hn a (min a.Path.length 5) 0 n [] (by omega) (by omega) rfl (by simp)
theorem xG {n:Nat} (a:List Str) (h:a.length < n) (h2:a.length ≤ 100000):bX n a a=some true:=by
 unfold bX
 rw [if_neg (by simp)]
 have key:∀ (rest done:List Str) (k:Nat),a=done ++ rest→rest.length < k→aW a a k (done.length:Int)=some true:=by
  intro rest
  induction rest with
  | nil =>
   intro done k e hk
   cases k with
   | zero=>omega
   | succ k=>rw [aW,if_neg (by simp [e])]
  | cons q rest ih =>
   intro done k e hk
   cases k with
   | zero=>omega
   | succ k =>
    have hlen:a.length=done.length + rest.length + 1:=by rw [e]; simp; omega
    rw [aW,if_pos (by rw [decide_eq_true_eq]; omega),iO e,Option.bind_some,Option.bind_some,if_neg (by simp),A8 (N:=a.length) (by omega) (by omega)]
    have:=ih (done ++ [q]) k (by rw [e]; simp) (by simp at hk; omega)
    simpa using this
 exact key a [] n rfl h
end Pr
end Go.Ev

namespace Go.Ev
namespace Pr
set_option linter.unusedVariables false
set_option linter.unusedSimpArgs false
section
variable {n:Nat} {a2:fE} {a3:List Int} {a4:Int} {a5:Bool}
theorem AR (hn:1000 ≤ n) (l:List Seg) (hr:kL l=true) (hl5:l.length ≤ 5):∀ (rest done:List Seg) (k:Nat) (acc:List Str) (pre:List aG),l=done ++ rest→rest.length < k→(∀ r p',bS (done ++ r) (acc ++ p')=(bS r p').map (pre ++ ·))→acc.length=done.length→(∀ w ∈ acc,w ≠ []∧w.length ≤ 64) →
  ∃ k' acc',aB n a2 a3 a4 a5 l dw k acc (done.length:Int)=aB n a2 a3 a4 a5 l dw (k' + 1) acc' (l.length:Int)∧(∃ x,bS l acc'=some x)∧mU acc'
 | [],done,k + 1,acc,pre,h,hk,hinv,hla,hw=>by
  refine ⟨k,acc,by rw [h]; simp,?_,⟨by rw [hla]; rw [h] at hl5; simp at hl5; omega,hw⟩⟩
  have:=hinv [] []
  rw [List.append_nil,List.append_nil] at this
  rw [h,List.append_nil,this]
  exact ⟨_,rfl⟩
 | s :: rest,done,k + 1,acc,pre,h,hk,hinv,hla,hw=>by
  obtain ⟨r1,r2,r3,r4⟩:=(iy l).1 hr
  have hlen:l.length=done.length + rest.length + 1:=by rw [h]; simp; omega
  have hsm:s ∈ l:=by rw [h]; simp
  have hks:=r2 s hsm
  have hi:IntKind.wrap .i64 ((done.length:Int) + 1)=(((done ++ [s]).length:Nat):Int):=by rw [xP (by omega) (by omega)]; simp
  have low:∀ w:Str,w ≠ []∧w.length ≤ 64→s.Kind < 2→(s.Kind=0→w=s.Text)→∃ k' acc',aB n a2 a3 a4 a5 l dw k (acc ++ [w]) (((done ++ [s]).length:Nat):Int)=aB n a2 a3 a4 a5 l dw (k' + 1) acc' (l.length:Int)∧(∃ x,bS l acc'=some x)∧mU acc':=fun w g1 g2 g3=>by
   refine AR hn l hr hl5 rest (done ++ [s]) k (acc ++ [w]) (pre ++ (if s.Kind=0 then [] else [aG.mk s.Text w])) (by rw [h]; simp) (by simp at hk; omega) (fun r p'=>?_) (by simp [hla]) (fun x hx=>?_)
   ·
    rw [List.append_assoc,List.append_assoc,hinv]
    simp only [List.cons_append,List.nil_append]
    rw [bS.eq_def]
    simp only []
    rw [if_neg (by omega)]
    by_cases h0:s.Kind=0
    ·
     rw [if_pos h0,if_pos (g3 h0),if_pos h0,List.append_nil]
    ·
     rw [if_neg h0,if_neg h0]
     cases bS r p' <;> simp
   ·
    rcases List.mem_append.1 hx with q | q
    ·
     exact hw x q
    ·
     simp at q; subst q; exact g1
  have lastC:2 ≤ s.Kind→rest=[]:=fun q=>r3 done s rest h q
  have fin:∀ (ws:List Str),2 ≤ s.Kind→(∃ x,bS [s] ws=some x)→(∀ w ∈ ws,w ≠ []∧w.length ≤ 64)→ws.length ≤ 2→∃ k' acc',aB n a2 a3 a4 a5 l dw k (acc ++ ws) (((done ++ [s]).length:Nat):Int)=aB n a2 a3 a4 a5 l dw (k' + 1) acc' (l.length:Int)∧(∃ x,bS l acc'=some x)∧mU acc':=fun ws g1 g2 g3 g4=>by
   have hrest:=lastC g1
   subst hrest
   obtain ⟨m,rfl⟩:∃ m,k=m + 1:=⟨k - 1,by simp at hk; omega⟩
   refine ⟨m,acc ++ ws,by rw [h],?_,⟨by simp [hla]; rw [h] at hl5; simp at hl5; omega,fun x hx=>?_⟩⟩
   ·
    obtain ⟨x,hx⟩:=g2
    rw [h,hinv,hx]; exact ⟨_,rfl⟩
   ·
    rcases List.mem_append.1 hx with q | q
    ·
     exact hw x q
    ·
     exact g3 x q
  have main:∀ z:Int,0 ≤ z→z ≤ 11→∃ k' acc',bG a5 dw acc (done.length:Int) (aB n a2 a3 a4 a5 l dw k) s z=aB n a2 a3 a4 a5 l dw (k' + 1) acc' (l.length:Int)∧(∃ x,bS l acc'=some x)∧mU acc':=fun z z1 z2=>by
   obtain ⟨t,ht,ht2,_⟩:=mY dw (i:=z) z1 (by simp [dw]; omega)
   unfold bG aZ
   rw [ht,Option.bind_some,Option.bind_some,hi]
   by_cases c0:s.Kind=0
   ·
    rw [if_pos (by simpa using c0),fB (by rw [bnd]; simp; omega),Option.bind_some]
    exact low s.Text (yE hks.1) (by omega) (fun _=>rfl)
   ·
    rw [if_neg (by simpa using c0)]
    by_cases c1:s.Kind=1
    ·
     rw [if_pos (by simp [c1]),fB (by rw [bnd]; simp; omega),Option.bind_some]
     exact low t (jX t ht2) (by omega) (fun q=>absurd q c0)
    ·
     by_cases c2:s.Kind=2
     ·
      cases a5 with
      | false =>
       rw [if_pos (by simp [c2]),fB (by rw [bnd]; simp; omega),Option.bind_some]
       refine fin [t] (by omega) ⟨[aG.mk s.Text t],by simp [bS,c2]⟩ (fun w hw=>?_) (by simp)
       simp at hw; subst hw; exact jX _ ht2
      | true =>
       rw [if_neg (by simp [c1]),if_neg (by simp)]
       have:=fin [] (by omega) ⟨[],by simp [bS,c2]⟩ (by simp) (by simp)
       simpa using this
     ·
      have c3:s.Kind=3:=by omega
      rw [if_neg (by simp [c1,c2])]
      cases a5 with
      | true =>
       rw [if_neg (by simp)]
       have:=fin [] (by omega) ⟨_,by rw [bS.eq_def]; simp only []; rw [if_pos c3]⟩ (by simp) (by simp)
       simpa using this
      | false =>
       rw [if_pos (by simp [c3])]
       have hw3:IntKind.wrap .i64 (z + 3)=z + 3:=xP (by omega) (by omega)
       have hlw:(dw.length:Int)=12:=rfl
       rw [hw3,vK (by rw [hlw]; omega),Option.bind_some]
       have m1:=Int.tmod_nonneg 12 (show 0 ≤ z + 3 by omega)
       have m2:=Int.tmod_lt_of_pos (z + 3) (show (0:Int) < 12 by omega)
       obtain ⟨y,hy,hy2,_⟩:=mY dw (i:=(z + 3).tmod (dw.length:Int)) (by rw [hlw]; exact m1) (by rw [hlw]; exact m2)
       rw [hy,Option.bind_some,fB (by rw [bnd]; simp; omega),Option.bind_some]
       refine fin [t,y] (by omega) ⟨_,by rw [bS.eq_def]; simp only []; rw [if_pos c3]⟩ (fun w hw=>?_) (by simp)
       simp at hw
       rcases hw with rfl | rfl
       ·
        exact jX _ ht2
       ·
        exact jX _ hy2
  rw [aB,if_pos (by rw [decide_eq_true_eq]; omega),iO h,Option.bind_some]
  by_cases hf:done.length < a3.length
  ·
   have h12:IntKind.wrap .i64 ((dw.length:Int) - 1)=11:=by decide
   obtain ⟨z,hz,z1,z2⟩:=iE n a3[done.length] 0 11 (by omega) (by omega) (by omega)
   rw [if_pos (by rw [decide_eq_true_eq]; omega),nD,List.getElem?_eq_getElem hf,Option.bind_some,h12,hz,Option.bind_some]
   exact main z z1 z2
  ·
   rw [if_neg (by rw [decide_eq_true_eq]; omega)]
   exact main 0 (by omega) (by omega)
theorem lK:∀ {l:List Seg} {p:List Str} {x:List aG},bS l p=some x→x.length ≤ l.length
 | [],[],x,h=>by simp [bS] at h; subst h; simp
 | [],_ :: _,x,h=>by simp [bS] at h
 | s :: l,p,x,h=>by
  rw [bS.eq_def] at h
  simp only [] at h
  split at h
  ·
   cases h; simp
  ·
   cases p with
   | nil=>simp only [] at h; split at h <;> cases h; simp
   | cons w p =>
    simp only [] at h
    split at h
    ·
     split at h
     ·
      have:=lK h; simp; omega
     ·
      cases h
    ·
     cases hq:bS l p with
     | none=>rw [hq] at h; cases h
     | some y=>rw [hq] at h; cases h; have:=lK hq; simp; omega
theorem yY (hn:1000 ≤ n) (hR:di n=some true) {l:List Seg} (hr:kL l=true) (z108:List Str × Bool) (hz:z108.2=false):bB n a2 l z108 false=some true:=by
 obtain ⟨r1,r2,r3,r4⟩:=(iy l).1 hr
 unfold bB
 obtain ⟨u,hu,u1,u2⟩:=Cg (n:=n) (by omega) a2
 have ugood:mU u.Path:=⟨by omega,fun w hw=>jX w (u2 w hw)⟩
 have fin:bC n z108 false=some true:=by
  unfold bC
  rw [hz,if_pos (by simp),hR]; rfl
 rw [hu,Option.bind_some,tX hn l u.Path (by omega) (fun w hw=>(ugood.2 w hw).2),Option.bind_some]
 cases hm:lL l u.Path with
 | none=>rw [zq,if_neg (by simp)]; exact fin
 | some z =>
  rw [uP]
  have hm':=hm
  unfold lL at hm'
  rw [if_pos hr] at hm'
  have hzl:=lK hm'
  rw [if_pos rfl,lN hn ugood hm (by omega) (fun _ _ _=>rfl),sF (lY r4 hm') (List.Perm.refl z),if_pos rfl,Option.bind_some,if_neg (by simp),xG _ (by show u.Path.length < n; omega) (by show u.Path.length ≤ _; omega),Option.bind_some,Option.bind_some,if_neg (by simp)]
  exact fin
theorem si (hn:1000 ≤ n) (hR:di n=some true) (a1:bT):dB n a1 a2 a3 a4 a5=some true:=by
 unfold dB
 obtain ⟨l,hl,hS⟩:=Bf (n:=n) (by omega) a1
 obtain ⟨hr,hl5,hnone⟩:=hS.right
 obtain ⟨r1,r2,r3,r4⟩:=(iy l).1 hr
 rw [hl,Option.bind_some,show dS n=some dw from rfl,Option.bind_some]
 obtain ⟨k,p,hk,⟨x,hx⟩,hp⟩:=AR (a2:=a2) (a3:=a3) (a4:=a4) (a5:=a5) hn l hr hl5 l [] n [] [] rfl (by omega) (fun r p'=>by simp) rfl (by simp)
 rw [show aB n a2 a3 a4 a5 l dw n [] 0=_ from hk,aB,if_neg (by simp)]
 have hxl:=lK hx
 have hm:lL l p=some x:=by unfold lL; rw [if_pos hr,hx]
 have hon:=lY r4 hx
 rw [tX hn l p (by have:=hp.1; omega) (fun w hw=>(hp.2 w hw).2),hm,Option.bind_some,rO (by omega),hr,Option.bind_some]
 rw [uP,if_neg (by simp)]
 dsimp only
 obtain ⟨c,hc,c1,c2⟩:=iE n a4 0 (x.length:Int) (by omega) (by omega) (by omega)
 obtain ⟨m,rfl⟩:=Int.eq_ofNat_of_zero_le c1
 have hm2:m ≤ x.length:=by omega
 have hcut:cut x 0 ((m:Nat):Int)=some (x.take m):=by unfold cut; rw [if_pos ⟨by omega,by omega,by omega⟩]; simp
 rw [hc,Option.bind_some,show cut x ((m:Nat):Int) ((x.length:Nat):Int)=some (x.drop m) from oQ x m hm2,Option.bind_some,hcut,Option.bind_some,fB (by rw [bnd]; simp; omega),Option.bind_some,fB (by rw [bnd]; simp; omega),Option.bind_some,List.nil_append]
 have hperm:x.Perm (x.drop m ++ x.take m):=by
  have:=List.perm_append_comm (l₁:=x.take m) (l₂:=x.drop m)
  rwa [List.take_append_drop] at this
 rw [lN hn hp hm (by simp; omega) (fun s hs h0=>qL hon hperm _),sF hon hperm,if_pos rfl,Option.bind_some,if_neg (by simp),xG _ (by have:=hp.1; show p.length < n; omega) (by have:=hp.1; show p.length ≤ _; omega),Option.bind_some,Option.bind_some,if_neg (by simp)]
 rw [fB (by rw [bnd]; simp; omega),Option.bind_some,fB (by rw [bnd]; simp; omega),Option.bind_some,List.nil_append]
 rw [lN hn hp hm (by simp; omega) (fun s hs h0=>by
  rw [nV,iG,if_neg (fun e=>hnone s hs h0 e.symm)]
  simp [dA]),u6 (by simp),if_neg (by simp),Option.bind_some]
 by_cases h0:0 < x.length
 ·
  obtain ⟨x0,hx0,hx1,_⟩:=mY x (i:=0) (by omega) (by omega)
  rw [if_pos (by simpa using h0),hx0,Option.bind_some,Option.bind_some,fB (by rw [bnd]; simp; omega),Option.bind_some]
  rw [lN hn hp hm (by simp; omega) (fun s hs h0=>by
   rw [nV,iG]
   by_cases e:x0.Name=s.Text
   ·
    rw [← e,j3 hon hx1]; rfl
   ·
    rw [if_neg e]; simp [dA]),u6 (by simp),if_neg (by simp),Option.bind_some]
  exact yY hn hR hr _ rfl
 ·
  rw [if_neg (by simpa using h0)]
  exact yY hn hR hr _ rfl
end
set_option maxRecDepth 100000 in
theorem Bu:di 10000=some true:=by decide +kernel
theorem zN (a1:bT) (a2:fE) (a3:List Int) (a4:Int) (a5:Bool):dB 10000 a1 a2 a3 a4 a5=some true:=si (by omega) Bu a1
end Pr
end Go.Ev

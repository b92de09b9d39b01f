import Derived.Test.YtjlfkpfombdelaaDoorPartD
import Derived.IntWalk
namespace Go.Ev
namespace Pr
set_option linter.unusedVariables false
set_option linter.unusedSimpArgs false
open Go.Proofs
section
variable {R:bL} (E:F4 R)
include E
set_option maxRecDepth 20000 in
set_option maxHeartbeats 4000000 in
theorem oh (n:Nat) (a1:Str) (r:(Str × Bool)) (h:gJ n a1=some r):aY R cfg.P 30 [(.str a1)] (.tup [.d (.str r.1),.d (.bool r.2)]):=by
 unfold gJ at h
 refine aY.of_wp E.obj.toObjOk (C:=cfg) Tryd.func30 rfl Ht rfl ?_
 have H0:Has ay ay []:=Has.pure
 refine aj.seq ?_
 refine aj.region E.obj rfl ?_
 refine ai.val rfl (ah rfl) rfl ?_
 refine ai.val rfl (ah rfl) rfl ?_
 refine ai.nil ?_
 refine aj.seq ?_
 refine aj.region E.obj rfl ?_
 refine ai.val rfl (ah rfl) rfl ?_
 refine ai.nil ?_
 refine aj.seq ?_
 refine aj.seq ?_
 refine aj.region E.obj rfl ?_
 refine ai.val rfl (ah rfl) rfl ?_
 refine ai.nil ?_
 refine aj.block ?_
 have H53:=H0.rQ
 refine kS.start (B:=ay) (α:=(List Int) × AV × Int) (fun k a=>bu n a1 k a.1 a.2.2=some r) (fun a=>[(0,(.d (.str a1))),(4,a.2.1),(5,(.d (.int .i64 a.2.2)))]) (fun a=>[.grow a.2.1 ((a.1).map (D.int .u8))]) ?_ ?_ n ⟨⟨[],(.d .bJ),0⟩,_,_,ay,.refl _ _,.refl _,(aa.r rfl (aa.r rfl (aa.r rfl aa.nil))),H53.sl [0] rfl rfl,h⟩
 ·
  intro a h; simp [bu] at h
 intro k14 a S9 H10 h
 obtain ⟨x11,v12,x13⟩:=a
 replace h:bu n a1 (k14 + 1) x11 x13=some r:=h
 replace H10:Has ay S9 [.grow v12 ((x11).map (D.int .u8))]:=H10
 unfold bu at h
 refine aj.seq ?_
 refine aj.seq ?_
 refine aj.region E.obj rfl ?_
 refine ai.val rfl (ae rfl) rfl ?_
 refine ai.val rfl (ae rfl) rfl ?_
 refine ai.val rfl (cz rfl (bQ jK) rfl) rfl ?_
 refine ai.val rfl (ak rfl rfl bE) rfl ?_
 refine ai.nil ?_
 refine aj.cond rfl (fun hb15=>?_) (fun hb15=>?_)
 ·
  replace h:=bg hb15 h
  refine aj.skip ?_
  refine aj.join (B:=ay) (α:=(List Int) × AV × Int) (fun a=>dI (bu n a1 k14) a.1 a.2.2=some r) (fun a=>[(0,(.d (.str a1))),(4,a.2.1),(5,(.d (.int .i64 a.2.2)))]) (fun a=>[.grow a.2.1 ((a.1).map (D.int .u8))]) ?_ ?_
  ·
   intro a S16 H17 h
   obtain ⟨x18,v19,x20⟩:=a
   replace h:dI (bu n a1 k14) x18 x20=some r:=h
   replace H17:Has ay S16 [.grow v19 ((x18).map (D.int .u8))]:=H17
   unfold dI at h
   refine aj.region E.obj rfl ?_
   refine ai.val rfl (ae rfl) rfl ?_
   refine ai.val rfl (ak rfl rfl bf) rfl ?_
   refine ai.val rfl (ah rfl) rfl ?_
   refine ai.nil ?_
   exact ⟨⟨x18,v19,(IntKind.wrap .i64 (x20 + 1))⟩,_,_,S16,.refl _ _,.refl _,(aa.r rfl (aa.r rfl (aa.r rfl aa.nil))),H17.sl [0] rfl rfl,h⟩
  refine aj.block ?_
  refine aj.block ?_
  refine aj.seq ?_
  refine aj.region E.obj rfl ?_
  refine ai.val rfl (ae rfl) rfl ?_
  refine ai.val rfl (ae rfl) rfl ?_
  obtain ⟨z22,hzz22,h⟩:=bind_some h
  refine ai.val rfl (bM rfl rfl (aW hzz22).1 jK (aW hzz22).2) rfl ?_
  obtain ⟨z23,hzz23,h⟩:=bind_some h
  refine ai.ret rfl (aA rfl rfl) (kJ E _ _ _ hzz23 _ _ (av.eq .nil)) rfl ?_
  refine ai.val rfl (ah rfl) rfl ?_
  refine ai.nil ?_
  refine aj.cond rfl (fun hb24=>?_) (fun hb24=>?_)
  ·
   replace h:=bg hb24 h
   refine aj.region E.obj rfl ?_
   refine ai.val rfl (ae rfl) rfl ?_
   refine ai.val rfl (ae rfl) rfl ?_
   refine ai.val rfl (ae rfl) rfl ?_
   obtain ⟨z25,hzz25,h⟩:=bind_some h
   refine ai.val rfl (bM rfl rfl (aW hzz25).1 jK (aW hzz25).2) rfl ?_
   refine ai.val rfl (aK (vs:=[(.d (.int .u8 (z25.toNat:Int)))]) (ds:=[(.int .u8 (z25.toNat:Int))]) yo yK FX FK Ci rfl (by decide) (.cons rfl rfl .nil) rfl (by intro d hd; simp only [List.mem_cons,List.not_mem_nil,or_false] at hd; rcases hd with rfl <;> rfl) rfl) rfl ?_
   obtain ⟨z26,hzz26,h⟩:=bind_some h
   refine ai.append (xs:=(x11).map (D.int .u8)) (ys:=([(z25.toNat:Int)]).map (D.int .u8)) (zs:=(z26).map (D.int .u8)) H10 rfl rfl rfl (i:=0) rfl rfl yo EA yK (dC hzz26) F9 rfl (aQ (enc:=(D.int .u8)) (fun _=>Ci.symm) _) (aQ (enc:=(D.int .u8)) (fun _=>Ci.symm) _) Gf rfl (gB hzz26) (fun v27 S28 H29=>?_)
   refine ai.val rfl (ah rfl) rfl ?_
   refine ai.nil ?_
   exact ⟨⟨z26,v27,x13⟩,_,_,S28,.refl _ _,.refl _,(aa.r rfl (aa.r rfl (aa.r rfl aa.nil))),H29.sl [0] rfl rfl,h⟩
  replace h:=aZ hb24 h
  refine aj.seq ?_
  refine aj.region E.obj rfl ?_
  refine ai.val rfl (ae rfl) rfl ?_
  refine ai.val rfl (ae rfl) rfl ?_
  obtain ⟨z30,hzz30,h⟩:=bind_some h
  refine ai.val rfl (bM rfl rfl (aW hzz30).1 jK (aW hzz30).2) rfl ?_
  refine ai.val rfl (ak rfl rfl cZ) rfl ?_
  refine ai.val rfl (ae rfl) rfl ?_
  refine ai.aT 6 34 (.d (.bool (((z30.toNat:Int) == 37) && (decide ((IntKind.wrap .i64 (x13 + 2)) < ((a1).length:Int)))))) ?_ ?_
  ·
   rcases Bool.eq_false_or_eq_true (((z30.toNat:Int) == 37)) with hB31 | hB31
   ·
    refine ai.bool hB31 ?_
    refine ai.val rfl (ae rfl) rfl ?_
    refine ai.val rfl (ak rfl rfl bf) rfl ?_
    refine ai.val rfl (ae rfl) rfl ?_
    refine ai.val rfl (cz rfl (bQ jK) rfl) rfl ?_
    refine ai.val rfl (ak rfl rfl bE) rfl ?_
    refine ai.val rfl (au (b:=true) rfl rfl) rfl ?_
    exact ai.nil ⟨_,rfl,(aa.put (aa.push rfl (aa.push rfl (aa.push rfl (aa.push rfl (aa.push rfl (aa.put (.refl _) (Less.eq (by rw [hB31])))))))) (Less.eq (by rw [hB31]; rw [Bool.true_and])))⟩
   refine ai.bool hB31 ?_
   refine ai.no rfl rfl ?_
   refine ai.no rfl rfl ?_
   refine ai.no rfl rfl ?_
   refine ai.no rfl rfl ?_
   refine ai.no rfl rfl ?_
   refine ai.val rfl (au (b:=false) rfl rfl) rfl ?_
   exact ai.nil ⟨_,rfl,(aa.put (aa.push rfl (aa.push rfl (aa.push rfl (aa.push rfl (aa.push rfl (aa.put (.refl _) (Less.eq (by rw [hB31])))))))) (Less.eq (by rw [hB31]; rw [Bool.false_and])))⟩
  refine ai.val rfl (ae rfl) rfl ?_
  obtain ⟨z33,hzz33,h⟩:=bind_some h
  refine ai.aT 7 42 (.d (.bool z33)) ?_ ?_
  ·
   rcases Bool.eq_false_or_eq_true ((((z30.toNat:Int) == 37) && (decide ((IntKind.wrap .i64 (x13 + 2)) < ((a1).length:Int))))) with hB32 | hB32
   ·
    refine ai.bool hB32 ?_
    replace hzz33:=bg hB32 hzz33
    refine ai.val rfl (ae rfl) rfl ?_
    refine ai.val rfl (ae rfl) rfl ?_
    refine ai.val rfl (ak rfl rfl bf) rfl ?_
    obtain ⟨z34,hzz34,hzz33⟩:=bind_some hzz33
    refine ai.val rfl (bM rfl rfl (aW hzz34).1 jK (aW hzz34).2) rfl ?_
    obtain ⟨z35,hzz35,hzz33⟩:=bind_some hzz33
    refine ai.ret rfl (aA rfl rfl) (iH E _ _ _ hzz35 _ _ (av.eq .nil)) rfl ?_
    refine ai.val rfl (ak rfl rfl dN) rfl ?_
    refine ai.val rfl (au (b:=true) rfl rfl) rfl ?_
    cases hzz33
    exact ai.nil ⟨_,rfl,(aa.put (aa.push rfl (aa.push rfl (aa.push rfl (aa.push rfl (aa.push rfl (aa.push rfl (aa.put (.refl _) (Less.eq (by rw [hB32]))))))))) (.refl _))⟩
   refine ai.bool hB32 ?_
   refine ai.no rfl rfl ?_
   refine ai.no rfl rfl ?_
   refine ai.no rfl rfl ?_
   refine ai.no rfl rfl ?_
   refine ai.no rfl rfl ?_
   refine ai.no rfl rfl ?_
   refine ai.val rfl (au (b:=false) rfl rfl) rfl ?_
   replace hzz33:=aZ hB32 hzz33
   cases hzz33
   exact ai.nil ⟨_,rfl,(aa.put (aa.push rfl (aa.push rfl (aa.push rfl (aa.push rfl (aa.push rfl (aa.push rfl (aa.put (.refl _) (Less.eq (by rw [hB32]))))))))) (.refl _))⟩
  refine ai.val rfl (ae rfl) rfl ?_
  obtain ⟨z37,hzz37,h⟩:=bind_some h
  refine ai.aT 7 50 (.d (.bool z37)) ?_ ?_
  ·
   rcases Bool.eq_false_or_eq_true (z33) with hB36 | hB36
   ·
    refine ai.bool hB36 ?_
    replace hzz37:=bg hB36 hzz37
    refine ai.val rfl (ae rfl) rfl ?_
    refine ai.val rfl (ae rfl) rfl ?_
    refine ai.val rfl (ak rfl rfl bf) rfl ?_
    obtain ⟨z38,hzz38,hzz37⟩:=bind_some hzz37
    refine ai.val rfl (bM rfl rfl (aW hzz38).1 jK (aW hzz38).2) rfl ?_
    obtain ⟨z39,hzz39,hzz37⟩:=bind_some hzz37
    refine ai.ret rfl (aA rfl rfl) (iH E _ _ _ hzz39 _ _ (av.eq .nil)) rfl ?_
    refine ai.val rfl (ak rfl rfl dN) rfl ?_
    refine ai.val rfl (au (b:=true) rfl rfl) rfl ?_
    cases hzz37
    exact ai.nil ⟨_,rfl,(aa.put (aa.push rfl (aa.push rfl (aa.push rfl (aa.push rfl (aa.push rfl (aa.push rfl (aa.put (.refl _) (Less.eq (by rw [hB36]))))))))) (.refl _))⟩
   refine ai.bool hB36 ?_
   refine ai.no rfl rfl ?_
   refine ai.no rfl rfl ?_
   refine ai.no rfl rfl ?_
   refine ai.no rfl rfl ?_
   refine ai.no rfl rfl ?_
   refine ai.no rfl rfl ?_
   refine ai.val rfl (au (b:=false) rfl rfl) rfl ?_
   replace hzz37:=aZ hB36 hzz37
   cases hzz37
   exact ai.nil ⟨_,rfl,(aa.put (aa.push rfl (aa.push rfl (aa.push rfl (aa.push rfl (aa.push rfl (aa.push rfl (aa.put (.refl _) (Less.eq (by rw [hB36]))))))))) (.refl _))⟩
  refine ai.val rfl (ah rfl) rfl ?_
  refine ai.nil ?_
  refine aj.cond rfl (fun hb40=>?_) (fun hb40=>?_)
  ·
   replace h:=bg hb40 h
   refine aj.seq ?_
   obtain ⟨z41,hzz41,h⟩:=bind_some h
   obtain ⟨z42,hzz42,h⟩:=bind_some h
   obtain ⟨z43,hzz43,h⟩:=bind_some h
   obtain ⟨z44,hzz44,h⟩:=bind_some h
   obtain ⟨z45,hzz45,h⟩:=bind_some h
   obtain ⟨z46,hzz46,h⟩:=bind_some h
   refine aj.l6 E.obj qH Iu [(0,none),(4,some 16),(5,none)] (by kernel_rfl) [15] (by decide) [some v12,some (.d (.str a1)),some (.d (.int .i64 x13)),some (.d (.int .i64 (IntKind.wrap .i64 (x13 + 1)))),some (.d (.int .u8 (z41.toNat:Int))),some (.d (.int .i64 z42)),some (.d (.int .i64 z43)),some (.d (.str a1)),some (.d (.int .i64 x13)),some (.d (.int .i64 (IntKind.wrap .i64 (x13 + 2)))),some (.d (.int .u8 (z44.toNat:Int))),some (.d (.int .i64 z45)),some (.d (.int .i64 (Bv .i64 z43 z45))),some (.d (.int .u8 (IntKind.wrap .u8 (Bv .i64 z43 z45)))),some (.d (.sl (([(IntKind.wrap .u8 (Bv .i64 z43 z45))]).map (D.int .u8)) true)),none,none] ?_
   refine ⟨[0,1,2,3,4,5,6,7,8,9,10,11,12,13,14],by kernel_rfl,?_,_,_,rfl,rfl,.step ?_⟩
   ·
    refine .v rfl rfl rfl rfl (ae rfl) ?_
    refine .v rfl rfl rfl rfl (ae rfl) ?_
    refine .v rfl rfl rfl rfl (ae rfl) ?_
    refine .v rfl rfl rfl rfl (ak rfl rfl bf) ?_
    refine .v rfl rfl rfl rfl (bM rfl rfl (aW hzz41).1 jK (aW hzz41).2) ?_
    refine .cons rfl rfl rfl (.step ?_) ?_
    ·
     refine ai.ret rfl (aA rfl rfl) (iH E _ _ _ hzz42 _ _ (av.eq .nil)) rfl ?_
     exact ai.nil ⟨_,_,rfl,fun _ ht=>by cases ht; exact ⟨rfl,.refl _⟩⟩
    refine .v rfl rfl rfl rfl (ak rfl rfl (xg hzz43)) ?_
    refine .v rfl rfl rfl rfl (ae rfl) ?_
    refine .v rfl rfl rfl rfl (ae rfl) ?_
    refine .v rfl rfl rfl rfl (ak rfl rfl bf) ?_
    refine .v rfl rfl rfl rfl (bM rfl rfl (aW hzz44).1 jK (aW hzz44).2) ?_
    refine .cons rfl rfl rfl (.step ?_) ?_
    ·
     refine ai.ret rfl (aA rfl rfl) (iH E _ _ _ hzz45 _ _ (av.eq .nil)) rfl ?_
     exact ai.nil ⟨_,_,rfl,fun _ ht=>by cases ht; exact ⟨rfl,.refl _⟩⟩
    refine .v rfl rfl rfl rfl (ak rfl rfl BI) ?_
    refine .v rfl rfl rfl rfl (fD rfl Hf GL) ?_
    refine .v rfl rfl rfl rfl (aK (vs:=[(.d (.int .u8 (IntKind.wrap .u8 (Bv .i64 z43 z45))))]) (ds:=[(.int .u8 (IntKind.wrap .u8 (Bv .i64 z43 z45)))]) yo yK FX FK Ci rfl (by decide) (.cons rfl rfl .nil) rfl (by intro d hd; simp only [List.mem_cons,List.not_mem_nil,or_false] at hd; rcases hd with rfl <;> rfl) rfl) ?_
    exact .nil
   refine ai.append (xs:=(x11).map (D.int .u8)) (ys:=([(IntKind.wrap .u8 (Bv .i64 z43 z45))]).map (D.int .u8)) (zs:=(z46).map (D.int .u8)) H10 rfl rfl rfl (i:=0) rfl rfl yo EA yK (dC hzz46) F9 rfl (aQ (enc:=(D.int .u8)) (fun _=>Ci.symm) _) (aQ (enc:=(D.int .u8)) (fun _=>Ci.symm) _) Gf rfl (gB hzz46) (fun v50 S51 H52=>?_)
   refine ai.nil ⟨_,_,_,rfl,(fun _ ht=>by cases ht; rfl),_,(.q (.q (.q (.o (.o (.o (.w v50 (.w v50 .nil)))))))),(fun _ ht=>by cases ht; exact ⟨_,rfl,.refl _⟩),?_⟩
   refine ⟨[16],by kernel_rfl,?_,_,rfl,?_⟩
   ·
    refine .v rfl rfl rfl rfl (ah rfl) ?_
    exact .nil
   refine aj.region E.obj rfl ?_
   refine ai.val rfl (ae rfl) rfl ?_
   refine ai.val rfl (ak rfl rfl bf) rfl ?_
   refine ai.val rfl (ah rfl) rfl ?_
   refine ai.nil ?_
   exact ⟨⟨z46,v50,(IntKind.wrap .i64 (x13 + 2))⟩,_,_,S51,.refl _ _,.refl _,(aa.r rfl (aa.r rfl (aa.r rfl aa.nil))),H52.sl [0] rfl rfl,h⟩
  replace h:=aZ hb40 h
  refine aj.seq ?_
  refine aj.region E.obj rfl ?_
  refine ai.val rfl (ah rfl) rfl ?_
  refine ai.val rfl (ah rfl) rfl ?_
  refine ai.nil ?_
  have hr:=Option.some.inj h
  subst hr
  exact aj.ret ⟨_,rfl,rfl,fT (vs:=[(.d (.str [])),(.d (.bool false))]) (ds:=[(.str []),(.bool false)]) (av.eq (av.eq .nil))⟩
 replace h:=aZ hb15 h
 refine aj.exit ?_
 refine aj.seq ?_
 refine aj.region E.obj rfl ?_
 refine ai.val rfl (ae rfl) rfl ?_
 refine ai.weak (aa.cons (t:=69) rfl (EN H10 (i:=0) rfl) (.refl _)) ?_
 refine ai.val rfl (kL (l:=x11) rfl jK Fe) rfl ?_
 refine ai.val rfl (ah rfl) rfl ?_
 refine ai.val rfl (ah rfl) rfl ?_
 refine ai.nil ?_
 have hr:=Option.some.inj h
 subst hr
 exact aj.ret ⟨_,rfl,rfl,fT (vs:=[(.d (.str ((x11).map fun (n:Int)=>UInt8.ofNat n.toNat))),(.d (.bool true))]) (ds:=[(.str ((x11).map fun (n:Int)=>UInt8.ofNat n.toNat)),(.bool true)]) (av.eq (av.eq .nil))⟩
set_option maxRecDepth 20000 in
set_option maxHeartbeats 4000000 in
theorem oU (n:Nat) (a1:kK) (r:Bool) (h:gP n a1=some r):aY R cfg.P 31 [(kQ a1)] (.d (.bool r)):=by
 unfold gP at h
 refine aY.of_wp E.obj.toObjOk (C:=cfg) Tryd.func31 rfl HV rfl ?_
 have H0:Has ay ay []:=Has.pure
 refine aj.seq ?_
 refine aj.region E.obj rfl ?_
 refine ai.box H0 rfl rfl rfl (kK.eO _) rfl (fun b2 S3 H4=>?_)
 refine ai.val rfl (ah rfl) rfl ?_
 refine ai.nil ?_
 refine aj.seq ?_
 refine aj.seq ?_
 refine aj.region E.obj rfl ?_
 refine ai.val rfl (ax rfl qC Ce rfl) rfl ?_
 refine ai.val rfl (aB H4 (i:=0) rfl rfl (aG Cy rfl)) rfl ?_
 refine ai.val rfl (aI rfl kI) rfl ?_
 refine ai.val rfl (ak rfl rfl fO) rfl ?_
 refine ai.val rfl (ae rfl) rfl ?_
 refine ai.aT 5 16 (.d (.bool ((decide (8 < ((a1.Path).length:Int))) || (decide (8 < ((a1.Query).length:Int)))))) ?_ ?_
 ·
  rcases Bool.eq_false_or_eq_true ((decide (8 < ((a1.Path).length:Int)))) with hB5 | hB5
  ·
   refine ai.bool hB5 ?_
   refine ai.no rfl rfl ?_
   refine ai.no rfl rfl ?_
   refine ai.no rfl rfl ?_
   refine ai.no rfl rfl ?_
   refine ai.val rfl (au (b:=true) rfl rfl) rfl ?_
   exact ai.nil ⟨_,rfl,(aa.put (aa.push rfl (aa.push rfl (aa.push rfl (aa.push rfl (aa.put (.refl _) (Less.eq (by rw [hB5]))))))) (Less.eq (by rw [hB5]; rw [Bool.true_or])))⟩
  refine ai.bool hB5 ?_
  refine ai.val rfl (ax rfl qy Bb rfl) rfl ?_
  refine ai.val rfl (aB H4 (i:=0) rfl rfl (aG BS rfl)) rfl ?_
  refine ai.val rfl (aI rfl pR) rfl ?_
  refine ai.val rfl (ak rfl rfl fO) rfl ?_
  refine ai.val rfl (au (b:=false) rfl rfl) rfl ?_
  exact ai.nil ⟨_,rfl,(aa.put (aa.push rfl (aa.push rfl (aa.push rfl (aa.push rfl (aa.put (.refl _) (Less.eq (by rw [hB5]))))))) (Less.eq (by rw [hB5]; rw [Bool.false_or])))⟩
 refine ai.nil ?_
 refine aj.cond rfl (fun hb6=>?_) (fun hb6=>?_)
 ·
  replace h:=bg hb6 h
  refine aj.seq ?_
  refine aj.region E.obj rfl ?_
  refine ai.val rfl (ah rfl) rfl ?_
  refine ai.nil ?_
  have hr:=Option.some.inj h
  subst hr
  exact aj.ret ⟨_,rfl,rfl,eG (av.eq .nil)⟩
 replace h:=aZ hb6 h
 refine aj.skip ?_
 refine aj.seq ?_
 refine aj.seq ?_
 refine aj.region E.obj rfl ?_
 refine ai.val rfl (ax rfl qC Ce rfl) rfl ?_
 refine ai.val rfl (aB H4 (i:=0) rfl rfl (aG Cy rfl)) rfl ?_
 refine ai.val rfl (aI rfl kI) rfl ?_
 refine ai.val rfl (ae rfl) rfl ?_
 refine ai.nil ?_
 refine aj.block ?_
 refine kS.start (B:=ay) (α:=Int) (fun k a=>cB n a1 k a=some r) (fun a=>[(1,(.ptr b2 0 0)),(18,(.d (.sl ((a1.Path).map D.str) false))),(19,(.d (.int .i64 ((a1.Path).length:Int)))),(20,(.d (.int .i64 a)))]) (fun a=>[.box b2 [(.d (.sl ((a1.Path).map D.str) false)),(.d (.sl ((a1.Query).map az) false))]]) ?_ ?_ n ⟨0,_,_,S3,.refl _ _,.refl _,(aa.r rfl (aa.r rfl (aa.r rfl (aa.r rfl aa.nil)))),H4.sl [0] rfl rfl,h⟩
 ·
  intro a h; simp [cB] at h
 intro k15 x14 S12 H13 h
 replace h:cB n a1 (k15 + 1) x14=some r:=h
 replace H13:Has ay S12 [.box b2 [(.d (.sl ((a1.Path).map D.str) false)),(.d (.sl ((a1.Query).map az) false))]]:=H13
 unfold cB at h
 refine aj.seq ?_
 refine aj.region E.obj rfl ?_
 refine ai.val rfl (ak rfl rfl bE) rfl ?_
 refine ai.nil ?_
 refine aj.seq ?_
 refine aj.cond rfl (fun hb16=>?_) (fun hb16=>?_)
 ·
  replace h:=bg hb16 h
  refine aj.skip ?_
  refine aj.seq ?_
  refine aj.block ?_
  refine aj.seq ?_
  refine aj.region E.obj rfl ?_
  obtain ⟨z17,hzz17,h⟩:=bind_some h
  refine ai.val rfl (bO rfl rfl (df (enc:=D.str) hzz17 gV yS (((fun _=>rfl) _).trans kg.symm))) rfl ?_
  refine ai.val rfl (aX rfl (dB j5 rfl)) rfl ?_
  refine ai.val rfl (ah rfl) rfl ?_
  refine ai.nil ?_
  refine aj.seq ?_
  refine aj.region E.obj rfl ?_
  refine ai.val rfl (ae rfl) rfl ?_
  refine ai.val rfl (cz rfl (bQ jK) rfl) rfl ?_
  refine ai.val rfl (ak rfl rfl bE) rfl ?_
  refine ai.val rfl (ae rfl) rfl ?_
  refine ai.aT 4 31 (.d (.bool ((decide (((z17).length:Int) < 1)) || (decide (64 < ((z17).length:Int)))))) ?_ ?_
  ·
   rcases Bool.eq_false_or_eq_true ((decide (((z17).length:Int) < 1))) with hB18 | hB18
   ·
    refine ai.bool hB18 ?_
    refine ai.no rfl rfl ?_
    refine ai.no rfl rfl ?_
    refine ai.no rfl rfl ?_
    refine ai.val rfl (au (b:=true) rfl rfl) rfl ?_
    exact ai.nil ⟨_,rfl,(aa.put (aa.push rfl (aa.push rfl (aa.push rfl (aa.put (.refl _) (Less.eq (by rw [hB18])))))) (Less.eq (by rw [hB18]; rw [Bool.true_or])))⟩
   refine ai.bool hB18 ?_
   refine ai.val rfl (ae rfl) rfl ?_
   refine ai.val rfl (cz rfl (bQ jK) rfl) rfl ?_
   refine ai.val rfl (ak rfl rfl fO) rfl ?_
   refine ai.val rfl (au (b:=false) rfl rfl) rfl ?_
   exact ai.nil ⟨_,rfl,(aa.put (aa.push rfl (aa.push rfl (aa.push rfl (aa.put (.refl _) (Less.eq (by rw [hB18])))))) (Less.eq (by rw [hB18]; rw [Bool.false_or])))⟩
  refine ai.nil ?_
  refine aj.cond rfl (fun hb19=>?_) (fun hb19=>?_)
  ·
   replace h:=bg hb19 h
   refine aj.seq ?_
   refine aj.region E.obj rfl ?_
   refine ai.val rfl (ah rfl) rfl ?_
   refine ai.nil ?_
   have hr:=Option.some.inj h
   subst hr
   exact aj.ret ⟨_,rfl,rfl,eG (av.eq .nil)⟩
  replace h:=aZ hb19 h
  refine aj.skip ?_
  refine aj.region E.obj rfl ?_
  refine ai.val rfl (ak rfl rfl bf) rfl ?_
  refine ai.val rfl (ae rfl) rfl ?_
  refine ai.nil ?_
  exact ⟨(IntKind.wrap .i64 (x14 + 1)),_,_,S12,.refl _ _,.refl _,(aa.r rfl (aa.r rfl (aa.r rfl (aa.r rfl aa.nil)))),H13.sl [0] rfl rfl,h⟩
 replace h:=aZ hb16 h
 refine aj.exit ?_
 refine aj.seq ?_
 refine aj.seq ?_
 refine aj.region E.obj rfl ?_
 refine ai.val rfl (ax rfl qy Bb rfl) rfl ?_
 refine ai.val rfl (aB H13 (i:=0) rfl rfl (aG BS rfl)) rfl ?_
 refine ai.val rfl (aI rfl pR) rfl ?_
 refine ai.val rfl (ae rfl) rfl ?_
 refine ai.nil ?_
 refine aj.block ?_
 refine kS.start (B:=ay) (α:=Int) (fun k a=>dQ a1 k a=some r) (fun a=>[(34,(.d (.sl ((a1.Query).map az) false))),(35,(.d (.int .i64 ((a1.Query).length:Int)))),(36,(.d (.int .i64 a)))]) (fun a=>[]) ?_ ?_ n ⟨0,_,_,S12,.refl _ _,.refl _,(aa.r rfl (aa.r rfl (aa.r rfl aa.nil))),H13.sl [] rfl rfl,h⟩
 ·
  intro a h; simp [dQ] at h
 intro k28 x27 S25 H26 h
 replace h:dQ a1 (k28 + 1) x27=some r:=h
 replace H26:Has ay S25 []:=H26
 unfold dQ at h
 refine aj.seq ?_
 refine aj.region E.obj rfl ?_
 refine ai.val rfl (ak rfl rfl bE) rfl ?_
 refine ai.nil ?_
 refine aj.seq ?_
 refine aj.cond rfl (fun hb29=>?_) (fun hb29=>?_)
 ·
  replace h:=bg hb29 h
  refine aj.skip ?_
  refine aj.seq ?_
  refine aj.block ?_
  refine aj.seq ?_
  refine aj.region E.obj rfl ?_
  obtain ⟨z30,hzz30,h⟩:=bind_some h
  refine ai.val rfl (bO rfl rfl (df (enc:=az) hzz30 mI uq ((aD.len _).trans iL.symm))) rfl ?_
  refine ai.val rfl (aX rfl (aD.lX qg iL)) rfl ?_
  refine ai.alloc H26 rfl Dx lg rfl rfl (fun b31 S32 H33=>?_)
  refine ai.store H33 (i:=0) rfl rfl rfl rfl (aD.eO _) rfl iL rfl uq rfl rfl rfl (fun S34 H35=>?_)
  refine ai.nil ?_
  refine aj.seq ?_
  refine aj.region E.obj rfl ?_
  refine ai.val rfl (ax rfl sG rH rfl) rfl ?_
  refine ai.val rfl (aB H35 (i:=0) rfl rfl (aG j5 rfl)) rfl ?_
  refine ai.val rfl (cz rfl (bQ jK) rfl) rfl ?_
  refine ai.val rfl (ak rfl rfl bE) rfl ?_
  refine ai.val rfl (ae rfl) rfl ?_
  refine ai.aT 5 49 (.d (.bool ((decide (((z30.Name).length:Int) < 1)) || (decide (64 < ((z30.Name).length:Int)))))) ?_ ?_
  ·
   rcases Bool.eq_false_or_eq_true ((decide (((z30.Name).length:Int) < 1))) with hB36 | hB36
   ·
    refine ai.bool hB36 ?_
    refine ai.no rfl rfl ?_
    refine ai.no rfl rfl ?_
    refine ai.no rfl rfl ?_
    refine ai.no rfl rfl ?_
    refine ai.val rfl (au (b:=true) rfl rfl) rfl ?_
    exact ai.nil ⟨_,rfl,(aa.put (aa.push rfl (aa.push rfl (aa.push rfl (aa.push rfl (aa.put (.refl _) (Less.eq (by rw [hB36]))))))) (Less.eq (by rw [hB36]; rw [Bool.true_or])))⟩
   refine ai.bool hB36 ?_
   refine ai.val rfl (ax rfl sG rH rfl) rfl ?_
   refine ai.val rfl (aB H35 (i:=0) rfl rfl (aG j5 rfl)) rfl ?_
   refine ai.val rfl (cz rfl (bQ jK) rfl) rfl ?_
   refine ai.val rfl (ak rfl rfl fO) rfl ?_
   refine ai.val rfl (au (b:=false) rfl rfl) rfl ?_
   exact ai.nil ⟨_,rfl,(aa.put (aa.push rfl (aa.push rfl (aa.push rfl (aa.push rfl (aa.put (.refl _) (Less.eq (by rw [hB36]))))))) (Less.eq (by rw [hB36]; rw [Bool.false_or])))⟩
  refine ai.val rfl (ae rfl) rfl ?_
  refine ai.aT 5 55 (.d (.bool (((decide (((z30.Name).length:Int) < 1)) || (decide (64 < ((z30.Name).length:Int)))) || (decide (64 < ((z30.Value).length:Int)))))) ?_ ?_
  ·
   rcases Bool.eq_false_or_eq_true (((decide (((z30.Name).length:Int) < 1)) || (decide (64 < ((z30.Name).length:Int))))) with hB37 | hB37
   ·
    refine ai.bool hB37 ?_
    refine ai.no rfl rfl ?_
    refine ai.no rfl rfl ?_
    refine ai.no rfl rfl ?_
    refine ai.no rfl rfl ?_
    refine ai.val rfl (au (b:=true) rfl rfl) rfl ?_
    exact ai.nil ⟨_,rfl,(aa.put (aa.push rfl (aa.push rfl (aa.push rfl (aa.push rfl (aa.put (.refl _) (Less.eq (by rw [hB37]))))))) (Less.eq (by rw [hB37]; rw [Bool.true_or])))⟩
   refine ai.bool hB37 ?_
   refine ai.val rfl (ax rfl wm rH rfl) rfl ?_
   refine ai.val rfl (aB H35 (i:=0) rfl rfl (aG j5 rfl)) rfl ?_
   refine ai.val rfl (cz rfl (bQ jK) rfl) rfl ?_
   refine ai.val rfl (ak rfl rfl fO) rfl ?_
   refine ai.val rfl (au (b:=false) rfl rfl) rfl ?_
   exact ai.nil ⟨_,rfl,(aa.put (aa.push rfl (aa.push rfl (aa.push rfl (aa.push rfl (aa.put (.refl _) (Less.eq (by rw [hB37]))))))) (Less.eq (by rw [hB37]; rw [Bool.false_or])))⟩
  refine ai.nil ?_
  refine aj.cond rfl (fun hb38=>?_) (fun hb38=>?_)
  ·
   replace h:=bg hb38 h
   refine aj.seq ?_
   refine aj.region E.obj rfl ?_
   refine ai.val rfl (ah rfl) rfl ?_
   refine ai.nil ?_
   have hr:=Option.some.inj h
   subst hr
   exact aj.ret ⟨_,rfl,rfl,eG (av.eq .nil)⟩
  replace h:=aZ hb38 h
  refine aj.skip ?_
  refine aj.region E.obj rfl ?_
  refine ai.val rfl (ak rfl rfl bf) rfl ?_
  refine ai.val rfl (ae rfl) rfl ?_
  refine ai.nil ?_
  exact ⟨(IntKind.wrap .i64 (x27 + 1)),_,_,S34,.refl _ _,.refl _,(aa.r rfl (aa.r rfl (aa.r rfl aa.nil))),H35.sl [] rfl rfl,h⟩
 replace h:=aZ hb29 h
 refine aj.exit ?_
 refine aj.seq ?_
 refine aj.region E.obj rfl ?_
 refine ai.val rfl (ah rfl) rfl ?_
 refine ai.nil ?_
 have hr:=Option.some.inj h
 subst hr
 exact aj.ret ⟨_,rfl,rfl,eG (av.eq .nil)⟩
set_option maxRecDepth 20000 in
set_option maxHeartbeats 4000000 in
theorem kG (n:Nat) (a1:(List Seg)) (a2:(List aD)) (r:((List Str) × Bool)) (h:fI n a1 a2=some r):aY R cfg.P 11 [(.sl ((a1).map aJ) false),(.sl ((a2).map az) false)] (.tup [.d (.sl ((r.1).map D.str) false),.d (.bool r.2)]):=by
 unfold fI at h
 refine aY.of_wp E.obj.toObjOk (C:=cfg) Tryd.func11 rfl GU rfl ?_
 have H0:Has ay ay []:=Has.pure
 refine aj.seq ?_
 refine aj.region E.obj rfl ?_
 refine ai.val rfl (ah rfl) rfl ?_
 refine ai.val rfl (ah rfl) rfl ?_
 refine ai.nil ?_
 refine aj.seq ?_
 refine aj.seq ?_
 refine aj.region E.obj rfl ?_
 refine ai.val rfl (ae rfl) rfl ?_
 obtain ⟨z3,hzz3,h⟩:=bind_some h
 refine ai.ret rfl (aA rfl rfl) (fV E _ _ _ hzz3 _ _ (av.eq .nil)) rfl ?_
 refine ai.val rfl (bY rfl) rfl ?_
 refine ai.nil ?_
 refine aj.cond rfl (fun hb4=>?_) (fun hb4=>?_)
 ·
  replace h:=bg hb4 h
  refine aj.seq ?_
  refine aj.region E.obj rfl ?_
  refine ai.val rfl (ah rfl) rfl ?_
  refine ai.val rfl (ah rfl) rfl ?_
  refine ai.nil ?_
  have hr:=Option.some.inj h
  subst hr
  exact aj.ret ⟨_,rfl,rfl,fT (vs:=[(.d .bJ),(.d (.bool false))]) (ds:=[(.sl (([]).map D.str) false),(.bool false)]) (av.fw rfl (.bJ false) (av.eq .nil))⟩
 replace h:=aZ hb4 h
 refine aj.skip ?_
 refine aj.seq ?_
 refine aj.region E.obj rfl ?_
 refine ai.val rfl (ah rfl) rfl ?_
 refine ai.nil ?_
 refine aj.seq ?_
 refine aj.region E.obj rfl ?_
 refine ai.val rfl (ah rfl) rfl ?_
 refine ai.nil ?_
 refine aj.seq ?_
 refine aj.seq ?_
 refine aj.region E.obj rfl ?_
 refine ai.val rfl (ae rfl) rfl ?_
 refine ai.val rfl (aI rfl qM) rfl ?_
 refine ai.val rfl (ae rfl) rfl ?_
 refine ai.nil ?_
 refine aj.block ?_
 have H86:=H0.rQ
 refine kS.start (B:=ay) (α:=(List Str) × AV × Int × Int) (fun k a=>aM n a1 a2 k a.1 a.2.2.1 a.2.2.2=some r) (fun a=>[(1,(.d (.sl ((a2).map az) false))),(6,a.2.1),(7,(.d (.int .i64 a.2.2.1))),(19,(.d (.sl ((a1).map aJ) false))),(20,(.d (.int .i64 ((a1).length:Int)))),(21,(.d (.int .i64 a.2.2.2)))]) (fun a=>[.grow a.2.1 ((a.1).map D.str)]) ?_ ?_ n ⟨⟨[],(.d .bJ),0,0⟩,_,_,ay,.refl _ _,.refl _,(aa.r rfl (aa.r rfl (aa.r rfl (aa.r rfl (aa.r rfl (aa.r rfl aa.nil)))))),H86.sl [0] rfl rfl,h⟩
 ·
  intro a h; simp [aM] at h
 intro k19 a S13 H14 h
 obtain ⟨x15,v16,x17,x18⟩:=a
 replace h:aM n a1 a2 (k19 + 1) x15 x17 x18=some r:=h
 replace H14:Has ay S13 [.grow v16 ((x15).map D.str)]:=H14
 unfold aM at h
 refine aj.seq ?_
 refine aj.region E.obj rfl ?_
 refine ai.val rfl (ak rfl rfl bE) rfl ?_
 refine ai.nil ?_
 refine aj.seq ?_
 refine aj.cond rfl (fun hb20=>?_) (fun hb20=>?_)
 ·
  replace h:=bg hb20 h
  refine aj.skip ?_
  refine aj.join (B:=ay) (α:=(List Str) × AV × Int) (fun a=>bK x18 (aM n a1 a2 k19) a.1 a.2.2=some r) (fun a=>[(1,(.d (.sl ((a2).map az) false))),(6,a.2.1),(7,(.d (.int .i64 a.2.2))),(19,(.d (.sl ((a1).map aJ) false))),(20,(.d (.int .i64 ((a1).length:Int)))),(21,(.d (.int .i64 x18)))]) (fun a=>[.grow a.2.1 ((a.1).map D.str)]) ?_ ?_
  ·
   intro a S21 H22 h
   obtain ⟨x23,v24,x25⟩:=a
   replace h:bK x18 (aM n a1 a2 k19) x23 x25=some r:=h
   replace H22:Has ay S21 [.grow v24 ((x23).map D.str)]:=H22
   unfold bK at h
   refine aj.region E.obj rfl ?_
   refine ai.val rfl (ak rfl rfl bf) rfl ?_
   refine ai.val rfl (ae rfl) rfl ?_
   refine ai.nil ?_
   exact ⟨⟨x23,v24,x25,(IntKind.wrap .i64 (x18 + 1))⟩,_,_,S21,.refl _ _,.refl _,(aa.r rfl (aa.r rfl (aa.r rfl (aa.r rfl (aa.r rfl (aa.r rfl aa.nil)))))),H22.sl [0] rfl rfl,h⟩
  refine aj.block ?_
  refine aj.seq ?_
  refine aj.region E.obj rfl ?_
  obtain ⟨z27,hzz27,h⟩:=bind_some h
  refine ai.val rfl (bO rfl rfl (df (enc:=aJ) hzz27 qm om ((Seg.len _).trans iD.symm))) rfl ?_
  refine ai.val rfl (aX rfl (Seg.lX ql iD)) rfl ?_
  refine ai.alloc H14 rfl zF nZ rfl rfl (fun b28 S29 H30=>?_)
  refine ai.store H30 (i:=0) rfl rfl rfl rfl (Seg.eO _) rfl iD rfl om rfl rfl rfl (fun S31 H32=>?_)
  refine ai.nil ?_
  refine aj.seq ?_
  refine aj.region E.obj rfl ?_
  refine ai.val rfl (ae rfl) rfl ?_
  refine ai.val rfl (ax rfl jb rH rfl) rfl ?_
  refine ai.val rfl (aB H32 (i:=0) rfl rfl (aG j5 rfl)) rfl ?_
  obtain ⟨z33,hzz33,h⟩:=bind_some h
  refine ai.ret rfl (aA rfl rfl) (oL E _ _ _ _ hzz33 _ _ (av.eq (av.eq .nil))) rfl ?_
  refine ai.val rfl (ae rfl) rfl ?_
  refine ai.val rfl (aC rfl rfl) rfl ?_
  refine ai.val rfl (aC rfl rfl) rfl ?_
  refine ai.val rfl (ah rfl) rfl ?_
  refine ai.val rfl (ah rfl) rfl ?_
  refine ai.nil ?_
  refine aj.join (B:=ay) (α:=Int) (fun a=>dx n x15 x18 (aM n a1 a2 k19) z27 z33 a=some r) (fun a=>[(1,(.d (.sl ((a2).map az) false))),(6,v16),(7,(.d (.int .i64 a))),(9,(.ptr b28 0 0)),(10,(.d (.str z33.1))),(11,(.d (.bool z33.2))),(19,(.d (.sl ((a1).map aJ) false))),(20,(.d (.int .i64 ((a1).length:Int)))),(21,(.d (.int .i64 x18)))]) (fun a=>[.box b28 [(.d (.int .i64 z27.Kind)),(.d (.str z27.Text))],.grow v16 ((x15).map D.str)]) ?_ ?_
  ·
   intro x36 S34 H35 h
   replace h:dx n x15 x18 (aM n a1 a2 k19) z27 z33 x36=some r:=h
   replace H35:Has ay S34 [.box b28 [(.d (.int .i64 z27.Kind)),(.d (.str z27.Text))],.grow v16 ((x15).map D.str)]:=H35
   unfold dx at h
   refine aj.block ?_
   refine aj.seq ?_
   refine aj.region E.obj rfl ?_
   refine ai.val rfl (ax rfl fU uf rfl) rfl ?_
   refine ai.val rfl (aB H35 (i:=0) rfl rfl (aG qF rfl)) rfl ?_
   refine ai.val rfl (ak rfl rfl cZ) rfl ?_
   refine ai.val rfl (ah rfl) rfl ?_
   refine ai.nil ?_
   refine aj.cond rfl (fun hb38=>?_) (fun hb38=>?_)
   ·
    replace h:=bg hb38 h
    refine aj.region E.obj rfl ?_
    refine ai.val rfl (ae rfl) rfl ?_
    refine ai.val rfl (ax rfl jb rH rfl) rfl ?_
    refine ai.val rfl (aB H35 (i:=0) rfl rfl (aG j5 rfl)) rfl ?_
    refine ai.val rfl (aK (vs:=[(.d (.str z27.Text))]) (ds:=[(.str z27.Text)]) kM gV j5 BP kg rfl (by decide) (.cons rfl rfl .nil) rfl (by intro d hd; simp only [List.mem_cons,List.not_mem_nil,or_false] at hd; rcases hd with rfl <;> rfl) rfl) rfl ?_
    obtain ⟨z39,hzz39,h⟩:=bind_some h
    refine ai.append (xs:=(x15).map D.str) (ys:=([z27.Text]).map D.str) (zs:=(z39).map D.str) H35 rfl rfl rfl (i:=1) rfl rfl kM u7 gV (dC hzz39) DJ rfl (aQ (enc:=D.str) (fun _=>kg.symm) _) (aQ (enc:=D.str) (fun _=>kg.symm) _) DL rfl (gB hzz39) (fun v40 S41 H42=>?_)
    refine ai.val rfl (ah rfl) rfl ?_
    refine ai.nil ?_
    exact ⟨⟨z39,v40,x36⟩,_,_,S41,.refl _ _,.refl _,(aa.r rfl (aa.r rfl (aa.r rfl (aa.r rfl (aa.r rfl (aa.r rfl aa.nil)))))),H42.sl [1] rfl rfl,h⟩
   replace h:=aZ hb38 h
   refine aj.seq ?_
   refine aj.region E.obj rfl ?_
   refine ai.val rfl (ax rfl fU uf rfl) rfl ?_
   refine ai.val rfl (aB H35 (i:=0) rfl rfl (aG qF rfl)) rfl ?_
   refine ai.val rfl (ak rfl rfl cZ) rfl ?_
   refine ai.val rfl (ae rfl) rfl ?_
   refine ai.aT 3 56 (.d (.bool ((z27.Kind == 2) && (!z33.2)))) ?_ ?_
   ·
    rcases Bool.eq_false_or_eq_true ((z27.Kind == 2)) with hB43 | hB43
    ·
     refine ai.bool hB43 ?_
     refine ai.val rfl (ae rfl) rfl ?_
     refine ai.val rfl (bY rfl) rfl ?_
     refine ai.val rfl (au (b:=true) rfl rfl) rfl ?_
     exact ai.nil ⟨_,rfl,(aa.put (aa.push rfl (aa.push rfl (aa.put (.refl _) (Less.eq (by rw [hB43]))))) (Less.eq (by rw [hB43]; rw [Bool.true_and])))⟩
    refine ai.bool hB43 ?_
    refine ai.no rfl rfl ?_
    refine ai.no rfl rfl ?_
    refine ai.val rfl (au (b:=false) rfl rfl) rfl ?_
    exact ai.nil ⟨_,rfl,(aa.put (aa.push rfl (aa.push rfl (aa.put (.refl _) (Less.eq (by rw [hB43]))))) (Less.eq (by rw [hB43]; rw [Bool.false_and])))⟩
   refine ai.val rfl (ah rfl) rfl ?_
   refine ai.nil ?_
   refine aj.cond rfl (fun hb44=>?_) (fun hb44=>?_)
   ·
    replace h:=bg hb44 h
    refine aj.skip ?_
    exact ⟨⟨x15,v16,x36⟩,_,_,S34,.refl _ _,.refl _,(aa.r rfl (aa.r rfl (aa.r rfl (aa.r rfl (aa.r rfl (aa.r rfl aa.nil)))))),H35.sl [1] rfl rfl,h⟩
   replace h:=aZ hb44 h
   refine aj.seq ?_
   refine aj.region E.obj rfl ?_
   refine ai.val rfl (ae rfl) rfl ?_
   refine ai.val rfl (bY rfl) rfl ?_
   refine ai.val rfl (ae rfl) rfl ?_
   refine ai.aT 9 69 (.d (.bool ((!z33.2) || ((z27.Kind != 3) && (((z33.1).length:Int) == 0))))) ?_ ?_
   ·
    rcases Bool.eq_false_or_eq_true ((!z33.2)) with hB45 | hB45
    ·
     refine ai.bool hB45 ?_
     refine ai.no rfl rfl ?_
     refine ai.no rfl rfl ?_
     refine ai.no rfl rfl ?_
     refine ai.no rfl rfl ?_
     refine ai.no rfl rfl ?_
     refine ai.no rfl rfl ?_
     refine ai.no rfl rfl ?_
     refine ai.no rfl rfl ?_
     refine ai.val rfl (au (b:=true) rfl rfl) rfl ?_
     exact ai.nil ⟨_,rfl,(aa.put (aa.push rfl (aa.push rfl (aa.push rfl (aa.push rfl (aa.push rfl (aa.push rfl (aa.push rfl (aa.push rfl (aa.put (.refl _) (Less.eq (by rw [hB45]))))))))))) (Less.eq (by rw [hB45]; rw [Bool.true_or])))⟩
    refine ai.bool hB45 ?_
    refine ai.val rfl (ax rfl fU uf rfl) rfl ?_
    refine ai.val rfl (aB H35 (i:=0) rfl rfl (aG qF rfl)) rfl ?_
    refine ai.val rfl (ak rfl rfl iA) rfl ?_
    refine ai.val rfl (ae rfl) rfl ?_
    refine ai.aT 4 68 (.d (.bool ((z27.Kind != 3) && (((z33.1).length:Int) == 0)))) ?_ ?_
    ·
     rcases Bool.eq_false_or_eq_true ((z27.Kind != 3)) with hB46 | hB46
     ·
      refine ai.bool hB46 ?_
      refine ai.val rfl (ae rfl) rfl ?_
      refine ai.val rfl (cz rfl (bQ jK) rfl) rfl ?_
      refine ai.val rfl (ak rfl rfl cZ) rfl ?_
      refine ai.val rfl (au (b:=true) rfl rfl) rfl ?_
      exact ai.nil ⟨_,rfl,(aa.put (aa.push rfl (aa.push rfl (aa.push rfl (aa.put (.refl _) (Less.eq (by rw [hB46])))))) (Less.eq (by rw [hB46]; rw [Bool.true_and])))⟩
     refine ai.bool hB46 ?_
     refine ai.no rfl rfl ?_
     refine ai.no rfl rfl ?_
     refine ai.no rfl rfl ?_
     refine ai.val rfl (au (b:=false) rfl rfl) rfl ?_
     exact ai.nil ⟨_,rfl,(aa.put (aa.push rfl (aa.push rfl (aa.push rfl (aa.put (.refl _) (Less.eq (by rw [hB46])))))) (Less.eq (by rw [hB46]; rw [Bool.false_and])))⟩
    refine ai.val rfl (au (b:=false) rfl rfl) rfl ?_
    exact ai.nil ⟨_,rfl,(aa.put (aa.push rfl (aa.push rfl (aa.push rfl (aa.push rfl (aa.push rfl (aa.put (.refl _) (Less.eq (by rw [hB45])))))))) (Less.eq (by rw [hB45]; rw [Bool.false_or])))⟩
   refine ai.val rfl (ah rfl) rfl ?_
   refine ai.nil ?_
   refine aj.cond rfl (fun hb47=>?_) (fun hb47=>?_)
   ·
    replace h:=bg hb47 h
    refine aj.seq ?_
    refine aj.region E.obj rfl ?_
    refine ai.val rfl (ah rfl) rfl ?_
    refine ai.val rfl (ah rfl) rfl ?_
    refine ai.nil ?_
    have hr:=Option.some.inj h
    subst hr
    exact aj.ret ⟨_,rfl,rfl,fT (vs:=[(.d .bJ),(.d (.bool false))]) (ds:=[(.sl (([]).map D.str) false),(.bool false)]) (av.fw rfl (.bJ false) (av.eq .nil))⟩
   replace h:=aZ hb47 h
   refine aj.seq ?_
   refine aj.region E.obj rfl ?_
   refine ai.val rfl (ax rfl fU uf rfl) rfl ?_
   refine ai.val rfl (aB H35 (i:=0) rfl rfl (aG qF rfl)) rfl ?_
   refine ai.val rfl (ak rfl rfl iA) rfl ?_
   refine ai.val rfl (ah rfl) rfl ?_
   refine ai.nil ?_
   refine aj.cond rfl (fun hb48=>?_) (fun hb48=>?_)
   ·
    replace h:=bg hb48 h
    refine aj.region E.obj rfl ?_
    refine ai.val rfl (ae rfl) rfl ?_
    refine ai.val rfl (ae rfl) rfl ?_
    refine ai.val rfl (aK (vs:=[(.d (.str z33.1))]) (ds:=[(.str z33.1)]) kM gV j5 BP kg rfl (by decide) (.cons rfl rfl .nil) rfl (by intro d hd; simp only [List.mem_cons,List.not_mem_nil,or_false] at hd; rcases hd with rfl <;> rfl) rfl) rfl ?_
    obtain ⟨z49,hzz49,h⟩:=bind_some h
    refine ai.append (xs:=(x15).map D.str) (ys:=([z33.1]).map D.str) (zs:=(z49).map D.str) H35 rfl rfl rfl (i:=1) rfl rfl kM u7 gV (dC hzz49) DJ rfl (aQ (enc:=D.str) (fun _=>kg.symm) _) (aQ (enc:=D.str) (fun _=>kg.symm) _) DL rfl (gB hzz49) (fun v50 S51 H52=>?_)
    refine ai.val rfl (ah rfl) rfl ?_
    refine ai.nil ?_
    exact ⟨⟨z49,v50,x36⟩,_,_,S51,.refl _ _,.refl _,(aa.r rfl (aa.r rfl (aa.r rfl (aa.r rfl (aa.r rfl (aa.r rfl aa.nil)))))),H52.sl [1] rfl rfl,h⟩
   replace h:=aZ hb48 h
   refine aj.seq ?_
   refine aj.region E.obj rfl ?_
   refine ai.val rfl (ae rfl) rfl ?_
   refine ai.val rfl (ak rfl rfl jJ) rfl ?_
   refine ai.val rfl (ah rfl) rfl ?_
   refine ai.nil ?_
   refine aj.cond rfl (fun hb53=>?_) (fun hb53=>?_)
   ·
    replace h:=bg hb53 h
    refine aj.seq ?_
    refine aj.region E.obj rfl ?_
    refine ai.val rfl (ae rfl) rfl ?_
    obtain ⟨z54,hzz54,h⟩:=bind_some h
    refine ai.ret rfl (aA rfl rfl) (oQ E _ _ _ _ hzz54 _ _ (av.eq (av.eq .nil))) rfl ?_
    refine ai.val rfl (aI rfl kI) rfl ?_
    refine ai.val rfl (ae rfl) rfl ?_
    refine ai.nil ?_
    refine aj.block ?_
    refine kS.start (B:=ay) (α:=(List Str) × AV × Int) (fun k a=>bT n x18 (aM n a1 a2 k19) x36 z54 k a.1 a.2.2=some r) (fun a=>[(1,(.d (.sl ((a2).map az) false))),(6,a.2.1),(7,(.d (.int .i64 x36))),(19,(.d (.sl ((a1).map aJ) false))),(20,(.d (.int .i64 ((a1).length:Int)))),(21,(.d (.int .i64 x18))),(82,(.d (.sl ((z54).map D.str) false))),(83,(.d (.int .i64 ((z54).length:Int)))),(84,(.d (.int .i64 a.2.2)))]) (fun a=>[.grow a.2.1 ((a.1).map D.str)]) ?_ ?_ n ⟨⟨x15,v16,0⟩,_,_,S34,.refl _ _,.refl _,(aa.r rfl (aa.r rfl (aa.r rfl (aa.r rfl (aa.r rfl (aa.r rfl (aa.r rfl (aa.r rfl (aa.r rfl aa.nil))))))))),H35.sl [1] rfl rfl,h⟩
    ·
     intro a h; simp [bT] at h
    intro k67 a S62 H63 h
    obtain ⟨x64,v65,x66⟩:=a
    replace h:bT n x18 (aM n a1 a2 k19) x36 z54 (k67 + 1) x64 x66=some r:=h
    replace H63:Has ay S62 [.grow v65 ((x64).map D.str)]:=H63
    unfold bT at h
    refine aj.seq ?_
    refine aj.region E.obj rfl ?_
    refine ai.val rfl (ak rfl rfl bE) rfl ?_
    refine ai.nil ?_
    refine aj.seq ?_
    refine aj.cond rfl (fun hb68=>?_) (fun hb68=>?_)
    ·
     replace h:=bg hb68 h
     refine aj.skip ?_
     refine aj.seq ?_
     refine aj.block ?_
     refine aj.seq ?_
     refine aj.region E.obj rfl ?_
     obtain ⟨z69,hzz69,h⟩:=bind_some h
     refine ai.val rfl (bO rfl rfl (df (enc:=D.str) hzz69 gV yS (((fun _=>rfl) _).trans kg.symm))) rfl ?_
     refine ai.val rfl (aX rfl (dB j5 rfl)) rfl ?_
     refine ai.val rfl (ah rfl) rfl ?_
     refine ai.nil ?_
     refine aj.seq ?_
     refine aj.region E.obj rfl ?_
     refine ai.val rfl (ae rfl) rfl ?_
     obtain ⟨z70,hzz70,h⟩:=bind_some h
     refine ai.ret rfl (aA rfl rfl) (oh E _ _ _ hzz70 _ _ (av.eq .nil)) rfl ?_
     refine ai.val rfl (ae rfl) rfl ?_
     refine ai.val rfl (aC rfl rfl) rfl ?_
     refine ai.val rfl (aC rfl rfl) rfl ?_
     refine ai.val rfl (ah rfl) rfl ?_
     refine ai.val rfl (ah rfl) rfl ?_
     refine ai.nil ?_
     refine aj.seq ?_
     refine aj.seq ?_
     refine aj.region E.obj rfl ?_
     refine ai.val rfl (ae rfl) rfl ?_
     refine ai.val rfl (bY rfl) rfl ?_
     refine ai.val rfl (ae rfl) rfl ?_
     refine ai.aT 3 98 (.d (.bool ((!z70.2) || (z70.1 == [])))) ?_ ?_
     ·
      rcases Bool.eq_false_or_eq_true ((!z70.2)) with hB71 | hB71
      ·
       refine ai.bool hB71 ?_
       refine ai.no rfl rfl ?_
       refine ai.no rfl rfl ?_
       refine ai.val rfl (au (b:=true) rfl rfl) rfl ?_
       exact ai.nil ⟨_,rfl,(aa.put (aa.push rfl (aa.push rfl (aa.put (.refl _) (Less.eq (by rw [hB71]))))) (Less.eq (by rw [hB71]; rw [Bool.true_or])))⟩
      refine ai.bool hB71 ?_
      refine ai.val rfl (ae rfl) rfl ?_
      refine ai.val rfl (ak rfl rfl jf) rfl ?_
      refine ai.val rfl (au (b:=false) rfl rfl) rfl ?_
      exact ai.nil ⟨_,rfl,(aa.put (aa.push rfl (aa.push rfl (aa.put (.refl _) (Less.eq (by rw [hB71]))))) (Less.eq (by rw [hB71]; rw [Bool.false_or])))⟩
     refine ai.val rfl (ae rfl) rfl ?_
     obtain ⟨z73,hzz73,h⟩:=bind_some h
     refine ai.aT 5 104 (.d (.bool z73)) ?_ ?_
     ·
      rcases Bool.eq_false_or_eq_true (((!z70.2) || (z70.1 == []))) with hB72 | hB72
      ·
       refine ai.bool hB72 ?_
       refine ai.no rfl rfl ?_
       refine ai.no rfl rfl ?_
       refine ai.no rfl rfl ?_
       refine ai.no rfl rfl ?_
       refine ai.val rfl (au (b:=true) rfl rfl) rfl ?_
       replace hzz73:=bg hB72 hzz73
       cases hzz73
       exact ai.nil ⟨_,rfl,(aa.put (aa.push rfl (aa.push rfl (aa.push rfl (aa.push rfl (aa.put (.refl _) (Less.eq (by rw [hB72]))))))) (.refl _))⟩
      refine ai.bool hB72 ?_
      replace hzz73:=aZ hB72 hzz73
      refine ai.val rfl (ae rfl) rfl ?_
      obtain ⟨z74,hzz74,hzz73⟩:=bind_some hzz73
      refine ai.ret rfl (aA rfl rfl) (ko E _ _ _ hzz74 _ _ (av.eq .nil)) rfl ?_
      refine ai.val rfl (ae rfl) rfl ?_
      refine ai.val rfl (ak rfl rfl jJ) rfl ?_
      refine ai.val rfl (au (b:=false) rfl rfl) rfl ?_
      cases hzz73
      exact ai.nil ⟨_,rfl,(aa.put (aa.push rfl (aa.push rfl (aa.push rfl (aa.push rfl (aa.put (.refl _) (Less.eq (by rw [hB72]))))))) (.refl _))⟩
     refine ai.nil ?_
     refine aj.cond rfl (fun hb75=>?_) (fun hb75=>?_)
     ·
      replace h:=bg hb75 h
      refine aj.seq ?_
      refine aj.region E.obj rfl ?_
      refine ai.val rfl (ah rfl) rfl ?_
      refine ai.val rfl (ah rfl) rfl ?_
      refine ai.nil ?_
      have hr:=Option.some.inj h
      subst hr
      exact aj.ret ⟨_,rfl,rfl,fT (vs:=[(.d .bJ),(.d (.bool false))]) (ds:=[(.sl (([]).map D.str) false),(.bool false)]) (av.fw rfl (.bJ false) (av.eq .nil))⟩
     replace h:=aZ hb75 h
     refine aj.skip ?_
     refine aj.region E.obj rfl ?_
     refine ai.val rfl (ae rfl) rfl ?_
     refine ai.val rfl (ae rfl) rfl ?_
     refine ai.val rfl (aK (vs:=[(.d (.str z70.1))]) (ds:=[(.str z70.1)]) kM gV j5 BP kg rfl (by decide) (.cons rfl rfl .nil) rfl (by intro d hd; simp only [List.mem_cons,List.not_mem_nil,or_false] at hd; rcases hd with rfl <;> rfl) rfl) rfl ?_
     obtain ⟨z76,hzz76,h⟩:=bind_some h
     refine ai.append (xs:=(x64).map D.str) (ys:=([z70.1]).map D.str) (zs:=(z76).map D.str) H63 rfl rfl rfl (i:=0) rfl rfl kM u7 gV (dC hzz76) DJ rfl (aQ (enc:=D.str) (fun _=>kg.symm) _) (aQ (enc:=D.str) (fun _=>kg.symm) _) DL rfl (gB hzz76) (fun v77 S78 H79=>?_)
     refine ai.val rfl (ah rfl) rfl ?_
     refine ai.nil ?_
     refine aj.region E.obj rfl ?_
     refine ai.val rfl (ak rfl rfl bf) rfl ?_
     refine ai.val rfl (ae rfl) rfl ?_
     refine ai.nil ?_
     exact ⟨⟨z76,v77,(IntKind.wrap .i64 (x66 + 1))⟩,_,_,S78,.refl _ _,.refl _,(aa.r rfl (aa.r rfl (aa.r rfl (aa.r rfl (aa.r rfl (aa.r rfl (aa.r rfl (aa.r rfl (aa.r rfl aa.nil))))))))),H79.sl [0] rfl rfl,h⟩
    replace h:=aZ hb68 h
    refine aj.exit ?_
    exact ⟨⟨x64,v65,x36⟩,_,_,S62,.refl _ _,.refl _,(aa.r rfl (aa.r rfl (aa.r rfl (aa.r rfl (aa.r rfl (aa.r rfl aa.nil)))))),H63.sl [0] rfl rfl,h⟩
   replace h:=aZ hb53 h
   refine aj.skip ?_
   exact ⟨⟨x15,v16,x36⟩,_,_,S34,.refl _ _,.refl _,(aa.r rfl (aa.r rfl (aa.r rfl (aa.r rfl (aa.r rfl (aa.r rfl aa.nil)))))),H35.sl [1] rfl rfl,h⟩
  refine aj.seq ?_
  refine aj.region E.obj rfl ?_
  refine ai.val rfl (ax rfl fU uf rfl) rfl ?_
  refine ai.val rfl (aB H32 (i:=0) rfl rfl (aG qF rfl)) rfl ?_
  refine ai.val rfl (ak rfl rfl iA) rfl ?_
  refine ai.val rfl (ae rfl) rfl ?_
  refine ai.aT 2 37 (.d (.bool ((z27.Kind != 0) && z33.2))) ?_ ?_
  ·
   rcases Bool.eq_false_or_eq_true ((z27.Kind != 0)) with hB80 | hB80
   ·
    refine ai.bool hB80 ?_
    refine ai.val rfl (ae rfl) rfl ?_
    refine ai.val rfl (au (b:=true) rfl rfl) rfl ?_
    exact ai.nil ⟨_,rfl,(aa.put (aa.push rfl (aa.put (.refl _) (Less.eq (by rw [hB80])))) (Less.eq (by rw [hB80]; rw [Bool.true_and])))⟩
   refine ai.bool hB80 ?_
   refine ai.no rfl rfl ?_
   refine ai.val rfl (au (b:=false) rfl rfl) rfl ?_
   exact ai.nil ⟨_,rfl,(aa.put (aa.push rfl (aa.put (.refl _) (Less.eq (by rw [hB80])))) (Less.eq (by rw [hB80]; rw [Bool.false_and])))⟩
  refine ai.nil ?_
  refine aj.cond rfl (fun hb81=>?_) (fun hb81=>?_)
  ·
   replace h:=bg hb81 h
   refine aj.region E.obj rfl ?_
   refine ai.val rfl (ae rfl) rfl ?_
   refine ai.val rfl (ak rfl rfl bf) rfl ?_
   refine ai.val rfl (ah rfl) rfl ?_
   refine ai.nil ?_
   exact ⟨(IntKind.wrap .i64 (x17 + 1)),_,_,S31,.refl _ _,.refl _,(aa.r rfl (aa.r rfl (aa.r rfl (aa.r rfl (aa.r rfl (aa.r rfl (aa.r rfl (aa.r rfl (aa.r rfl aa.nil))))))))),H32.sl [0,1] rfl rfl,h⟩
  replace h:=aZ hb81 h
  refine aj.skip ?_
  exact ⟨x17,_,_,S31,.refl _ _,.refl _,(aa.r rfl (aa.r rfl (aa.r rfl (aa.r rfl (aa.r rfl (aa.r rfl (aa.r rfl (aa.r rfl (aa.r rfl aa.nil))))))))),H32.sl [0,1] rfl rfl,h⟩
 replace h:=aZ hb20 h
 refine aj.exit ?_
 refine aj.seq ?_
 refine aj.seq ?_
 refine aj.region E.obj rfl ?_
 refine ai.val rfl (ae rfl) rfl ?_
 refine ai.val rfl (ae rfl) rfl ?_
 refine ai.val rfl (aI rfl pR) rfl ?_
 refine ai.val rfl (ak rfl rfl iA) rfl ?_
 refine ai.val rfl (ae rfl) rfl ?_
 obtain ⟨z83,hzz83,h⟩:=bind_some h
 refine ai.aT 5 120 (.d (.bool z83)) ?_ ?_
 ·
  rcases Bool.eq_false_or_eq_true ((x17 != ((a2).length:Int))) with hB82 | hB82
  ·
   refine ai.bool hB82 ?_
   refine ai.no rfl rfl ?_
   refine ai.no rfl rfl ?_
   refine ai.no rfl rfl ?_
   refine ai.no rfl rfl ?_
   refine ai.val rfl (au (b:=true) rfl rfl) rfl ?_
   replace hzz83:=bg hB82 hzz83
   cases hzz83
   exact ai.nil ⟨_,rfl,(aa.put (aa.push rfl (aa.push rfl (aa.push rfl (aa.push rfl (aa.put (.refl _) (Less.eq (by rw [hB82]))))))) (.refl _))⟩
  refine ai.bool hB82 ?_
  replace hzz83:=aZ hB82 hzz83
  refine ai.val rfl (ae rfl) rfl ?_
  refine ai.val rfl (dw (cs:=[v16,(.d .bJ)]) CY rfl (lK) (fA rfl (A9 H14 (i:=0) rfl) rfl rfl rfl)) rfl ?_
  refine ai.less (Less.agg' (d:=kQ (kK.mk x15 [])) (aU.grow H14 (i:=0) rfl (aU.fw rfl (.bJ false) rfl rfl .nil)) ((kK.eq _).trans rfl)) ?_
  obtain ⟨z84,hzz84,hzz83⟩:=bind_some hzz83
  refine ai.ret rfl (aA rfl rfl) (oU E _ _ _ hzz84 _ _ (av.eq .nil)) rfl ?_
  refine ai.val rfl (bY rfl) rfl ?_
  refine ai.val rfl (au (b:=false) rfl rfl) rfl ?_
  cases hzz83
  exact ai.nil ⟨_,rfl,(aa.put (aa.push rfl (aa.push rfl (aa.push rfl (aa.push rfl (aa.put (.refl _) (Less.eq (by rw [hB82]))))))) (.refl _))⟩
 refine ai.nil ?_
 refine aj.cond rfl (fun hb85=>?_) (fun hb85=>?_)
 ·
  replace h:=bg hb85 h
  refine aj.seq ?_
  refine aj.region E.obj rfl ?_
  refine ai.val rfl (ah rfl) rfl ?_
  refine ai.val rfl (ah rfl) rfl ?_
  refine ai.nil ?_
  have hr:=Option.some.inj h
  subst hr
  exact aj.ret ⟨_,rfl,rfl,fT (vs:=[(.d .bJ),(.d (.bool false))]) (ds:=[(.sl (([]).map D.str) false),(.bool false)]) (av.fw rfl (.bJ false) (av.eq .nil))⟩
 replace h:=aZ hb85 h
 refine aj.skip ?_
 refine aj.seq ?_
 refine aj.region E.obj rfl ?_
 refine ai.val rfl (ae rfl) rfl ?_
 refine ai.val rfl (ah rfl) rfl ?_
 refine ai.val rfl (ah rfl) rfl ?_
 refine ai.nil ?_
 have hr:=Option.some.inj h
 subst hr
 exact aj.ret ⟨_,rfl,rfl,fT (vs:=[v16,(.d (.bool true))]) (ds:=[(.sl ((x15).map D.str) false),(.bool true)]) (av.grow H14 (i:=0) rfl (av.eq .nil))⟩
set_option maxRecDepth 20000 in
set_option maxHeartbeats 4000000 in
theorem gF (n:Nat) (a1:(List Str)) (a2:(List Str)) (r:Bool) (h:dD n a1 a2=some r):aY R cfg.P 12 [(.sl ((a1).map D.str) false),(.sl ((a2).map D.str) false)] (.d (.bool r)):=by
 unfold dD at h
 refine aY.of_wp E.obj.toObjOk (C:=cfg) Tryd.func12 rfl GD rfl ?_
 have H0:Has ay ay []:=Has.pure
 refine aj.seq ?_
 refine aj.region E.obj rfl ?_
 refine ai.val rfl (ah rfl) rfl ?_
 refine ai.nil ?_
 refine aj.seq ?_
 refine aj.seq ?_
 refine aj.region E.obj rfl ?_
 refine ai.val rfl (ae rfl) rfl ?_
 refine ai.val rfl (aI rfl kI) rfl ?_
 refine ai.val rfl (ae rfl) rfl ?_
 refine ai.val rfl (aI rfl kI) rfl ?_
 refine ai.val rfl (ak rfl rfl iA) rfl ?_
 refine ai.nil ?_
 refine aj.cond rfl (fun hb3=>?_) (fun hb3=>?_)
 ·
  replace h:=bg hb3 h
  refine aj.seq ?_
  refine aj.region E.obj rfl ?_
  refine ai.val rfl (ah rfl) rfl ?_
  refine ai.nil ?_
  have hr:=Option.some.inj h
  subst hr
  exact aj.ret ⟨_,rfl,rfl,eG (av.eq .nil)⟩
 replace h:=aZ hb3 h
 refine aj.skip ?_
 refine aj.seq ?_
 refine aj.seq ?_
 refine aj.region E.obj rfl ?_
 refine ai.val rfl (ah rfl) rfl ?_
 refine ai.nil ?_
 refine aj.block ?_
 refine kS.start (B:=ay) (α:=Int) (fun k a=>bG a1 a2 k a=some r) (fun a=>[(0,(.d (.sl ((a1).map D.str) false))),(1,(.d (.sl ((a2).map D.str) false))),(5,(.d (.int .i64 a)))]) (fun a=>[]) ?_ ?_ n ⟨0,_,_,ay,.refl _ _,.refl _,(aa.r rfl (aa.r rfl (aa.r rfl aa.nil))),H0.sl [] rfl rfl,h⟩
 ·
  intro a h; simp [bG] at h
 intro k12 x11 S9 H10 h
 replace h:bG a1 a2 (k12 + 1) x11=some r:=h
 replace H10:Has ay S9 []:=H10
 unfold bG at h
 refine aj.seq ?_
 refine aj.seq ?_
 refine aj.region E.obj rfl ?_
 refine ai.val rfl (ae rfl) rfl ?_
 refine ai.val rfl (ae rfl) rfl ?_
 refine ai.val rfl (aI rfl kI) rfl ?_
 refine ai.val rfl (ak rfl rfl bE) rfl ?_
 refine ai.nil ?_
 refine aj.cond rfl (fun hb13=>?_) (fun hb13=>?_)
 ·
  replace h:=bg hb13 h
  refine aj.skip ?_
  refine aj.seq ?_
  refine aj.block ?_
  refine aj.seq ?_
  obtain ⟨z14,hzz14,h⟩:=bind_some h
  obtain ⟨z15,hzz15,h⟩:=bind_some h
  refine aj.l6 E.obj qH Ig [(0,none),(1,none),(5,none),(25,some 8)] (by kernel_rfl) [] (by decide) [some (.d (.sl ((a1).map D.str) false)),some (.d (.int .i64 x11)),some (.eptr (.str z14) 0),some (.d (.str z14)),some (.d (.sl ((a2).map D.str) false)),some (.d (.int .i64 x11)),some (.eptr (.str z15) 0),some (.d (.str z15)),some (.d (.bool (!(z14 == z15))))] ?_
  refine ⟨[0,1,2,3,4,5,6,7,8],by kernel_rfl,?_,_,rfl,?_⟩
  ·
   refine .v rfl rfl rfl rfl (ae rfl) ?_
   refine .v rfl rfl rfl rfl (ae rfl) ?_
   refine .v rfl rfl rfl rfl (bO rfl rfl (df (enc:=D.str) hzz14 gV yS (((fun _=>rfl) _).trans kg.symm))) ?_
   refine .v rfl rfl rfl rfl (aX rfl (dB j5 rfl)) ?_
   refine .v rfl rfl rfl rfl (ae rfl) ?_
   refine .v rfl rfl rfl rfl (ae rfl) ?_
   refine .v rfl rfl rfl rfl (bO rfl rfl (df (enc:=D.str) hzz15 gV yS (((fun _=>rfl) _).trans kg.symm))) ?_
   refine .v rfl rfl rfl rfl (aX rfl (dB j5 rfl)) ?_
   refine .v rfl rfl rfl rfl (ak rfl rfl jJ) ?_
   exact .nil
  refine aj.cond rfl (fun hb16=>?_) (fun hb16=>?_)
  ·
   replace h:=bg hb16 h
   refine aj.seq ?_
   refine aj.region E.obj rfl ?_
   refine ai.val rfl (ah rfl) rfl ?_
   refine ai.nil ?_
   have hr:=Option.some.inj h
   subst hr
   exact aj.ret ⟨_,rfl,rfl,eG (av.eq .nil)⟩
  replace h:=aZ hb16 h
  refine aj.skip ?_
  refine aj.region E.obj rfl ?_
  refine ai.val rfl (ae rfl) rfl ?_
  refine ai.val rfl (ak rfl rfl bf) rfl ?_
  refine ai.val rfl (ah rfl) rfl ?_
  refine ai.nil ?_
  exact ⟨(IntKind.wrap .i64 (x11 + 1)),_,_,S9,.refl _ _,.refl _,(aa.r rfl (aa.r rfl (aa.r rfl aa.nil))),H10.sl [] rfl rfl,h⟩
 replace h:=aZ hb13 h
 refine aj.exit ?_
 refine aj.seq ?_
 refine aj.region E.obj rfl ?_
 refine ai.val rfl (ah rfl) rfl ?_
 refine ai.nil ?_
 have hr:=Option.some.inj h
 subst hr
 exact aj.ret ⟨_,rfl,rfl,eG (av.eq .nil)⟩
set_option maxRecDepth 20000 in
set_option maxHeartbeats 4000000 in
theorem iN (n:Nat) (a1:(List aD)) (a2:(List aD)) (r:Bool) (h:dH n a1 a2=some r):aY R cfg.P 15 [(.sl ((a1).map az) false),(.sl ((a2).map az) false)] (.d (.bool r)):=by
 unfold dH at h
 refine aY.of_wp E.obj.toObjOk (C:=cfg) Tryd.func15 rfl GK rfl ?_
 have H0:Has ay ay []:=Has.pure
 refine aj.seq ?_
 refine aj.region E.obj rfl ?_
 refine ai.val rfl (ah rfl) rfl ?_
 refine ai.nil ?_
 refine aj.seq ?_
 refine aj.seq ?_
 refine aj.region E.obj rfl ?_
 refine ai.val rfl (ae rfl) rfl ?_
 refine ai.val rfl (aI rfl pR) rfl ?_
 refine ai.val rfl (ae rfl) rfl ?_
 refine ai.val rfl (aI rfl pR) rfl ?_
 refine ai.val rfl (ak rfl rfl iA) rfl ?_
 refine ai.nil ?_
 refine aj.cond rfl (fun hb3=>?_) (fun hb3=>?_)
 ·
  replace h:=bg hb3 h
  refine aj.seq ?_
  refine aj.region E.obj rfl ?_
  refine ai.val rfl (ah rfl) rfl ?_
  refine ai.nil ?_
  have hr:=Option.some.inj h
  subst hr
  exact aj.ret ⟨_,rfl,rfl,eG (av.eq .nil)⟩
 replace h:=aZ hb3 h
 refine aj.skip ?_
 refine aj.seq ?_
 refine aj.seq ?_
 refine aj.region E.obj rfl ?_
 refine ai.val rfl (ah rfl) rfl ?_
 refine ai.nil ?_
 refine aj.block ?_
 refine kS.start (B:=ay) (α:=Int) (fun k a=>bz a1 a2 k a=some r) (fun a=>[(0,(.d (.sl ((a1).map az) false))),(1,(.d (.sl ((a2).map az) false))),(5,(.d (.int .i64 a)))]) (fun a=>[]) ?_ ?_ n ⟨0,_,_,ay,.refl _ _,.refl _,(aa.r rfl (aa.r rfl (aa.r rfl aa.nil))),H0.sl [] rfl rfl,h⟩
 ·
  intro a h; simp [bz] at h
 intro k12 x11 S9 H10 h
 replace h:bz a1 a2 (k12 + 1) x11=some r:=h
 replace H10:Has ay S9 []:=H10
 unfold bz at h
 refine aj.seq ?_
 refine aj.seq ?_
 refine aj.region E.obj rfl ?_
 refine ai.val rfl (ae rfl) rfl ?_
 refine ai.val rfl (ae rfl) rfl ?_
 refine ai.val rfl (aI rfl pR) rfl ?_
 refine ai.val rfl (ak rfl rfl bE) rfl ?_
 refine ai.nil ?_
 refine aj.cond rfl (fun hb13=>?_) (fun hb13=>?_)
 ·
  replace h:=bg hb13 h
  refine aj.skip ?_
  refine aj.seq ?_
  refine aj.block ?_
  refine aj.seq ?_
  obtain ⟨z14,hzz14,h⟩:=bind_some h
  obtain ⟨z15,hzz15,h⟩:=bind_some h
  refine aj.l6 E.obj qH Ig [(0,none),(1,none),(5,none),(25,some 8)] (by kernel_rfl) [] (by decide) [some (.d (.sl ((a1).map az) false)),some (.d (.int .i64 x11)),some (.eptr (az z14) 0),some (.d (az z14)),some (.d (.sl ((a2).map az) false)),some (.d (.int .i64 x11)),some (.eptr (az z15) 0),some (.d (az z15)),some (.d (.bool (!(aD.beq z14 z15))))] ?_
  refine ⟨[0,1,2,3,4,5,6,7,8],by kernel_rfl,?_,_,rfl,?_⟩
  ·
   refine .v rfl rfl rfl rfl (ae rfl) ?_
   refine .v rfl rfl rfl rfl (ae rfl) ?_
   refine .v rfl rfl rfl rfl (bO rfl rfl (df (enc:=az) hzz14 mI uq ((aD.len _).trans iL.symm))) ?_
   refine .v rfl rfl rfl rfl (aX rfl (aD.lX qg iL)) ?_
   refine .v rfl rfl rfl rfl (ae rfl) ?_
   refine .v rfl rfl rfl rfl (ae rfl) ?_
   refine .v rfl rfl rfl rfl (bO rfl rfl (df (enc:=az) hzz15 mI uq ((aD.len _).trans iL.symm))) ?_
   refine .v rfl rfl rfl rfl (aX rfl (aD.lX qg iL)) ?_
   refine .v rfl rfl rfl rfl (ak rfl rfl (Ag (aD.eq _) (aD.eq _) (FZ _ _))) ?_
   exact .nil
  refine aj.cond rfl (fun hb16=>?_) (fun hb16=>?_)
  ·
   replace h:=bg hb16 h
   refine aj.seq ?_
   refine aj.region E.obj rfl ?_
   refine ai.val rfl (ah rfl) rfl ?_
   refine ai.nil ?_
   have hr:=Option.some.inj h
   subst hr
   exact aj.ret ⟨_,rfl,rfl,eG (av.eq .nil)⟩
  replace h:=aZ hb16 h
  refine aj.skip ?_
  refine aj.region E.obj rfl ?_
  refine ai.val rfl (ae rfl) rfl ?_
  refine ai.val rfl (ak rfl rfl bf) rfl ?_
  refine ai.val rfl (ah rfl) rfl ?_
  refine ai.nil ?_
  exact ⟨(IntKind.wrap .i64 (x11 + 1)),_,_,S9,.refl _ _,.refl _,(aa.r rfl (aa.r rfl (aa.r rfl aa.nil))),H10.sl [] rfl rfl,h⟩
 replace h:=aZ hb13 h
 refine aj.exit ?_
 refine aj.seq ?_
 refine aj.region E.obj rfl ?_
 refine ai.val rfl (ah rfl) rfl ?_
 refine ai.nil ?_
 have hr:=Option.some.inj h
 subst hr
 exact aj.ret ⟨_,rfl,rfl,eG (av.eq .nil)⟩
set_option maxRecDepth 20000 in
set_option maxHeartbeats 4000000 in
theorem jM (n:Nat) (a1:Str) (a2:Str) (r:Bool) (h:eY n a1 a2=some r):aY R cfg.P 67 [(.str a1),(.str a2)] (.d (.bool r)):=by
 unfold eY at h
 refine aY.of_wp E.obj.toObjOk (C:=cfg) Tryd.func67 rfl Gg rfl ?_
 have H0:Has ay ay []:=Has.pure
 refine aj.seq ?_
 refine aj.region E.obj rfl ?_
 refine ai.val rfl (ah rfl) rfl ?_
 refine ai.nil ?_
 refine aj.seq ?_
 refine aj.region E.obj rfl ?_
 refine ai.val rfl (ae rfl) rfl ?_
 refine ai.val rfl (cz rfl (bQ jK) rfl) rfl ?_
 refine ai.val rfl (ae rfl) rfl ?_
 refine ai.val rfl (cz rfl (bQ jK) rfl) rfl ?_
 refine ai.val rfl (ak rfl rfl dN) rfl ?_
 refine ai.val rfl (ae rfl) rfl ?_
 obtain ⟨z4,hzz4,h⟩:=bind_some h
 refine ai.aT 7 17 (.d (.bool z4)) ?_ ?_
 ·
  rcases Bool.eq_false_or_eq_true ((decide (((a2).length:Int) ≤ ((a1).length:Int)))) with hB3 | hB3
  ·
   refine ai.bool hB3 ?_
   replace hzz4:=bg hB3 hzz4
   refine ai.val rfl (ae rfl) rfl ?_
   refine ai.val rfl (ae rfl) rfl ?_
   refine ai.val rfl (cz rfl (bQ jK) rfl) rfl ?_
   obtain ⟨z5,hzz5,hzz4⟩:=bind_some hzz4
   refine ai.val rfl (sV rfl rfl jK hzz5) rfl ?_
   refine ai.val rfl (ae rfl) rfl ?_
   refine ai.val rfl (ak rfl rfl jf) rfl ?_
   refine ai.val rfl (au (b:=true) rfl rfl) rfl ?_
   cases hzz4
   exact ai.nil ⟨_,rfl,(aa.put (aa.push rfl (aa.push rfl (aa.push rfl (aa.push rfl (aa.push rfl (aa.push rfl (aa.put (.refl _) (Less.eq (by rw [hB3]))))))))) (.refl _))⟩
  refine ai.bool hB3 ?_
  refine ai.no rfl rfl ?_
  refine ai.no rfl rfl ?_
  refine ai.no rfl rfl ?_
  refine ai.no rfl rfl ?_
  refine ai.no rfl rfl ?_
  refine ai.no rfl rfl ?_
  refine ai.val rfl (au (b:=false) rfl rfl) rfl ?_
  replace hzz4:=aZ hB3 hzz4
  cases hzz4
  exact ai.nil ⟨_,rfl,(aa.put (aa.push rfl (aa.push rfl (aa.push rfl (aa.push rfl (aa.push rfl (aa.push rfl (aa.put (.refl _) (Less.eq (by rw [hB3]))))))))) (.refl _))⟩
 refine ai.val rfl (ah rfl) rfl ?_
 refine ai.nil ?_
 have hr:=Option.some.inj h
 subst hr
 exact aj.ret ⟨_,rfl,rfl,eG (av.eq .nil)⟩
set_option maxRecDepth 20000 in
set_option maxHeartbeats 4000000 in
theorem jN (n:Nat) (a1:Str) (a2:Str) (r:Bool) (h:fu n a1 a2=some r):aY R cfg.P 82 [(.str a1),(.str a2)] (.d (.bool r)):=by
 unfold fu at h
 refine aY.of_wp E.obj.toObjOk (C:=cfg) Tryd.func82 rfl Gh rfl ?_
 have H0:Has ay ay []:=Has.pure
 refine aj.seq ?_
 refine aj.region E.obj rfl ?_
 refine ai.val rfl (ah rfl) rfl ?_
 refine ai.nil ?_
 refine aj.seq ?_
 refine aj.region E.obj rfl ?_
 refine ai.val rfl (ae rfl) rfl ?_
 refine ai.val rfl (cz rfl (bQ jK) rfl) rfl ?_
 refine ai.val rfl (ae rfl) rfl ?_
 refine ai.val rfl (cz rfl (bQ jK) rfl) rfl ?_
 refine ai.val rfl (ak rfl rfl dN) rfl ?_
 refine ai.val rfl (ae rfl) rfl ?_
 obtain ⟨z4,hzz4,h⟩:=bind_some h
 refine ai.aT 10 20 (.d (.bool z4)) ?_ ?_
 ·
  rcases Bool.eq_false_or_eq_true ((decide (((a2).length:Int) ≤ ((a1).length:Int)))) with hB3 | hB3
  ·
   refine ai.bool hB3 ?_
   replace hzz4:=bg hB3 hzz4
   refine ai.val rfl (ae rfl) rfl ?_
   refine ai.val rfl (ae rfl) rfl ?_
   refine ai.val rfl (cz rfl (bQ jK) rfl) rfl ?_
   refine ai.val rfl (ae rfl) rfl ?_
   refine ai.val rfl (cz rfl (bQ jK) rfl) rfl ?_
   refine ai.val rfl (ak rfl rfl fM) rfl ?_
   obtain ⟨z5,hzz5,hzz4⟩:=bind_some hzz4
   refine ai.val rfl (pE rfl rfl jK hzz5) rfl ?_
   refine ai.val rfl (ae rfl) rfl ?_
   refine ai.val rfl (ak rfl rfl jf) rfl ?_
   refine ai.val rfl (au (b:=true) rfl rfl) rfl ?_
   cases hzz4
   exact ai.nil ⟨_,rfl,(aa.put (aa.push rfl (aa.push rfl (aa.push rfl (aa.push rfl (aa.push rfl (aa.push rfl (aa.push rfl (aa.push rfl (aa.push rfl (aa.put (.refl _) (Less.eq (by rw [hB3])))))))))))) (.refl _))⟩
  refine ai.bool hB3 ?_
  refine ai.no rfl rfl ?_
  refine ai.no rfl rfl ?_
  refine ai.no rfl rfl ?_
  refine ai.no rfl rfl ?_
  refine ai.no rfl rfl ?_
  refine ai.no rfl rfl ?_
  refine ai.no rfl rfl ?_
  refine ai.no rfl rfl ?_
  refine ai.no rfl rfl ?_
  refine ai.val rfl (au (b:=false) rfl rfl) rfl ?_
  replace hzz4:=aZ hB3 hzz4
  cases hzz4
  exact ai.nil ⟨_,rfl,(aa.put (aa.push rfl (aa.push rfl (aa.push rfl (aa.push rfl (aa.push rfl (aa.push rfl (aa.push rfl (aa.push rfl (aa.push rfl (aa.put (.refl _) (Less.eq (by rw [hB3])))))))))))) (.refl _))⟩
 refine ai.val rfl (ah rfl) rfl ?_
 refine ai.nil ?_
 have hr:=Option.some.inj h
 subst hr
 exact aj.ret ⟨_,rfl,rfl,eG (av.eq .nil)⟩
set_option maxRecDepth 20000 in
set_option maxHeartbeats 4000000 in
theorem jL (n:Nat) (a1:Str) (a2:Str) (r:(Str × Bool)) (h:eZ n a1 a2=some r):aY R cfg.P 52 [(.str a1),(.str a2)] (.tup [.d (.str r.1),.d (.bool r.2)]):=by
 unfold eZ at h
 refine aY.of_wp E.obj.toObjOk (C:=cfg) Tryd.func52 rfl Gr rfl ?_
 have H0:Has ay ay []:=Has.pure
 refine aj.seq ?_
 refine aj.region E.obj rfl ?_
 refine ai.val rfl (ah rfl) rfl ?_
 refine ai.val rfl (ah rfl) rfl ?_
 refine ai.nil ?_
 refine aj.seq ?_
 refine aj.seq ?_
 refine aj.region E.obj rfl ?_
 refine ai.val rfl (ae rfl) rfl ?_
 refine ai.val rfl (ae rfl) rfl ?_
 obtain ⟨z3,hzz3,h⟩:=bind_some h
 refine ai.ret rfl (aA rfl rfl) (jM E _ _ _ _ hzz3 _ _ (av.eq (av.eq .nil))) rfl ?_
 refine ai.val rfl (bY rfl) rfl ?_
 refine ai.nil ?_
 refine aj.cond rfl (fun hb4=>?_) (fun hb4=>?_)
 ·
  replace h:=bg hb4 h
  refine aj.seq ?_
  refine aj.region E.obj rfl ?_
  refine ai.val rfl (ae rfl) rfl ?_
  refine ai.val rfl (ah rfl) rfl ?_
  refine ai.val rfl (ah rfl) rfl ?_
  refine ai.nil ?_
  have hr:=Option.some.inj h
  subst hr
  exact aj.ret ⟨_,rfl,rfl,fT (vs:=[(.d (.str a1)),(.d (.bool false))]) (ds:=[(.str a1),(.bool false)]) (av.eq (av.eq .nil))⟩
 replace h:=aZ hb4 h
 refine aj.skip ?_
 refine aj.seq ?_
 refine aj.region E.obj rfl ?_
 refine ai.val rfl (ae rfl) rfl ?_
 refine ai.val rfl (ae rfl) rfl ?_
 refine ai.val rfl (cz rfl (bQ jK) rfl) rfl ?_
 obtain ⟨z5,hzz5,h⟩:=bind_some h
 refine ai.val rfl (pE rfl rfl jK hzz5) rfl ?_
 refine ai.val rfl (ah rfl) rfl ?_
 refine ai.val rfl (ah rfl) rfl ?_
 refine ai.nil ?_
 have hr:=Option.some.inj h
 subst hr
 exact aj.ret ⟨_,rfl,rfl,fT (vs:=[(.d (.str z5)),(.d (.bool true))]) (ds:=[(.str z5),(.bool true)]) (av.eq (av.eq .nil))⟩
set_option maxRecDepth 20000 in
set_option maxHeartbeats 4000000 in
theorem jO (n:Nat) (a1:Str) (a2:Str) (r:(Str × Bool)) (h:fq n a1 a2=some r):aY R cfg.P 71 [(.str a1),(.str a2)] (.tup [.d (.str r.1),.d (.bool r.2)]):=by
 unfold fq at h
 refine aY.of_wp E.obj.toObjOk (C:=cfg) Tryd.func71 rfl GG rfl ?_
 have H0:Has ay ay []:=Has.pure
 refine aj.seq ?_
 refine aj.region E.obj rfl ?_
 refine ai.val rfl (ah rfl) rfl ?_
 refine ai.val rfl (ah rfl) rfl ?_
 refine ai.nil ?_
 refine aj.seq ?_
 refine aj.seq ?_
 refine aj.region E.obj rfl ?_
 refine ai.val rfl (ae rfl) rfl ?_
 refine ai.val rfl (ae rfl) rfl ?_
 obtain ⟨z3,hzz3,h⟩:=bind_some h
 refine ai.ret rfl (aA rfl rfl) (jN E _ _ _ _ hzz3 _ _ (av.eq (av.eq .nil))) rfl ?_
 refine ai.val rfl (bY rfl) rfl ?_
 refine ai.nil ?_
 refine aj.cond rfl (fun hb4=>?_) (fun hb4=>?_)
 ·
  replace h:=bg hb4 h
  refine aj.seq ?_
  refine aj.region E.obj rfl ?_
  refine ai.val rfl (ae rfl) rfl ?_
  refine ai.val rfl (ah rfl) rfl ?_
  refine ai.val rfl (ah rfl) rfl ?_
  refine ai.nil ?_
  have hr:=Option.some.inj h
  subst hr
  exact aj.ret ⟨_,rfl,rfl,fT (vs:=[(.d (.str a1)),(.d (.bool false))]) (ds:=[(.str a1),(.bool false)]) (av.eq (av.eq .nil))⟩
 replace h:=aZ hb4 h
 refine aj.skip ?_
 refine aj.seq ?_
 refine aj.region E.obj rfl ?_
 refine ai.val rfl (ae rfl) rfl ?_
 refine ai.val rfl (ae rfl) rfl ?_
 refine ai.val rfl (cz rfl (bQ jK) rfl) rfl ?_
 refine ai.val rfl (ae rfl) rfl ?_
 refine ai.val rfl (cz rfl (bQ jK) rfl) rfl ?_
 refine ai.val rfl (ak rfl rfl fM) rfl ?_
 obtain ⟨z5,hzz5,h⟩:=bind_some h
 refine ai.val rfl (sV rfl rfl jK hzz5) rfl ?_
 refine ai.val rfl (ah rfl) rfl ?_
 refine ai.val rfl (ah rfl) rfl ?_
 refine ai.nil ?_
 have hr:=Option.some.inj h
 subst hr
 exact aj.ret ⟨_,rfl,rfl,fT (vs:=[(.d (.str z5)),(.d (.bool true))]) (ds:=[(.str z5),(.bool true)]) (av.eq (av.eq .nil))⟩
set_option maxRecDepth 20000 in
set_option maxHeartbeats 4000000 in
theorem jc (n:Nat) (a1:Str) (a2:Str) (r:(Str × Bool)) (h:strings_CutPrefix n a1 a2=some r):aY R cfg.P 39 [(.str a1),(.str a2)] (.tup [.d (.str r.1),.d (.bool r.2)]):=by
 unfold strings_CutPrefix at h
 refine aY.of_wp E.obj.toObjOk (C:=cfg) Tryd.func39 rfl Hz rfl ?_
 have H0:Has ay ay []:=Has.pure
 refine aj.seq ?_
 refine aj.region E.obj rfl ?_
 refine ai.val rfl (ah rfl) rfl ?_
 refine ai.val rfl (ah rfl) rfl ?_
 refine ai.nil ?_
 refine aj.seq ?_
 refine aj.region E.obj rfl ?_
 refine ai.val rfl (ae rfl) rfl ?_
 refine ai.val rfl (ae rfl) rfl ?_
 obtain ⟨z3,hzz3,h⟩:=bind_some h
 refine ai.ret rfl (aA rfl rfl) (jL E _ _ _ _ hzz3 _ _ (av.eq (av.eq .nil))) rfl ?_
 refine ai.val rfl (aC rfl rfl) rfl ?_
 refine ai.val rfl (aC rfl rfl) rfl ?_
 refine ai.val rfl (ah rfl) rfl ?_
 refine ai.val rfl (ah rfl) rfl ?_
 refine ai.nil ?_
 have hr:=Option.some.inj h
 subst hr
 exact aj.ret ⟨_,rfl,rfl,fT (vs:=[(.d (.str z3.1)),(.d (.bool z3.2))]) (ds:=[(.str z3.1),(.bool z3.2)]) (av.eq (av.eq .nil))⟩
set_option maxRecDepth 20000 in
set_option maxHeartbeats 4000000 in
theorem oN (n:Nat) (a1:Str) (a2:Str) (r:(Str × Bool)) (h:strings_CutSuffix n a1 a2=some r):aY R cfg.P 54 [(.str a1),(.str a2)] (.tup [.d (.str r.1),.d (.bool r.2)]):=by
 unfold strings_CutSuffix at h
 refine aY.of_wp E.obj.toObjOk (C:=cfg) Tryd.func54 rfl Hm rfl ?_
 have H0:Has ay ay []:=Has.pure
 refine aj.seq ?_
 refine aj.region E.obj rfl ?_
 refine ai.val rfl (ah rfl) rfl ?_
 refine ai.val rfl (ah rfl) rfl ?_
 refine ai.nil ?_
 refine aj.seq ?_
 refine aj.region E.obj rfl ?_
 refine ai.val rfl (ae rfl) rfl ?_
 refine ai.val rfl (ae rfl) rfl ?_
 obtain ⟨z3,hzz3,h⟩:=bind_some h
 refine ai.ret rfl (aA rfl rfl) (jO E _ _ _ _ hzz3 _ _ (av.eq (av.eq .nil))) rfl ?_
 refine ai.val rfl (aC rfl rfl) rfl ?_
 refine ai.val rfl (aC rfl rfl) rfl ?_
 refine ai.val rfl (ah rfl) rfl ?_
 refine ai.val rfl (ah rfl) rfl ?_
 refine ai.nil ?_
 have hr:=Option.some.inj h
 subst hr
 exact aj.ret ⟨_,rfl,rfl,fT (vs:=[(.d (.str z3.1)),(.d (.bool z3.2))]) (ds:=[(.str z3.1),(.bool z3.2)]) (av.eq (av.eq .nil))⟩
set_option maxRecDepth 20000 in
set_option maxHeartbeats 4000000 in
theorem qx (n:Nat) (a1:Str) (r:Seg) (h:kP n a1=some r):aY R cfg.P 41 [(.str a1)] (.d (aJ r)):=by
 unfold kP at h
 refine aY.of_wp E.obj.toObjOk (C:=cfg) Tryd.func41 rfl Ha rfl ?_
 have H0:Has ay ay []:=Has.pure
 refine aj.seq ?_
 refine aj.region E.obj rfl ?_
 refine ai.alloc H0 rfl zF nZ rfl rfl (fun b2 S3 H4=>?_)
 refine ai.nil ?_
 refine aj.seq ?_
 refine aj.seq ?_
 refine aj.region E.obj rfl ?_
 refine ai.val rfl (ae rfl) rfl ?_
 obtain ⟨z5,hzz5,h⟩:=bind_some h
 refine ai.ret rfl (aA rfl rfl) (jc E _ _ _ _ hzz5 _ _ (av.eq (av.eq .nil))) rfl ?_
 refine ai.val rfl (ae rfl) rfl ?_
 refine ai.val rfl (aC rfl rfl) rfl ?_
 refine ai.val rfl (aC rfl rfl) rfl ?_
 refine ai.val rfl (ah rfl) rfl ?_
 refine ai.val rfl (ah rfl) rfl ?_
 refine ai.nil ?_
 refine aj.seq ?_
 refine aj.region E.obj rfl ?_
 refine ai.val rfl (ae rfl) rfl ?_
 refine ai.nil ?_
 refine aj.cond rfl (fun hb6=>?_) (fun hb6=>?_)
 ·
  replace h:=bg hb6 h
  refine aj.seq ?_
  refine aj.region E.obj rfl ?_
  refine ai.val rfl (ae rfl) rfl ?_
  refine ai.val rfl (dw (cs:=[(.d (.int .i64 3)),(.d (.str z5.1))]) nZ rfl (gD) (fA rfl rfl rfl rfl (fA rfl rfl rfl rfl rfl))) rfl ?_
  refine ai.less (Less.agg' (d:=aJ (Seg.mk 3 z5.1)) (aU.eq rfl (aU.eq rfl .nil)) ((Seg.eq _).trans rfl)) ?_
  refine ai.store H4 (i:=0) rfl rfl rfl rfl (Seg.eO _) rfl iD rfl om rfl rfl rfl (fun S7 H8=>?_)
  refine ai.nil ?_
  have hr:=Option.some.inj h
  subst hr
  exact aj.ret ⟨_,jr H8 (i:=0) rfl rfl rfl (jQ ql iD rfl),rfl,eG (av.oP (d:=aJ (Seg.mk 3 z5.1)) (aU.eq rfl (aU.eq rfl .nil)) ((Seg.eq _).trans rfl))⟩
 replace h:=aZ hb6 h
 refine aj.skip ?_
 refine aj.seq ?_
 refine aj.region E.obj rfl ?_
 refine ai.val rfl (ae rfl) rfl ?_
 obtain ⟨z9,hzz9,h⟩:=bind_some h
 refine ai.ret rfl (aA rfl rfl) (jc E _ _ _ _ hzz9 _ _ (av.eq (av.eq .nil))) rfl ?_
 refine ai.val rfl (ae rfl) rfl ?_
 refine ai.val rfl (aC rfl rfl) rfl ?_
 refine ai.val rfl (aC rfl rfl) rfl ?_
 refine ai.val rfl (ah rfl) rfl ?_
 refine ai.val rfl (ah rfl) rfl ?_
 refine ai.nil ?_
 refine aj.seq ?_
 refine aj.seq ?_
 refine aj.region E.obj rfl ?_
 refine ai.val rfl (ae rfl) rfl ?_
 refine ai.val rfl (bY rfl) rfl ?_
 refine ai.nil ?_
 refine aj.cond rfl (fun hb10=>?_) (fun hb10=>?_)
 ·
  replace h:=bg hb10 h
  refine aj.seq ?_
  refine aj.region E.obj rfl ?_
  refine ai.val rfl (ae rfl) rfl ?_
  refine ai.val rfl (dw (cs:=[(.d (.int .i64 0)),(.d (.str a1))]) nZ rfl (gD) (fA rfl rfl rfl rfl rfl)) rfl ?_
  refine ai.less (Less.agg' (d:=aJ (Seg.mk 0 a1)) (aU.eq rfl (aU.eq rfl .nil)) ((Seg.eq _).trans rfl)) ?_
  refine ai.store H4 (i:=0) rfl rfl rfl rfl (Seg.eO _) rfl iD rfl om rfl rfl rfl (fun S11 H12=>?_)
  refine ai.nil ?_
  have hr:=Option.some.inj h
  subst hr
  exact aj.ret ⟨_,jr H12 (i:=0) rfl rfl rfl (jQ ql iD rfl),rfl,eG (av.oP (d:=aJ (Seg.mk 0 a1)) (aU.eq rfl (aU.eq rfl .nil)) ((Seg.eq _).trans rfl))⟩
 replace h:=aZ hb10 h
 refine aj.skip ?_
 refine aj.seq ?_
 refine aj.seq ?_
 refine aj.region E.obj rfl ?_
 refine ai.val rfl (ae rfl) rfl ?_
 obtain ⟨z13,hzz13,h⟩:=bind_some h
 refine ai.ret rfl (aA rfl rfl) (oN E _ _ _ _ hzz13 _ _ (av.eq (av.eq .nil))) rfl ?_
 refine ai.val rfl (ae rfl) rfl ?_
 refine ai.val rfl (aC rfl rfl) rfl ?_
 refine ai.val rfl (aC rfl rfl) rfl ?_
 refine ai.val rfl (ah rfl) rfl ?_
 refine ai.val rfl (ah rfl) rfl ?_
 refine ai.nil ?_
 refine aj.seq ?_
 refine aj.region E.obj rfl ?_
 refine ai.val rfl (ae rfl) rfl ?_
 refine ai.nil ?_
 refine aj.cond rfl (fun hb14=>?_) (fun hb14=>?_)
 ·
  replace h:=bg hb14 h
  refine aj.seq ?_
  refine aj.region E.obj rfl ?_
  refine ai.val rfl (ae rfl) rfl ?_
  refine ai.val rfl (dw (cs:=[(.d (.int .i64 2)),(.d (.str z13.1))]) nZ rfl (gD) (fA rfl rfl rfl rfl (fA rfl rfl rfl rfl rfl))) rfl ?_
  refine ai.less (Less.agg' (d:=aJ (Seg.mk 2 z13.1)) (aU.eq rfl (aU.eq rfl .nil)) ((Seg.eq _).trans rfl)) ?_
  refine ai.store H4 (i:=0) rfl rfl rfl rfl (Seg.eO _) rfl iD rfl om rfl rfl rfl (fun S15 H16=>?_)
  refine ai.nil ?_
  have hr:=Option.some.inj h
  subst hr
  exact aj.ret ⟨_,jr H16 (i:=0) rfl rfl rfl (jQ ql iD rfl),rfl,eG (av.oP (d:=aJ (Seg.mk 2 z13.1)) (aU.eq rfl (aU.eq rfl .nil)) ((Seg.eq _).trans rfl))⟩
 replace h:=aZ hb14 h
 refine aj.skip ?_
 refine aj.seq ?_
 refine aj.region E.obj rfl ?_
 refine ai.val rfl (ae rfl) rfl ?_
 refine ai.val rfl (dw (cs:=[(.d (.int .i64 1)),(.d (.str z9.1))]) nZ rfl (gD) (fA rfl rfl rfl rfl (fA rfl rfl rfl rfl rfl))) rfl ?_
 refine ai.less (Less.agg' (d:=aJ (Seg.mk 1 z9.1)) (aU.eq rfl (aU.eq rfl .nil)) ((Seg.eq _).trans rfl)) ?_
 refine ai.store H4 (i:=0) rfl rfl rfl rfl (Seg.eO _) rfl iD rfl om rfl rfl rfl (fun S17 H18=>?_)
 refine ai.nil ?_
 have hr:=Option.some.inj h
 subst hr
 exact aj.ret ⟨_,jr H18 (i:=0) rfl rfl rfl (jQ ql iD rfl),rfl,eG (av.oP (d:=aJ (Seg.mk 1 z9.1)) (aU.eq rfl (aU.eq rfl .nil)) ((Seg.eq _).trans rfl))⟩
set_option maxRecDepth 20000 in
set_option maxHeartbeats 4000000 in
theorem lJ (n:Nat) (a1:Str) (r:((List Seg) × Bool)) (h:jA n a1=some r):aY R cfg.P 20 [(.str a1)] (.tup [.d (.sl ((r.1).map aJ) false),.d (.bool r.2)]):=by
 unfold jA at h
 refine aY.of_wp E.obj.toObjOk (C:=cfg) Tryd.func20 rfl nm20 rfl ?_
 have H0:Has ay ay []:=Has.pure
 refine aj.seq ?_
 refine aj.region E.obj rfl ?_
 refine ai.val rfl (ah rfl) rfl ?_
 refine ai.val rfl (ah rfl) rfl ?_
 refine ai.nil ?_
 refine aj.seq ?_
 refine aj.seq ?_
 refine aj.region E.obj rfl ?_
 refine ai.val rfl (ae rfl) rfl ?_
 refine ai.val rfl (ak rfl rfl jf) rfl ?_
 refine ai.nil ?_
 refine aj.cond rfl (fun hb2=>?_) (fun hb2=>?_)
 ·
  replace h:=bg hb2 h
  refine aj.seq ?_
  refine aj.region E.obj rfl ?_
  refine ai.val rfl (ah rfl) rfl ?_
  refine ai.val rfl (ah rfl) rfl ?_
  refine ai.nil ?_
  have hr:=Option.some.inj h
  subst hr
  exact aj.ret ⟨_,rfl,rfl,fT (vs:=[(.d .bJ),(.d (.bool true))]) (ds:=[(.sl (([]).map aJ) false),(.bool true)]) (av.fw rfl (.bJ false) (av.eq .nil))⟩
 replace h:=aZ hb2 h
 refine aj.skip ?_
 refine aj.seq ?_
 refine aj.region E.obj rfl ?_
 refine ai.val rfl (ae rfl) rfl ?_
 obtain ⟨z3,hzz3,h⟩:=bind_some h
 refine ai.ret rfl (aA rfl rfl) (jc E _ _ _ _ hzz3 _ _ (av.eq (av.eq .nil))) rfl ?_
 refine ai.val rfl (ae rfl) rfl ?_
 refine ai.val rfl (aC rfl rfl) rfl ?_
 refine ai.val rfl (aC rfl rfl) rfl ?_
 refine ai.val rfl (ah rfl) rfl ?_
 refine ai.val rfl (ah rfl) rfl ?_
 refine ai.nil ?_
 refine aj.seq ?_
 refine aj.seq ?_
 refine aj.region E.obj rfl ?_
 refine ai.val rfl (ae rfl) rfl ?_
 refine ai.val rfl (bY rfl) rfl ?_
 refine ai.nil ?_
 refine aj.cond rfl (fun hb4=>?_) (fun hb4=>?_)
 ·
  replace h:=bg hb4 h
  refine aj.seq ?_
  refine aj.region E.obj rfl ?_
  refine ai.val rfl (ah rfl) rfl ?_
  refine ai.val rfl (ah rfl) rfl ?_
  refine ai.nil ?_
  have hr:=Option.some.inj h
  subst hr
  exact aj.ret ⟨_,rfl,rfl,fT (vs:=[(.d .bJ),(.d (.bool false))]) (ds:=[(.sl (([]).map aJ) false),(.bool false)]) (av.fw rfl (.bJ false) (av.eq .nil))⟩
 replace h:=aZ hb4 h
 refine aj.skip ?_
 refine aj.seq ?_
 refine aj.region E.obj rfl ?_
 refine ai.val rfl (ah rfl) rfl ?_
 refine ai.nil ?_
 refine aj.seq ?_
 refine aj.seq ?_
 refine aj.region E.obj rfl ?_
 refine ai.val rfl (ae rfl) rfl ?_
 obtain ⟨z5,hzz5,h⟩:=bind_some h
 refine ai.ret rfl (aA rfl rfl) (E.strings_Split_ok _ _ _ _ hzz5 _ _ (av.eq (av.eq .nil))) rfl ?_
 refine ai.val rfl (aI rfl kI) rfl ?_
 refine ai.val rfl (ae rfl) rfl ?_
 refine ai.nil ?_
 refine aj.block ?_
 have H29:=H0.rQ
 refine kS.start (B:=ay) (α:=(List Seg) × AV × Int) (fun k a=>eU n z5 k a.1 a.2.2=some r) (fun a=>[(6,a.2.1),(19,(.d (.sl ((z5).map D.str) false))),(20,(.d (.int .i64 ((z5).length:Int)))),(21,(.d (.int .i64 a.2.2)))]) (fun a=>[.grow a.2.1 ((a.1).map aJ)]) ?_ ?_ n ⟨⟨[],(.d .bJ),0⟩,_,_,ay,.refl _ _,.refl _,(aa.r rfl (aa.r rfl (aa.r rfl (aa.r rfl aa.nil)))),H29.sl [0] rfl rfl,h⟩
 ·
  intro a h; simp [eU] at h
 intro k18 a S13 H14 h
 obtain ⟨x15,v16,x17⟩:=a
 replace h:eU n z5 (k18 + 1) x15 x17=some r:=h
 replace H14:Has ay S13 [.grow v16 ((x15).map aJ)]:=H14
 unfold eU at h
 refine aj.seq ?_
 refine aj.region E.obj rfl ?_
 refine ai.val rfl (ak rfl rfl bE) rfl ?_
 refine ai.nil ?_
 refine aj.seq ?_
 refine aj.cond rfl (fun hb19=>?_) (fun hb19=>?_)
 ·
  replace h:=bg hb19 h
  refine aj.skip ?_
  refine aj.seq ?_
  refine aj.block ?_
  refine aj.seq ?_
  refine aj.region E.obj rfl ?_
  obtain ⟨z20,hzz20,h⟩:=bind_some h
  refine ai.val rfl (bO rfl rfl (df (enc:=D.str) hzz20 gV yS (((fun _=>rfl) _).trans kg.symm))) rfl ?_
  refine ai.val rfl (aX rfl (dB j5 rfl)) rfl ?_
  refine ai.val rfl (ah rfl) rfl ?_
  refine ai.nil ?_
  refine aj.seq ?_
  refine aj.seq ?_
  refine aj.region E.obj rfl ?_
  refine ai.val rfl (ae rfl) rfl ?_
  refine ai.val rfl (xq H14 (i:=0) rfl rfl qM) rfl ?_
  refine ai.val rfl (ak rfl rfl cZ) rfl ?_
  refine ai.nil ?_
  refine aj.cond rfl (fun hb21=>?_) (fun hb21=>?_)
  ·
   replace h:=bg hb21 h
   refine aj.seq ?_
   refine aj.region E.obj rfl ?_
   refine ai.val rfl (ah rfl) rfl ?_
   refine ai.val rfl (ah rfl) rfl ?_
   refine ai.nil ?_
   have hr:=Option.some.inj h
   subst hr
   exact aj.ret ⟨_,rfl,rfl,fT (vs:=[(.d .bJ),(.d (.bool false))]) (ds:=[(.sl (([]).map aJ) false),(.bool false)]) (av.fw rfl (.bJ false) (av.eq .nil))⟩
  replace h:=aZ hb21 h
  refine aj.skip ?_
  refine aj.region E.obj rfl ?_
  refine ai.val rfl (ae rfl) rfl ?_
  refine ai.val rfl (ae rfl) rfl ?_
  obtain ⟨z22,hzz22,h⟩:=bind_some h
  refine ai.ret rfl (aA rfl rfl) (qx E _ _ _ hzz22 _ _ (av.eq .nil)) rfl ?_
  refine ai.val rfl (aK (vs:=[(.d (aJ z22))]) (ds:=[(aJ z22)]) Cs qm ql nZ iD rfl (by decide) (.cons rfl (Seg.len _) .nil) rfl (by intro d hd; simp only [List.mem_cons,List.not_mem_nil,or_false] at hd; rcases hd with rfl <;> exact Seg.agg _) rfl) rfl ?_
  obtain ⟨z23,hzz23,h⟩:=bind_some h
  refine ai.append (xs:=(x15).map aJ) (ys:=([z22]).map aJ) (zs:=(z23).map aJ) H14 rfl rfl rfl (i:=0) rfl rfl Cs Fs qm (dC hzz23) Fj rfl (aQ (enc:=aJ) (fun z=>(Seg.len z).trans iD.symm) _) (aQ (enc:=aJ) (fun z=>(Seg.len z).trans iD.symm) _) ER rfl (gB hzz23) (fun v24 S25 H26=>?_)
  refine ai.val rfl (ah rfl) rfl ?_
  refine ai.nil ?_
  refine aj.region E.obj rfl ?_
  refine ai.val rfl (ak rfl rfl bf) rfl ?_
  refine ai.val rfl (ae rfl) rfl ?_
  refine ai.nil ?_
  exact ⟨⟨z23,v24,(IntKind.wrap .i64 (x17 + 1))⟩,_,_,S25,.refl _ _,.refl _,(aa.r rfl (aa.r rfl (aa.r rfl (aa.r rfl aa.nil)))),H26.sl [0] rfl rfl,h⟩
 replace h:=aZ hb19 h
 refine aj.exit ?_
 refine aj.seq ?_
 refine aj.seq ?_
 refine aj.region E.obj rfl ?_
 refine ai.val rfl (ae rfl) rfl ?_
 obtain ⟨z27,hzz27,h⟩:=bind_some h
 refine ai.ret rfl (aA rfl rfl) (jk E _ _ _ hzz27 _ _ (av.grow H14 (i:=0) rfl .nil)) rfl ?_
 refine ai.val rfl (bY rfl) rfl ?_
 refine ai.nil ?_
 refine aj.cond rfl (fun hb28=>?_) (fun hb28=>?_)
 ·
  replace h:=bg hb28 h
  refine aj.seq ?_
  refine aj.region E.obj rfl ?_
  refine ai.val rfl (ah rfl) rfl ?_
  refine ai.val rfl (ah rfl) rfl ?_
  refine ai.nil ?_
  have hr:=Option.some.inj h
  subst hr
  exact aj.ret ⟨_,rfl,rfl,fT (vs:=[(.d .bJ),(.d (.bool false))]) (ds:=[(.sl (([]).map aJ) false),(.bool false)]) (av.fw rfl (.bJ false) (av.eq .nil))⟩
 replace h:=aZ hb28 h
 refine aj.skip ?_
 refine aj.seq ?_
 refine aj.region E.obj rfl ?_
 refine ai.val rfl (ae rfl) rfl ?_
 refine ai.val rfl (ah rfl) rfl ?_
 refine ai.val rfl (ah rfl) rfl ?_
 refine ai.nil ?_
 have hr:=Option.some.inj h
 subst hr
 exact aj.ret ⟨_,rfl,rfl,fT (vs:=[v16,(.d (.bool true))]) (ds:=[(.sl ((x15).map aJ) false),(.bool true)]) (av.grow H14 (i:=0) rfl (av.eq .nil))⟩
set_option maxRecDepth 20000 in
set_option maxHeartbeats 4000000 in
theorem lH (n:Nat)  (r:Bool) (h:fJ n  = some r):aY R cfg.P 16 [] (.d (.bool r)):=by
 unfold fJ at h
 refine aY.of_wp E.obj.toObjOk (C:=cfg) Tryd.func16 rfl GJ rfl ?_
 have H0:Has ay ay []:=Has.pure
 refine aj.seq ?_
 refine aj.region E.obj rfl ?_
 refine ai.val rfl (ah rfl) rfl ?_
 refine ai.nil ?_
 refine aj.seq ?_
 refine aj.region E.obj rfl ?_
 obtain ⟨z1,hzz1,h⟩:=bind_some h
 refine ai.ret rfl (aA rfl rfl) (lJ E _ _ _ hzz1 _ _ (av.eq .nil)) rfl ?_
 refine ai.val rfl (ae rfl) rfl ?_
 refine ai.val rfl (aC rfl rfl) rfl ?_
 refine ai.val rfl (aC rfl rfl) rfl ?_
 refine ai.val rfl (ah rfl) rfl ?_
 refine ai.val rfl (ah rfl) rfl ?_
 refine ai.nil ?_
 refine aj.seq ?_
 refine aj.region E.obj rfl ?_
 refine ai.val rfl (ae rfl) rfl ?_
 refine ai.val rfl (aK (vs:=[(.d (.str [97])),(.d (.str [55])),(.d (.str [120,32,121])),(.d (.str [122]))]) (ds:=[(.str [97]),(.str [55]),(.str [120,32,121]),(.str [122])]) kM gV j5 BP kg rfl (by decide) (.cons rfl rfl (.cons rfl rfl (.cons rfl rfl (.cons rfl rfl .nil)))) rfl (by intro d hd; simp only [List.mem_cons,List.not_mem_nil,or_false] at hd; rcases hd with rfl | rfl | rfl | rfl <;> rfl) rfl) rfl ?_
 obtain ⟨z2,hzz2,h⟩:=bind_some h
 refine ai.ret rfl (aA rfl rfl) (kr E _ _ _ _ hzz2 _ _ (av.eq (av.fw rfl (.nU _ _) .nil))) rfl ?_
 refine ai.val rfl (ae rfl) rfl ?_
 refine ai.val rfl (aC rfl rfl) rfl ?_
 refine ai.val rfl (aC rfl rfl) rfl ?_
 refine ai.val rfl (ah rfl) rfl ?_
 refine ai.val rfl (ah rfl) rfl ?_
 refine ai.nil ?_
 refine aj.seq ?_
 refine aj.region E.obj rfl ?_
 refine ai.val rfl (ae rfl) rfl ?_
 refine ai.val rfl (dw (cs:=[(.d (.str [114,101,115,116])),(.d (.str [120,37,50,48,121,47,122]))]) lg rfl (dX) (fA rfl rfl rfl rfl (fA rfl rfl rfl rfl rfl))) rfl ?_
 refine ai.less (Less.agg' (d:=az (aD.mk [114,101,115,116] [120,37,50,48,121,47,122])) (aU.eq rfl (aU.eq rfl .nil)) ((aD.eq _).trans rfl)) ?_
 refine ai.val rfl (dw (cs:=[(.d (.str [105,100])),(.d (.str [55]))]) lg rfl (dX) (fA rfl rfl rfl rfl (fA rfl rfl rfl rfl rfl))) rfl ?_
 refine ai.less (Less.agg' (d:=az (aD.mk [105,100] [55])) (aU.eq rfl (aU.eq rfl .nil)) ((aD.eq _).trans rfl)) ?_
 refine ai.val rfl (aK (vs:=[(.d (az (aD.mk [114,101,115,116] [120,37,50,48,121,47,122]))),(.d (az (aD.mk [105,100] [55])))]) (ds:=[(az (aD.mk [114,101,115,116] [120,37,50,48,121,47,122])),(az (aD.mk [105,100] [55]))]) rU mI qg lg iL rfl (by decide) (.cons rfl (aD.len _) (.cons rfl (aD.len _) .nil)) rfl (by intro d hd; simp only [List.mem_cons,List.not_mem_nil,or_false] at hd; rcases hd with rfl | rfl <;> exact aD.agg _) rfl) rfl ?_
 obtain ⟨z3,hzz3,h⟩:=bind_some h
 refine ai.ret rfl (aA rfl rfl) (jh E _ _ _ _ hzz3 _ _ (av.eq (av.fw rfl (.nU _ _) .nil))) rfl ?_
 refine ai.val rfl (ae rfl) rfl ?_
 refine ai.val rfl (aC rfl rfl) rfl ?_
 refine ai.val rfl (aC rfl rfl) rfl ?_
 refine ai.val rfl (ah rfl) rfl ?_
 refine ai.val rfl (ah rfl) rfl ?_
 refine ai.nil ?_
 refine aj.seq ?_
 refine aj.region E.obj rfl ?_
 refine ai.val rfl (ae rfl) rfl ?_
 refine ai.val rfl (dw (cs:=[(.d (.str [105,100])),(.d (.str []))]) lg rfl (dX) (fA rfl rfl rfl rfl rfl)) rfl ?_
 refine ai.less (Less.agg' (d:=az (aD.mk [105,100] [])) (aU.eq rfl (aU.eq rfl .nil)) ((aD.eq _).trans rfl)) ?_
 refine ai.val rfl (dw (cs:=[(.d (.str [114,101,115,116])),(.d (.str []))]) lg rfl (dX) (fA rfl rfl rfl rfl rfl)) rfl ?_
 refine ai.less (Less.agg' (d:=az (aD.mk [114,101,115,116] [])) (aU.eq rfl (aU.eq rfl .nil)) ((aD.eq _).trans rfl)) ?_
 refine ai.val rfl (aK (vs:=[(.d (az (aD.mk [105,100] []))),(.d (az (aD.mk [114,101,115,116] [])))]) (ds:=[(az (aD.mk [105,100] [])),(az (aD.mk [114,101,115,116] []))]) rU mI qg lg iL rfl (by decide) (.cons rfl (aD.len _) (.cons rfl (aD.len _) .nil)) rfl (by intro d hd; simp only [List.mem_cons,List.not_mem_nil,or_false] at hd; rcases hd with rfl | rfl <;> exact aD.agg _) rfl) rfl ?_
 obtain ⟨z4,hzz4,h⟩:=bind_some h
 refine ai.ret rfl (aA rfl rfl) (jh E _ _ _ _ hzz4 _ _ (av.eq (av.fw rfl (.nU _ _) .nil))) rfl ?_
 refine ai.val rfl (ae rfl) rfl ?_
 refine ai.val rfl (aC rfl rfl) rfl ?_
 refine ai.val rfl (aC rfl rfl) rfl ?_
 refine ai.val rfl (ah rfl) rfl ?_
 refine ai.val rfl (ah rfl) rfl ?_
 refine ai.nil ?_
 refine aj.seq ?_
 refine aj.region E.obj rfl ?_
 obtain ⟨z5,hzz5,h⟩:=bind_some h
 refine ai.ret rfl (aA rfl rfl) (lJ E _ _ _ hzz5 _ _ (av.eq .nil)) rfl ?_
 refine ai.val rfl (ae rfl) rfl ?_
 refine ai.val rfl (aC rfl rfl) rfl ?_
 refine ai.val rfl (aC rfl rfl) rfl ?_
 refine ai.val rfl (ah rfl) rfl ?_
 refine ai.val rfl (ah rfl) rfl ?_
 refine ai.nil ?_
 refine aj.seq ?_
 refine aj.region E.obj rfl ?_
 refine ai.val rfl (ae rfl) rfl ?_
 refine ai.val rfl (ae rfl) rfl ?_
 refine ai.aT 2 44 (.d (.bool (z1.2 && z2.2))) ?_ ?_
 ·
  rcases Bool.eq_false_or_eq_true (z1.2) with hB6 | hB6
  ·
   refine ai.bool hB6 ?_
   refine ai.val rfl (ae rfl) rfl ?_
   refine ai.val rfl (au (b:=true) rfl rfl) rfl ?_
   exact ai.nil ⟨_,rfl,(aa.put (aa.push rfl (aa.put (.refl _) (Less.eq (by rw [hB6])))) (Less.eq (by rw [hB6]; rw [Bool.true_and])))⟩
  refine ai.bool hB6 ?_
  refine ai.no rfl rfl ?_
  refine ai.val rfl (au (b:=false) rfl rfl) rfl ?_
  exact ai.nil ⟨_,rfl,(aa.put (aa.push rfl (aa.put (.refl _) (Less.eq (by rw [hB6])))) (Less.eq (by rw [hB6]; rw [Bool.false_and])))⟩
 refine ai.val rfl (ae rfl) rfl ?_
 obtain ⟨z8,hzz8,h⟩:=bind_some h
 refine ai.aT 6 51 (.d (.bool z8)) ?_ ?_
 ·
  rcases Bool.eq_false_or_eq_true ((z1.2 && z2.2)) with hB7 | hB7
  ·
   refine ai.bool hB7 ?_
   replace hzz8:=bg hB7 hzz8
   refine ai.val rfl (ae rfl) rfl ?_
   refine ai.val rfl (dw (cs:=[(.d (.str [105,100])),(.d (.str [55]))]) lg rfl (dX) (fA rfl rfl rfl rfl (fA rfl rfl rfl rfl rfl))) rfl ?_
   refine ai.less (Less.agg' (d:=az (aD.mk [105,100] [55])) (aU.eq rfl (aU.eq rfl .nil)) ((aD.eq _).trans rfl)) ?_
   refine ai.val rfl (dw (cs:=[(.d (.str [114,101,115,116])),(.d (.str [120,37,50,48,121,47,122]))]) lg rfl (dX) (fA rfl rfl rfl rfl (fA rfl rfl rfl rfl rfl))) rfl ?_
   refine ai.less (Less.agg' (d:=az (aD.mk [114,101,115,116] [120,37,50,48,121,47,122])) (aU.eq rfl (aU.eq rfl .nil)) ((aD.eq _).trans rfl)) ?_
   refine ai.val rfl (aK (vs:=[(.d (az (aD.mk [105,100] [55]))),(.d (az (aD.mk [114,101,115,116] [120,37,50,48,121,47,122])))]) (ds:=[(az (aD.mk [105,100] [55])),(az (aD.mk [114,101,115,116] [120,37,50,48,121,47,122]))]) rU mI qg lg iL rfl (by decide) (.cons rfl (aD.len _) (.cons rfl (aD.len _) .nil)) rfl (by intro d hd; simp only [List.mem_cons,List.not_mem_nil,or_false] at hd; rcases hd with rfl | rfl <;> exact aD.agg _) rfl) rfl ?_
   obtain ⟨z9,hzz9,hzz8⟩:=bind_some hzz8
   refine ai.ret rfl (aA rfl rfl) (iN E _ _ _ _ hzz9 _ _ (av.eq (av.fw rfl (.nU _ _) .nil))) rfl ?_
   refine ai.val rfl (au (b:=true) rfl rfl) rfl ?_
   cases hzz8
   exact ai.nil ⟨_,rfl,(aa.put (aa.push rfl (aa.push rfl (aa.push rfl (aa.push rfl (aa.push rfl (aa.put (.refl _) (Less.eq (by rw [hB7])))))))) (.refl _))⟩
  refine ai.bool hB7 ?_
  refine ai.no rfl rfl ?_
  refine ai.no rfl rfl ?_
  refine ai.no rfl rfl ?_
  refine ai.no rfl rfl ?_
  refine ai.no rfl rfl ?_
  refine ai.val rfl (au (b:=false) rfl rfl) rfl ?_
  replace hzz8:=aZ hB7 hzz8
  cases hzz8
  exact ai.nil ⟨_,rfl,(aa.put (aa.push rfl (aa.push rfl (aa.push rfl (aa.push rfl (aa.push rfl (aa.put (.refl _) (Less.eq (by rw [hB7])))))))) (.refl _))⟩
 refine ai.val rfl (ae rfl) rfl ?_
 refine ai.aT 2 54 (.d (.bool (z8 && z3.2))) ?_ ?_
 ·
  rcases Bool.eq_false_or_eq_true (z8) with hB10 | hB10
  ·
   refine ai.bool hB10 ?_
   refine ai.val rfl (ae rfl) rfl ?_
   refine ai.val rfl (au (b:=true) rfl rfl) rfl ?_
   exact ai.nil ⟨_,rfl,(aa.put (aa.push rfl (aa.put (.refl _) (Less.eq (by rw [hB10])))) (Less.eq (by rw [hB10]; rw [Bool.true_and])))⟩
  refine ai.bool hB10 ?_
  refine ai.no rfl rfl ?_
  refine ai.val rfl (au (b:=false) rfl rfl) rfl ?_
  exact ai.nil ⟨_,rfl,(aa.put (aa.push rfl (aa.put (.refl _) (Less.eq (by rw [hB10])))) (Less.eq (by rw [hB10]; rw [Bool.false_and])))⟩
 refine ai.val rfl (ae rfl) rfl ?_
 obtain ⟨z12,hzz12,h⟩:=bind_some h
 refine ai.aT 4 59 (.d (.bool z12)) ?_ ?_
 ·
  rcases Bool.eq_false_or_eq_true ((z8 && z3.2)) with hB11 | hB11
  ·
   refine ai.bool hB11 ?_
   replace hzz12:=bg hB11 hzz12
   refine ai.val rfl (ae rfl) rfl ?_
   refine ai.val rfl (aK (vs:=[(.d (.str [97])),(.d (.str [55])),(.d (.str [120,32,121])),(.d (.str [122]))]) (ds:=[(.str [97]),(.str [55]),(.str [120,32,121]),(.str [122])]) kM gV j5 BP kg rfl (by decide) (.cons rfl rfl (.cons rfl rfl (.cons rfl rfl (.cons rfl rfl .nil)))) rfl (by intro d hd; simp only [List.mem_cons,List.not_mem_nil,or_false] at hd; rcases hd with rfl | rfl | rfl | rfl <;> rfl) rfl) rfl ?_
   obtain ⟨z13,hzz13,hzz12⟩:=bind_some hzz12
   refine ai.ret rfl (aA rfl rfl) (gF E _ _ _ _ hzz13 _ _ (av.eq (av.fw rfl (.nU _ _) .nil))) rfl ?_
   refine ai.val rfl (au (b:=true) rfl rfl) rfl ?_
   cases hzz12
   exact ai.nil ⟨_,rfl,(aa.put (aa.push rfl (aa.push rfl (aa.push rfl (aa.put (.refl _) (Less.eq (by rw [hB11])))))) (.refl _))⟩
  refine ai.bool hB11 ?_
  refine ai.no rfl rfl ?_
  refine ai.no rfl rfl ?_
  refine ai.no rfl rfl ?_
  refine ai.val rfl (au (b:=false) rfl rfl) rfl ?_
  replace hzz12:=aZ hB11 hzz12
  cases hzz12
  exact ai.nil ⟨_,rfl,(aa.put (aa.push rfl (aa.push rfl (aa.push rfl (aa.put (.refl _) (Less.eq (by rw [hB11])))))) (.refl _))⟩
 refine ai.val rfl (ae rfl) rfl ?_
 refine ai.aT 3 63 (.d (.bool (z12 && (!z4.2)))) ?_ ?_
 ·
  rcases Bool.eq_false_or_eq_true (z12) with hB14 | hB14
  ·
   refine ai.bool hB14 ?_
   refine ai.val rfl (ae rfl) rfl ?_
   refine ai.val rfl (bY rfl) rfl ?_
   refine ai.val rfl (au (b:=true) rfl rfl) rfl ?_
   exact ai.nil ⟨_,rfl,(aa.put (aa.push rfl (aa.push rfl (aa.put (.refl _) (Less.eq (by rw [hB14]))))) (Less.eq (by rw [hB14]; rw [Bool.true_and])))⟩
  refine ai.bool hB14 ?_
  refine ai.no rfl rfl ?_
  refine ai.no rfl rfl ?_
  refine ai.val rfl (au (b:=false) rfl rfl) rfl ?_
  exact ai.nil ⟨_,rfl,(aa.put (aa.push rfl (aa.push rfl (aa.put (.refl _) (Less.eq (by rw [hB14]))))) (Less.eq (by rw [hB14]; rw [Bool.false_and])))⟩
 refine ai.val rfl (ae rfl) rfl ?_
 refine ai.aT 3 67 (.d (.bool ((z12 && (!z4.2)) && (!z5.2)))) ?_ ?_
 ·
  rcases Bool.eq_false_or_eq_true ((z12 && (!z4.2))) with hB15 | hB15
  ·
   refine ai.bool hB15 ?_
   refine ai.val rfl (ae rfl) rfl ?_
   refine ai.val rfl (bY rfl) rfl ?_
   refine ai.val rfl (au (b:=true) rfl rfl) rfl ?_
   exact ai.nil ⟨_,rfl,(aa.put (aa.push rfl (aa.push rfl (aa.put (.refl _) (Less.eq (by rw [hB15]))))) (Less.eq (by rw [hB15]; rw [Bool.true_and])))⟩
  refine ai.bool hB15 ?_
  refine ai.no rfl rfl ?_
  refine ai.no rfl rfl ?_
  refine ai.val rfl (au (b:=false) rfl rfl) rfl ?_
  exact ai.nil ⟨_,rfl,(aa.put (aa.push rfl (aa.push rfl (aa.put (.refl _) (Less.eq (by rw [hB15]))))) (Less.eq (by rw [hB15]; rw [Bool.false_and])))⟩
 refine ai.val rfl (ah rfl) rfl ?_
 refine ai.nil ?_
 have hr:=Option.some.inj h
 subst hr
 exact aj.ret ⟨_,rfl,rfl,eG (av.eq .nil)⟩
set_option maxRecDepth 20000 in
set_option maxHeartbeats 4000000 in
theorem uB (n:Nat) (a1:(List Seg)) (a2:dF) (a3:iO) (a4:(List Str)) (a5:(List aD)) (a6:Bool) (r:Bool) (h:fC n a1 a2 a3 a4 a5 a6=some r):aY R cfg.P 3 [(.sl ((a1).map aJ) false),(iI a2),(lT a3),(.sl ((a4).map D.str) false),(.sl ((a5).map az) false),(.bool a6)] (.d (.bool r)):=by
 unfold fC at h
 refine aY.of_wp E.obj.toObjOk (C:=cfg) Tryd.func3 rfl Il rfl ?_
 have H0:Has ay ay []:=Has.pure
 refine aj.seq ?_
 refine aj.region E.obj rfl ?_
 refine ai.box H0 rfl rfl rfl (dF.eO _) rfl (fun b7 S8 H9=>?_)
 refine ai.box H9 rfl rfl rfl (iO.eO _) rfl (fun b10 S11 H12=>?_)
 refine ai.val rfl (ah rfl) rfl ?_
 refine ai.nil ?_
 refine aj.seq ?_
 obtain ⟨z13,hzz13,h⟩:=bind_some h
 obtain ⟨z14,hzz14,h⟩:=bind_some h
 obtain ⟨z15,hzz15,h⟩:=bind_some h
 refine aj.l6 E.obj qH Ia [(0,some 15),(3,some 16),(4,some 17),(5,none),(7,none),(8,none)] (by kernel_rfl) [] (by decide) [some (.d (.sl ((a1).map aJ) false)),some (.d (.sl ((a1).map aJ) false)),some (.d (.int .i64 ((a1).length:Int))),some (.d (.int .i64 (wI ((a1).length:Int) 10))),some (.d (.sl ((z13).map aJ) false)),some (.d (.sl ((a4).map D.str) false)),some (.d (.sl ((a4).map D.str) false)),some (.d (.int .i64 ((a4).length:Int))),some (.d (.int .i64 (wI ((a4).length:Int) 10))),some (.d (.sl ((z14).map D.str) false)),some (.d (.sl ((a5).map az) false)),some (.d (.sl ((a5).map az) false)),some (.d (.int .i64 ((a5).length:Int))),some (.d (.int .i64 (wI ((a5).length:Int) 6))),some (.d (.sl ((z15).map az) false)),some (.d (.sl ((z13).map aJ) false)),some (.d (.sl ((z14).map D.str) false)),some (.d (.sl ((z15).map az) false))] ?_
 refine ⟨[0,1,2,3,4,5,6,7,8,9,10,11,12,13,14,15,16,17],by kernel_rfl,?_,_,rfl,?_⟩
 ·
  refine .v rfl rfl rfl rfl (ae rfl) ?_
  refine .v rfl rfl rfl rfl (ae rfl) ?_
  refine .v rfl rfl rfl rfl (aI rfl qM) ?_
  refine .v rfl rfl rfl rfl (vP rfl rfl) ?_
  refine .v rfl rfl rfl rfl (nS rfl rfl qm FN (fun z=>(Seg.len z).trans iD.symm) hzz13) ?_
  refine .v rfl rfl rfl rfl (ae rfl) ?_
  refine .v rfl rfl rfl rfl (ae rfl) ?_
  refine .v rfl rfl rfl rfl (aI rfl kI) ?_
  refine .v rfl rfl rfl rfl (vP rfl rfl) ?_
  refine .v rfl rfl rfl rfl (nS rfl rfl gV FQ (fun z=>((fun _=>rfl) z).trans kg.symm) hzz14) ?_
  refine .v rfl rfl rfl rfl (ae rfl) ?_
  refine .v rfl rfl rfl rfl (ae rfl) ?_
  refine .v rfl rfl rfl rfl (aI rfl pR) ?_
  refine .v rfl rfl rfl rfl (vP rfl rfl) ?_
  refine .v rfl rfl rfl rfl (nS rfl rfl mI Gl (fun z=>(aD.len z).trans iL.symm) hzz15) ?_
  refine .v rfl rfl rfl rfl (ah rfl) ?_
  refine .v rfl rfl rfl rfl (ah rfl) ?_
  refine .v rfl rfl rfl rfl (ah rfl) ?_
  exact .nil
 refine aj.join (B:=ay) (α:=(List Seg) × (List Str)) (fun a=>bW n z15 a.1 a.2=some r) (fun a=>[(0,(.d (.sl ((a.1).map aJ) false))),(3,(.d (.sl ((a.2).map D.str) false))),(4,(.d (.sl ((z15).map az) false)))]) (fun a=>[]) ?_ ?_
 ·
  intro a S16 H17 h
  obtain ⟨x18,x19⟩:=a
  replace h:bW n z15 x18 x19=some r:=h
  replace H17:Has ay S16 []:=H17
  unfold bW at h
  refine aj.seq ?_
  refine aj.region E.obj rfl ?_
  refine ai.val rfl (ae rfl) rfl ?_
  refine ai.val rfl (ae rfl) rfl ?_
  obtain ⟨z21,hzz21,h⟩:=bind_some h
  refine ai.ret rfl (aA rfl rfl) (kr E _ _ _ _ hzz21 _ _ (av.eq (av.eq .nil))) rfl ?_
  refine ai.val rfl (ae rfl) rfl ?_
  refine ai.val rfl (aC rfl rfl) rfl ?_
  refine ai.val rfl (aC rfl rfl) rfl ?_
  refine ai.val rfl (ah rfl) rfl ?_
  refine ai.val rfl (ah rfl) rfl ?_
  refine ai.nil ?_
  refine aj.seq ?_
  refine aj.region E.obj rfl ?_
  refine ai.val rfl (ae rfl) rfl ?_
  refine ai.val rfl (ae rfl) rfl ?_
  obtain ⟨z22,hzz22,h⟩:=bind_some h
  refine ai.ret rfl (aA rfl rfl) (o5 E _ _ _ _ hzz22 _ _ (av.eq (av.eq .nil))) rfl ?_
  refine ai.val rfl (ae rfl) rfl ?_
  refine ai.val rfl (aC rfl rfl) rfl ?_
  refine ai.val rfl (aC rfl rfl) rfl ?_
  refine ai.val rfl (ah rfl) rfl ?_
  refine ai.val rfl (ah rfl) rfl ?_
  refine ai.nil ?_
  refine aj.seq ?_
  refine aj.region E.obj rfl ?_
  refine ai.val rfl (ae rfl) rfl ?_
  refine ai.val rfl (ae rfl) rfl ?_
  obtain ⟨z23,hzz23,h⟩:=bind_some h
  refine ai.ret rfl (aA rfl rfl) (jh E _ _ _ _ hzz23 _ _ (av.eq (av.eq .nil))) rfl ?_
  refine ai.val rfl (ae rfl) rfl ?_
  refine ai.val rfl (aC rfl rfl) rfl ?_
  refine ai.val rfl (aC rfl rfl) rfl ?_
  refine ai.val rfl (ah rfl) rfl ?_
  refine ai.val rfl (ah rfl) rfl ?_
  refine ai.nil ?_
  refine aj.seq ?_
  refine aj.region E.obj rfl ?_
  refine ai.val rfl (ae rfl) rfl ?_
  refine ai.val rfl (ae rfl) rfl ?_
  obtain ⟨z24,hzz24,h⟩:=bind_some h
  refine ai.ret rfl (aA rfl rfl) (kG E _ _ _ _ hzz24 _ _ (av.eq (av.eq .nil))) rfl ?_
  refine ai.val rfl (ae rfl) rfl ?_
  refine ai.val rfl (aC rfl rfl) rfl ?_
  refine ai.val rfl (aC rfl rfl) rfl ?_
  refine ai.val rfl (ah rfl) rfl ?_
  refine ai.val rfl (ah rfl) rfl ?_
  refine ai.nil ?_
  refine aj.seq ?_
  refine aj.region E.obj rfl ?_
  refine ai.val rfl (ae rfl) rfl ?_
  refine ai.val rfl (ae rfl) rfl ?_
  obtain ⟨z25,hzz25,h⟩:=bind_some h
  refine ai.ret rfl (aA rfl rfl) (jh E _ _ _ _ hzz25 _ _ (av.eq (av.eq .nil))) rfl ?_
  refine ai.val rfl (ae rfl) rfl ?_
  refine ai.val rfl (aC rfl rfl) rfl ?_
  refine ai.val rfl (aC rfl rfl) rfl ?_
  refine ai.val rfl (ah rfl) rfl ?_
  refine ai.val rfl (ah rfl) rfl ?_
  refine ai.nil ?_
  refine aj.seq ?_
  refine aj.region E.obj rfl ?_
  refine ai.val rfl (ae rfl) rfl ?_
  refine ai.val rfl (ae rfl) rfl ?_
  obtain ⟨z26,hzz26,h⟩:=bind_some h
  refine ai.ret rfl (aA rfl rfl) (kG E _ _ _ _ hzz26 _ _ (av.eq (av.eq .nil))) rfl ?_
  refine ai.val rfl (ae rfl) rfl ?_
  refine ai.val rfl (aC rfl rfl) rfl ?_
  refine ai.val rfl (aC rfl rfl) rfl ?_
  refine ai.val rfl (ah rfl) rfl ?_
  refine ai.val rfl (ah rfl) rfl ?_
  refine ai.nil ?_
  refine aj.seq ?_
  refine aj.seq ?_
  refine aj.region E.obj rfl ?_
  refine ai.val rfl (ae rfl) rfl ?_
  refine ai.val rfl (aI rfl pR) rfl ?_
  refine ai.val rfl (ak rfl rfl fO) rfl ?_
  refine ai.val rfl (ae rfl) rfl ?_
  refine ai.aT 4 89 (.d (.bool ((decide (0 < ((z22.1).length:Int))) && (((z15).length:Int) == 0)))) ?_ ?_
  ·
   rcases Bool.eq_false_or_eq_true ((decide (0 < ((z22.1).length:Int)))) with hB27 | hB27
   ·
    refine ai.bool hB27 ?_
    refine ai.val rfl (ae rfl) rfl ?_
    refine ai.val rfl (aI rfl pR) rfl ?_
    refine ai.val rfl (ak rfl rfl cZ) rfl ?_
    refine ai.val rfl (au (b:=true) rfl rfl) rfl ?_
    exact ai.nil ⟨_,rfl,(aa.put (aa.push rfl (aa.push rfl (aa.push rfl (aa.put (.refl _) (Less.eq (by rw [hB27])))))) (Less.eq (by rw [hB27]; rw [Bool.true_and])))⟩
   refine ai.bool hB27 ?_
   refine ai.no rfl rfl ?_
   refine ai.no rfl rfl ?_
   refine ai.no rfl rfl ?_
   refine ai.val rfl (au (b:=false) rfl rfl) rfl ?_
   exact ai.nil ⟨_,rfl,(aa.put (aa.push rfl (aa.push rfl (aa.push rfl (aa.put (.refl _) (Less.eq (by rw [hB27])))))) (Less.eq (by rw [hB27]; rw [Bool.false_and])))⟩
  refine ai.val rfl (ae rfl) rfl ?_
  obtain ⟨z29,hzz29,h⟩:=bind_some h
  refine ai.aT 10 100 (.d (.bool z29)) ?_ ?_
  ·
   rcases Bool.eq_false_or_eq_true (((decide (0 < ((z22.1).length:Int))) && (((z15).length:Int) == 0))) with hB28 | hB28
   ·
    refine ai.bool hB28 ?_
    replace hzz29:=bg hB28 hzz29
    refine ai.val rfl (ae rfl) rfl ?_
    refine ai.val rfl (ae rfl) rfl ?_
    obtain ⟨z30,hzz30,hzz29⟩:=bind_some hzz29
    refine ai.ret rfl (aA rfl rfl) (gF E _ _ _ _ hzz30 _ _ (av.eq (av.eq .nil))) rfl ?_
    refine ai.val rfl (bY rfl) rfl ?_
    refine ai.val rfl (ae rfl) rfl ?_
    refine ai.aT 4 99 (.d (.bool ((!z30) || (!(z25.2 == z26.2))))) ?_ ?_
    ·
     rcases Bool.eq_false_or_eq_true ((!z30)) with hB31 | hB31
     ·
      refine ai.bool hB31 ?_
      refine ai.no rfl rfl ?_
      refine ai.no rfl rfl ?_
      refine ai.no rfl rfl ?_
      refine ai.val rfl (au (b:=true) rfl rfl) rfl ?_
      exact ai.nil ⟨_,rfl,(aa.put (aa.push rfl (aa.push rfl (aa.push rfl (aa.put (.refl _) (Less.eq (by rw [hB31])))))) (Less.eq (by rw [hB31]; rw [Bool.true_or])))⟩
     refine ai.bool hB31 ?_
     refine ai.val rfl (ae rfl) rfl ?_
     refine ai.val rfl (ae rfl) rfl ?_
     refine ai.val rfl (ak rfl rfl (Co Gb)) rfl ?_
     refine ai.val rfl (au (b:=false) rfl rfl) rfl ?_
     exact ai.nil ⟨_,rfl,(aa.put (aa.push rfl (aa.push rfl (aa.push rfl (aa.put (.refl _) (Less.eq (by rw [hB31])))))) (Less.eq (by rw [hB31]; rw [Bool.false_or])))⟩
    refine ai.val rfl (au (b:=true) rfl rfl) rfl ?_
    cases hzz29
    exact ai.nil ⟨_,rfl,(aa.put (aa.push rfl (aa.push rfl (aa.push rfl (aa.push rfl (aa.push rfl (aa.push rfl (aa.put (.refl _) (Less.eq (by rw [hB28]))))))))) (.refl _))⟩
   refine ai.bool hB28 ?_
   refine ai.no rfl rfl ?_
   refine ai.no rfl rfl ?_
   refine ai.no rfl rfl ?_
   refine ai.no rfl rfl ?_
   refine ai.no rfl rfl ?_
   refine ai.no rfl rfl ?_
   refine ai.no rfl rfl ?_
   refine ai.no rfl rfl ?_
   refine ai.no rfl rfl ?_
   refine ai.val rfl (au (b:=false) rfl rfl) rfl ?_
   replace hzz29:=aZ hB28 hzz29
   cases hzz29
   exact ai.nil ⟨_,rfl,(aa.put (aa.push rfl (aa.push rfl (aa.push rfl (aa.push rfl (aa.push rfl (aa.push rfl (aa.push rfl (aa.push rfl (aa.push rfl (aa.put (.refl _) (Less.eq (by rw [hB28])))))))))))) (.refl _))⟩
  refine ai.nil ?_
  refine aj.cond rfl (fun hb32=>?_) (fun hb32=>?_)
  ·
   replace h:=bg hb32 h
   refine aj.seq ?_
   refine aj.region E.obj rfl ?_
   refine ai.val rfl (ah rfl) rfl ?_
   refine ai.nil ?_
   have hr:=Option.some.inj h
   subst hr
   exact aj.ret ⟨_,rfl,rfl,eG (av.eq .nil)⟩
  replace h:=aZ hb32 h
  refine aj.skip ?_
  refine aj.seq ?_
  refine aj.region E.obj rfl ?_
  refine ai.val rfl (ae rfl) rfl ?_
  obtain ⟨z33,hzz33,h⟩:=bind_some h
  refine ai.ret rfl (aA rfl rfl) (jk E _ _ _ hzz33 _ _ (av.eq .nil)) rfl ?_
  refine ai.val rfl (ae rfl) rfl ?_
  obtain ⟨z34,hzz34,h⟩:=bind_some h
  refine ai.ret rfl (aA rfl rfl) (fV E _ _ _ hzz34 _ _ (av.eq .nil)) rfl ?_
  refine ai.val rfl (ak rfl rfl (rM Gb)) rfl ?_
  refine ai.val rfl (ae rfl) rfl ?_
  obtain ⟨z36,hzz36,h⟩:=bind_some h
  refine ai.aT 4 110 (.d (.bool z36)) ?_ ?_
  ·
   rcases Bool.eq_false_or_eq_true ((z33 == z34)) with hB35 | hB35
   ·
    refine ai.bool hB35 ?_
    replace hzz36:=bg hB35 hzz36
    refine ai.val rfl (ae rfl) rfl ?_
    refine ai.val rfl (ae rfl) rfl ?_
    obtain ⟨z37,hzz37,hzz36⟩:=bind_some hzz36
    refine ai.ret rfl (aA rfl rfl) (iN E _ _ _ _ hzz37 _ _ (av.eq (av.eq .nil))) rfl ?_
    refine ai.val rfl (au (b:=true) rfl rfl) rfl ?_
    cases hzz36
    exact ai.nil ⟨_,rfl,(aa.put (aa.push rfl (aa.push rfl (aa.push rfl (aa.put (.refl _) (Less.eq (by rw [hB35])))))) (.refl _))⟩
   refine ai.bool hB35 ?_
   refine ai.no rfl rfl ?_
   refine ai.no rfl rfl ?_
   refine ai.no rfl rfl ?_
   refine ai.val rfl (au (b:=false) rfl rfl) rfl ?_
   replace hzz36:=aZ hB35 hzz36
   cases hzz36
   exact ai.nil ⟨_,rfl,(aa.put (aa.push rfl (aa.push rfl (aa.push rfl (aa.put (.refl _) (Less.eq (by rw [hB35])))))) (.refl _))⟩
  refine ai.val rfl (ae rfl) rfl ?_
  refine ai.aT 4 115 (.d (.bool (z36 && (z21.2 == z22.2)))) ?_ ?_
  ·
   rcases Bool.eq_false_or_eq_true (z36) with hB38 | hB38
   ·
    refine ai.bool hB38 ?_
    refine ai.val rfl (ae rfl) rfl ?_
    refine ai.val rfl (ae rfl) rfl ?_
    refine ai.val rfl (ak rfl rfl (rM Gb)) rfl ?_
    refine ai.val rfl (au (b:=true) rfl rfl) rfl ?_
    exact ai.nil ⟨_,rfl,(aa.put (aa.push rfl (aa.push rfl (aa.push rfl (aa.put (.refl _) (Less.eq (by rw [hB38])))))) (Less.eq (by rw [hB38]; rw [Bool.true_and])))⟩
   refine ai.bool hB38 ?_
   refine ai.no rfl rfl ?_
   refine ai.no rfl rfl ?_
   refine ai.no rfl rfl ?_
   refine ai.val rfl (au (b:=false) rfl rfl) rfl ?_
   exact ai.nil ⟨_,rfl,(aa.put (aa.push rfl (aa.push rfl (aa.push rfl (aa.put (.refl _) (Less.eq (by rw [hB38])))))) (Less.eq (by rw [hB38]; rw [Bool.false_and])))⟩
  refine ai.val rfl (ae rfl) rfl ?_
  obtain ⟨z40,hzz40,h⟩:=bind_some h
  refine ai.aT 4 120 (.d (.bool z40)) ?_ ?_
  ·
   rcases Bool.eq_false_or_eq_true ((z36 && (z21.2 == z22.2))) with hB39 | hB39
   ·
    refine ai.bool hB39 ?_
    replace hzz40:=bg hB39 hzz40
    refine ai.val rfl (ae rfl) rfl ?_
    refine ai.val rfl (ae rfl) rfl ?_
    obtain ⟨z41,hzz41,hzz40⟩:=bind_some hzz40
    refine ai.ret rfl (aA rfl rfl) (gF E _ _ _ _ hzz41 _ _ (av.eq (av.eq .nil))) rfl ?_
    refine ai.val rfl (au (b:=true) rfl rfl) rfl ?_
    cases hzz40
    exact ai.nil ⟨_,rfl,(aa.put (aa.push rfl (aa.push rfl (aa.push rfl (aa.put (.refl _) (Less.eq (by rw [hB39])))))) (.refl _))⟩
   refine ai.bool hB39 ?_
   refine ai.no rfl rfl ?_
   refine ai.no rfl rfl ?_
   refine ai.no rfl rfl ?_
   refine ai.val rfl (au (b:=false) rfl rfl) rfl ?_
   replace hzz40:=aZ hB39 hzz40
   cases hzz40
   exact ai.nil ⟨_,rfl,(aa.put (aa.push rfl (aa.push rfl (aa.push rfl (aa.put (.refl _) (Less.eq (by rw [hB39])))))) (.refl _))⟩
  refine ai.val rfl (ae rfl) rfl ?_
  refine ai.aT 4 125 (.d (.bool (z40 && (z23.2 == z24.2)))) ?_ ?_
  ·
   rcases Bool.eq_false_or_eq_true (z40) with hB42 | hB42
   ·
    refine ai.bool hB42 ?_
    refine ai.val rfl (ae rfl) rfl ?_
    refine ai.val rfl (ae rfl) rfl ?_
    refine ai.val rfl (ak rfl rfl (rM Gb)) rfl ?_
    refine ai.val rfl (au (b:=true) rfl rfl) rfl ?_
    exact ai.nil ⟨_,rfl,(aa.put (aa.push rfl (aa.push rfl (aa.push rfl (aa.put (.refl _) (Less.eq (by rw [hB42])))))) (Less.eq (by rw [hB42]; rw [Bool.true_and])))⟩
   refine ai.bool hB42 ?_
   refine ai.no rfl rfl ?_
   refine ai.no rfl rfl ?_
   refine ai.no rfl rfl ?_
   refine ai.val rfl (au (b:=false) rfl rfl) rfl ?_
   exact ai.nil ⟨_,rfl,(aa.put (aa.push rfl (aa.push rfl (aa.push rfl (aa.put (.refl _) (Less.eq (by rw [hB42])))))) (Less.eq (by rw [hB42]; rw [Bool.false_and])))⟩
  refine ai.val rfl (ae rfl) rfl ?_
  obtain ⟨z44,hzz44,h⟩:=bind_some h
  refine ai.aT 2 128 (.d (.bool z44)) ?_ ?_
  ·
   rcases Bool.eq_false_or_eq_true ((z40 && (z23.2 == z24.2))) with hB43 | hB43
   ·
    refine ai.bool hB43 ?_
    replace hzz44:=bg hB43 hzz44
    obtain ⟨z45,hzz45,hzz44⟩:=bind_some hzz44
    refine ai.ret rfl (aA rfl rfl) (lH E _  _ hzz45 _ _ .nil) rfl ?_
    refine ai.val rfl (au (b:=true) rfl rfl) rfl ?_
    cases hzz44
    exact ai.nil ⟨_,rfl,(aa.put (aa.push rfl (aa.put (.refl _) (Less.eq (by rw [hB43])))) (.refl _))⟩
   refine ai.bool hB43 ?_
   refine ai.no rfl rfl ?_
   refine ai.val rfl (au (b:=false) rfl rfl) rfl ?_
   replace hzz44:=aZ hB43 hzz44
   cases hzz44
   exact ai.nil ⟨_,rfl,(aa.put (aa.push rfl (aa.put (.refl _) (Less.eq (by rw [hB43])))) (.refl _))⟩
  refine ai.val rfl (ah rfl) rfl ?_
  refine ai.nil ?_
  have hr:=Option.some.inj h
  subst hr
  exact aj.ret ⟨_,rfl,rfl,eG (av.eq .nil)⟩
 refine aj.seq ?_
 refine aj.region E.obj rfl ?_
 refine ai.val rfl (ae rfl) rfl ?_
 refine ai.nil ?_
 refine aj.cond rfl (fun hb46=>?_) (fun hb46=>?_)
 ·
  replace h:=bg hb46 h
  refine aj.seq ?_
  refine aj.region E.obj rfl ?_
  refine ai.val rfl (aB H12 (i:=1) rfl rfl (jQ Hy Gn rfl)) rfl ?_
  refine ai.less (Less.agg' (d:=iI a2) (aU.eq rfl (aU.eq rfl (aU.eq rfl .nil))) ((dF.eq _).trans rfl)) ?_
  obtain ⟨z47,hzz47,h⟩:=bind_some h
  refine ai.ret rfl (aA rfl rfl) (kZ E _ _ _ hzz47 _ _ (av.eq .nil)) rfl ?_
  refine ai.val rfl (ah rfl) rfl ?_
  refine ai.nil ?_
  refine aj.region E.obj rfl ?_
  refine ai.val rfl (aB H12 (i:=0) rfl rfl (jQ GY G8 rfl)) rfl ?_
  refine ai.less (Less.agg' (d:=lT a3) (aU.eq rfl (aU.eq rfl (aU.eq rfl .nil))) ((iO.eq _).trans rfl)) ?_
  obtain ⟨z48,hzz48,h⟩:=bind_some h
  refine ai.ret rfl (aA rfl rfl) (nG E _ _ _ hzz48 _ _ (av.eq .nil)) rfl ?_
  refine ai.val rfl (Aa (by rw [kK.eq] <;> rfl) rfl qC (dB Cy rfl)) rfl ?_
  refine ai.val rfl (ah rfl) rfl ?_
  refine ai.nil ?_
  exact ⟨⟨z47,z48.Path⟩,_,_,S11,.refl _ _,.refl _,(aa.r rfl (aa.r rfl (aa.r rfl aa.nil))),H12.sl [] rfl rfl,h⟩
 replace h:=aZ hb46 h
 refine aj.skip ?_
 exact ⟨⟨z13,z14⟩,_,_,S11,.refl _ _,.refl _,(aa.r rfl (aa.r rfl (aa.r rfl aa.nil))),H12.sl [] rfl rfl,h⟩
end
end Pr
end Go.Ev

namespace Go.Ev
namespace Pr
set_option linter.unusedVariables false
set_option linter.unusedSimpArgs false
theorem pI {n:Int} (h0:-9223372036854775808 ≤ n) (h1:n ≤ 9223372036854775807):IntKind.wrap .i64 n=n:=Go.IntWalk.i64_in n ⟨h0,h1⟩
theorem rz {α:Type} (l:List α) (i:Nat):idx l (i:Int)=l[i]?:=by
 unfold idx
 rw [if_pos (by omega)]
 simp
theorem eu {α:Type} {l done rest:List α} {z:α} (h:l=done ++ z :: rest):idx l (done.length:Int)=some z:=by
 rw [rz,h]; simp
theorem uW {α:Type} (l:List α) {i:Int} (h0:0 ≤ i) (h1:i < l.length):∃ x,idx l i=some x∧x ∈ l∧l[i.toNat]? = some x:=by
 obtain ⟨j,rfl⟩:=Int.eq_ofNat_of_zero_le h0
 have hj:j < l.length:=by omega
 exact ⟨l[j],by rw [rz]; exact List.getElem?_eq_getElem hj,List.getElem_mem hj,by simp [hj]⟩
theorem fG {α:Type} {nb:Nat} {l ys:List α} (h:(l.length + ys.length) * nb ≤ bound):app nb l ys=some (l ++ ys):=by
 unfold app; rw [if_pos h]
theorem BO {k:IntKind} {a b:Int} (h:b ≠ 0):CK k a b=some (a.tmod b):=by
 unfold CK; rw [if_neg h]
theorem bnd:bound=70368744177664:=rfl
end Pr
end Go.Ev

namespace Go.Ev
namespace Pr
set_option linter.unusedVariables false
set_option linter.unusedSimpArgs false
def AX {α σ ρ:Type} (step:α→σ→Except ρ σ) (fin:σ→ρ):List α→σ→ρ
 | [],s=>fin s
 | x :: l,s=>match step x s with
  | .error r=>r
  | .ok s'=>AX step fin l s'
theorem zM {α σ ρ:Type} {f:Nat→σ→Int→Option ρ} {l:List α} {step:α→σ→Except ρ σ} {fin:σ→ρ} (P:List α→σ→Prop)
  (hP:∀ x rest s s',P (x :: rest) s→step x s=.ok s'→P rest s')
  (hs:∀ (k:Nat) (s:σ) (x:α) (rest:List α) (i:Nat),i < l.length→idx l (i:Int)=some x→P (x :: rest) s→f (k + 1) s (i:Int)=match step x s with | .error r=>some r | .ok s'=>f k s' ((i + 1:Nat):Int))
  (he:∀ (k:Nat) (s:σ),P [] s→f (k + 1) s ((l.length:Nat):Int)=some (fin s)) :
  ∀ (rest done:List α) (k:Nat) (s:σ),l=done ++ rest→rest.length < k→P rest s→f k s ((done.length:Nat):Int)=some (AX step fin rest s)
 | [],done,k + 1,s,h,hk,hp=>by
  have:done.length=l.length:=by rw [h]; simp
  rw [this]
  exact he k s hp
 | x :: rest,done,k + 1,s,h,hk,hp=>by
  have hl:done.length < l.length:=by rw [h]; simp
  rw [hs k s x rest done.length hl (eu h) hp]
  cases hst:step x s with
  | error r=>simp only [AX,hst]
  | ok s' =>
   simp only [AX,hst]
   have:=zM P hP hs he rest (done ++ [x]) k s' (by rw [h]; simp) (by simp at hk; omega) (hP x rest s s' hp hst)
   simpa using this
theorem rO {α σ ρ:Type} {f:Nat→σ→Int→Option ρ} {l:List α} {step:α→σ→Except ρ σ} {fin:σ→ρ} (P:List α→σ→Prop)
  (hP:∀ x rest s s',P (x :: rest) s→step x s=.ok s'→P rest s')
  (hs:∀ (k:Nat) (s:σ) (x:α) (rest:List α) (i:Nat),i < l.length→idx l (i:Int)=some x→P (x :: rest) s→f (k + 1) s (i:Int)=match step x s with | .error r=>some r | .ok s'=>f k s' ((i + 1:Nat):Int))
  (he:∀ (k:Nat) (s:σ),P [] s→f (k + 1) s ((l.length:Nat):Int)=some (fin s))
  {k:Nat} {s:σ} (hk:l.length < k) (hp:P l s):f k s 0=some (AX step fin l s) :=
 zM P hP hs he l [] k s rfl hk hp
theorem uF {α σ ρ:Type} {step:α→σ→Except ρ σ} {fin:σ→ρ} {g:σ→α→σ} (h:∀ x s,step x s=.ok (g s x)):∀ (l:List α) (s:σ),AX step fin l s=fin (l.foldl g s)
 | [],s=>rfl
 | x :: l,s=>by rw [AX,h]; exact uF h l (g s x)
theorem ED {i N:Nat} (h:i < N) (hN:N ≤ 1000000000):IntKind.wrap .i64 ((i:Int) + 1)=((i + 1:Nat):Int):=by rw [pI (by omega) (by omega)]; push_cast; rfl
end Pr
end Go.Ev

namespace Go.Ev
namespace Pr
set_option linter.unusedVariables false
set_option linter.unusedSimpArgs false
def letters:Str:=[97,98,99,100,101,102,103,104,105,106,107,108,109,110,111,112,113,114,115,116,117,118,119,120,121,122,48,49,50,51,52,53,54,55,56,57]
def jB (s:Str):Bool:=!(s == []) && decide ((s.length:Int) ≤ 16) && (Lib.trimS s letters == [])
theorem Ee (n:Nat) (s:Str):jv n s=some (jB s):=by
 unfold jv jB
 by_cases h:(!(s == []) && decide ((s.length:Int) ≤ 16))=true
 ·
  have h':=h
  simp only [Bool.and_eq_true,decide_eq_true_eq] at h'
  have ht:jP n s letters=some (Lib.trimS s letters):=by
   unfold jP
   rw [if_pos ⟨by rw [bnd]; omega,by decide,by decide⟩]
  rw [if_pos h]
  show (Option.bind (jP n s letters) _).bind _=_
  rw [ht,h]; rfl
 ·
  rw [if_neg h]
  simp only [Bool.not_eq_true] at h
  rw [h]; rfl
def qA (x y:Seg):Bool:=y.Kind != 0 && y.Text == x.Text
theorem Bw (p:Seg→Option Bool) (q:Seg→Bool) (hp:∀ t,p t=some (q t)) (a:List Seg) (hl:a.length < 1000000):∀ (rest done:List Seg) (f:Nat),a=done ++ rest→rest.length < f→∃ r,aP a p f (done.length:Int)=some r∧decide (0 ≤ r)=rest.any q
 | [],done,f + 1,h,hf=>by
  rw [aP,if_neg (by rw [decide_eq_true_eq,h]; simp)]
  exact ⟨_,rfl,rfl⟩
 | t :: rest,done,f + 1,h,hf=>by
  have hlen:a.length=done.length + rest.length + 1:=by rw [h]; simp; omega
  have hw:IntKind.wrap .i64 ((done.length:Int) + 1)=(((done ++ [t]).length:Nat):Int):=by rw [pI (by omega) (by omega)]; simp
  rw [aP,if_pos (by rw [decide_eq_true_eq]; omega),eu h,Option.bind_some,hp,Option.bind_some]
  cases hq:q t with
  | true =>
   rw [if_pos rfl]
   exact ⟨_,rfl,by rw [List.any_cons,hq]; simp⟩
  | false =>
   rw [if_neg (by simp),hw]
   obtain ⟨r,h1,h2⟩:=Bw p q hp a hl rest (done ++ [t]) f (by rw [h]; simp) (by simp at hf; omega)
   exact ⟨r,h1,by rw [List.any_cons,hq,h2]; rfl⟩
theorem zw {n:Nat} (p:Seg→Option Bool) (q:Seg→Bool) (hp:∀ t,p t=some (q t)) (a:List Seg) (hl:a.length < n) (hl2:a.length < 1000000):bH n a p=some (a.any q):=by
 unfold bH dL
 obtain ⟨r,h1,h2⟩:=Bw p q hp a hl2 a [] n rfl hl
 rw [List.length_nil,show ((0:Nat):Int)=0 from rfl] at h1
 rw [h1,Option.bind_some,h2]
def mK (done:List Seg):List Seg→Bool
 | []=>true
 | x :: l=>jB x.Text && decide (0 ≤ x.Kind) && decide (x.Kind ≤ 3) && (decide (x.Kind < 2) || l.isEmpty) && !(x.Kind != 0 && done.any (qA x)) && mK (done ++ [x]) l
def jo (l:List Seg):Bool:=decide (l.length ≤ 8) && mK [] l
theorem BH {n:Nat} (a:List Seg) (ha:a.length ≤ 8) (hn:100 ≤ n):∀ (rest done:List Seg) (f:Nat),a=done ++ rest→rest.length < f→dS n a f (done.length:Int)=some (mK done rest)
 | [],done,f + 1,h,hf=>by
  rw [dS,if_neg (by rw [decide_eq_true_eq,h]; simp)]; rfl
 | x :: rest,done,f + 1,h,hf=>by
  have hlen:a.length=done.length + rest.length + 1:=by rw [h]; simp; omega
  have hw:IntKind.wrap .i64 ((done.length:Int) + 1)=(((done ++ [x]).length:Nat):Int):=by rw [pI (by omega) (by omega)]; simp
  have hw1:IntKind.wrap .i64 ((a.length:Int) - 1)=(a.length:Int) - 1:=pI (by omega) (by omega)
  have hcut:cut a 0 (done.length:Int)=some done:=by
   unfold cut; rw [if_pos ⟨by omega,by omega,by omega⟩,h]; simp
  rw [dS,if_pos (by rw [decide_eq_true_eq]; omega),eu h,Option.bind_some,Ee,Option.bind_some,hw1,mK]
  have e1:((done.length:Int) == (a.length:Int) - 1)=rest.isEmpty:=by
   cases rest with
   | nil=>simp at hlen ⊢; omega
   | cons y r=>simp at hlen ⊢; omega
  rw [e1,hcut]
  by_cases c1:jB x.Text=true
  ·
   by_cases c2:0 ≤ x.Kind
   ·
    by_cases c3:x.Kind ≤ 3
    ·
     rw [if_neg (by simp [c1]; omega)]
     by_cases c4:(decide (2 ≤ x.Kind) && !rest.isEmpty)=true
     ·
      rw [if_pos c4]
      simp only [Bool.and_eq_true,decide_eq_true_eq,Bool.not_eq_true'] at c4
      have:(decide (x.Kind < 2) || rest.isEmpty)=false:=by rw [c4.2]; simp; omega
      rw [this]; simp
     ·
      rw [if_neg c4]
      have c4':(decide (x.Kind < 2) || rest.isEmpty)=true:=by
       simp only [Bool.and_eq_true,decide_eq_true_eq,Bool.not_eq_true',not_and,Bool.not_eq_false,Bool.or_eq_true] at c4 ⊢
       by_cases q:x.Kind < 2
       ·
        exact .inl q
       ·
        exact .inr (c4 (by omega))
      have hin:(if (x.Kind != 0)=true then ((some done).bind fun z25=>((bH n z25 (fun y26=>gM n y26 x)).bind fun z27=>(some z27))) else some false)=some (x.Kind != 0 && done.any (qA x)):=by
       cases hk:(x.Kind != 0) with
       | false=>rfl
       | true =>
        rw [if_pos rfl,Option.bind_some,zw (n:=n) (fun y26=>gM n y26 x) (qA x) (fun t=>rfl) done (by omega) (by omega),Option.bind_some]; rfl
      rw [hin,Option.bind_some,c1,c4']
      cases hq:(x.Kind != 0 && done.any (qA x)) with
      | true=>simp
      | false =>
       rw [if_neg (by simp),hw]
       rw [BH a ha hn rest (done ++ [x]) f (by rw [h]; simp) (by simp at hf; omega)]
       simp [c2,c3]
    ·
     rw [if_pos (by simp; omega)]
     have:decide (x.Kind ≤ 3)=false:=by simpa using c3
     rw [this]; simp
   ·
    rw [if_pos (by simp; omega)]
    have:decide (0 ≤ x.Kind)=false:=by simpa using c2
    rw [this]; simp
  ·
   rw [if_pos (by simp [c1])]
   simp only [Bool.not_eq_true] at c1
   rw [c1]; simp
theorem qW {n:Nat} (hn:100 ≤ n) (a:List Seg):fZ n a=some (jo a):=by
 unfold fZ jo
 by_cases h:a.length ≤ 8
 ·
  rw [if_neg (by rw [decide_eq_true_eq]; omega)]
  have:=BH a h hn a [] n rfl (by omega)
  rw [List.length_nil,show ((0:Nat):Int)=0 from rfl] at this
  rw [this,decide_eq_true h]; rfl
 ·
  rw [if_pos (by rw [decide_eq_true_eq]; omega),decide_eq_false h]; rfl
def Names (l:List Seg):Prop:=l.Pairwise (fun s t=>¬(s.Kind ≠ 0∧t.Kind ≠ 0∧s.Text=t.Text))
theorem sU:∀ (l done:List Seg),mK done l=true↔(∀ x ∈ l,jB x.Text=true∧0 ≤ x.Kind∧x.Kind ≤ 3)∧(∀ pre x post,l=pre ++ x :: post→2 ≤ x.Kind→post=[])∧Names l∧(∀ x ∈ l,x.Kind ≠ 0→∀ y ∈ done,¬(y.Kind ≠ 0∧y.Text=x.Text))
 | [],done=>by simp [mK,Names]
 | x :: l,done=>by
  rw [mK,Bool.and_eq_true,sU l (done ++ [x])]
  simp only [Bool.and_eq_true,decide_eq_true_eq,Bool.or_eq_true,Bool.not_eq_true',List.isEmpty_iff,Names,List.pairwise_cons,List.mem_cons,List.mem_append,List.not_mem_nil,or_false]
  constructor
  ·
   rintro ⟨⟨⟨⟨⟨h1,h2⟩,h3⟩,h4⟩,h5⟩,h6,h7,h8,h9⟩
   refine ⟨?_,?_,⟨?_,h8⟩,?_⟩
   ·
    rintro y (rfl | hy)
    ·
     exact ⟨h1,h2,h3⟩
    ·
     exact h6 y hy
   ·
    intro pre y post e hk
    cases pre with
    | nil =>
     simp only [List.nil_append,List.cons.injEq] at e
     obtain ⟨rfl,rfl⟩:=e
     rcases h4 with q | q
     ·
      omega
     ·
      exact q
    | cons z pre =>
     simp only [List.cons_append,List.cons.injEq] at e
     exact h7 pre y post e.2 hk
   ·
    rintro y hy ⟨k1,k2,k3⟩
    exact h9 y hy k2 x (.inr rfl) ⟨k1,k3⟩
   ·
    rintro y (rfl | hy) hk z hz ⟨q1,q2⟩
    ·
     simp only [Bool.and_eq_false_iff,bne_eq_false_iff_eq,List.any_eq_false] at h5
     rcases h5 with h5 | h5
     ·
      exact hk h5
     ·
      exact h5 z hz (by simp [qA,q1,q2])
    ·
     exact h9 y hy hk z (.inl hz) ⟨q1,q2⟩
  ·
   rintro ⟨h1,h2,⟨h3,h4⟩,h5⟩
   have hx:=h1 x (.inl rfl)
   refine ⟨⟨⟨⟨⟨hx.1,hx.2.1⟩,hx.2.2⟩,?_⟩,?_⟩,fun y hy=>h1 y (.inr hy),fun pre y post e hk=>h2 (x :: pre) y post (by rw [e]; rfl) hk,h4,?_⟩
   ·
    by_cases q:x.Kind < 2
    ·
     exact .inl q
    ·
     exact .inr (h2 [] x l rfl (by omega))
   ·
    simp only [Bool.and_eq_false_iff,bne_eq_false_iff_eq,List.any_eq_false]
    by_cases q:x.Kind=0
    ·
     exact .inl q
    ·
     refine .inr (fun z hz=>?_)
     have:=h5 x (.inl rfl) q z hz
     simp only [qA,Bool.and_eq_true,bne_iff_ne,beq_iff_eq]
     exact this
   ·
    rintro y hy hk z (hz | rfl) ⟨q1,q2⟩
    ·
     exact h5 y (.inr hy) hk z hz ⟨q1,q2⟩
    ·
     exact h3 y hy ⟨q1,hk,q2⟩
theorem gY (l:List Seg):jo l=true↔l.length ≤ 8∧(∀ x ∈ l,jB x.Text=true∧0 ≤ x.Kind∧x.Kind ≤ 3)∧(∀ pre x post,l=pre ++ x :: post→2 ≤ x.Kind→post=[])∧Names l:=by
 unfold jo
 rw [Bool.and_eq_true,sU,decide_eq_true_eq]
 constructor
 ·
  rintro ⟨h1,h2,h3,h4,_⟩; exact ⟨h1,h2,h3,h4⟩
 ·
  rintro ⟨h1,h2,h3,h4⟩; exact ⟨h1,h2,h3,h4,fun _ _ _ _ h=>by cases h⟩
end Pr
end Go.Ev

namespace Go.Ev
namespace Pr
set_option linter.unusedVariables false
set_option linter.unusedSimpArgs false
def jU (c:UInt8):Bool:=(je 0 (c.toNat:Int)).getD false
theorem zy (n:Nat) (c:UInt8):je n (c.toNat:Int)=some (jU c):=by
 have h:je n (c.toNat:Int)=je 0 (c.toNat:Int):=rfl
 rw [h,jU]
 unfold je strings_IndexByte
 split <;> rfl
def qJ:Str:=[48,49,50,51,52,53,54,55,56,57,65,66,67,68,69,70]
def Cv (k:Nat):UInt8:=qJ.getD k 0
def pz (c:UInt8):Str:=if jU c=true then [c] else [37,Cv (c.toNat / 16),Cv (c.toNat % 16)]
def encS (s:Str):Str:=s.flatMap pz
theorem qX {s:Str} (c:UInt8) (h:s.length ≤ 100000000):rY s (c.toNat:Int)=some (s ++ [c]):=by
 unfold rY
 have:=c.toNat_lt
 rw [if_pos ⟨by omega,by omega,by rw [bnd]; omega⟩]
 simp
theorem rF {p:UInt8→Prop} (h:∀ m ∈ List.range 256,p (UInt8.ofNat m)) (c:UInt8):p c:=by
 have:=h c.toNat (List.mem_range.2 c.toNat_lt)
 simpa using this
set_option maxRecDepth 100000 in
theorem zg (c:UInt8):((yX .u8 ((c.toNat:Nat):Int) 4).bind fun z=>idx qJ z)=some (Cv (c.toNat / 16))∧idx qJ (BX .u8 ((c.toNat:Nat):Int) 15)=some (Cv (c.toNat % 16)) :=
 rF (p:=fun c=>((yX .u8 ((c.toNat:Nat):Int) 4).bind fun z=>idx qJ z)=some (Cv (c.toNat / 16))∧idx qJ (BX .u8 ((c.toNat:Nat):Int) 15)=some (Cv (c.toNat % 16))) (by decide +kernel) c
set_option maxRecDepth 100000 in
theorem sO (c:UInt8):(pz c).all (fun b=>!(b == 47))=true∧(pz c).length ≤ 3∧1 ≤ (pz c).length∧(jU c=true→c ≠ 37) :=
 rF (p:=fun c=>(pz c).all (fun b=>!(b == 47))=true∧(pz c).length ≤ 3∧1 ≤ (pz c).length∧(jU c=true→c ≠ 37)) (by decide +kernel) c
theorem zi (c:UInt8):(pz c).length ≤ 3:=(sO c).2.1
theorem lG:∀ (s:Str),(encS s).length ≤ 3 * s.length
 | []=>by simp [encS]
 | c :: s=>by
  have h1:=zi c
  have h2:=lG s
  unfold encS at h2 ⊢
  rw [List.flatMap_cons,List.length_append,List.length_cons]; omega
theorem Bp (s:Str):∀ b ∈ encS s,b ≠ 47:=by
 intro b hb
 unfold encS at hb
 rw [List.mem_flatMap] at hb
 obtain ⟨c,_,hc⟩:=hb
 have:=(sO c).1
 rw [List.all_eq_true] at this
 have:=this b hc
 simpa using this
theorem xL {n:Nat} (s:Str) (h:s.length < n) (h2:s.length ≤ 4000000):lN n s=some (encS s):=by
 unfold lN
 have e:encS s=(fun x:Str=>x) (s.foldl (fun (acc:Str) c=>acc ++ pz c) []):=by
  have:∀ (l acc:Str),l.foldl (fun (acc:Str) c=>acc ++ pz c) acc=acc ++ encS l:=by
   intro l
   induction l with
   | nil=>intro acc; simp [encS]
   | cons c l ih=>intro acc; rw [List.foldl_cons,ih,encS,encS,List.flatMap_cons,List.append_assoc]
  simp [this]
 rw [e,← uF (fin:=fun x:Str=>x) (g:=fun (acc:Str) c=>acc ++ pz c) (step:=fun c (acc:Str)=>(Except.ok (acc ++ pz c):Except Str Str)) (fun x s=>rfl)]
 refine rO (f:=fun k a i=>bZ n s k a i) (fun rest (a:Str)=>a.length + 3 * rest.length ≤ 20000000) (fun x rest a a' hp he=>?_) (fun k a x rest i hi hx hp=>?_) (fun k a hp=>?_) h (by simp; omega)
 ·
  cases he
  have:=zi x
  simp only [List.length_append,List.length_cons] at hp ⊢; omega
 ·
  simp only [List.length_cons] at hp
  show bZ n s (k + 1) a (i:Int)=bZ n s k (a ++ pz x) ((i + 1:Nat):Int)
  rw [bZ,if_pos (by rw [decide_eq_true_eq]; omega),hx,Option.bind_some,zy,Option.bind_some]
  unfold pz iC
  rw [ED hi (by omega)]
  cases hq:jU x with
  | true=>rw [if_pos rfl,if_pos rfl,qX x (by omega),Option.bind_some]
  | false =>
   obtain ⟨f1,f2⟩:=zg x
   rw [if_neg (by simp),if_neg (by simp),show (37:Int)=(((37:UInt8).toNat:Nat):Int) from rfl,qX 37 (by omega),Option.bind_some]
   cases hz:yX .u8 (x.toNat:Int) 4 with
   | none=>rw [hz] at f1; cases f1
   | some z =>
    rw [hz,Option.bind_some] at f1
    rw [Option.bind_some,show idx ([48,49,50,51,52,53,54,55,56,57,65,66,67,68,69,70]:Str) z=_ from f1,Option.bind_some,qX _ (by simp; omega),Option.bind_some,show idx ([48,49,50,51,52,53,54,55,56,57,65,66,67,68,69,70]:Str) _=_ from f2,Option.bind_some,qX _ (by simp; omega),Option.bind_some]
    simp
 ·
  show bZ n s (k + 1) a _=_
  rw [bZ,if_neg (by simp)]
theorem CQ {α:Type} (l:List α) (k:Nat) (h:k ≤ l.length):cut l (k:Int) (l.length:Int)=some (l.drop k):=by
 unfold cut
 rw [if_pos ⟨by omega,by omega,by omega⟩]
 simp
theorem wC {c:UInt8}:∀ (x:Str),(∀ b ∈ x,b ≠ c)→bN c x=[x]
 | [],_=>rfl
 | b :: x,h=>by
  rw [bN,if_neg (by simpa using h b List.mem_cons_self),wC x (fun y hy=>h y (List.mem_cons_of_mem _ hy))]
theorem vZ {c:UInt8}:∀ (x y:Str),(∀ b ∈ x,b ≠ c)→bN c (x ++ c :: y)=x :: bN c y
 | [],y,_=>by rw [List.nil_append,bN,if_pos (by simp)]
 | b :: x,y,h=>by
  rw [List.cons_append,bN,if_neg (by simpa using h b List.mem_cons_self),vZ x y (fun z hz=>h z (List.mem_cons_of_mem _ hz))]
theorem uL {c:UInt8}:∀ (x:Str) (l:List Str),(∀ y ∈ x :: l,∀ b ∈ y,b ≠ c)→bN c (Lib.join (x :: l) [c])=x :: l
 | x,[],h=>by rw [Lib.join_one]; exact wC x (h x List.mem_cons_self)
 | x,y :: l,h=>by
  have e:Lib.join (x :: y :: l) [c]=x ++ c :: Lib.join (y :: l) [c]:=by
   rw [Lib.join_cons,Lib.join_cons,Lib.joinTail,List.map_cons,List.flatten_cons]; simp [Lib.joinTail]
  rw [e,vZ x _ (h x List.mem_cons_self),uL y l (fun z hz=>h z (List.mem_cons_of_mem _ hz))]
theorem uY {c:UInt8} {m:Nat}:∀ (l:List Str),(∀ y ∈ l,y.length ≤ m)→(Lib.join l [c]).length ≤ (m + 1) * l.length
 | [],_=>by simp [Lib.join_nil]
 | [x],h=>by rw [Lib.join_one]; have:=h x List.mem_cons_self; simp; omega
 | x :: y :: l,h=>by
  have e:Lib.join (x :: y :: l) [c]=x ++ c :: Lib.join (y :: l) [c]:=by
   rw [Lib.join_cons,Lib.join_cons,Lib.joinTail,List.map_cons,List.flatten_cons]; simp [Lib.joinTail]
  have h1:=h x List.mem_cons_self
  have h2:=uY (c:=c) (y :: l) (fun z hz=>h z (List.mem_cons_of_mem _ hz))
  rw [e,List.length_append,List.length_cons,List.length_cons (a:=x),Nat.mul_add]; omega
def gH (p:List Str):Str:=Lib.join (p.map encS) [47]
theorem Ey {n:Nat} (hn:1000 ≤ n) (p:List Str) (h:p.length ≤ 50) (h2:∀ w ∈ p,w.length ≤ 64):iG n p=some (gH p):=by
 unfold iG
 have e:gH p=Lib.join (p.foldl (fun (acc:List Str) c=>acc ++ [encS c]) []) [47]:=by
  have:∀ (l acc:List Str),l.foldl (fun (acc:List Str) c=>acc ++ [encS c]) acc=acc ++ l.map encS:=by
   intro l
   induction l with
   | nil=>intro acc; simp
   | cons c l ih=>intro acc; rw [List.foldl_cons,ih,List.map_cons,List.append_assoc]; rfl
  simp [this,gH]
 rw [e,← uF (fin:=fun x:List Str=>Lib.join x [47]) (g:=fun (acc:List Str) c=>acc ++ [encS c]) (step:=fun c (acc:List Str)=>(Except.ok (acc ++ [encS c]):Except Str (List Str))) (fun x s=>rfl)]
 refine rO (f:=fun k a i=>bD n p k a i) (fun rest (a:List Str)=>a.length + rest.length ≤ 50∧(∀ w ∈ rest,w.length ≤ 64)∧∀ w ∈ a,w.length ≤ 192) (fun x rest a a' hp he=>?_) (fun k a x rest i hi hx hp=>?_) (fun k a hp=>?_) (by omega) ⟨by simpa using h,h2,by simp⟩
 ·
  cases he
  obtain ⟨p1,p2,p3⟩:=hp
  refine ⟨by simp only [List.length_append,List.length_cons,List.length_nil] at p1 ⊢; omega,fun w hw=>p2 w (List.mem_cons_of_mem _ hw),fun w hw=>?_⟩
  rcases List.mem_append.1 hw with q | q
  ·
   exact p3 w q
  ·
   simp at q; subst q
   have:=lG x
   have:=p2 x List.mem_cons_self
   omega
 ·
  obtain ⟨p1,p2,p3⟩:=hp
  have hx2:=p2 x List.mem_cons_self
  simp only [List.length_cons] at p1
  show bD n p (k + 1) a (i:Int)=bD n p k (a ++ [encS x]) ((i + 1:Nat):Int)
  rw [bD,if_pos (by rw [decide_eq_true_eq]; omega),hx,Option.bind_some,xL x (by omega) (by omega),Option.bind_some,fG (by rw [bnd]; simp; omega),Option.bind_some,ED hi (by omega)]
 ·
  obtain ⟨p1,p2,p3⟩:=hp
  show bD n p (k + 1) a _=_
  have hj:=uY (c:=47) a p3
  simp only [List.length_nil] at p1
  have hj2:(192 + 1) * a.length ≤ 193 * 50:=Nat.mul_le_mul_left _ (by omega)
  have:strings_Join n a [47]=some (Lib.join a [47]):=by
   unfold strings_Join
   rw [if_pos ⟨by rw [bnd]; omega,by rw [bnd]; omega⟩]
  rw [bD,if_neg (by simp),this,Option.bind_some]
end Pr
end Go.Ev

namespace Go.Ev
namespace Pr
set_option linter.unusedVariables false
set_option linter.unusedSimpArgs false
def dR:List Seg→List Str→Option (List aD)
 | [],[]=>some []
 | [],_ :: _=>none
 | s :: l,p=>if s.Kind=3 then some [aD.mk s.Text (gH p)] else match p with
  | []=>if s.Kind=2 then some [] else none
  | w :: p'=>if s.Kind=0 then (if w=s.Text then dR l p' else none) else (dR l p').map (aD.mk s.Text w :: ·)
def iq (acc:List aD):Option (List aD)→List aD × Bool
 | some x=>(acc ++ x,true)
 | none=>([],false)
theorem FM {α:Type} (w:α) (p:List α):cut (w :: p) 1 (((w :: p).length:Nat):Int)=some p:=by
 rw [show (1:Int)=((1:Nat):Int) from rfl,CQ _ 1 (by simp)]; rfl
theorem yQ {n:Nat} (hn:1000 ≤ n) (a:List Seg) (ha:a.length ≤ 100):∀ (rest done:List Seg) (k:Nat) (p:List Str) (acc:List aD),a=done ++ rest→rest.length < k→p.length ≤ 50→(∀ w ∈ p,w.length ≤ 64)→acc.length ≤ done.length→bI n a k p acc (done.length:Int)=some (iq acc (dR rest p))
 | [],done,k + 1,p,acc,h,hk,hp,hw,hacc=>by
  rw [bI,if_neg (by rw [decide_eq_true_eq,h]; simp)]
  cases p with
  | nil=>rw [if_neg (by simp)]; simp [dR,iq]
  | cons w p=>rw [if_pos (by simp)]; simp [dR,iq]
 | s :: rest,done,k + 1,p,acc,h,hk,hp,hw,hacc=>by
  have hlen:a.length=done.length + rest.length + 1:=by rw [h]; simp; omega
  have hi:IntKind.wrap .i64 ((done.length:Int) + 1)=(((done ++ [s]).length:Nat):Int):=by rw [pI (by omega) (by omega)]; simp
  rw [bI,if_pos (by rw [decide_eq_true_eq]; omega),eu h,Option.bind_some,dR.eq_def]
  simp only []
  by_cases h3:s.Kind=3
  ·
   rw [if_pos (by simpa using h3),if_pos h3,Ey hn p hp hw,Option.bind_some,fG (by rw [bnd]; simp; omega),Option.bind_some]; rfl
  ·
   rw [if_neg (by simpa using h3),if_neg h3]
   cases p with
   | nil =>
    rw [if_pos (by simp)]
    by_cases h2:s.Kind=2
    ·
     rw [if_pos (by simpa using h2),if_pos h2]; simp [iq]
    ·
     rw [if_neg (by simpa using h2),if_neg h2]; rfl
   | cons w p =>
    simp only []
    rw [if_neg (by simp; omega),show idx (w :: p) 0=some w from rfl,Option.bind_some,FM,Option.bind_some]
    unfold eP
    by_cases h0:s.Kind=0
    ·
     rw [if_neg (by simp [h0]),if_pos h0]
     by_cases he:w=s.Text
     ·
      rw [if_neg (by simp [he]),if_pos he,hi]
      exact yQ hn a ha rest (done ++ [s]) k p acc (by rw [h]; simp) (by simp at hk; omega) (by simp at hp; omega) (fun x hx=>hw x (List.mem_cons_of_mem _ hx)) (by simp; omega)
     ·
      rw [if_pos (by simpa using he),if_neg he]; rfl
    ·
     rw [if_pos (by simpa using h0),if_neg h0,fG (by rw [bnd]; simp; omega),Option.bind_some,hi]
     rw [yQ hn a ha rest (done ++ [s]) k p (acc ++ [aD.mk s.Text w]) (by rw [h]; simp) (by simp at hk; omega) (by simp at hp; omega) (fun x hx=>hw x (List.mem_cons_of_mem _ hx)) (by simp; omega)]
     cases dR rest p with
     | none=>rfl
     | some x=>simp [iq]
def iJ (l:List Seg) (p:List Str):Option (List aD):=if jo l=true then dR l p else none
theorem CW {n:Nat} (hn:1000 ≤ n) (l:List Seg) (p:List Str) (hp:p.length ≤ 50) (hw:∀ w ∈ p,w.length ≤ 64):fF n l p=some (iq [] (iJ l p)):=by
 unfold fF iJ
 rw [qW (by omega),Option.bind_some]
 cases hr:jo l with
 | false=>simp [iq]
 | true =>
  have hl:=((gY l).1 hr).1
  rw [if_neg (by simp),if_pos rfl]
  exact yQ hn l (by omega) l [] n p [] rfl (by omega) hp hw (by simp)
def dW (ps:List aD) (name:Str):Option Str:=(ps.find? (fun q=>q.Name == name)).map (·.Value)
theorem zQ {n:Nat} (ps:List aD) (name:Str) (h:ps.length < n) (h2:ps.length ≤ 100000):iP n ps name=some ((dW ps name).getD [],(dW ps name).isSome):=by
 have key:∀ (rest done:List aD) (k:Nat),ps=done ++ rest→rest.length < k→gq (kK.mk [] ps) name k (done.length:Int)=some ((dW rest name).getD [],(dW rest name).isSome):=by
  intro rest
  induction rest with
  | nil =>
   intro done k e hk
   cases k with
   | zero=>omega
   | succ k=>rw [gq,if_neg (by simp [e])]; rfl
  | cons q rest ih =>
   intro done k e hk
   cases k with
   | zero=>omega
   | succ k =>
    have hlen:ps.length=done.length + rest.length + 1:=by rw [e]; simp; omega
    rw [gq,if_pos (by rw [decide_eq_true_eq]; show (done.length:Int) < (ps.length:Int); omega),show (kK.mk [] ps).Query=ps from rfl,eu e,Option.bind_some]
    unfold dW at ih ⊢
    rw [List.find?_cons]
    cases hq:(q.Name == name) with
    | true=>rw [if_pos rfl]; rfl
    | false =>
     rw [if_neg (by simp),ED (N:=ps.length) (by omega) (by omega)]
     have:=ih (done ++ [q]) k (by rw [e]; simp) (by simp at hk; omega)
     simpa using this
 unfold iP uz
 rw [show gq (kK.mk [] ps) name n 0=_ from key ps [] n rfl h]; rfl
theorem y7 (q:aD) (ps:List aD) (name:Str):dW (q :: ps) name=if q.Name=name then some q.Value else dW ps name:=by
 unfold dW
 rw [List.find?_cons]
 by_cases h:q.Name=name
 ·
  rw [if_pos h]; simp [h]
 ·
  rw [if_neg h]
  have:(q.Name == name)=false:=by simpa using h
  rw [this]
def nz (a b:List aD):Bool:=a.length == b.length && a.all (fun q=>dW b q.Name == some q.Value)
theorem DW {n:Nat} (a b:List aD) (ha:a.length < n) (hb:b.length < n) (ha2:a.length ≤ 100000) (hb2:b.length ≤ 100000):jw n a b=some (nz a b):=by
 unfold jw nz
 by_cases h:a.length=b.length
 ·
  have e:(a.length == b.length)=true:=by simpa using h
  rw [if_neg (by simp; omega),e,Bool.true_and]
  have key:∀ (rest done:List aD) (k:Nat),a=done ++ rest→rest.length < k→dV n a b k (done.length:Int)=some (rest.all (fun q=>dW b q.Name == some q.Value)):=by
   intro rest
   induction rest with
   | nil =>
    intro done k e hk
    cases k with
    | zero=>omega
    | succ k=>rw [dV,if_neg (by simp [e])]; rfl
   | cons q rest ih =>
    intro done k e hk
    cases k with
    | zero=>omega
    | succ k =>
     have hlen:a.length=done.length + rest.length + 1:=by rw [e]; simp; omega
     rw [dV,if_pos (by rw [decide_eq_true_eq]; omega),eu e,Option.bind_some,zQ b _ hb hb2,Option.bind_some,List.all_cons]
     cases hv:dW b q.Name with
     | none=>rw [if_pos (by simp)]; simp
     | some v =>
      by_cases hvq:v=q.Value
      ·
       rw [if_neg (by simp [hvq]),ED (N:=a.length) (by omega) (by omega)]
       have:=ih (done ++ [q]) k (by rw [e]; simp) (by simp at hk; omega)
       simp only [List.length_append,List.length_cons,List.length_nil,Nat.zero_add] at this
       rw [this,hvq]; simp
      ·
       rw [if_pos (by simpa using hvq)]
       have:(some v == some q.Value)=false:=by simpa using hvq
       rw [this]; simp
  exact key a [] n rfl ha
 ·
  have e:(a.length == b.length)=false:=by simpa using h
  rw [if_pos (by simp; omega),e]; rfl
end Pr
end Go.Ev

namespace Go.Ev
namespace Pr
set_option linter.unusedVariables false
set_option linter.unusedSimpArgs false
theorem lu (n:Nat) (a lo hi:Int) (h1:lo ≤ hi) (h2:-1000000000000 ≤ lo) (h3:hi ≤ 1000000000000000):∃ r,dm n a lo hi=some r∧lo ≤ r∧r ≤ hi:=by
 unfold dm
 rw [pI (n:=hi - lo) (by omega) (by omega),pI (by omega) (by omega),BO (by omega),Option.bind_some]
 have k1:=Int.tmod_lt_of_pos a (show 0 < hi - lo + 1 by omega)
 have k2:=Int.lt_tmod_of_pos a (show 0 < hi - lo + 1 by omega)
 unfold eB
 by_cases hz:a.tmod (hi - lo + 1) < 0
 ·
  rw [if_pos (by simpa using hz)]
  rw [pI (n:=a.tmod (hi - lo + 1) + hi) (by omega) (by omega),pI (n:=a.tmod (hi - lo + 1) + hi - lo) (by omega) (by omega),pI (n:=a.tmod (hi - lo + 1) + hi - lo + 1) (by omega) (by omega),pI (by omega) (by omega)]
  exact ⟨_,rfl,by omega,by omega⟩
 ·
  rw [if_neg (by simpa using hz),pI (by omega) (by omega)]
  exact ⟨_,rfl,by omega,by omega⟩
theorem BD (n:Nat) (l:List Int) (i:Int) (h:0 ≤ i):∃ r,gy n l i=some r:=by
 unfold gy
 by_cases h0:l.length=0
 ·
  rw [if_pos (by simp; exact List.eq_nil_of_length_eq_zero h0)]; exact ⟨_,rfl⟩
 ·
  rw [if_neg (by simp; intro q; exact h0 (by rw [q]; rfl)),BO (by omega),Option.bind_some]
  have hp:(0:Int) < (l.length:Int):=by omega
  obtain ⟨x,hx,_⟩:=uW l (i:=i.tmod l.length) (Int.tmod_nonneg _ h) (Int.tmod_lt_of_pos _ hp)
  exact ⟨x,by rw [hx]; rfl⟩
theorem Fv {a b:Str} (h:a.length + b.length ≤ 100000):cat a b=some (a ++ b):=by unfold cat; rw [if_pos (by omega)]
def D7:List Str:=[[97],[98],[105,116,101,109],[122],[49],[108,105,115,116]]
def pn (i:Int):Str:=[112] ++ ([(IntKind.wrap .u8 (IntKind.wrap .i64 (48 + i)))]).map fun (n:Int)=>UInt8.ofNat n.toNat
def wX:Str:=[108,97,115,116]
def Bz:Str:=[110,111,110,101]
def yj (i:Nat) (s:Seg):Prop:=s.Kind=0∧s.Text ∈ D7∨s.Kind=1∧s.Text=pn (i:Int)
def Body (l:List Seg):Prop:=∀ (i:Nat) (s:Seg),l[i]? = some s→yj i s
structure uP (l:List Seg):Prop where
 sp:∃ b t,l=b ++ t∧b.length ≤ 4∧Body b∧(t=[]∨∃ k,(k=2∨k=3)∧t=[Seg.mk k wX])
theorem Body.snoc {l:List Seg} (h:Body l) {s:Seg} (hs:yj l.length s):Body (l ++ [s]):=fun i x hx=>by
 by_cases q:i < l.length
 ·
  rw [List.getElem?_append_left q] at hx; exact h i x hx
 ·
  rw [List.getElem?_append_right (by omega)] at hx
  have:i - l.length=0:=by
   have:=(List.getElem?_eq_some_iff.1 hx).1
   simp at this; omega
  rw [this] at hx
  simp at hx; subst hx
  rw [show i=l.length by omega]; exact hs
theorem DY {n:Nat} (a:dF):∀ (r i k:Nat) (l:List Seg),i + r=min a.Kinds.length 4→r < k→l.length=i→Body l→∃ l',aN n a k l (i:Int)=some l'∧uP l'
 | 0,i,k + 1,l,hi,hk,hl,hb=>by
  rw [aN,if_neg (by simp only [Bool.and_eq_true,decide_eq_true_eq]; omega)]
  obtain ⟨z,hz,z1,z2⟩:=lu n a.Last 0 5 (by omega) (by omega) (by omega)
  rw [hz,Option.bind_some]
  unfold dh
  by_cases c:((z == 2) || (z == 3))=true
  ·
   rw [if_pos c,fG (by rw [bnd]; simp; omega),Option.bind_some]
   simp only [Bool.or_eq_true,beq_iff_eq] at c
   exact ⟨_,rfl,⟨l,[Seg.mk z wX],rfl,by omega,hb,.inr ⟨z,c,rfl⟩⟩⟩
  ·
   rw [if_neg c]
   exact ⟨_,rfl,⟨l,[],by simp,by omega,hb,.inl rfl⟩⟩
 | r + 1,i,k + 1,l,hi,hk,hl,hb=>by
  have hii:i < a.Kinds.length:=by omega
  have h4:i < 4:=by omega
  obtain ⟨z,hz,z1,z2⟩:=lu n a.Kinds[i] 0 1 (by omega) (by omega) (by omega)
  obtain ⟨p,hp⟩:=BD n a.Texts (i:Int) (by omega)
  have h6:IntKind.wrap .i64 ((([[97],[98],[105,116,101,109],[122],[49],[108,105,115,116]]:List Str).length:Int) - 1)=5:=by rw [pI (by simp) (by simp)]; rfl
  obtain ⟨y,hy,y1,y2⟩:=lu n p 0 5 (by omega) (by omega) (by omega)
  obtain ⟨t,ht,ht2,_⟩:=uW ([[97],[98],[105,116,101,109],[122],[49],[108,105,115,116]]:List Str) (i:=y) y1 (by simp; omega)
  rw [aN,if_pos (by simp only [Bool.and_eq_true,decide_eq_true_eq]; omega),rz,List.getElem?_eq_getElem hii,Option.bind_some,hz,Option.bind_some,hp,Option.bind_some,h6,hy,Option.bind_some,ht,Option.bind_some]
  have step:∀ x:Str,yj i (Seg.mk z x)→∃ l',bV l (i:Int) (aN n a k) z t x=some l'∧uP l':=fun x hx=>by
   unfold bV
   rw [fG (by rw [bnd]; simp; omega),Option.bind_some,ED (N:=4) h4 (by omega)]
   exact DY a r (i + 1) k _ (by omega) (by omega) (by simp [hl]) (hb.snoc (by rw [hl]; exact hx))
  by_cases c:z=1
  ·
   rw [if_pos (by simpa using c),Fv (by simp),Option.bind_some]
   exact step _ (.inr ⟨c,rfl⟩)
  ·
   rw [if_neg (by simpa using c)]
   exact step _ (.inl ⟨by show z=0; omega,ht2⟩)
theorem Ex {n:Nat} (hn:10 ≤ n) (a:dF):∃ l,eD n a=some l∧uP l:=by
 unfold eD
 exact DY a (min a.Kinds.length 4) 0 n [] (by omega) (by omega) rfl (fun i s h=>by simp at h)
set_option maxRecDepth 100000 in
theorem zA:∀ t ∈ D7,jB t=true:=by decide +kernel
set_option maxRecDepth 100000 in
theorem C8:∀ i ∈ List.range 5,jB (pn (i:Int))=true∧pn (i:Int) ≠ Bz∧pn (i:Int) ≠ wX:=by decide +kernel
set_option maxRecDepth 100000 in
theorem wz:jB wX=true∧wX ≠ Bz:=by decide +kernel
theorem Fb {a b:Nat} (ha:a < 5) (hb:b < 5) (h:pn (a:Int)=pn (b:Int)):a=b:=by
 have key:∀ i ∈ List.range 5,∀ j ∈ List.range 5,pn (i:Int)=pn (j:Int)→i=j:=by decide +kernel
 exact key a (List.mem_range.2 ha) b (List.mem_range.2 hb) h
theorem uP.right {l:List Seg} (h:uP l):jo l=true∧l.length ≤ 5∧∀ s ∈ l,s.Kind ≠ 0→s.Text ≠ Bz:=by
 obtain ⟨b,t,rfl,hb,hB,ht⟩:=h.sp
 have hbs:∀ s ∈ b,∃ i,i < 4∧b[i]? = some s∧yj i s:=fun s hs=>by
  obtain ⟨i,hi⟩:=List.getElem?_of_mem hs
  have:=(List.getElem?_eq_some_iff.1 hi).1
  exact ⟨i,by omega,hi,hB i s hi⟩
 have hlow:∀ s ∈ b,jB s.Text=true∧0 ≤ s.Kind∧s.Kind < 2∧(s.Kind ≠ 0→s.Text ≠ Bz∧s.Text ≠ wX):=fun s hs=>by
  obtain ⟨i,h1,h2,h3⟩:=hbs s hs
  rcases h3 with ⟨k,q⟩ | ⟨k,q⟩
  ·
   exact ⟨zA _ q,by omega,by omega,fun x=>absurd k x⟩
  ·
   have:=C8 i (List.mem_range.2 (by omega))
   exact ⟨by rw [q]; exact this.1,by omega,by omega,fun _=>by rw [q]; exact this.2⟩
 have hnb:Names b:=by
  refine List.pairwise_iff_getElem.2 (fun i j hi hj hij=>?_)
  rintro ⟨k1,k2,k3⟩
  have e1:=hB i b[i] (List.getElem?_eq_getElem hi)
  have e2:=hB j b[j] (List.getElem?_eq_getElem hj)
  rcases e1 with ⟨e1,_⟩ | ⟨_,e1⟩
  ·
   exact k1 e1
  ·
   rcases e2 with ⟨e2,_⟩ | ⟨_,e2⟩
   ·
    exact k2 e2
   ·
    rw [e1,e2] at k3
    have:=Fb (by omega) (by omega) k3
    omega
 rcases ht with rfl | ⟨k,hk,rfl⟩
 ·
  rw [List.append_nil]
  refine ⟨(gY b).2 ⟨by omega,fun s hs=>⟨(hlow s hs).1,(hlow s hs).2.1,by have:=(hlow s hs).2.2.1; omega⟩,fun pre x post e hx=>?_,hnb⟩,by omega,fun s hs hx=>((hlow s hs).2.2.2 hx).1⟩
  have:=(hlow x (by rw [e]; simp)).2.2.1; omega
 ·
  refine ⟨(gY _).2 ⟨by simp; omega,fun s hs=>?_,fun pre x post e hx=>?_,?_⟩,by simp; omega,fun s hs hx=>?_⟩
  ·
   rcases List.mem_append.1 hs with hs | hs
   ·
    exact ⟨(hlow s hs).1,(hlow s hs).2.1,by have:=(hlow s hs).2.2.1; omega⟩
   ·
    simp at hs; subst hs
    exact ⟨wz.1,by show 0 ≤ k; omega,by show k ≤ 3; omega⟩
  ·
   rcases List.append_eq_append_iff.1 e with ⟨c,h1,h2⟩ | ⟨c,h1,h2⟩
   ·
    cases c with
    | nil=>simp at h2; exact h2.2
    | cons y c=>simp at h2
   ·
    cases c with
    | nil=>simp at h2; exact h2.2
    | cons y c =>
     simp only [List.cons_append,List.cons.injEq] at h2
     have:=(hlow x (by rw [h1,h2.1]; simp)).2.2.1; omega
  ·
   refine List.pairwise_append.2 ⟨hnb,by simp,fun s hs t ht=>?_⟩
   simp at ht; subst ht
   rintro ⟨k1,k2,k3⟩
   exact ((hlow s hs).2.2.2 k1).2 k3
  ·
   rcases List.mem_append.1 hs with hs | hs
   ·
    exact ((hlow s hs).2.2.2 hx).1
   ·
    simp at hs; subst hs; exact wz.2
def jm:List Str:=[[97],[98],[105,116,101,109],[120,32,121],[37],[97,47,98],[46,46],[122],[49],[108,105,115,116],[255],[63,61,38]]
theorem Al:∀ w ∈ jm,w ≠ []∧w.length ≤ 64:=by decide
theorem Au {s:Str} (h:jB s=true):s ≠ []∧s.length ≤ 64:=by
 unfold jB at h
 simp only [Bool.and_eq_true,Bool.not_eq_true',beq_eq_false_iff_ne,decide_eq_true_eq] at h
 exact ⟨h.1.1,by omega⟩
theorem EL {n:Nat} (a:iO) (p:List Str):∀ (r i k:Nat) (q:List aD),i + r=min a.Names.length 3→r < k→q.length=i→∃ u,bR n a jm p k q (i:Int)=some u∧u.Path=p
 | 0,i,k + 1,q,hi,hk,hl=>by
  rw [bR,if_neg (by simp only [Bool.and_eq_true,decide_eq_true_eq]; omega)]
  exact ⟨_,rfl,rfl⟩
 | r + 1,i,k + 1,q,hi,hk,hl=>by
  have hii:i < a.Names.length:=by omega
  have h12:IntKind.wrap .i64 ((jm.length:Int) - 1)=11:=by decide
  obtain ⟨z,hz,z1,z2⟩:=lu n a.Names[i] 0 11 (by omega) (by omega) (by omega)
  obtain ⟨t,ht,_,_⟩:=uW jm (i:=z) z1 (by simp [jm]; omega)
  obtain ⟨v,hv⟩:=BD n a.Values (i:Int) (by omega)
  obtain ⟨y,hy,y1,y2⟩:=lu n v 0 11 (by omega) (by omega) (by omega)
  obtain ⟨s,hs,_,_⟩:=uW jm (i:=y) y1 (by simp [jm]; omega)
  rw [bR,if_pos (by simp only [Bool.and_eq_true,decide_eq_true_eq]; omega),rz,List.getElem?_eq_getElem hii,Option.bind_some,h12,hz,Option.bind_some,ht,Option.bind_some,hv,Option.bind_some,hy,Option.bind_some,hs,Option.bind_some,fG (by rw [bnd]; simp; omega),Option.bind_some,ED (N:=3) (by omega) (by omega)]
  exact EL a p r (i + 1) k _ (by omega) (by omega) (by simp [hl])
theorem EE {n:Nat} (hn:10 ≤ n) (a:iO):∀ (r i k:Nat) (p:List Str),i + r=min a.Path.length 5→r < k→p.length=i→(∀ w ∈ p,w ∈ jm)→∃ u,bS n a jm k p (i:Int)=some u∧u.Path.length ≤ 5∧∀ w ∈ u.Path,w ∈ jm
 | 0,i,k + 1,p,hi,hk,hl,hw=>by
  rw [bS,if_neg (by simp only [Bool.and_eq_true,decide_eq_true_eq]; omega)]
  obtain ⟨u,h1,h2⟩:=EL (n:=n) a p (min a.Names.length 3) 0 n [] (by omega) (by omega) rfl
  exact ⟨u,h1,by rw [h2]; omega,by rw [h2]; exact hw⟩
 | r + 1,i,k + 1,p,hi,hk,hl,hw=>by
  have hii:i < a.Path.length:=by omega
  have h12:IntKind.wrap .i64 ((jm.length:Int) - 1)=11:=by decide
  obtain ⟨z,hz,z1,z2⟩:=lu n a.Path[i] 0 11 (by omega) (by omega) (by omega)
  obtain ⟨t,ht,ht2,_⟩:=uW jm (i:=z) z1 (by simp [jm]; omega)
  rw [bS,if_pos (by simp only [Bool.and_eq_true,decide_eq_true_eq]; omega),rz,List.getElem?_eq_getElem hii,Option.bind_some,h12,hz,Option.bind_some,ht,Option.bind_some,fG (by rw [bnd]; simp; omega),Option.bind_some,ED (N:=5) (by omega) (by omega)]
  exact EE hn a r (i + 1) k _ (by omega) (by omega) (by simp [hl]) (fun w hm=>by
   rcases List.mem_append.1 hm with q | q
   ·
    exact hw w q
   ·
    simp at q; subst q; exact ht2)
theorem EX {n:Nat} (hn:10 ≤ n) (a:iO):∃ u,fP n a=some u∧u.Path.length ≤ 5∧∀ w ∈ u.Path,w ∈ jm:=by
 unfold fP
 rw [show iT n=some jm from rfl,Option.bind_some]
 exact EE hn a (min a.Path.length 5) 0 n [] (by omega) (by omega) rfl (by simp)
theorem zl {n:Nat} (a:List Str) (h:a.length < n) (h2:a.length ≤ 100000):dD n a a=some true:=by
 unfold dD
 rw [if_neg (by simp)]
 have key:∀ (rest done:List Str) (k:Nat),a=done ++ rest→rest.length < k→bG a a k (done.length:Int)=some true:=by
  intro rest
  induction rest with
  | nil =>
   intro done k e hk
   cases k with
   | zero=>omega
   | succ k=>rw [bG,if_neg (by simp [e])]
  | cons q rest ih =>
   intro done k e hk
   cases k with
   | zero=>omega
   | succ k =>
    have hlen:a.length=done.length + rest.length + 1:=by rw [e]; simp; omega
    rw [bG,if_pos (by rw [decide_eq_true_eq]; omega),eu e,Option.bind_some,Option.bind_some,if_neg (by simp),ED (N:=a.length) (by omega) (by omega)]
    have:=ih (done ++ [q]) k (by rw [e]; simp) (by simp at hk; omega)
    simpa using this
 exact key a [] n rfl h
end Pr
end Go.Ev

namespace Go.Ev
namespace Pr
set_option linter.unusedVariables false
set_option linter.unusedSimpArgs false
set_option linter.unusedSectionVars false
section
variable {κ ν:Type} [BEq κ] [LawfulBEq κ]
theorem oD (k:κ):∀ (m:List (κ × ν)) (i:Nat),(kU k m i).map (·.2)=(kU k m 0).map (·.2)
 | [],i=>rfl
 | (a,b) :: l,i=>by
  simp only [kU]
  split
  ·
   rfl
  ·
   rw [oD k l (i + 1),oD k l 1]
theorem nu (a:κ) (b:ν) (l:List (κ × ν)) (k:κ):Bt ((a,b) :: l) k=if (k == a)=true then some b else Bt l k:=by
 unfold Bt
 simp only [kU]
 split
 ·
  rfl
 ·
  exact oD k l 1
theorem wV (k:κ):∀ (m:List (κ × ν)) (i:Nat),kU k m (i + 1)=(kU k m i).map fun r=>(r.1 + 1,r.2)
 | [],i=>rfl
 | (c,e) :: m,i=>by
  simp only [kU]
  cases (k == c) with
  | true=>rfl
  | false=>exact wV k m (i + 1)
theorem BZ (a:κ) (b:ν) (l:List (κ × ν)) (k:κ) (v:ν):vw ((a,b) :: l) k v=if (k == a)=true then (k,v) :: l else (a,b) :: vw l k v:=by
 unfold vw
 simp only [kU,wV]
 cases h:(k == a) with
 | true=>have:=eq_of_beq h; subst this; simp
 | false=>cases kU k l 0 <;> simp
theorem xJ:∀ (m:List (κ × ν)) (k k':κ) (v:ν),Bt (vw m k v) k'=if (k' == k)=true then some v else Bt m k'
 | [],k,k',v=>by
  have:vw ([]:List (κ × ν)) k v=[(k,v)]:=rfl
  rw [this,nu]
 | (a,b) :: l,k,k',v=>by
  rw [BZ]
  by_cases h:(k == a)=true
  ·
   rw [if_pos h,nu,nu]
   have:=eq_of_beq h
   subst this
   by_cases h2:(k' == k)=true
   ·
    rw [if_pos h2,if_pos h2]
   ·
    rw [if_neg h2,if_neg h2,if_neg h2]
  ·
   rw [if_neg h,nu,xJ l k k' v,nu]
   by_cases h2:(k' == a)=true
   ·
    rw [if_pos h2,if_pos h2]
    have:=eq_of_beq h2
    subst this
    have h3:(k' == k)=false:=by
     cases hq:k' == k with
     | false=>rfl
     | true=>have:=eq_of_beq hq; subst this; simp at h
    rw [h3]; rfl
   ·
    rw [if_neg h2,if_neg h2]
theorem AP (m:List (κ × ν)) (k k':κ) (v z:ν):oO (vw m k v) k' z=if (k' == k)=true then v else oO m k' z:=by
 unfold oO
 rw [xJ]
 split <;> rfl
end
end Pr
end Go.Ev

namespace Go.Ev
namespace Pr
set_option linter.unusedVariables false
set_option linter.unusedSimpArgs false
def yz (c:UInt8):Bool:=!(((decide ((c.toNat:Int) < 97)) || (decide (122 < (c.toNat:Int)))) && ((decide ((c.toNat:Int) < 48)) || (decide (57 < (c.toNat:Int)))))
theorem BB (c:UInt8):yz c=letters.contains c:=by
 have key:∀ m ∈ List.range 256,yz (UInt8.ofNat m)=letters.contains (UInt8.ofNat m):=by decide +kernel
 have:=key c.toNat (List.mem_range.2 c.toNat_lt)
 simpa using this
theorem Ct {l:List UInt8} {p:UInt8→Bool}:l.dropWhile p=[]↔∀ c ∈ l,p c=true:=by
 induction l with
 | nil=>simp
 | cons a l ih =>
  rw [List.dropWhile_cons]
  cases ha:p a with
  | true=>simp [ih,ha]
  | false=>simp [ha]
theorem Dc (s:Str):(Lib.trimS s letters == [])=s.all yz:=by
 have e:(Lib.trimS s letters=[])↔∀ c ∈ s,yz c=true:=by
  unfold Lib.trimS Lib.trimLeftS Lib.trimRightS
  rw [Ct]
  constructor
  ·
   intro h c hc
   rw [BB]
   by_cases q:letters.contains c=true
   ·
    exact q
   ·
    have key:∀ r:List UInt8,c ∈ r→c ∈ r.dropWhile fun b=>letters.contains b:=by
     intro r
     induction r with
     | nil=>intro hcr; cases hcr
     | cons a l ih =>
      intro hcr
      rw [List.dropWhile_cons]
      split
      ·
       rename_i ha
       rcases List.mem_cons.1 hcr with rfl | hcr
       ·
        exact absurd ha q
       ·
        exact ih hcr
      ·
       exact hcr
    have:=key s.reverse (by simpa using hc)
    exact h c (by simpa using this)
  ·
   intro h c hc
   have hc:c ∈ (s.reverse.dropWhile fun b=>letters.contains b):=by simpa using hc
   have:=(List.dropWhile_sublist _).subset hc
   rw [← BB]; exact h c (by simpa using this)
 cases hs:s.all yz with
 | true=>rw [List.all_eq_true] at hs; rw [beq_iff_eq]; exact e.2 hs
 | false =>
  rw [beq_eq_false_iff_ne]
  intro q
  have:=e.1 q
  rw [← List.all_eq_true,hs] at this; cases this
theorem Er {n:Nat} (s:Str) (h:s.length < n) (hl:s.length < 1000000000):iy n s=some (s.all yz && (decide (1 ≤ ((s).length:Int)) && decide (((s).length:Int) ≤ 16))):=by
 have key:∀ (rest done:Str) (k:Nat),s=done ++ rest→rest.length < k→di s k (done.length:Int)=some (rest.all yz && (decide (1 ≤ ((s).length:Int)) && decide (((s).length:Int) ≤ 16))):=by
  intro rest
  induction rest with
  | nil =>
   intro done k e hk
   cases k with
   | zero=>omega
   | succ k=>rw [di,if_neg (by rw [decide_eq_true_eq,e]; simp)]; simp
  | cons c rest ih =>
   intro done k e hk
   cases k with
   | zero=>omega
   | succ k =>
    have hlen:s.length=done.length + rest.length + 1:=by rw [e]; simp; omega
    have hw:IntKind.wrap .i64 ((done.length:Int) + 1)=(((done ++ [c]).length:Nat):Int):=by rw [pI (by omega) (by omega)]; simp
    have hi:idx (s:Str) (done.length:Int)=some c:=eu e
    rw [di,if_pos (by rw [decide_eq_true_eq]; omega),hi,Option.bind_some,hw]
    have:=ih (done ++ [c]) k (by rw [e]; simp) (by simp at hk; omega)
    rw [List.all_cons]
    have hb:yz c = !(((decide ((c.toNat:Int) < 97)) || (decide (122 < (c.toNat:Int)))) && ((decide ((c.toNat:Int) < 48)) || (decide (57 < (c.toNat:Int))))):=rfl
    rw [hb]
    simp only [hi,Option.bind_some,this]
    generalize decide ((c.toNat:Int) < 97)=d1
    generalize decide (122 < (c.toNat:Int))=d2
    generalize decide ((c.toNat:Int) < 48)=d3
    generalize decide (57 < (c.toNat:Int))=d4
    cases d1 <;> cases d2 <;> cases d3 <;> cases d4 <;> simp
 exact key s [] n rfl h
theorem Bc {n:Nat} (s:Str) (h:s.length < n) (hl:s.length < 1000000000):iy n s=some (jB s):=by
 rw [Er s h hl]
 unfold jB
 rw [Dc]
 cases s with
 | nil=>rfl
 | cons c s =>
  have e1:((c :: s) == [])=false:=rfl
  have e2:decide (1 ≤ (((c :: s).length:Nat):Int))=true:=by rw [decide_eq_true_eq]; simp; omega
  rw [e1,e2]
  cases (c :: s).all yz <;> cases decide ((((c :: s).length:Nat):Int) ≤ 16) <;> rfl
theorem zP {n:Nat} (a:List Seg) (ha:a.length ≤ 8) (ht:∀ x ∈ a,x.Text.length < n∧x.Text.length < 1000000000):∀ (rest done:List Seg) (f:Nat) (map:List (Str × Bool)),a=done ++ rest→rest.length < f→(∀ s,oO map s false=done.any fun y=>y.Kind != 0 && y.Text == s)→aO n a f map (done.length:Int)=some (mK done rest)
 | [],done,f + 1,map,h,hf,hm=>by
  rw [aO,if_neg (by rw [decide_eq_true_eq,h]; simp)]; rfl
 | x :: rest,done,f + 1,map,h,hf,hm=>by
  have hlen:a.length=done.length + rest.length + 1:=by rw [h]; simp; omega
  have hw:IntKind.wrap .i64 ((done.length:Int) + 1)=(((done ++ [x]).length:Nat):Int):=by rw [pI (by omega) (by omega)]; simp
  obtain ⟨t1,t2⟩:=ht x (by rw [h]; simp)
  have hmore:decide ((((done ++ [x]).length:Nat):Int) < (a.length:Int)) = !rest.isEmpty:=by
   cases rest with
   | nil=>rw [decide_eq_false (by simp [h])]; rfl
   | cons y r=>rw [decide_eq_true (by simp at hlen ⊢; omega)]; rfl
  have next:∀ m':List (Str × Bool),(∀ s,oO m' s false=(done ++ [x]).any fun y=>y.Kind != 0 && y.Text == s)→bU (done.length:Int) (aO n a f) m'=some (mK (done ++ [x]) rest):=fun m' hm'=>by
   unfold bU
   rw [hw]
   exact zP a ha ht rest (done ++ [x]) f m' (by rw [h]; simp) (by simp at hf; omega) hm'
  have htw:(done.any (qA x))=oO map x.Text false:=by rw [hm]; rfl
  rw [aO,if_pos (by rw [decide_eq_true_eq]; omega),eu h,Option.bind_some,Bc x.Text t1 t2,hw,hmore,mK,htw]
  by_cases k0:x.Kind < 0
  ·
   rw [if_pos (by simp [k0]),Option.bind_some,if_pos (by simp)]
   have:decide (0 ≤ x.Kind)=false:=by rw [decide_eq_false_iff_not]; omega
   simp [this]
  ·
   by_cases k3:3 < x.Kind
   ·
    rw [if_pos (by simp [k3]),Option.bind_some,if_pos (by simp)]
    have:decide (x.Kind ≤ 3)=false:=by rw [decide_eq_false_iff_not]; omega
    simp [this]
   ·
    have d0:decide (0 ≤ x.Kind)=true:=by rw [decide_eq_true_eq]; omega
    have d3:decide (x.Kind ≤ 3)=true:=by rw [decide_eq_true_eq]; omega
    rw [if_neg (by simp; omega),Option.bind_some,Option.bind_some,d0,d3]
    cases hn:jB x.Text with
    | false=>rw [if_pos (by simp)]; simp
    | true =>
     have e2:decide (2 ≤ x.Kind) = !decide (x.Kind < 2):=by
      by_cases q:x.Kind < 2
      ·
       rw [decide_eq_true q,decide_eq_false (by omega)]; rfl
      ·
       rw [decide_eq_false q,decide_eq_true (by omega)]; rfl
     rw [e2]
     cases h2:decide (x.Kind < 2) <;> cases hr:rest.isEmpty
     ·
      rw [if_pos (by simp)]; simp
     all_goals
      rw [if_neg (by simp)]
      by_cases kk:x.Kind=0
      ·
       rw [if_neg (by simp [kk]),next map (fun s=>by rw [hm s]; simp [kk])]
       simp [kk]
      ·
       rw [if_pos (by simpa using kk)]
       cases hg:oO map x.Text false with
       | true=>rw [if_pos rfl]; simp [kk]
       | false =>
        rw [if_neg (by simp),next _ (fun s=>by
         rw [AP,hm s]
         simp only [List.any_append,List.any_cons,List.any_nil,Bool.or_false]
         have kk':(x.Kind != 0)=true:=by simpa using kk
         by_cases q:s=x.Text
         ·
          subst q; simp [kk']
         ·
          have q1:(s == x.Text)=false:=by rw [beq_eq_false_iff_ne]; exact q
          have q2:(x.Text == s)=false:=by rw [beq_eq_false_iff_ne]; exact fun h=>q h.symm
          rw [q1,q2]; simp)]
        simp
theorem rX {n:Nat} (hn:100 ≤ n) (a:List Seg) (ht:∀ x ∈ a,x.Text.length < n∧x.Text.length < 1000000000):dn n a=some (jo a):=by
 unfold dn jo
 by_cases h:a.length ≤ 8
 ·
  have e:=zP a h ht a [] n [] rfl (by omega) (fun s=>rfl)
  have:decide (a.length ≤ 8)=true:=by simpa using h
  rw [if_neg (by simp; omega),this,Bool.true_and]
  exact e
 ·
  rw [if_pos (by simp; omega)]
  have:decide (a.length ≤ 8)=false:=by simpa using h
  rw [this]; rfl
end Pr
end Go.Ev

namespace Go.Ev
namespace Pr
set_option linter.unusedVariables false
set_option linter.unusedSimpArgs false
def AO (s:Str):List Int:=s.map fun c=>(c.toNat:Int)
theorem zu (s:Str):(AO s).map (fun (n:Int)=>UInt8.ofNat n.toNat)=s:=by
 unfold AO
 rw [List.map_map]
 have:((fun (n:Int)=>UInt8.ofNat n.toNat) ∘ fun (c:UInt8)=>(c.toNat:Int))=id:=by
  funext c; simp
 rw [this,List.map_id]
set_option maxRecDepth 100000 in
theorem wS (n:Nat) (c:UInt8):eT n (c.toNat:Int)=some (jU c):=by
 show eT 0 (c.toNat:Int)=_
 exact rF (p:=fun c=>eT 0 (c.toNat:Int)=some (jU c)) (by decide +kernel) c
theorem xn {n:Nat} (s:Str) (hs:s.length ≤ 4000000):∀ (rest done:Str) (k:Nat),s=done ++ rest→rest.length < k→bq n s k (AO (encS done)) (done.length:Int)=some (encS s)
 | [],done,k + 1,h,hk=>by
  rw [bq,if_neg (by rw [decide_eq_true_eq,h]; simp),zu]
  rw [h,List.append_nil]
 | c :: rest,done,k + 1,h,hk=>by
  have hlen:s.length=done.length + rest.length + 1:=by rw [h]; simp; omega
  have hw:IntKind.wrap .i64 ((done.length:Int) + 1)=(((done ++ [c]).length:Nat):Int):=by rw [pI (by omega) (by omega)]; simp
  have hi:idx (s:Str) (done.length:Int)=some c:=eu h
  have hel:=lG done
  have hbl:(AO (encS done)).length=(encS done).length:=by unfold AO; simp
  have hnext:encS (done ++ [c])=encS done ++ pz c:=by unfold encS; simp
  have fin:∀ x:List Int,x=AO (encS (done ++ [c]))→dJ (done.length:Int) (bq n s k) x=some (encS s):=fun x hx=>by
   subst hx
   unfold dJ
   rw [hw]
   exact xn s hs rest (done ++ [c]) k (by rw [h]; simp) (by simp at hk; omega)
  rw [bq,if_pos (by rw [decide_eq_true_eq]; omega)]
  simp only [hi,Option.bind_some,wS]
  cases hp:jU c with
  | true =>
   rw [if_pos rfl,fG (by rw [bnd]; simp only [List.length_cons,List.length_nil]; omega),Option.bind_some]
   refine fin _ ?_
   rw [hnext]; unfold pz AO; rw [if_pos hp]; simp
  | false =>
   obtain ⟨f1,f2⟩:=zg c
   rw [if_neg (by simp)]
   cases hz:yX .u8 (c.toNat:Int) 4 with
   | none=>rw [hz] at f1; cases f1
   | some z =>
    rw [hz,Option.bind_some] at f1
    rw [Option.bind_some,show idx ([48,49,50,51,52,53,54,55,56,57,65,66,67,68,69,70]:Str) z=_ from f1,Option.bind_some,show idx ([48,49,50,51,52,53,54,55,56,57,65,66,67,68,69,70]:Str) _=_ from f2,Option.bind_some,fG (by rw [bnd]; simp only [List.length_cons,List.length_nil]; omega),Option.bind_some]
    refine fin _ ?_
    rw [hnext]; unfold pz AO; rw [if_neg (by simp [hp])]; simp
theorem vT {n:Nat} (s:Str) (h:s.length < n) (h2:s.length ≤ 4000000):eX n s=some (encS s):=by
 unfold eX
 exact xn s h2 s [] n rfl h
end Pr
end Go.Ev

namespace Go.Ev
namespace Pr
set_option linter.unusedVariables false
set_option linter.unusedSimpArgs false
def kH (c:UInt8):Int:=(jF 0 (c.toNat:Int)).getD 0
set_option maxRecDepth 100000 in
theorem qV (c:UInt8):(jF 0 (c.toNat:Int)=some (kH c)∧eF 0 (c.toNat:Int)=some (kH c))∧(-1 ≤ kH c∧kH c ≤ 15) :=
 rF (p:=fun c=>(jF 0 (c.toNat:Int)=some (kH c)∧eF 0 (c.toNat:Int)=some (kH c))∧(-1 ≤ kH c∧kH c ≤ 15)) (by decide +kernel) c
theorem BC (n:Nat) (c:UInt8):jF n (c.toNat:Int)=some (kH c):=(qV c).1.1
theorem yD (n:Nat) (c:UInt8):eF n (c.toNat:Int)=some (kH c):=(qV c).1.2
def qa (h l:UInt8):Int:=IntKind.wrap .u8 (Bv .i64 ((tV .i64 (kH h) 4).getD 0) (kH l))
theorem D6 {z:Int} (h0:0 ≤ z) (h1:z ≤ 15):tV .i64 z 4=some ((tV .i64 z 4).getD 0):=by
 have key:∀ m ∈ List.range 16,tV .i64 (m:Int) 4=some ((tV .i64 (m:Int) 4).getD 0):=by decide +kernel
 have:=key z.toNat (List.mem_range.2 (by omega))
 rw [show ((z.toNat:Nat):Int)=z by omega] at this
 exact this
theorem uM (h l:UInt8):0 ≤ qa h l∧qa h l < 256:=by
 unfold qa
 generalize Bv .i64 ((tV .i64 (kH h) 4).getD 0) (kH l)=x
 simp [IntKind.wrap,IntKind.bits,IntKind.signed]
 omega
def j6:Str→Option Str
 | []=>some []
 | c :: s=>if c=37 then (match s with
   | h :: l :: t=>if kH h < 0∨kH l < 0 then none else (j6 t).map (UInt8.ofNat (qa h l).toNat :: ·)
   | _=>none) else if jU c=true then (j6 s).map (c :: ·) else none
theorem ym (a b:UInt8) (t:Str):j6 (37 :: a :: b :: t)=if kH a < 0∨kH b < 0 then none else (j6 t).map (UInt8.ofNat (qa a b).toNat :: ·):=rfl
theorem vI (a:UInt8):j6 [37,a]=none:=rfl
theorem uH:j6 [37]=none:=rfl
theorem yM {c:UInt8} (s:Str) (h:c ≠ 37):j6 (c :: s)=if jU c=true then (j6 s).map (c :: ·) else none:=by
 match s with
 | []=>show (if c=37 then _ else _)=_; rw [if_neg h]
 | [a]=>show (if c=37 then _ else _)=_; rw [if_neg h]
 | a :: b :: t=>show (if c=37 then _ else _)=_; rw [if_neg h]
def mX (acc:Str):Option Str→Str × Bool
 | none=>([],false)
 | some r=>(acc ++ r,true)
theorem EB:jU 37=false:=by decide +kernel
theorem Db {n:Nat}:∀ (m:Nat) (s acc:Str) (k:Nat),s.length ≤ m→m < k→acc.length + s.length ≤ 4000000→dM n k acc s=some (mX acc (j6 s))
 | m,[],acc,k + 1,hm,hk,ha=>by rw [dM,if_neg (by simp)]; simp [j6,mX]
 | 0,c :: s,acc,k + 1,hm,hk,ha=>by simp at hm
 | m + 1,c :: s,acc,k + 1,hm,hk,ha=>by
  simp only [List.length_cons] at hm ha
  have i0:idx (c :: s:Str) 0=some c:=rfl
  rw [dM,if_pos (by simp),i0,Option.bind_some]
  by_cases h37:c=37
  ·
   subst h37
   rw [if_pos (by rfl)]
   match s,hm,ha with
   | [],hm,ha=>rw [if_pos (by simp),uH]; rfl
   | [a],hm,ha=>rw [if_pos (by simp),vI]; rfl
   | a :: b :: t,hm,ha =>
    simp only [List.length_cons] at hm ha
    have i1:idx (37 :: a :: b :: t:Str) 1=some a:=rfl
    have i2:idx (37 :: a :: b :: t:Str) 2=some b:=rfl
    rw [if_neg (by simp; omega),i1,Option.bind_some,BC,Option.bind_some,i2,Option.bind_some,BC,Option.bind_some,ym]
    by_cases hb:kH a < 0∨kH b < 0
    ·
     rw [if_pos (by simpa using hb),if_pos hb]; rfl
    ·
     rw [if_neg (by simpa using hb),if_neg hb]
     have r1:=(qV a).2
     rw [D6 (by omega) r1.2,Option.bind_some]
     unfold gz
     have hr:=uM a b
     have hbl:rY acc (IntKind.wrap .u8 (Bv .i64 ((tV .i64 (kH a) 4).getD 0) (kH b)))=some (acc ++ [UInt8.ofNat (qa a b).toNat]):=by
      show rY acc (qa a b)=_
      unfold rY; rw [if_pos ⟨hr.1,hr.2,by rw [bnd]; omega⟩]
     have hc:cut (37 :: a :: b :: t:Str) 3 (((37 :: a :: b :: t:Str).length:Nat):Int)=some t:=by
      unfold cut; rw [if_pos ⟨by omega,by simp; omega,by omega⟩,Int.toNat_natCast,List.take_length]; rfl
     rw [hbl,Option.bind_some,hc,Option.bind_some,Db m t _ k (by omega) (by omega) (by simp; omega)]
     cases j6 t with
     | none=>rfl
     | some r=>simp [mX]
  ·
   have hn37:¬((c.toNat:Int) == 37)=true:=by
    intro q
    rw [beq_iff_eq] at q
    apply h37
    have:c.toNat=37:=by omega
    rw [← UInt8.ofNat_toNat (x:=c),this]; rfl
   rw [if_neg hn37,zy,Option.bind_some,yM s h37]
   cases hp:jU c with
   | false=>rw [if_pos (by rfl)]; rfl
   | true =>
    rw [if_neg (by simp)]
    unfold gz
    have hc:cut (c :: s:Str) 1 (((c :: s:Str).length:Nat):Int)=some s:=by
     unfold cut; rw [if_pos ⟨by omega,by simp; omega,by omega⟩]; simp
    rw [qX c (by omega),Option.bind_some,hc,Option.bind_some,Db m s _ k (by omega) (by omega) (by simp; omega),if_pos rfl]
    cases j6 s with
    | none=>rfl
    | some r=>simp [mX]
theorem Bo {n:Nat} (s:Str) (h:s.length < n) (h2:s.length ≤ 4000000):l5 n s=some (mX [] (j6 s)):=by
 unfold l5
 exact Db s.length s [] n (Nat.le_refl _) h (by simpa using h2)
theorem Fh {n:Nat} (s:Str) (hs:s.length ≤ 4000000):∀ (m:Nat) (rest done acc:Str) (k:Nat),rest.length ≤ m→m < k→s=done ++ rest→acc.length ≤ done.length→bu n s k (AO acc) (done.length:Int)=some (mX acc (j6 rest)):=by
 have hnil:∀ (done acc:Str) (k:Nat),s=done ++ []→bu n s (k + 1) (AO acc) (done.length:Int)=some (mX acc (j6 [])):=fun done acc k h=>by
  rw [bu,if_neg (by rw [decide_eq_true_eq,h]; simp),zu]
  simp [j6,mX]
 intro m
 induction m with
 | zero =>
  intro rest done acc k hm hk h ha
  cases rest with
  | nil =>
   obtain ⟨k,rfl⟩:∃ j,k=j + 1:=⟨k - 1,by omega⟩
   exact hnil done acc k h
  | cons c rest=>simp at hm
 | succ m ih =>
  intro rest done acc k hm hk h ha
  obtain ⟨k,rfl⟩:∃ j,k=j + 1:=⟨k - 1,by omega⟩
  cases rest with
  | nil=>exact hnil done acc k h
  | cons c rest =>
   simp only [List.length_cons] at hm
   have hlen:s.length=done.length + rest.length + 1:=by rw [h]; simp; omega
   have hi:idx (s:Str) (done.length:Int)=some c:=eu h
   have hbl:∀ x:Str,(AO x).length=x.length:=fun x=>by unfold AO; simp
   have hby:∀ (x:Str) (c:UInt8),AO x ++ [(c.toNat:Int)]=AO (x ++ [c]):=fun x c=>by unfold AO; simp
   rw [bu,if_pos (by rw [decide_eq_true_eq]; omega)]
   simp only [hi,Option.bind_some,wS]
   cases hp:jU c with
   | true =>
    have h37:c ≠ 37:=fun q=>by rw [q,EB] at hp; cases hp
    have hw:IntKind.wrap .i64 ((done.length:Int) + 1)=(((done ++ [c]).length:Nat):Int):=by rw [pI (by omega) (by omega)]; simp
    rw [if_pos rfl,fG (by rw [bnd,hbl]; simp only [List.length_cons,List.length_nil]; omega),Option.bind_some]
    unfold dI
    rw [hw,hby,ih rest (done ++ [c]) (acc ++ [c]) k (by omega) (by omega) (by rw [h]; simp) (by simp; omega),yM rest h37,if_pos hp]
    cases j6 rest with
    | none=>rfl
    | some r=>simp [mX]
   | false =>
    rw [if_neg (by simp)]
    by_cases h37:c=37
    ·
     subst h37
     have hw1:IntKind.wrap .i64 ((done.length:Int) + 1)=((done.length + 1:Nat):Int):=by rw [pI (by omega) (by omega)]; push_cast; rfl
     have hw2:IntKind.wrap .i64 ((done.length:Int) + 2)=((done.length + 2:Nat):Int):=by rw [pI (by omega) (by omega)]; push_cast; rfl
     rw [hw1,hw2]
     match rest,hm,h,hlen with
     | [],hm,h,hlen =>
      rw [if_neg (by simp; simp at hlen; omega),Option.bind_some,if_neg (by simp),Option.bind_some,if_neg (by simp),uH]; rfl
     | [a],hm,h,hlen =>
      rw [if_neg (by simp; simp at hlen; omega),Option.bind_some,if_neg (by simp),Option.bind_some,if_neg (by simp),vI]; rfl
     | a :: b :: t,hm,h,hlen =>
      simp only [List.length_cons] at hm hlen
      have i1:idx (s:Str) ((done.length + 1:Nat):Int)=some a:=by
       have:=eu (l:=s) (done:=done ++ [37]) (rest:=b :: t) (z:=a) (by rw [h]; simp)
       rw [List.length_append] at this
       exact this
      have i2:idx (s:Str) ((done.length + 2:Nat):Int)=some b:=by
       have:=eu (l:=s) (done:=done ++ [37,a]) (rest:=t) (z:=b) (by rw [h]; simp)
       rw [List.length_append] at this
       exact this
      rw [if_pos (by simp; omega),i1,i2,Option.bind_some,yD,Option.bind_some,Option.bind_some,ym]
      by_cases ha0:kH a < 0
      ·
       rw [if_neg (by simp; omega),Option.bind_some,if_neg (by simp),if_pos (.inl ha0)]; rfl
      ·
       rw [if_pos (by simp; omega),Option.bind_some,yD,Option.bind_some,Option.bind_some]
       by_cases hb0:kH b < 0
       ·
        rw [if_neg (by simp; omega),if_pos (.inr hb0)]; rfl
       ·
        have r1:=(qV a).2
        have hr:=uM a b
        have hcv:(((UInt8.ofNat (qa a b).toNat).toNat:Nat):Int)=qa a b:=by
         rw [UInt8.toNat_ofNat']; omega
        rw [if_pos (by simp; omega),if_neg (by omega),Option.bind_some,yD,Option.bind_some,D6 (by omega) r1.2,Option.bind_some,Option.bind_some,yD,Option.bind_some]
        rw [show IntKind.wrap .u8 (Bv .i64 ((tV .i64 (kH a) 4).getD 0) (kH b))=(((UInt8.ofNat (qa a b).toNat).toNat:Nat):Int) from hcv.symm]
        rw [fG (by rw [bnd,hbl]; simp only [List.length_cons,List.length_nil]; omega),Option.bind_some]
        unfold dI
        have hw3:IntKind.wrap .i64 (((done.length + 2:Nat):Int) + 1)=(((done ++ [37,a,b]).length:Nat):Int):=by rw [pI (by omega) (by omega)]; simp; omega
        rw [hw3,hby,ih t (done ++ [37,a,b]) _ k (by omega) (by omega) (by rw [h]; simp) (by simp; omega)]
        cases j6 t with
        | none=>rfl
        | some r=>simp [mX]
    ·
     have hn37:((c.toNat:Int) == 37)=false:=by
      rw [beq_eq_false_iff_ne]
      intro q
      apply h37
      have:c.toNat=37:=by omega
      rw [← UInt8.ofNat_toNat (x:=c),this]; rfl
     rw [hn37,if_neg (by simp),Option.bind_some,if_neg (by simp),Option.bind_some,if_neg (by simp),yM rest h37,if_neg (by simp [hp])]; rfl
theorem Ai {n:Nat} (s:Str) (h:s.length < n) (h2:s.length ≤ 4000000):gJ n s=some (mX [] (j6 s)):=by
 unfold gJ
 exact Fh s h2 s.length s [] [] n (Nat.le_refl _) h rfl (by simp)
end Pr
end Go.Ev

namespace Go.Ev
namespace Pr
set_option linter.unusedVariables false
set_option linter.unusedSimpArgs false
theorem vF (s:Str) (hs:s.length ≤ 4000000) (c:UInt8):∀ (rest pre done:Str) (k:Nat) (acc:List Str),s=done ++ pre ++ rest→rest.length + 1 < k→(∀ b ∈ pre,b ≠ c)→acc.length ≤ done.length →
  bB s (c.toNat:Int) k acc (done.length:Int) ((done.length + pre.length:Nat):Int)=some (acc ++ (match bN c rest with | []=>[pre] | x :: r=>(pre ++ x) :: r))
 | [],pre,done,k + 2,acc,h,hk,hp,ha=>by
  have hlen:s.length=done.length + pre.length:=by rw [h]; simp
  have hc:cut s (done.length:Int) ((done.length + pre.length:Nat):Int)=some pre:=by
   unfold cut; rw [if_pos ⟨by omega,by omega,by omega⟩,Int.toNat_natCast,Int.toNat_natCast,← hlen,List.take_length,h]; simp
  have hw:IntKind.wrap .i64 (((done.length + pre.length:Nat):Int) + 1)=((done.length + pre.length + 1:Nat):Int):=by rw [pI (by omega) (by omega)]; push_cast; rfl
  rw [bB,if_pos (by rw [decide_eq_true_eq]; omega),if_pos (by rw [beq_iff_eq]; omega),Option.bind_some,if_pos rfl,hc,Option.bind_some,fG (by rw [bnd]; simp only [List.length_cons,List.length_nil]; omega),Option.bind_some]
  unfold dz
  rw [hw,bB,if_neg (by rw [decide_eq_true_eq]; omega)]
  simp [bN]
 | b :: rest,pre,done,k + 1,acc,h,hk,hp,ha=>by
  have hlen:s.length=done.length + pre.length + rest.length + 1:=by rw [h]; simp; omega
  have hi:idx (s:Str) ((done.length + pre.length:Nat):Int)=some b:=by
   have:=eu (l:=s) (done:=done ++ pre) (rest:=rest) (z:=b) (by rw [h])
   rw [List.length_append] at this; exact this
  have hw:IntKind.wrap .i64 (((done.length + pre.length:Nat):Int) + 1)=((done.length + pre.length + 1:Nat):Int):=by rw [pI (by omega) (by omega)]; push_cast; rfl
  rw [bB,if_pos (by rw [decide_eq_true_eq]; omega),if_neg (by rw [beq_iff_eq]; omega),hi,Option.bind_some,Option.bind_some,bN]
  by_cases hb:b=c
  ·
   subst hb
   have hc:cut s (done.length:Int) ((done.length + pre.length:Nat):Int)=some pre:=by
    unfold cut; rw [if_pos ⟨by omega,by omega,by omega⟩,Int.toNat_natCast,Int.toNat_natCast,h,← List.length_append,List.take_left,List.drop_left]
   rw [if_pos (by simp),if_pos (by simp),hc,Option.bind_some,fG (by rw [bnd]; simp only [List.length_cons,List.length_nil]; omega),Option.bind_some]
   unfold dz
   have:=vF s hs b rest [] (done ++ pre ++ [b]) k (acc ++ [pre]) (by rw [h]; simp) (by simp at hk; omega) (fun x hx=>by cases hx) (by simp; omega)
   have e1:(((done ++ pre ++ [b]).length:Nat):Int)=((done.length + pre.length + 1:Nat):Int):=by simp; omega
   have e2:(((done ++ pre ++ [b]).length + ([]:Str).length:Nat):Int)=((done.length + pre.length + 1:Nat):Int):=by simp; omega
   rw [e1,e2] at this
   rw [hw,this]
   cases hsp:bN b rest with
   | nil=>exact absurd hsp (by
     cases rest with
     | nil=>simp [bN]
     | cons y r =>
      rw [bN]
      split
      ·
       simp
      ·
       split <;> simp)
   | cons x r=>simp
  ·
   have hbn:¬ ((b.toNat:Int) == (c.toNat:Int))=true:=by
    rw [beq_iff_eq]
    intro q
    exact hb (UInt8.toNat_inj.1 (by omega))
   rw [if_neg hbn,if_neg (by simpa using hb)]
   unfold dz
   have:=vF s hs c rest (pre ++ [b]) done k acc (by rw [h]; simp) (by simp at hk; omega) (fun x hx=>by
    rcases List.mem_append.1 hx with hx | hx
    ·
     exact hp x hx
    ·
     rw [List.mem_singleton.1 hx]; exact hb) ha
   have e2:((done.length + (pre ++ [b]).length:Nat):Int)=((done.length + pre.length + 1:Nat):Int):=by simp; omega
   rw [e2] at this
   rw [hw,this]
   cases hsp:bN c rest with
   | nil=>simp
   | cons x r=>simp
theorem CB {n:Nat} (s:Str) (c:UInt8) (h:s.length + 1 < n) (h2:s.length ≤ 4000000):gN n s (c.toNat:Int)=some (bN c s):=by
 unfold gN
 have:=vF s h2 c s [] [] n [] rfl h (fun x hx=>by cases hx) (Nat.le_refl _)
 rw [show (([]:Str).length:Int)=0 from rfl,show ((([]:Str).length + ([]:Str).length:Nat):Int)=0 from rfl] at this
 rw [this]
 cases hsp:bN c s with
 | nil=>exact absurd hsp (by
   cases s with
   | nil=>simp [bN]
   | cons y r =>
    rw [bN]
    split
    ·
     simp
    ·
     split <;> simp)
 | cons x r=>simp
end Pr
end Go.Ev

namespace Go.Ev
namespace Pr
set_option linter.unusedVariables false
set_option linter.unusedSimpArgs false
theorem DZ {n:Nat} (hn:4000100 ≤ n) (p:List Str) (h:p.length ≤ 50) (h2:∀ w ∈ p,w.length ≤ 4000000):iG n p=some (gH p):=by
 unfold iG
 have e:gH p=Lib.join (p.foldl (fun (acc:List Str) c=>acc ++ [encS c]) []) [47]:=by
  have:∀ (l acc:List Str),l.foldl (fun (acc:List Str) c=>acc ++ [encS c]) acc=acc ++ l.map encS:=by
   intro l
   induction l with
   | nil=>intro acc; simp
   | cons c l ih=>intro acc; rw [List.foldl_cons,ih,List.map_cons,List.append_assoc]; rfl
  simp [this,gH]
 rw [e,← uF (fin:=fun x:List Str=>Lib.join x [47]) (g:=fun (acc:List Str) c=>acc ++ [encS c]) (step:=fun c (acc:List Str)=>(Except.ok (acc ++ [encS c]):Except Str (List Str))) (fun x s=>rfl)]
 refine rO (f:=fun k a i=>bD n p k a i) (fun rest (a:List Str)=>a.length + rest.length ≤ 50∧(∀ w ∈ rest,w.length ≤ 4000000)∧∀ w ∈ a,w.length ≤ 12000000) (fun x rest a a' hp he=>?_) (fun k a x rest i hi hx hp=>?_) (fun k a hp=>?_) (by omega) ⟨by simpa using h,h2,by simp⟩
 ·
  cases he
  obtain ⟨p1,p2,p3⟩:=hp
  refine ⟨by simp only [List.length_append,List.length_cons,List.length_nil] at p1 ⊢; omega,fun w hw=>p2 w (List.mem_cons_of_mem _ hw),fun w hw=>?_⟩
  rcases List.mem_append.1 hw with q | q
  ·
   exact p3 w q
  ·
   simp at q; subst q
   have:=lG x
   have:=p2 x List.mem_cons_self
   omega
 ·
  obtain ⟨p1,p2,p3⟩:=hp
  have hx2:=p2 x List.mem_cons_self
  simp only [List.length_cons] at p1
  show bD n p (k + 1) a (i:Int)=bD n p k (a ++ [encS x]) ((i + 1:Nat):Int)
  rw [bD,if_pos (by rw [decide_eq_true_eq]; omega),hx,Option.bind_some,xL x (by omega) (by omega),Option.bind_some,fG (by rw [bnd]; simp; omega),Option.bind_some,ED hi (by omega)]
 ·
  obtain ⟨p1,p2,p3⟩:=hp
  show bD n p (k + 1) a _=_
  have hj:=uY (c:=47) a p3
  simp only [List.length_nil] at p1
  have hj2:(12000000 + 1) * a.length ≤ 12000001 * 50:=Nat.mul_le_mul_left _ (by omega)
  have:strings_Join n a [47]=some (Lib.join a [47]):=by
   unfold strings_Join
   rw [if_pos ⟨by rw [bnd]; omega,by rw [bnd]; omega⟩]
  rw [bD,if_neg (by simp),this,Option.bind_some]
theorem uQ {n:Nat} (hn:4000100 ≤ n) (a:List Seg) (ha:a.length ≤ 100):∀ (rest done:List Seg) (k:Nat) (p:List Str) (acc:List aD),a=done ++ rest→rest.length < k→p.length ≤ 50→(∀ w ∈ p,w.length ≤ 4000000)→acc.length ≤ done.length→bI n a k p acc (done.length:Int)=some (iq acc (dR rest p))
 | [],done,k + 1,p,acc,h,hk,hp,hw,hacc=>by
  rw [bI,if_neg (by rw [decide_eq_true_eq,h]; simp)]
  cases p with
  | nil=>rw [if_neg (by simp)]; simp [dR,iq]
  | cons w p=>rw [if_pos (by simp)]; simp [dR,iq]
 | s :: rest,done,k + 1,p,acc,h,hk,hp,hw,hacc=>by
  have hlen:a.length=done.length + rest.length + 1:=by rw [h]; simp; omega
  have hi:IntKind.wrap .i64 ((done.length:Int) + 1)=(((done ++ [s]).length:Nat):Int):=by rw [pI (by omega) (by omega)]; simp
  rw [bI,if_pos (by rw [decide_eq_true_eq]; omega),eu h,Option.bind_some,dR.eq_def]
  simp only []
  by_cases h3:s.Kind=3
  ·
   rw [if_pos (by simpa using h3),if_pos h3,DZ hn p hp hw,Option.bind_some,fG (by rw [bnd]; simp; omega),Option.bind_some]; rfl
  ·
   rw [if_neg (by simpa using h3),if_neg h3]
   cases p with
   | nil =>
    rw [if_pos (by simp)]
    by_cases h2:s.Kind=2
    ·
     rw [if_pos (by simpa using h2),if_pos h2]; simp [iq]
    ·
     rw [if_neg (by simpa using h2),if_neg h2]; rfl
   | cons w p =>
    simp only []
    rw [if_neg (by simp; omega),show idx (w :: p) 0=some w from rfl,Option.bind_some,FM,Option.bind_some]
    unfold eP
    by_cases h0:s.Kind=0
    ·
     rw [if_neg (by simp [h0]),if_pos h0]
     by_cases he:w=s.Text
     ·
      rw [if_neg (by simp [he]),if_pos he,hi]
      exact uQ hn a ha rest (done ++ [s]) k p acc (by rw [h]; simp) (by simp at hk; omega) (by simp at hp; omega) (fun x hx=>hw x (List.mem_cons_of_mem _ hx)) (by simp; omega)
     ·
      rw [if_pos (by simpa using he),if_neg he]; rfl
    ·
     rw [if_pos (by simpa using h0),if_neg h0,fG (by rw [bnd]; simp; omega),Option.bind_some,hi]
     rw [uQ hn a ha rest (done ++ [s]) k p (acc ++ [aD.mk s.Text w]) (by rw [h]; simp) (by simp at hk; omega) (by simp at hp; omega) (fun x hx=>hw x (List.mem_cons_of_mem _ hx)) (by simp; omega)]
     cases dR rest p with
     | none=>rfl
     | some x=>simp [iq]
theorem CF {n:Nat} (hn:4000100 ≤ n) (l:List Seg) (p:List Str) (hp:p.length ≤ 50) (hw:∀ w ∈ p,w.length ≤ 4000000):fF n l p=some (iq [] (iJ l p)):=by
 unfold fF iJ
 rw [qW (by omega),Option.bind_some]
 cases hr:jo l with
 | false=>simp [iq]
 | true =>
  have hl:=((gY l).1 hr).1
  rw [if_neg (by simp),if_pos rfl]
  exact uQ hn l (by omega) l [] n p [] rfl (by omega) hp hw (by simp)
theorem tF {n:Nat} (hn:4000100 ≤ n) (p:List Str) (hp:p.length ≤ 50) (hw:∀ w ∈ p,w.length ≤ 4000000) (acc:List aD) (hacc:acc.length ≤ 100) (i:Nat) (s:Seg):∀ (rest done:List Str) (k:Nat) (x:Str),p=done ++ rest→i ≤ done.length→rest.length < k→x.length ≤ 20000000 * (done.length - i) →
  bC n p acc (i:Int) s k x (done.length:Int)=some (acc ++ [aD.mk s.Text (if done.length=i then gH rest else if rest=[] then x else x ++ 47 :: gH rest)],true)
 | [],done,k + 1,x,h,hi,hk,hx=>by
  rw [bC,if_neg (by rw [decide_eq_true_eq,h]; simp),fG (by rw [bnd]; simp only [List.length_cons,List.length_nil]; omega),Option.bind_some]
  by_cases q:done.length=i
  ·
   rw [if_pos q]
   have:x=[]:=List.length_eq_zero_iff.1 (by rw [q] at hx; omega)
   rw [this]; rfl
  ·
   rw [if_neg q,if_pos rfl]
 | w :: rest,done,k + 1,x,h,hi,hk,hx=>by
  have hlen:p.length=done.length + rest.length + 1:=by rw [h]; simp; omega
  have hw1:IntKind.wrap .i64 ((done.length:Int) + 1)=(((done ++ [w]).length:Nat):Int):=by rw [pI (by omega) (by omega)]; simp
  have hwl:=hw w (by rw [h]; simp)
  have hel:=lG w
  have hx2:x.length ≤ 20000000 * 50:=Nat.le_trans hx (Nat.mul_le_mul_left _ (by omega))
  have hrest:∀ (u:Str) (r:List Str),r ≠ []→gH (u :: r)=encS u ++ 47 :: gH r:=fun u r hr=>by
   cases r with
   | nil=>exact absurd rfl hr
   | cons v r =>
    unfold gH
    rw [List.map_cons,List.map_cons,Lib.join_cons,Lib.join_cons,Lib.joinTail,List.map_cons,List.flatten_cons]; simp [Lib.joinTail]
  have hone:∀ u:Str,gH [u]=encS u:=fun u=>by unfold gH; rw [List.map_cons,List.map_nil,Lib.join_one]
  have step:∀ y:Str,y.length ≤ x.length + 1→dO n p (done.length:Int) (bC n p acc (i:Int) s k) y=some (acc ++ [aD.mk s.Text (if rest=[] then y ++ encS w else (y ++ encS w) ++ 47 :: gH rest)],true):=fun y hy=>by
   unfold dO
   rw [eu h,Option.bind_some,vT w (by omega) hwl,Option.bind_some]
   have hcat:cat y (encS w)=some (y ++ encS w):=by unfold cat; rw [if_pos (by omega)]
   have hb:(y ++ encS w).length ≤ 20000000 * ((done ++ [w]).length - i):=by
    rw [List.length_append,List.length_append,List.length_singleton,show done.length + 1 - i=(done.length - i) + 1 by omega,Nat.mul_add]; omega
   rw [hcat,Option.bind_some,hw1,tF hn p hp hw acc hacc i s rest (done ++ [w]) k _ (by rw [h]; simp) (by simp; omega) (by simp at hk; omega) hb]
   rw [if_neg (by simp; omega)]
  rw [bC,if_pos (by rw [decide_eq_true_eq]; omega)]
  by_cases q:done.length=i
  ·
   rw [if_neg (by rw [decide_eq_true_eq]; omega),step x (by omega),if_pos q]
   have:x=[]:=List.length_eq_zero_iff.1 (by rw [q] at hx; omega)
   rw [this]
   by_cases hr:rest=[]
   ·
    rw [if_pos hr,hr,hone]; rfl
   ·
    rw [if_neg hr,hrest w rest hr]; rfl
  ·
   have hcat:cat x [47]=some (x ++ [47]):=by unfold cat; rw [if_pos (by simp; omega)]
   rw [if_pos (by rw [decide_eq_true_eq]; omega),hcat,Option.bind_some,step _ (by simp),if_neg q,if_neg (List.cons_ne_nil w rest)]
   by_cases hr:rest=[]
   ·
    rw [if_pos hr,hr,hone]; simp
   ·
    rw [if_neg hr,hrest w rest hr]; simp
end Pr
end Go.Ev

namespace Go.Ev
namespace Pr
set_option linter.unusedVariables false
set_option linter.unusedSimpArgs false
theorem vK {n:Nat} (hn:4000100 ≤ n) (a:List Seg) (ha:a.length ≤ 8) (p:List Str) (hp:p.length ≤ 50) (hw:∀ w ∈ p,w.length ≤ 4000000):∀ (rest done:List Seg) (pr pd:List Str) (k:Nat) (acc:List aD),a=done ++ rest→p=pd ++ pr→pd.length=done.length→rest.length < k→acc.length ≤ done.length→aV n a p k acc (done.length:Int)=some (iq acc (dR rest pr))
 | [],done,pr,pd,k + 1,acc,h,hpp,hl,hk,hacc=>by
  have e1:a.length=done.length:=by rw [h]; simp
  have e2:p.length=pd.length + pr.length:=by rw [hpp]; simp
  rw [aV,if_neg (by rw [decide_eq_true_eq]; omega)]
  cases pr with
  | nil=>rw [if_neg (by simp at e2; simp; omega)]; simp [dR,iq]
  | cons w pr=>rw [if_pos (by simp at e2; simp; omega)]; simp [dR,iq]
 | s :: rest,done,pr,pd,k + 1,acc,h,hpp,hl,hk,hacc=>by
  have hlen:a.length=done.length + rest.length + 1:=by rw [h]; simp; omega
  have e2:p.length=pd.length + pr.length:=by rw [hpp]; simp
  have hi:IntKind.wrap .i64 ((done.length:Int) + 1)=(((done ++ [s]).length:Nat):Int):=by rw [pI (by omega) (by omega)]; simp
  rw [aV,if_pos (by rw [decide_eq_true_eq]; omega),eu h,Option.bind_some,dR.eq_def]
  simp only []
  by_cases h3:s.Kind=3
  ·
   rw [if_pos (by simpa using h3),if_pos h3]
   have:=tF hn p hp hw acc (by omega) done.length s pr pd n [] hpp (by omega) (by omega) (by simp)
   rw [hl] at this
   rw [this,if_pos rfl]; rfl
  ·
   rw [if_neg (by simpa using h3),if_neg h3]
   cases pr with
   | nil =>
    simp only [List.length_nil] at e2
    by_cases h2:s.Kind=2
    ·
     rw [if_pos (by simp [h2]; omega),if_pos h2]; simp [iq]
    ·
     rw [if_neg (by simp [h2]),if_neg h2,if_pos (by rw [decide_eq_true_eq]; omega)]
     unfold cK
     rw [if_pos rfl]; rfl
   | cons w pr =>
    simp only [List.length_cons] at e2
    have hidx:idx p (done.length:Int)=some w:=by rw [← hl]; exact eu hpp
    rw [if_neg (by simp; omega),if_neg (by rw [decide_eq_true_eq]; omega)]
    by_cases h0:s.Kind=0
    ·
     rw [if_pos (by simpa using h0),hidx,Option.bind_some]
     simp only []
     rw [if_pos h0]
     unfold cK dP
     by_cases he:w=s.Text
     ·
      rw [if_neg (by simp [he]),if_neg (by simp [h0]),if_pos he,hi]
      exact vK hn a ha p hp hw rest (done ++ [s]) pr (pd ++ [w]) k acc (by rw [h]; simp) (by rw [hpp]; simp) (by simp [hl]) (by simp at hk; omega) (by simp; omega)
     ·
      rw [if_pos (by simpa using he),if_neg he]; rfl
    ·
     rw [if_neg (by simpa using h0)]
     simp only []
     rw [if_neg h0]
     unfold cK dP
     rw [if_neg (by simp),if_pos (by simpa using h0),hidx,Option.bind_some,fG (by rw [bnd]; simp; omega),Option.bind_some,hi]
     rw [vK hn a ha p hp hw rest (done ++ [s]) pr (pd ++ [w]) k (acc ++ [aD.mk s.Text w]) (by rw [h]; simp) (by rw [hpp]; simp) (by simp [hl]) (by simp at hk; omega) (by simp; omega)]
     cases dR rest pr with
     | none=>rfl
     | some x=>simp [iq]
theorem Cb {n:Nat} (hn:4000100 ≤ n) (l:List Seg) (hlt:∀ x ∈ l,x.Text.length ≤ 4000000) (p:List Str) (hp:p.length ≤ 50) (hw:∀ w ∈ p,w.length ≤ 4000000):gQ n l p=some (iq [] (iJ l p)):=by
 unfold gQ iJ
 rw [rX (by omega) l (fun x hx=>by have:=hlt x hx; exact ⟨by omega,by omega⟩),Option.bind_some]
 cases hr:jo l with
 | false=>simp [iq]
 | true =>
  have hl:=((gY l).1 hr).1
  rw [if_neg (by simp),if_pos rfl]
  exact vK hn l hl p hp hw l [] p [] n [] rfl rfl rfl (by omega) (by simp)
end Pr
end Go.Ev

namespace Go.Ev
namespace Pr
set_option linter.unusedVariables false
set_option linter.unusedSimpArgs false
def zO (c:Nat):List Str→Option (List Str)
 | []=>some []
 | x :: l=>match j6 x with
  | none=>none
  | some d=>if c=8 then none else (zO (c + 1) l).map (d :: ·)
def nM (acc:List Str):Option (List Str)→List Str × Bool
 | none=>([],false)
 | some r=>(acc ++ r,true)
def gT (v:Str):Option (List Str):=if v=[] then some [] else zO 0 (bN 47 v)
theorem Ad {n:Nat} (hn:4000100 ≤ n) (z:List Str) (hz:z.length ≤ 4000100) (hw:∀ w ∈ z,w.length ≤ 4000000):∀ (rest done:List Str) (k:Nat) (acc:List Str),z=done ++ rest→rest.length < k→acc.length=done.length→acc.length ≤ 8→dK n z k acc (done.length:Int)=some (nM acc (zO acc.length rest))
 | [],done,k + 1,acc,h,hk,ha,h8=>by
  rw [dK,if_neg (by rw [decide_eq_true_eq,h]; simp)]
  simp [zO,nM]
 | x :: rest,done,k + 1,acc,h,hk,ha,h8=>by
  have hlen:z.length=done.length + rest.length + 1:=by rw [h]; simp; omega
  have hw1:IntKind.wrap .i64 ((done.length:Int) + 1)=(((done ++ [x]).length:Nat):Int):=by rw [pI (by omega) (by omega)]; simp
  have hx:=hw x (by rw [h]; simp)
  rw [dK,if_pos (by rw [decide_eq_true_eq]; omega),eu h,Option.bind_some,Bo x (by omega) hx,Option.bind_some,zO]
  cases hd:j6 x with
  | none=>rw [if_pos (by simp [mX])]; rfl
  | some d =>
   simp only []
   by_cases c:acc.length=8
   ·
    rw [if_pos (by simp [c]),if_pos c]; rfl
   ·
    have hne:¬ ((!(mX [] (some d)).2) || ((acc.length:Int) == 8))=true:=by simp [mX]; omega
    rw [if_neg hne,if_neg c,fG (by rw [bnd]; simp; omega),Option.bind_some,hw1]
    have:=Ad hn z hz hw rest (done ++ [x]) k (acc ++ [d]) (by rw [h]; simp) (by simp at hk; omega) (by simp [ha]) (by simp; omega)
    rw [show acc ++ [(mX [] (some d)).1]=acc ++ [d] by simp [mX],this]
    rw [List.length_append,List.length_singleton]
    cases zO (acc.length + 1) rest with
    | none=>rfl
    | some r=>simp [nM]
theorem Bd {n:Nat} (hn:4000200 ≤ n) (v:Str) (hv:v.length ≤ 4000000):eQ n v=some (nM [] (gT v)):=by
 unfold eQ gT
 by_cases h:v=[]
 ·
  rw [if_pos (by simpa using h),if_pos h]; rfl
 ·
  rw [if_neg (by simpa using h),if_neg h]
  have hs:strings_Split n v [47]=some (bN 47 v):=by
   show (if v.length ≤ 4000000 then some (bN 47 v) else none)=_
   rw [if_pos hv]
  have key:∀ s:Str,(bN 47 s).length ≤ s.length + 1∧∀ y ∈ bN 47 s,y.length ≤ s.length:=by
   intro s
   induction s with
   | nil=>simp [bN]
   | cons b s ih =>
    rw [bN]
    split
    ·
     refine ⟨by simp; omega,fun y hy=>?_⟩
     rcases List.mem_cons.1 hy with rfl | hy
     ·
      simp
     ·
      have:=ih.2 y hy; simp; omega
    ·
     cases hsp:bN 47 s with
     | nil =>
      refine ⟨by simp,fun y hy=>?_⟩
      have hy:y ∈ [[b]]:=hy
      rw [List.mem_singleton.1 hy]; simp
     | cons x r =>
      rw [hsp] at ih
      refine ⟨by have:=ih.1; simp at this ⊢; omega,fun y hy=>?_⟩
      have hy:y ∈ (b :: x) :: r:=hy
      rcases List.mem_cons.1 hy with rfl | hy
      ·
       have:=ih.2 x List.mem_cons_self; simp; omega
      ·
       have:=ih.2 y (List.mem_cons_of_mem _ hy); simp; omega
  obtain ⟨k1,k2⟩:=key v
  rw [hs,Option.bind_some]
  exact Ad (by omega) (bN 47 v) (by omega) (fun w hw=>by have:=k2 w hw; omega) (bN 47 v) [] n [] rfl (by omega) rfl (by simp)
end Pr
end Go.Ev

namespace Go.Ev
namespace Pr
set_option linter.unusedVariables false
set_option linter.unusedSimpArgs false
theorem BM:∀ (l:List Str) (c:Nat) (r:List Str),c ≤ 8→zO c l=some r→c + r.length ≤ 8
 | [],c,r,hc,h=>by simp [zO] at h; subst h; simpa using hc
 | x :: l,c,r,hc,h=>by
  rw [zO] at h
  split at h
  ·
   cases h
  ·
   split at h
   ·
    cases h
   ·
    rename_i d hd hc8
    cases hu:zO (c + 1) l with
    | none=>rw [hu] at h; cases h
    | some q =>
     rw [hu] at h
     have:=BM l (c + 1) q (by omega) hu
     simp only [Option.map_some,Option.some.injEq] at h
     subst h
     simp; omega
theorem zV {v:Str} {r:List Str} (h:gT v=some r):r.length ≤ 8:=by
 unfold gT at h
 split at h
 ·
  cases h; simp
 ·
  have:=BM _ 0 r (by omega) h; omega
theorem xP {ps:List aD} {name v:Str} (h:dW ps name=some v):∃ q ∈ ps,q.Value=v∧q.Name=name:=by
 unfold dW at h
 cases hf:ps.find? (fun q=>q.Name == name) with
 | none=>rw [hf] at h; cases h
 | some q =>
  rw [hf] at h
  refine ⟨q,List.mem_of_find?_eq_some hf,by simpa using h,?_⟩
  have:=List.find?_some hf
  simpa using this
def fK (ps:List aD):List Seg→Option (List Str)
 | []=>some []
 | s :: l=>if s.Kind=0 then (fK ps l).map (s.Text :: ·)
  else if s.Kind=1 then match dW ps s.Text with
   | none=>none
   | some v=>(fK ps l).map (v :: ·)
  else if s.Kind=2 then match dW ps s.Text with
   | none=>fK ps l
   | some v=>(fK ps l).map (v :: ·)
  else match dW ps s.Text with
   | none=>none
   | some v=>match gT v with
    | none=>none
    | some t=>(fK ps l).map (t ++ ·)
theorem Di (acc:List Str) (x:List Str) (o:Option (List Str)):nM (acc ++ x) o=nM acc (o.map (x ++ ·)):=by
 cases o with
 | none=>rfl
 | some r=>simp [nM]
theorem BQ {n:Nat} (hn:4000200 ≤ n) (a:List Seg) (ha:a.length ≤ 8) (ps:List aD) (hps:ps.length ≤ 100) (hv:∀ q ∈ ps,q.Value.length ≤ 4000000):∀ (rest done:List Seg) (k:Nat) (acc:List Str),a=done ++ rest→rest.length < k→acc.length ≤ 10 * done.length→bF n a ps k acc (done.length:Int)=some (nM acc (fK ps rest))
 | [],done,k + 1,acc,h,hk,hacc=>by
  rw [bF,if_neg (by rw [decide_eq_true_eq,h]; simp)]
  simp [fK,nM]
 | s :: rest,done,k + 1,acc,h,hk,hacc=>by
  have hlen:a.length=done.length + rest.length + 1:=by rw [h]; simp; omega
  have hw1:IntKind.wrap .i64 ((done.length:Int) + 1)=(((done ++ [s]).length:Nat):Int):=by rw [pI (by omega) (by omega)]; simp
  have next:∀ x:List Str,x.length ≤ 8→dE (done.length:Int) (bF n a ps k) (acc ++ x)=some (nM acc ((fK ps rest).map (x ++ ·))):=fun x hx=>by
   unfold dE
   rw [hw1,BQ hn a ha ps hps hv rest (done ++ [s]) k (acc ++ x) (by rw [h]; simp) (by simp at hk; omega) (by simp; omega),Di]
  have next0:dE (done.length:Int) (bF n a ps k) acc=some (nM acc (fK ps rest)):=by
   have:=next [] (by simp)
   rw [List.append_nil] at this
   rw [this]
   cases fK ps rest <;> rfl
  rw [bF,if_pos (by rw [decide_eq_true_eq]; omega),eu h,Option.bind_some,zQ ps s.Text (by omega) (by omega),Option.bind_some,fK]
  by_cases k0:s.Kind=0
  ·
   rw [if_pos (by simpa using k0),if_pos k0,fG (by rw [bnd]; simp; omega),Option.bind_some]
   exact next [s.Text] (by simp)
  ·
   rw [if_neg (by simpa using k0),if_neg k0]
   by_cases k1:s.Kind=1
   ·
    rw [if_pos (by simpa using k1),if_pos k1]
    cases hval:dW ps s.Text with
    | none=>rw [if_pos (by rfl)]; rfl
    | some v =>
     rw [if_neg (by simp),fG (by rw [bnd]; simp; omega),Option.bind_some]
     exact next [v] (by simp)
   ·
    rw [if_neg (by simpa using k1),if_neg k1]
    by_cases k2:s.Kind=2
    ·
     rw [if_pos (by simpa using k2),if_pos k2]
     cases hval:dW ps s.Text with
     | none=>rw [if_neg (by simp)]; exact next0
     | some v =>
      rw [if_pos (by rfl),fG (by rw [bnd]; simp; omega),Option.bind_some]
      exact next [v] (by simp)
    ·
     rw [if_neg (by simpa using k2),if_neg k2]
     cases hval:dW ps s.Text with
     | none =>
      have hu:eQ n ((none:Option Str).getD [],(none:Option Str).isSome).1=some ([],true):=by
       show eQ n []=_
       unfold eQ; rw [if_pos (by rfl)]
      rw [hu,Option.bind_some,if_pos (by rfl)]; rfl
     | some v =>
      obtain ⟨q,q1,q2,_⟩:=xP hval
      have hvl:v.length ≤ 4000000:=by rw [← q2]; exact hv q q1
      have hu:eQ n ((some v).getD [],(some v).isSome).1=some (nM [] (gT v)):=Bd hn v hvl
      rw [hu,Option.bind_some]
      simp only []
      cases hun:gT v with
      | none=>rw [if_pos (by rfl)]; rfl
      | some t =>
       have ht:=zV hun
       rw [if_neg (by simp [nM]),show (nM [] (some t)).1=t by simp [nM],fG (by rw [bnd]; omega),Option.bind_some]
       exact next t ht
theorem Df {n:Nat} (hn:4000200 ≤ n) (a:List Seg) (ha:a.length ≤ 8) (ps:List aD) (hps:ps.length ≤ 100) (hv:∀ q ∈ ps,q.Value.length ≤ 4000000):jX n a ps=some (nM [] (fK ps a)):=by
 unfold jX
 exact BQ hn a ha ps hps hv a [] n [] rfl (by omega) (by simp)
end Pr
end Go.Ev

namespace Go.Ev
namespace Pr
set_option linter.unusedVariables false
set_option linter.unusedSimpArgs false
theorem nE:∀ {l:List Seg} {p:List Str} {x:List aD},dR l p=some x→x.length ≤ l.length
 | [],[],x,h=>by simp [dR] at h; subst h; simp
 | [],_ :: _,x,h=>by simp [dR] at h
 | s :: l,p,x,h=>by
  rw [dR.eq_def] at h
  simp only [] at h
  split at h
  ·
   cases h; simp
  ·
   cases p with
   | nil=>simp only [] at h; split at h <;> cases h; simp
   | cons w p =>
    simp only [] at h
    split at h
    ·
     split at h
     ·
      have:=nE h; simp; omega
     ·
      cases h
    ·
     cases hq:dR l p with
     | none=>rw [hq] at h; cases h
     | some y=>rw [hq] at h; cases h; have:=nE hq; simp; omega
def nJ (p:List Str):Bool:=decide (p.length ≤ 8) && p.all fun w=>decide (1 ≤ w.length) && decide (w.length ≤ 64)
theorem Dm {n:Nat} (hn:0 < n) (p:List Str) (hp:p.length ≤ 8):∀ (rest done:List Str) (k:Nat),p=done ++ rest→rest.length < k→fB n (kK.mk p []) k (done.length:Int)=some (rest.all fun w=>decide (1 ≤ w.length) && decide (w.length ≤ 64))
 | [],done,k + 1,h,hk=>by
  rw [fB,if_neg (by rw [decide_eq_true_eq]; show ¬ ((done.length:Int) < (p.length:Int)); rw [h]; simp)]
  obtain ⟨j,rfl⟩:∃ j,n=j + 1:=⟨n - 1,by omega⟩
  rw [gX,if_neg (by rw [decide_eq_true_eq]; show ¬ ((0:Int) < (([]:List aD).length:Int)); simp)]; rfl
 | w :: rest,done,k + 1,h,hk=>by
  have hlen:p.length=done.length + rest.length + 1:=by rw [h]; simp; omega
  have hw1:IntKind.wrap .i64 ((done.length:Int) + 1)=(((done ++ [w]).length:Nat):Int):=by rw [pI (by omega) (by omega)]; simp
  rw [fB,if_pos (by rw [decide_eq_true_eq]; show (done.length:Int) < (p.length:Int); omega),show idx (kK.mk p []).Path (done.length:Int)=some w from eu h,Option.bind_some]
  unfold mO
  rw [Option.bind_some,List.all_cons]
  have e:((decide ((1:Int) ≤ (w.length:Int))) && (decide ((w.length:Int) ≤ 64)))=(decide (1 ≤ w.length) && decide (w.length ≤ 64)):=by
   congr 1 <;> (apply decide_eq_decide.2; omega)
  rw [e]
  cases hb:(decide (1 ≤ w.length) && decide (w.length ≤ 64)) with
  | false=>rw [if_pos (by rfl)]; rfl
  | true =>
   rw [if_neg (by simp),hw1,Dm hn p hp rest (done ++ [w]) k (by rw [h]; simp) (by simp at hk; omega)]; rfl
theorem D8 {n:Nat} (hn:100 ≤ n) (p:List Str):mW n (kK.mk p [])=some (nJ p):=by
 unfold mW nJ
 by_cases h:p.length ≤ 8
 ·
  have hd:decide (p.length ≤ 8)=true:=by simpa using h
  rw [if_neg (by simp; omega),hd,Bool.true_and]
  exact Dm (by omega) p h p [] n rfl (by omega)
 ·
  have hd:decide (p.length ≤ 8)=false:=by simpa using h
  rw [if_pos (by simp; omega),hd]; rfl
def kR (l:List Seg) (ps:List aD):List Str × Bool:=if jo l=true then (match fK ps l with
  | none=>([],false)
  | some out=>if nJ out=true then (match dR l out with
   | none=>([],false)
   | some got=>if nz got ps=true then (out,true) else ([],false)) else ([],false)) else ([],false)
theorem xB {n:Nat} (hn:4000200 ≤ n) (l:List Seg) (ps:List aD) (hps:ps.length ≤ 100) (hv:∀ q ∈ ps,q.Value.length ≤ 4000000):gu n l ps=some (kR l ps):=by
 unfold gu kR
 rw [qW (by omega),Option.bind_some]
 cases hr:jo l with
 | false=>rfl
 | true =>
  have hl:=((gY l).1 hr).1
  rw [if_neg (by simp),Df hn l hl ps hps hv,Option.bind_some,if_pos rfl]
  cases hpp:fK ps l with
  | none=>rfl
  | some out =>
   have h1:(nM [] (some out)).1=out:=by simp [nM]
   have h2:(nM [] (some out)).2=true:=rfl
   rw [h1,h2,if_neg (by simp),D8 (by omega),Option.bind_some,Option.bind_some]
   simp only []
   cases hu:nJ out with
   | false=>rfl
   | true =>
    unfold nJ at hu
    rw [Bool.and_eq_true,decide_eq_true_eq,List.all_eq_true] at hu
    have hw:∀ w ∈ out,w.length ≤ 64:=fun w hw=>by have:=hu.2 w hw; simp at this; exact this.2
    rw [if_neg (by simp),if_pos rfl,CW (by omega) l out (by omega) hw,Option.bind_some]
    unfold iJ
    rw [if_pos hr]
    cases hm:dR l out with
    | none=>rfl
    | some got =>
     have hgl:=nE hm
     have h3:(iq [] (some got)).1=got:=by simp [iq]
     have h4:(iq [] (some got)).2=true:=rfl
     rw [h3,h4,if_neg (by simp),DW got ps (by omega) (by omega) (by omega) (by omega),Option.bind_some,Option.bind_some]
     simp only []
     cases nz got ps <;> rfl
end Pr
end Go.Ev

namespace Go.Ev
namespace Pr
set_option linter.unusedVariables false
set_option linter.unusedSimpArgs false
def pU (ps:List aD):List Seg→List aD
 | []=>[]
 | s :: l=>if s.Kind=0 then pU ps l else match dW ps s.Text with
  | none=>pU ps l
  | some v=>if s.Kind=3 then aD.mk s.Text (gH ((gT v).getD [])) :: pU ps l else aD.mk s.Text v :: pU ps l
def Ends (l:List Seg):Prop:=(∀ x ∈ l,0 ≤ x.Kind∧x.Kind ≤ 3)∧∀ pre x post,l=pre ++ x :: post→2 ≤ x.Kind→post=[]
theorem Ends.tail {s:Seg} {l:List Seg} (h:Ends (s :: l)):Ends l :=
 ⟨fun x hx=>h.1 x (List.mem_cons_of_mem _ hx),fun pre x post e hk=>h.2 (s :: pre) x post (by rw [e]; rfl) hk⟩
theorem Ends.last {s:Seg} {l:List Seg} (h:Ends (s :: l)) (hk:2 ≤ s.Kind):l=[]:=h.2 [] s l rfl hk
theorem wB (ps:List aD):∀ (l:List Seg),Ends l→∀ out,fK ps l=some out→dR l out=some (pU ps l)
 | [],_,out,h=>by simp [fK] at h; subst h; rfl
 | s :: l,hE,out,h=>by
  have ih:=wB ps l hE.tail
  rw [fK] at h
  rw [pU]
  by_cases k0:s.Kind=0
  ·
   rw [if_pos k0] at h ⊢
   cases hp:fK ps l with
   | none=>rw [hp] at h; cases h
   | some o =>
    rw [hp] at h
    have:=Option.some.inj h
    subst this
    rw [dR,if_neg (by omega)]
    simp only []
    rw [if_pos k0]
    simp only [if_true]
    exact ih o hp
  ·
   rw [if_neg k0] at h ⊢
   by_cases k1:s.Kind=1
   ·
    rw [if_pos k1] at h
    cases hv:dW ps s.Text with
    | none=>rw [hv] at h; cases h
    | some v =>
     rw [hv] at h
     cases hp:fK ps l with
     | none=>rw [hp] at h; cases h
     | some o =>
      rw [hp] at h
      have:=Option.some.inj h
      subst this
      rw [dR,if_neg (by omega)]
      simp only []
      rw [if_neg k0,ih o hp,if_neg (by omega)]; rfl
   ·
    rw [if_neg k1] at h
    have hl:l=[]:=hE.last (by have:=hE.1 s List.mem_cons_self; omega)
    subst hl
    by_cases k2:s.Kind=2
    ·
     rw [if_pos k2] at h
     cases hv:dW ps s.Text with
     | none =>
      rw [hv] at h
      simp [fK] at h
      subst h
      rw [dR.eq_def]; simp only []; rw [if_neg (by omega),if_pos k2]; rfl
     | some v =>
      rw [hv] at h
      simp [fK] at h
      subst h
      rw [dR,if_neg (by omega)]
      simp only []
      rw [if_neg k0,if_neg (by omega)]; rfl
    ·
     rw [if_neg k2] at h
     have k3:s.Kind=3:=by have:=hE.1 s List.mem_cons_self; omega
     cases hv:dW ps s.Text with
     | none=>rw [hv] at h; cases h
     | some v =>
      rw [hv] at h
      simp only [] at h
      cases hu:gT v with
      | none=>rw [hu] at h; cases h
      | some t =>
       rw [hu] at h
       simp [fK] at h
       subst h
       rw [dR.eq_def]
       simp only []
       rw [if_pos k3,if_pos k3,hu]; rfl
def og:List Str→Option (List Str)
 | []=>some []
 | x :: l=>match j6 x with
  | none=>none
  | some d=>if d=[]∨encS d ≠ x then none else (og l).map (d :: ·)
def tX (ps:List aD):List Seg→Option (List Str × Nat)
 | []=>some ([],0)
 | s :: l=>if s.Kind=0 then (tX ps l).map fun r=>(s.Text :: r.1,r.2) else match dW ps s.Text with
  | none=>if s.Kind=2 then tX ps l else none
  | some v=>if s.Kind ≠ 3 then (if v=[] then none else (tX ps l).map fun r=>(v :: r.1,r.2 + 1))
   else if v=[] then (tX ps l).map fun r=>(r.1,r.2 + 1) else match og (bN 47 v) with
    | none=>none
    | some t=>(tX ps l).map fun r=>(t ++ r.1,r.2 + 1)
def nW (ps:List aD) (acc:List Str) (u:Nat):Option (List Str × Nat)→List Str × Bool
 | none=>([],false)
 | some r=>if u + r.2=ps.length∧nJ (acc ++ r.1)=true then (acc ++ r.1,true) else ([],false)
theorem zh:∀ (z:List Str) (c:Nat) (t:List Str),og z=some t→c + z.length ≤ 8→zO c z=some t∧t.map encS=z
 | [],c,t,h,hc=>by simp [og] at h; subst h; exact ⟨rfl,rfl⟩
 | x :: z,c,t,h,hc=>by
  rw [og] at h
  cases hd:j6 x with
  | none=>rw [hd] at h; cases h
  | some d =>
   rw [hd] at h
   simp only [] at h
   split at h
   ·
    cases h
   ·
    rename_i hn
    cases hz:og z with
    | none=>rw [hz] at h; cases h
    | some r =>
     rw [hz] at h
     have:=Option.some.inj h
     subst this
     simp only [List.length_cons] at hc
     obtain ⟨i1,i2⟩:=zh z (c + 1) r hz (by omega)
     have hn':encS d=x:=by
      by_cases q:encS d=x
      ·
       exact q
      ·
       exact absurd (.inr q) hn
     refine ⟨?_,by rw [List.map_cons,i2,hn']⟩
     rw [zO,hd]; simp only []; rw [if_neg (by omega),i1]; rfl
theorem yV:∀ (z:List Str) (c:Nat) (t:List Str),zO c z=some t→(∀ w ∈ t,w ≠ [])→t.map encS=z→og z=some t
 | [],c,t,h,hw,he=>by simp [zO] at h; subst h; rfl
 | x :: z,c,t,h,hw,he=>by
  rw [zO] at h
  cases hd:j6 x with
  | none=>rw [hd] at h; cases h
  | some d =>
   rw [hd] at h
   simp only [] at h
   split at h
   ·
    cases h
   ·
    cases hz:zO (c + 1) z with
    | none=>rw [hz] at h; cases h
    | some r =>
     rw [hz] at h
     have:=Option.some.inj h
     subst this
     rw [List.map_cons,List.cons.injEq] at he
     have i:=yV z (c + 1) r hz (fun w hm=>hw w (List.mem_cons_of_mem _ hm)) he.2
     rw [og,hd]
     simp only []
     rw [if_neg (fun q=>q.elim (fun q=>hw d List.mem_cons_self q) (fun q=>q he.1)),i]; rfl
end Pr
end Go.Ev

namespace Go.Ev
namespace Pr
set_option linter.unusedVariables false
set_option linter.unusedSimpArgs false
theorem uN (c:UInt8):∀ s:Str,Lib.join (bN c s) [c]=s
 | []=>by rw [bN,Lib.join_one]
 | b :: s=>by
  have ih:=uN c s
  have two:∀ (x y:Str) (l:List Str),Lib.join (x :: y :: l) [c]=x ++ c :: Lib.join (y :: l) [c]:=fun x y l=>by
   rw [Lib.join_cons,Lib.join_cons,Lib.joinTail,List.map_cons,List.flatten_cons]; simp [Lib.joinTail]
  rw [bN]
  by_cases h:b=c
  ·
   rw [if_pos (by simpa using h)]
   cases hs:bN c s with
   | nil=>rw [hs] at ih; rw [Lib.join_nil] at ih; rw [Lib.join_one,← ih,h]; exact absurd hs (by
     cases s with
     | nil=>simp [bN]
     | cons y r =>
      rw [bN]
      split
      ·
       simp
      ·
       split <;> simp)
   | cons x r=>rw [hs] at ih; rw [two,ih,h]; rfl
  ·
   rw [if_neg (by simpa using h)]
   cases hs:bN c s with
   | nil=>rw [hs,Lib.join_nil] at ih; rw [Lib.join_one,← ih]
   | cons x r =>
    rw [hs] at ih
    simp only []
    cases r with
    | nil=>rw [Lib.join_one] at ih ⊢; rw [ih]
    | cons y r=>rw [two] at ih ⊢; rw [← ih]; rfl
theorem Ak {v:Str} {t:List Str} (h:t.map encS=bN 47 v):gH t=v:=by
 unfold gH; rw [h,uN]
theorem BF (ps:List aD):∀ (l:List Seg),Ends l→∀ (o:List Str) (u:Nat),tX ps l=some (o,u)→o.length ≤ 8→fK ps l=some o∧(pU ps l).length=u∧∀ q ∈ pU ps l,dW ps q.Name=some q.Value
 | [],_,o,u,h,ho=>by simp [tX] at h; obtain ⟨rfl,rfl⟩:=h; exact ⟨rfl,rfl,fun q hq=>by cases hq⟩
 | s :: l,hE,o,u,h,ho=>by
  have ih:=BF ps l hE.tail
  have hk:=hE.1 s List.mem_cons_self
  rw [tX] at h
  rw [fK,pU]
  by_cases k0:s.Kind=0
  ·
   rw [if_pos k0] at h ⊢
   cases hd:tX ps l with
   | none=>rw [hd] at h; cases h
   | some r =>
    rw [hd] at h
    have:=Option.some.inj h
    simp only [Prod.mk.injEq] at this
    obtain ⟨rfl,rfl⟩:=this
    simp only [List.length_cons] at ho
    obtain ⟨i1,i2,i3⟩:=ih r.1 r.2 hd (by omega)
    rw [if_pos k0]
    exact ⟨by rw [i1]; rfl,i2,i3⟩
  ·
   rw [if_neg k0] at h ⊢
   rw [if_neg k0]
   cases hv:dW ps s.Text with
   | none =>
    rw [hv] at h
    simp only [] at h ⊢
    split at h
    ·
     rename_i k2
     rw [if_neg (by omega),if_pos k2]
     exact ih o u h ho
    ·
     cases h
   | some v =>
    rw [hv] at h
    simp only [] at h ⊢
    by_cases k3:s.Kind=3
    ·
     rw [if_neg (by simpa using k3)] at h
     rw [if_neg (by omega),if_neg (by omega),if_pos k3]
     by_cases hv0:v=[]
     ·
      rw [if_pos hv0] at h
      cases hd:tX ps l with
      | none=>rw [hd] at h; cases h
      | some r =>
       rw [hd] at h
       have:=Option.some.inj h
       simp only [Prod.mk.injEq] at this
       obtain ⟨rfl,rfl⟩:=this
       obtain ⟨i1,i2,i3⟩:=ih r.1 r.2 hd ho
       have hu:gT v=some []:=by unfold gT; rw [if_pos hv0]
       rw [hu,i1]
       refine ⟨rfl,by simp [i2],fun q hq=>?_⟩
       rcases List.mem_cons.1 hq with rfl | hq
       ·
        show dW ps s.Text=some (gH [])
        rw [hv,hv0]; rfl
       ·
        exact i3 q hq
     ·
      rw [if_neg hv0] at h
      cases hc:og (bN 47 v) with
      | none=>rw [hc] at h; cases h
      | some t =>
       rw [hc] at h
       cases hd:tX ps l with
       | none=>rw [hd] at h; cases h
       | some r =>
        rw [hd] at h
        have:=Option.some.inj h
        simp only [Prod.mk.injEq] at this
        obtain ⟨rfl,rfl⟩:=this
        simp only [List.length_append] at ho
        obtain ⟨i1,i2,i3⟩:=ih r.1 r.2 hd (by omega)
        have hlen:(bN 47 v).length ≤ 8:=by
         have key:∀ (z:List Str) (t:List Str),og z=some t→t.length=z.length:=by
          intro z
          induction z with
          | nil=>intro t h; simp [og] at h; subst h; rfl
          | cons x z ih =>
           intro t h
           rw [og] at h
           split at h
           ·
            cases h
           ·
            split at h
            ·
             cases h
            ·
             cases hz:og z with
             | none=>rw [hz] at h; cases h
             | some r=>rw [hz] at h; have:=Option.some.inj h; subst this; simp [ih r hz]
         have:=key _ t hc; omega
        obtain ⟨c1,c2⟩:=zh _ 0 t hc (by omega)
        have hu:gT v=some t:=by unfold gT; rw [if_neg hv0,c1]
        rw [hu,i1]
        refine ⟨rfl,by simp [i2],fun q hq=>?_⟩
        rcases List.mem_cons.1 hq with rfl | hq
        ·
         show dW ps s.Text=some (gH t)
         rw [hv,Ak c2]
        ·
         exact i3 q hq
    ·
     rw [if_pos k3] at h
     split at h
     ·
      cases h
     ·
      cases hd:tX ps l with
      | none=>rw [hd] at h; cases h
      | some r =>
       rw [hd] at h
       have:=Option.some.inj h
       simp only [Prod.mk.injEq] at this
       obtain ⟨rfl,rfl⟩:=this
       simp only [List.length_cons] at ho
       obtain ⟨i1,i2,i3⟩:=ih r.1 r.2 hd (by omega)
       rw [if_neg k3,i1]
       have hpath:(if s.Kind=1 then (some r.1).map (v :: ·) else if s.Kind=2 then (some r.1).map (v :: ·) else match gT v with | none=>none | some t=>(some r.1).map (t ++ ·))=some (v :: r.1):=by
        by_cases k1:s.Kind=1
        ·
         rw [if_pos k1]; rfl
        ·
         rw [if_neg k1,if_pos (by omega)]; rfl
       refine ⟨hpath,by simp [i2],fun q hq=>?_⟩
       rcases List.mem_cons.1 hq with rfl | hq
       ·
        exact hv
       ·
        exact i3 q hq
end Pr
end Go.Ev

namespace Go.Ev
namespace Pr
set_option linter.unusedVariables false
set_option linter.unusedSimpArgs false
theorem Ao {v:Str} {t:List Str} (hv:v ≠ []) (h:gH t=v):t.map encS=bN 47 v:=by
 cases t with
 | nil=>exact absurd (by rw [← h]; rfl) hv
 | cons x t =>
  rw [← h]
  unfold gH
  rw [List.map_cons,uL (c:=47) (encS x) (t.map encS) (fun y hy b hb=>by
   rw [← List.map_cons,List.mem_map] at hy
   obtain ⟨z,_,rfl⟩:=hy
   exact Bp z b hb)]
theorem BK (ps:List aD):∀ (l:List Seg),Ends l→∀ (o:List Str),fK ps l=some o→(∀ w ∈ o,w ≠ [])→(∀ q ∈ pU ps l,dW ps q.Name=some q.Value)→tX ps l=some (o,(pU ps l).length)
 | [],_,o,h,hw,hq=>by simp [fK] at h; subst h; rfl
 | s :: l,hE,o,h,hw,hq=>by
  have ih:=BK ps l hE.tail
  have hk:=hE.1 s List.mem_cons_self
  rw [fK] at h
  rw [pU] at hq
  rw [tX,pU]
  by_cases k0:s.Kind=0
  ·
   rw [if_pos k0] at h hq ⊢
   rw [if_pos k0]
   cases hp:fK ps l with
   | none=>rw [hp] at h; cases h
   | some r =>
    rw [hp] at h
    have:=Option.some.inj h
    subst this
    rw [ih r hp (fun w hm=>hw w (List.mem_cons_of_mem _ hm)) hq]; rfl
  ·
   rw [if_neg k0] at h hq ⊢
   rw [if_neg k0]
   cases hv:dW ps s.Text with
   | none =>
    rw [hv] at h hq
    simp only [] at h hq ⊢
    split at h
    ·
     cases h
    ·
     split at h
     ·
      rename_i k2
      rw [if_pos k2]
      exact ih o h hw hq
     ·
      cases h
   | some v =>
    rw [hv] at h hq
    simp only [] at h hq ⊢
    by_cases k3:s.Kind=3
    ·
     rw [if_neg (by omega),if_neg (by omega)] at h
     rw [if_pos k3] at hq
     rw [if_neg (by simpa using k3),if_pos k3]
     cases hu:gT v with
     | none=>rw [hu] at h; cases h
     | some t =>
      rw [hu] at h hq
      cases hp:fK ps l with
      | none=>rw [hp] at h; cases h
      | some r =>
       rw [hp] at h
       have:=Option.some.inj h
       subst this
       have i:=ih r hp (fun w hm=>hw w (List.mem_append_right _ hm)) (fun q hm=>hq q (List.mem_cons_of_mem _ hm))
       have hval:=hq _ List.mem_cons_self
       have hval:dW ps s.Text=some (gH t):=hval
       rw [hv] at hval
       have hvt:gH t=v:=(Option.some.inj hval).symm
       by_cases hv0:v=[]
       ·
        rw [if_pos hv0,i]
        have ht:t=[]:=by
         unfold gT at hu; rw [if_pos hv0] at hu; exact (Option.some.inj hu).symm
        rw [ht]; rfl
       ·
        have hu2:zO 0 (bN 47 v)=some t:=by unfold gT at hu; rw [if_neg hv0] at hu; exact hu
        rw [if_neg hv0,yV _ 0 t hu2 (fun w hm=>hw w (List.mem_append_left _ hm)) (Ao hv0 hvt),i]; rfl
    ·
     rw [if_neg k3] at hq
     rw [if_pos k3,if_neg k3]
     cases hp:fK ps l with
     | none =>
      rw [hp] at h
      split at h
      ·
       cases h
      ·
       split at h
       ·
        cases h
       ·
        omega
     | some r =>
      have ho:o=v :: r:=by
       rw [hp] at h
       by_cases k1:s.Kind=1
       ·
        rw [if_pos k1] at h; exact (Option.some.inj h).symm
       ·
        rw [if_neg k1,if_pos (by omega)] at h; exact (Option.some.inj h).symm
      subst ho
      rw [if_neg (hw v List.mem_cons_self),ih r hp (fun w hm=>hw w (List.mem_cons_of_mem _ hm)) (fun q hm=>hq q (List.mem_cons_of_mem _ hm))]; rfl
theorem DR (ps:List aD) (l:List Seg) (hr:jo l=true):kR l ps=nW ps [] 0 (tX ps l):=by
 have hR:=(gY l).1 hr
 have hE:Ends l:=⟨fun x hx=>(hR.2.1 x hx).2,hR.2.2.1⟩
 have words:∀ o:List Str,nJ o=true→o.length ≤ 8∧∀ w ∈ o,w ≠ []:=fun o hu=>by
  unfold nJ at hu
  rw [Bool.and_eq_true,decide_eq_true_eq,List.all_eq_true] at hu
  refine ⟨hu.1,fun w hw q=>?_⟩
  have:=hu.2 w hw
  rw [q] at this; simp at this
 have fwd:∀ (o:List Str),fK ps l=some o→nJ o=true→nz (pU ps l) ps=true→nW ps [] 0 (tX ps l)=(o,true):=fun o h1 h2 h3=>by
  unfold nz at h3
  rw [Bool.and_eq_true,List.all_eq_true,beq_iff_eq] at h3
  rw [BK ps l hE o h1 (words o h2).2 (fun q hq=>by have:=h3.2 q hq; simpa using this)]
  unfold nW
  simp only [List.nil_append,Nat.zero_add]
  rw [if_pos ⟨h3.1,h2⟩]
 have bwd:∀ (o:List Str) (u:Nat),tX ps l=some (o,u)→u=ps.length→nJ o=true→fK ps l=some o∧nz (pU ps l) ps=true:=fun o u h1 h2 h3=>by
  obtain ⟨i1,i2,i3⟩:=BF ps l hE o u h1 (words o h3).1
  refine ⟨i1,?_⟩
  unfold nz
  rw [Bool.and_eq_true,List.all_eq_true,beq_iff_eq]
  exact ⟨by omega,fun q hq=>by simpa using i3 q hq⟩
 unfold kR
 rw [if_pos hr]
 cases hp:fK ps l with
 | none =>
  simp only []
  cases hd:tX ps l with
  | none=>rfl
  | some r =>
   unfold nW
   simp only [List.nil_append,Nat.zero_add]
   by_cases c:r.2=ps.length∧nJ r.1=true
   ·
    have:=(bwd r.1 r.2 hd c.1 c.2).1
    rw [hp] at this; cases this
   ·
    rw [if_neg c]
 | some o =>
  simp only []
  rw [wB ps l hE o hp]
  simp only []
  cases hu:nJ o with
  | true =>
   rw [if_pos rfl]
   cases ha:nz (pU ps l) ps with
   | true=>rw [if_pos rfl,fwd o hp hu ha]
   | false =>
    rw [if_neg (by simp)]
    cases hd:tX ps l with
    | none=>rfl
    | some r =>
     unfold nW
     simp only [List.nil_append,Nat.zero_add]
     by_cases c:r.2=ps.length∧nJ r.1=true
     ·
      have:=(bwd r.1 r.2 hd c.1 c.2).2
      rw [ha] at this; cases this
     ·
      rw [if_neg c]
  | false =>
   rw [if_neg (by simp)]
   cases hd:tX ps l with
   | none=>rfl
   | some r =>
    unfold nW
    simp only [List.nil_append,Nat.zero_add]
    by_cases c:r.2=ps.length∧nJ r.1=true
    ·
     have:=(bwd r.1 r.2 hd c.1 c.2).1
     rw [hp] at this
     rw [Option.some.inj this] at hu
     rw [c.2] at hu; cases hu
    ·
     rw [if_neg c]
end Pr
end Go.Ev

namespace Go.Ev
namespace Pr
set_option linter.unusedVariables false
set_option linter.unusedSimpArgs false
theorem Cw {n:Nat} (ps:List aD) (name:Str) (h:ps.length < n) (h2:ps.length ≤ 100000):iR n ps name=some ((dW ps name).getD [],(dW ps name).isSome):=by
 have key:∀ (rest done:List aD) (k:Nat),ps=done ++ rest→rest.length < k→cO ps name k (done.length:Int)=some ((dW rest name).getD [],(dW rest name).isSome):=by
  intro rest
  induction rest with
  | nil =>
   intro done k e hk
   cases k with
   | zero=>omega
   | succ k=>rw [cO,if_neg (by rw [decide_eq_true_eq,e]; simp)]; rfl
  | cons q rest ih =>
   intro done k e hk
   cases k with
   | zero=>omega
   | succ k =>
    have hlen:ps.length=done.length + rest.length + 1:=by rw [e]; simp; omega
    have hw:IntKind.wrap .i64 ((done.length:Int) + 1)=(((done ++ [q]).length:Nat):Int):=by rw [pI (by omega) (by omega)]; simp
    rw [cO,if_pos (by rw [decide_eq_true_eq]; omega),eu e,Option.bind_some,y7]
    by_cases hq:q.Name=name
    ·
     rw [if_pos (by simpa using hq),if_pos hq]; rfl
    ·
     rw [if_neg (by simpa using hq),if_neg hq,hw]
     exact ih (done ++ [q]) k (by rw [e]; simp) (by simp at hk; omega)
 exact key ps [] n rfl h
theorem Ew {n:Nat} (hn:100 ≤ n) (p:List Str):gP n (kK.mk p [])=some (nJ p):=by
 have key:p.length ≤ 8→∀ (rest done:List Str) (k:Nat),p=done ++ rest→rest.length < k→cB n (kK.mk p []) k (done.length:Int)=some (rest.all fun w=>decide (1 ≤ w.length) && decide (w.length ≤ 64)):=by
  intro hp rest
  induction rest with
  | nil =>
   intro done k e hk
   cases k with
   | zero=>omega
   | succ k =>
    rw [cB,if_neg (by rw [decide_eq_true_eq]; show ¬ ((done.length:Int) < (p.length:Int)); rw [e]; simp)]
    obtain ⟨j,rfl⟩:∃ j,n=j + 1:=⟨n - 1,by omega⟩
    rw [dQ,if_neg (by rw [decide_eq_true_eq]; show ¬ ((0:Int) < (([]:List aD).length:Int)); simp)]; rfl
  | cons w rest ih =>
   intro done k e hk
   cases k with
   | zero=>omega
   | succ k =>
    have hlen:p.length=done.length + rest.length + 1:=by rw [e]; simp; omega
    have hw1:IntKind.wrap .i64 ((done.length:Int) + 1)=(((done ++ [w]).length:Nat):Int):=by rw [pI (by omega) (by omega)]; simp
    rw [cB,if_pos (by rw [decide_eq_true_eq]; show (done.length:Int) < (p.length:Int); omega),show idx (kK.mk p []).Path (done.length:Int)=some w from eu e,Option.bind_some,List.all_cons]
    by_cases c:1 ≤ w.length∧w.length ≤ 64
    ·
     rw [if_neg (by simp; omega),hw1,ih (done ++ [w]) k (by rw [e]; simp) (by simp at hk; omega),decide_eq_true c.1,decide_eq_true c.2]; rfl
    ·
     rw [if_pos (by simp; omega)]
     have:(decide (1 ≤ w.length) && decide (w.length ≤ 64))=false:=by simp; omega
     rw [this]; rfl
 unfold gP nJ
 by_cases h:p.length ≤ 8
 ·
  have hd:decide (p.length ≤ 8)=true:=by simpa using h
  rw [if_neg (by simp; omega),hd,Bool.true_and]
  exact key h p [] n rfl (by omega)
 ·
  have hd:decide (p.length ≤ 8)=false:=by simpa using h
  rw [if_pos (by simp; omega),hd]; rfl
theorem uJ:∀ (m:Nat) (s d:Str),s.length ≤ m→j6 s=some d→d.length ≤ s.length
 | m,[],d,hm,h=>by cases h; simp
 | 0,c :: s,d,hm,h=>by simp at hm
 | m + 1,c :: s,d,hm,h=>by
  simp only [List.length_cons] at hm
  by_cases h37:c=37
  ·
   subst h37
   match s,hm,h with
   | [],hm,h=>rw [uH] at h; cases h
   | [a],hm,h=>rw [vI] at h; cases h
   | a :: b :: t,hm,h =>
    rw [ym] at h
    simp only [List.length_cons] at hm
    split at h
    ·
     cases h
    ·
     cases ht:j6 t with
     | none=>rw [ht] at h; cases h
     | some r =>
      rw [ht] at h
      have:=uJ m t r (by omega) ht
      have e:=Option.some.inj h
      subst e
      simp; omega
  ·
   rw [yM s h37] at h
   split at h
   ·
    cases ht:j6 s with
    | none=>rw [ht] at h; cases h
    | some r =>
     rw [ht] at h
     have:=uJ m s r (by omega) ht
     have e:=Option.some.inj h
     subst e
     simp; omega
   ·
    cases h
theorem xm {n:Nat} (hn:4000200 ≤ n) (i:Int) (again:List Str→Int→Int→Option (List Str × Bool)) (u:Int) (z:List Str) (hz:z.length ≤ 4000100) (hw:∀ w ∈ z,w.length ≤ 4000000):∀ (rest done:List Str) (k:Nat) (acc:List Str),z=done ++ rest→rest.length < k→acc.length ≤ 1000 + done.length→bT n i again u z k acc (done.length:Int)=match og rest with
   | none=>some ([],false)
   | some t=>bK i again (acc ++ t) u
 | [],done,k + 1,acc,h,hk,ha=>by
  rw [bT,if_neg (by rw [decide_eq_true_eq,h]; simp)]
  simp [og]
 | x :: rest,done,k + 1,acc,h,hk,ha=>by
  have hlen:z.length=done.length + rest.length + 1:=by rw [h]; simp; omega
  have hw1:IntKind.wrap .i64 ((done.length:Int) + 1)=(((done ++ [x]).length:Nat):Int):=by rw [pI (by omega) (by omega)]; simp
  have hx:=hw x (by rw [h]; simp)
  rw [bT,if_pos (by rw [decide_eq_true_eq]; omega),eu h,Option.bind_some,Ai x (by omega) hx,Option.bind_some,og]
  cases hd:j6 x with
  | none=>rw [if_pos (by simp [mX]),Option.bind_some,if_pos rfl]
  | some d =>
   have hdl:=uJ x.length x d (Nat.le_refl _) hd
   have e1:(mX [] (some d)).1=d:=by simp [mX]
   have e2:(mX [] (some d)).2=true:=rfl
   rw [e1,e2]
   simp only []
   by_cases c1:d=[]
   ·
    rw [if_pos (by simp [c1]),Option.bind_some,if_pos rfl,if_pos (.inl c1)]
   ·
    rw [if_neg (by simp [c1]),vT d (by omega) (by omega),Option.bind_some,Option.bind_some]
    by_cases c2:encS d=x
    ·
     rw [if_neg (by simp [c2]),if_neg (by rintro (q | q); exact c1 q; exact q c2),fG (by rw [bnd]; simp; omega),Option.bind_some,hw1,xm hn i again u z hz hw rest (done ++ [x]) k (acc ++ [d]) (by rw [h]; simp) (by simp at hk; omega) (by simp; omega)]
     cases og rest with
     | none=>rfl
     | some t=>simp
    ·
     rw [if_pos (by simpa using c2),if_pos (.inr c2)]
end Pr
end Go.Ev

namespace Go.Ev
namespace Pr
set_option linter.unusedVariables false
set_option linter.unusedSimpArgs false
theorem Cz (s:Str):(bN 47 s).length ≤ s.length + 1∧∀ y ∈ bN 47 s,y.length ≤ s.length:=by
 induction s with
 | nil=>simp [bN]
 | cons b s ih =>
  rw [bN]
  split
  ·
   refine ⟨by simp; omega,fun y hy=>?_⟩
   rcases List.mem_cons.1 hy with rfl | hy
   ·
    simp
   ·
    have:=ih.2 y hy; simp; omega
  ·
   cases hsp:bN 47 s with
   | nil =>
    refine ⟨by simp,fun y hy=>?_⟩
    have hy:y ∈ [[b]]:=hy
    rw [List.mem_singleton.1 hy]; simp
   | cons x r =>
    rw [hsp] at ih
    refine ⟨by have:=ih.1; simp at this ⊢; omega,fun y hy=>?_⟩
    have hy:y ∈ (b :: x) :: r:=hy
    rcases List.mem_cons.1 hy with rfl | hy
    ·
     have:=ih.2 x List.mem_cons_self; simp; omega
    ·
     have:=ih.2 y (List.mem_cons_of_mem _ hy); simp; omega
theorem Cq (ps:List aD) (acc x:List Str) (u d:Nat) (o:Option (List Str × Nat)):nW ps (acc ++ x) (u + d) o=nW ps acc u (o.map fun r=>(x ++ r.1,r.2 + d)):=by
 cases o with
 | none=>rfl
 | some r =>
  unfold nW
  simp only [Option.map_some,List.append_assoc]
  by_cases c:u + d + r.2=ps.length∧nJ (acc ++ (x ++ r.1))=true
  ·
   rw [if_pos c,if_pos ⟨by omega,c.2⟩]
  ·
   rw [if_neg c,if_neg (fun q=>c ⟨by omega,q.2⟩)]
theorem y8 {n:Nat} (hn:4000200 ≤ n) (a:List Seg) (ha:a.length ≤ 8) (ps:List aD) (hps:ps.length ≤ 100) (hv:∀ q ∈ ps,q.Value.length ≤ 4000000):∀ (rest done:List Seg) (k:Nat) (acc:List Str) (u:Nat),a=done ++ rest→rest.length < k→acc.length ≤ done.length∨rest=[]→u ≤ done.length→Ends rest→aM n a ps k acc (u:Int) (done.length:Int)=some (nW ps acc u (tX ps rest))
 | [],done,k + 1,acc,u,h,hk,hacc,hu,hE=>by
  rw [aM,if_neg (by rw [decide_eq_true_eq,h]; simp)]
  simp only [tX,nW,List.append_nil,Nat.add_zero]
  by_cases c:u=ps.length
  ·
   rw [if_neg (by simp [c]),Ew (by omega),Option.bind_some,Option.bind_some]
   cases hb:nJ acc with
   | true=>rw [if_neg (by simp),if_pos ⟨c,rfl⟩]
   | false=>rw [if_pos (by rfl),if_neg (by simp)]
  ·
   rw [if_pos (by simp; omega),Option.bind_some,if_pos rfl,if_neg (fun q=>c q.1)]
 | s :: rest,done,k + 1,acc,u,h,hk,hacc,hu,hE=>by
  have hacc:acc.length ≤ done.length:=hacc.resolve_right (by simp)
  have hlen:a.length=done.length + rest.length + 1:=by rw [h]; simp; omega
  have hw1:IntKind.wrap .i64 ((done.length:Int) + 1)=(((done ++ [s]).length:Nat):Int):=by rw [pI (by omega) (by omega)]; simp
  have hu1:IntKind.wrap .i64 ((u:Int) + 1)=((u + 1:Nat):Int):=by rw [pI (by omega) (by omega)]; push_cast; rfl
  have hkd:=hE.1 s List.mem_cons_self
  have next:∀ (x:List Str) (d:Nat),(x.length ≤ 1∨rest=[])→d ≤ 1→bK (done.length:Int) (aM n a ps k) (acc ++ x) ((u + d:Nat):Int)=some (nW ps acc u ((tX ps rest).map fun r=>(x ++ r.1,r.2 + d))):=fun x d hx hd=>by
   unfold bK
   rw [hw1,y8 hn a ha ps hps hv rest (done ++ [s]) k (acc ++ x) (u + d) (by rw [h]; simp) (by simp at hk; omega) (hx.imp (fun hx=>by simp; omega) (fun hx=>hx)) (by simp; omega) hE.tail,Cq]
  rw [aM,if_pos (by rw [decide_eq_true_eq]; omega),eu h,Option.bind_some,Cw ps s.Text (by omega) (by omega),Option.bind_some,hu1,tX]
  by_cases k0:s.Kind=0
  ·
   rw [if_neg (by simp [k0]),if_pos k0]
   unfold dx
   rw [if_pos (by simpa using k0),fG (by rw [bnd]; simp; omega),Option.bind_some]
   exact next [s.Text] 0 (.inl (by simp)) (by omega)
  ·
   rw [if_neg k0]
   cases hval:dW ps s.Text with
   | none =>
    rw [if_neg (by simp)]
    unfold dx
    rw [if_neg (by simpa using k0)]
    by_cases k2:s.Kind=2
    ·
     rw [if_pos (by simp [k2])]
     simp only []
     rw [if_pos k2]
     have:=next [] 0 (.inl (by simp)) (by omega)
     rw [List.append_nil] at this
     rw [show ((u:Nat):Int)=((u + 0:Nat):Int) from rfl,this]
     congr 1
     congr 1
     cases tX ps rest <;> rfl
    ·
     rw [if_neg (by simp [k2]),if_pos (by simp)]
     simp only []
     rw [if_neg k2]; rfl
   | some v =>
    obtain ⟨q,q1,q2,_⟩:=xP hval
    have hvl:v.length ≤ 4000000:=by rw [← q2]; exact hv q q1
    rw [if_pos (by simpa using k0)]
    unfold dx
    have g1:((some v).getD [],(some v).isSome).1=v:=rfl
    have g2:((some v).getD [],(some v).isSome).2=true:=rfl
    rw [g1,g2,if_neg (by simpa using k0),if_neg (by simp)]
    simp only []
    by_cases k3:s.Kind=3
    ·
     rw [if_neg (by simp [k3]),if_neg (by simp [k3])]
     have k3':¬ s.Kind ≠ 3:=by simpa using k3
     rw [if_neg k3']
     have hl:rest=[]:=hE.last (by omega)
     by_cases hv0:v=[]
     ·
      rw [if_neg (by simp [hv0]),if_pos hv0]
      have:=next [] 1 (.inl (by simp)) (by omega)
      rw [List.append_nil] at this
      rw [this]; rfl
     ·
      rw [if_pos (by simpa using hv0),if_neg hv0,show (47:Int)=(((47:UInt8).toNat:Nat):Int) from rfl,CB v 47 (by omega) hvl,Option.bind_some]
      obtain ⟨s1,s2⟩:=Cz v
      have:=xm hn (done.length:Int) (aM n a ps k) ((u + 1:Nat):Int) (bN 47 v) (by omega) (fun w hm=>by have:=s2 w hm; omega) (bN 47 v) [] n acc rfl (by omega) (by omega)
      rw [show bT n (done.length:Int) (aM n a ps k) ((u + 1:Nat):Int) (bN 47 v) n acc 0=_ from this]
      cases hc:og (bN 47 v) with
      | none=>rfl
      | some t =>
       simp only []
       exact next t 1 (.inr hl) (by omega)
    ·
     have k3':s.Kind ≠ 3:=k3
     rw [if_pos k3']
     by_cases hv0:v=[]
     ·
      rw [if_pos (by simp [hv0,k3]),if_pos hv0]; rfl
     ·
      have hvn:0 < v.length:=List.length_pos_iff.2 hv0
      rw [if_neg (by simp; intro _; exact hv0),if_pos (by simpa using k3),if_neg hv0,fG (by rw [bnd]; simp; omega),Option.bind_some]
      exact next [v] 1 (.inl (by simp)) (by omega)
theorem xN {n:Nat} (hn:4000200 ≤ n) (l:List Seg) (hlt:∀ x ∈ l,x.Text.length ≤ 4000000) (ps:List aD) (hps:ps.length ≤ 100) (hv:∀ q ∈ ps,q.Value.length ≤ 4000000):fI n l ps=some (kR l ps):=by
 unfold fI
 rw [rX (by omega) l (fun x hx=>by have:=hlt x hx; exact ⟨by omega,by omega⟩),Option.bind_some]
 cases hr:jo l with
 | false=>unfold kR; rw [if_pos (by rfl),hr]; rfl
 | true =>
  have hR:=(gY l).1 hr
  rw [if_neg (by simp),DR ps l hr]
  exact y8 hn l hR.1 ps hps hv l [] n [] 0 rfl (by omega) (.inl (by simp)) (by simp) ⟨fun x hx=>(hR.2.1 x hx).2,hR.2.2.1⟩
end Pr
end Go.Ev

namespace Go.Ev
namespace Pr
set_option linter.unusedVariables false
set_option linter.unusedSimpArgs false
theorem DK:fJ 5000000=some true:=by decide +kernel
theorem vY {α:Type} (l:List α) (k:Nat):cut l 0 (wI ((l.length:Nat):Int) (k:Int))=some (l.take k):=by
 have e:wI ((l.length:Nat):Int) (k:Int)=((min l.length k:Nat):Int):=by unfold wI; split <;> omega
 unfold cut
 rw [e,if_pos ⟨by omega,by omega,by omega⟩]
 simp [List.take_eq_take_iff,Nat.min_comm]
theorem Cj {n:Nat} (a:List aD) (h:a.length < n) (h2:a.length ≤ 100000):dH n a a=some true:=by
 have key:∀ (rest done:List aD) (k:Nat),a=done ++ rest→rest.length < k→bz a a k (done.length:Int)=some true:=by
  intro rest
  induction rest with
  | nil =>
   intro done k e hk
   cases k with
   | zero=>omega
   | succ k=>rw [bz,if_neg (by rw [decide_eq_true_eq,e]; simp)]
  | cons q rest ih =>
   intro done k e hk
   cases k with
   | zero=>omega
   | succ k =>
    have hlen:a.length=done.length + rest.length + 1:=by rw [e]; simp; omega
    have hw:IntKind.wrap .i64 ((done.length:Int) + 1)=(((done ++ [q]).length:Nat):Int):=by rw [pI (by omega) (by omega)]; simp
    rw [bz,if_pos (by rw [decide_eq_true_eq]; omega),eu e,Option.bind_some,Option.bind_some,if_neg (by simp [aD.beq]),hw]
    exact ih (done ++ [q]) k (by rw [e]; simp) (by simp at hk; omega)
 unfold dH
 rw [if_neg (by simp)]
 exact key a [] n rfl h
theorem xG:∀ (p:List Str),(gH p).length ≤ 3 * (p.map List.length).sum + p.length
 | []=>by unfold gH; simp [Lib.join_nil]
 | [x]=>by
  unfold gH; rw [List.map_cons,List.map_nil,Lib.join_one]
  have:=lG x
  simp; omega
 | x :: y :: p=>by
  have ih:=xG (y :: p)
  have e:gH (x :: y :: p)=encS x ++ 47 :: gH (y :: p):=by
   unfold gH
   rw [List.map_cons,List.map_cons,Lib.join_cons,Lib.join_cons,Lib.joinTail,List.map_cons,List.flatten_cons]; simp [Lib.joinTail]
  have:=lG x
  rw [e]
  simp only [List.length_append,List.length_cons,List.map_cons,List.sum_cons] at ih ⊢
  omega
theorem qj (W:Nat):∀ (l:List Seg) (p:List Str) (x:List aD),dR l p=some x→3 * (p.map List.length).sum + p.length ≤ W→∀ q ∈ x,q.Value.length ≤ W
 | [],[],x,h,hw,q,hq=>by simp [dR] at h; subst h; cases hq
 | [],w :: p,x,h,hw,q,hq=>by simp [dR] at h
 | s :: l,p,x,h,hw,q,hq=>by
  rw [dR.eq_def] at h
  simp only [] at h
  split at h
  ·
   have:=Option.some.inj h
   subst this
   rw [List.mem_singleton.1 hq]
   have:=xG p
   show (gH p).length ≤ W
   omega
  ·
   cases p with
   | nil =>
    simp only [] at h
    split at h
    ·
     have:=Option.some.inj h
     subst this; cases hq
    ·
     cases h
   | cons w p =>
    simp only [List.map_cons,List.sum_cons,List.length_cons] at hw
    simp only [] at h
    split at h
    ·
     split at h
     ·
      exact qj W l p x h (by omega) q hq
     ·
      cases h
    ·
     cases hm:dR l p with
     | none=>rw [hm] at h; cases h
     | some y =>
      rw [hm] at h
      have:=Option.some.inj h
      subst this
      rcases List.mem_cons.1 hq with rfl | hq
      ·
       show w.length ≤ W
       omega
      ·
       exact qj W l p y hm (by omega) q hq
theorem ze (l:List Seg) (hlt:∀ x ∈ l,x.Text.length ≤ 4000000) (p:List Str) (hp:p.length ≤ 10) (hs:3 * (p.map List.length).sum + p.length ≤ 4000000) (ps:List aD) (hps:ps.length ≤ 6) (hv:∀ q ∈ ps,q.Value.length ≤ 4000000):bW 5000000 ps l p=some true:=by
 have hw:∀ w ∈ p,w.length ≤ 4000000:=fun w hm=>by
  have:∀ (p:List Str),w ∈ p→w.length ≤ (p.map List.length).sum:=by
   intro p
   induction p with
   | nil=>intro h; cases h
   | cons x p ih =>
    intro h
    simp only [List.map_cons,List.sum_cons]
    rcases List.mem_cons.1 h with rfl | h
    ·
     omega
    ·
     have:=ih h; omega
  have:=this p hm; omega
 have h1:=CF (n:=5000000) (by omega) l p (by omega) hw
 have h2:=Cb (n:=5000000) (by omega) l hlt p (by omega) hw
 have hyl:(iq [] (iJ l p)).1.length ≤ 100∧∀ q ∈ (iq [] (iJ l p)).1,q.Value.length ≤ 4000000:=by
  unfold iJ
  cases hr:jo l with
  | false=>exact ⟨by simp [iq],fun q hq=>by simp [iq] at hq⟩
  | true =>
   rw [if_pos rfl]
   cases hm:dR l p with
   | none=>exact ⟨by simp [iq],fun q hq=>by simp [iq] at hq⟩
   | some x =>
    have hl:=((gY l).1 hr).1
    have:=nE hm
    refine ⟨by simp [iq]; omega,fun q hq=>qj 4000000 l p x hm hs q (by simpa [iq] using hq)⟩
 have b1:=xB (n:=5000000) (by omega) l ps (by omega) hv
 have b2:=xN (n:=5000000) (by omega) l hlt ps (by omega) hv
 have c1:=xB (n:=5000000) (by omega) l (iq [] (iJ l p)).1 hyl.1 hyl.2
 have c2:=xN (n:=5000000) (by omega) l hlt (iq [] (iJ l p)).1 hyl.1 hyl.2
 have d1:=qW (n:=5000000) (by omega) l
 have d2:=rX (n:=5000000) (by omega) l (fun x hx=>by have:=hlt x hx; exact ⟨by omega,by omega⟩)
 have hbl:∀ ps:List aD,(kR l ps).1.length ≤ 8:=fun ps=>by
  unfold kR
  split
  ·
   split
   ·
    simp
   ·
    split
    ·
     rename_i hu
     unfold nJ at hu
     rw [Bool.and_eq_true,decide_eq_true_eq] at hu
     split
     ·
      simp
     ·
      split
      ·
       exact hu.1
      ·
       simp
    ·
     simp
  ·
   simp
 have s1:=zl (n:=5000000) (kR l ps).1 (by have:=hbl ps; omega) (by have:=hbl ps; omega)
 have s2:=zl (n:=5000000) (kR l (iq [] (iJ l p)).1).1 (by have:=hbl (iq [] (iJ l p)).1; omega) (by have:=hbl (iq [] (iJ l p)).1; omega)
 have s3:=Cj (n:=5000000) (iq [] (iJ l p)).1 (by omega) (by omega)
 unfold bW
 rw [h1,Option.bind_some,h2,Option.bind_some,b1,Option.bind_some,b2,Option.bind_some,c1,Option.bind_some,c2,Option.bind_some,s2]
 have e:(if ((decide (0 < (((iq [] (iJ l p)).1).length:Int))) && (((ps).length:Int) == 0))=true then ((some true).bind fun z28=>(some ((!z28) || (!((kR l (iq [] (iJ l p)).1).2 == (kR l (iq [] (iJ l p)).1).2))))) else some false)=some false:=by
  split <;> simp
 rw [e,Option.bind_some,if_neg (by simp),d1,Option.bind_some,d2,Option.bind_some,if_pos (by simp),s3,Option.bind_some,Option.bind_some,if_pos (by simp),s1,Option.bind_some,Option.bind_some,if_pos (by simp),DK]
 rfl
theorem CP (a1:List Seg) (a2:dF) (a3:iO) (a4:List Str) (a5:List aD) (a6:Bool) (h1:∀ x ∈ a1,x.Text.length ≤ 1048576) (h4:(a4.map List.length).sum ≤ 1048576) (h5:∀ q ∈ a5,q.Value.length ≤ 1048576):fC 5000000 a1 a2 a3 a4 a5 a6=some true:=by
 unfold fC
 rw [show ((10:Int))=((10:Nat):Int) from rfl,vY,Option.bind_some,vY,Option.bind_some,show ((6:Int))=((6:Nat):Int) from rfl,vY,Option.bind_some]
 have hps:(a5.take 6).length ≤ 6:=by simp; omega
 have hv:∀ q ∈ a5.take 6,q.Value.length ≤ 4000000:=fun q hq=>by have:=h5 q (List.mem_of_mem_take hq); omega
 cases a6 with
 | true =>
  rw [if_pos rfl]
  obtain ⟨l,hl,hl2⟩:=Ex (n:=5000000) (by omega) a2
  obtain ⟨rl,rl5,_⟩:=hl2.right
  obtain ⟨u,u1,u2,u3⟩:=EX (n:=5000000) (by omega) a3
  rw [hl,Option.bind_some,u1,Option.bind_some]
  refine ze l (fun x hx=>?_) u.Path (by omega) ?_ _ hps hv
  ·
   have:=(Au (((gY l).1 rl).2.1 x hx).1).2; omega
  ·
   have key:∀ p:List Str,(∀ w ∈ p,w ∈ jm)→(p.map List.length).sum ≤ 64 * p.length:=by
    intro p
    induction p with
    | nil=>intro _; simp
    | cons x p ih =>
     intro h
     have:=(Al x (h x List.mem_cons_self)).2
     have:=ih (fun w hm=>h w (List.mem_cons_of_mem _ hm))
     simp only [List.map_cons,List.sum_cons,List.length_cons]; omega
   have:=key u.Path u3; omega
 | false =>
  rw [if_neg (by simp)]
  have key:∀ (p:List Str) (k:Nat),((p.take k).map List.length).sum ≤ (p.map List.length).sum:=by
   intro p
   induction p with
   | nil=>intro k; simp
   | cons x p ih =>
    intro k
    cases k with
    | zero=>simp
    | succ k=>have:=ih k; simp only [List.take_succ_cons,List.map_cons,List.sum_cons]; omega
  have:=key a4 10
  have h10:(a4.take 10).length ≤ 10:=by simp; omega
  exact ze _ (fun x hx=>by have:=h1 x (List.mem_of_mem_take hx); omega) _ h10 (by omega) _ hps hv
end Pr
end Go.Ev

namespace Go.Ev
noncomputable section
set_option linter.unusedVariables false
set_option linter.unusedSimpArgs false
structure yw where
 b:{H:Type}→DataW H→Nat
 str:∀ {H:Type} (s:List UInt8),s.length ≤ b (.lit (.string s):DataW H)
 sl:∀ {H:Type} (els sp:List (DataW H)),(els.map b).sum ≤ b (.slice els sp)
 agg:∀ {H:Type} (ps:List (DataW H)),(ps.map b).sum ≤ b (.agg ps)
def pW (B:yw) (P:Program) (t:Nat) {α:Type} (enc:α→D) (wf:α→Prop) (sz:α→Nat):Prop :=
 ∀ {H:Type} (en:TypeId × Value→H) (w:World) (base:Nat) (sp:Nat→Bool) (held:Bool) (fuel:Nat) (cs:List Value) (d:DataW H) (p:List MemPlace),
  DataW.trod en P w base sp held fuel t cs=some (d,p)→∃ x,wf x∧jH w (enc x).cells cs∧sz x ≤ B.b d
theorem kW.IC {B:yw} {P:Program} {t:Nat} {α:Type} {enc:α→D} {wf:α→Prop} (h:kW P t enc wf):pW B P t enc wf (fun _=>0) :=
 fun en w base sp held fuel cs d p hd=>by
  obtain ⟨x,x1,x2⟩:=h en w base sp held fuel cs d p hd
  exact ⟨x,x1,x2,Nat.zero_le _⟩
theorem pW.str {B:yw} {P:Program} {t:Nat} (hu:P.underlying t=some .string):pW B P t D.str (fun s=>s.length ≤ maxLen) (fun s=>s.length):=by
 intro H en w base sp held fuel cs d p h
 cases fuel with
 | zero=>cases h
 | succ fuel =>
  simp only [DataW.trod,hu] at h
  split at h <;> first | (simp_all; done) | skip
  rename_i s heq
  split at h
  ·
   rename_i hc
   simp only [Option.some.injEq,Prod.mk.injEq] at h
   obtain ⟨rfl,_⟩:=h
   exact ⟨s.data.toList,by simpa using hc,.single (.str _) rfl rfl,B.str _⟩
  ·
   cases h
theorem vk:∀ (n:Nat) (f g:Nat→Nat),(∀ i,i < n→f i ≤ g i)→((List.range n).map f).sum ≤ ((List.range n).map g).sum
 | 0,f,g,h=>by simp
 | n + 1,f,g,h=>by
  have:=vk n f g (fun i hi=>h i (by omega))
  have:=h n (by omega)
  rw [List.range_succ]; simp; omega
theorem pW.slice {B:yw} {P:Program} {t e:Nat} {α:Type} {enc:α→D} {wf:α→Prop} {sz:α→Nat} (hu:P.underlying t=some (.slice e)) (he:pW B P e enc wf sz) (hsz:∀ x,(enc x).cells.length=P.cellsOf e) (h0:0 < P.cellsOf e) :
  pW B P t (FR enc) (fun l=>l.length ≤ maxLen∧∀ x ∈ l,wf x) (fun l=>(l.map sz).sum):=by
 intro H en w base sp held fuel cs d p h
 cases fuel with
 | zero=>cases h
 | succ fuel =>
  simp only [DataW.trod,hu] at h
  split at h <;> first | (simp_all; done) | skip
  ·
   exact ⟨[],⟨by simp,by simp⟩,.single (.sl0 none 0 false (fun h=>by cases h)) rfl rfl,Nat.zero_le _⟩
  ·
   rename_i e' a len cap heq
   simp only [Option.some.injEq,TypeDesc.slice.injEq] at heq
   subst heq
   split at h
   ·
    rename_i hc
    simp only [Option.bind_eq_some_iff] at h
    obtain ⟨els,hels,h⟩:=h
    have hl:=mapM_some_length hels
    have each:∀ i,i < len→∃ x ci,wf x∧w.cells? base (a.add (i * P.cellsOf e)) (P.cellsOf e)=some ci∧jH w (enc x).cells ci∧∀ y,els[i]? = some y→sz x ≤ B.b y.1:=fun i hi=>by
     have hg:=mapM_some_get hels i i (by simp [hi])
     have hlt:i < els.length:=by rw [hl]; simpa using hi
     rw [List.getElem?_eq_getElem hlt,Option.bind_eq_some_iff] at hg
     obtain ⟨ci,h1,h2⟩:=hg
     obtain ⟨x,hx,hr,hb⟩:=he en w base sp held fuel ci _ _ h2
     exact ⟨x,ci,hx,h1,hr,fun y hy=>by rw [List.getElem?_eq_getElem hlt] at hy; rw [← Option.some.inj hy]; exact hb⟩
    by_cases hz:len=0
    ·
     subst hz
     exact ⟨[],⟨by simp,by simp⟩,.single (.sl0 (some a) cap false (fun h=>by cases h)) rfl rfl,Nat.zero_le _⟩
    ·
     have hpos:0 < len:=by omega
     have hspot:a.spot=none:=by
      obtain ⟨x,ci,_,h1,_⟩:=each 0 hpos
      obtain ⟨l1,l2⟩:=lF h1
      have hne:0 < ci.length:=by omega
      have:=l2 0 ci[0] (List.getElem?_eq_getElem hne)
      unfold World.cell? at this
      split at this
      ·
       split at this
       ·
        cases this
       ·
        rename_i hs; cases hsp:a.spot with
        | none=>rfl
        | some q=>simp [Addr.add,hsp] at hs
      ·
       cases this
     have:Inhabited α:=⟨(each 0 hpos).choose⟩
     let f:Nat→α:=fun i=>if hi:i < len then (each i hi).choose else default
     let g:Nat→List Value:=fun i=>if hi:i < len then (each i hi).choose_spec.choose else []
     have hfg:∀ i,i < len→wf (f i)∧w.cells? base (a.add (i * P.cellsOf e)) (P.cellsOf e)=some (g i)∧jH w (enc (f i)).cells (g i)∧∀ y,els[i]? = some y→sz (f i) ≤ B.b y.1:=fun i hi=>by
      have:=(each i hi).choose_spec.choose_spec
      simp only [f,g,hi,dif_pos]
      exact this
     let l:=(List.range len).map f
     have hll:l.length=len:=by simp [l]
     have hli:∀ i x,l[i]? = some x→i < len∧x=f i:=fun i x hx=>by
      simp only [l,List.getElem?_map,Option.map_eq_some_iff] at hx
      obtain ⟨j,hj,rfl⟩:=hx
      have:=List.getElem?_eq_some_iff.1 hj
      obtain ⟨h1,h2⟩:=this
      simp at h1 h2
      subst h2
      exact ⟨h1,rfl⟩
     refine ⟨l,⟨by rw [hll]; omega,fun x hx=>?_⟩,?_,?_⟩
     ·
      obtain ⟨i,hi,rfl⟩:=List.getElem_of_mem hx
      obtain ⟨h1,h2⟩:=hli i _ (List.getElem?_eq_getElem hi)
      rw [h2]; exact (hfg i h1).1
     ·
      have ha:a=⟨a.block,a.off,none⟩:=by rw [← hspot]
      refine .single ?_ rfl rfl
      rw [ha]
      have hlm:(l.map enc).length=len:=by simp [hll]
      have key:gL w zL (.sl (l.map enc) false) [.slice (some ⟨a.block,a.off,none⟩) (l.map enc).length cap]:=by
       refine .sl (l.map enc) false a.block a.off cap (P.cellsOf e) g ?_ (by rw [hlm]; exact hc.2.1) (fun h=>by cases h) (fun i x hi=>?_) (fun i hi=>?_) (fun i x hi=>?_) (fun i j v hi hv=>?_)
       ·
        intro q; rw [q] at hlm; simp at hlm; omega
       ·
        rw [List.getElem?_map,Option.map_eq_some_iff] at hi
        obtain ⟨y,_,rfl⟩:=hi
        exact hsz y
       ·
        exact (lF (hfg i (by rw [hlm] at hi; exact hi)).2.1).1
       ·
        rw [List.getElem?_map,Option.map_eq_some_iff] at hi
        obtain ⟨y,hy,rfl⟩:=hi
        obtain ⟨h1,rfl⟩:=hli i y hy
        exact (hfg i h1).2.2.1.Ef
       ·
        rw [hlm] at hi
        have:=(lF (hfg i hi).2.1).2 j v hv
        refine ⟨?_,fun q=>q⟩
        rw [← this]
        congr 1
        have hz:∀ (b:Addr) (m:Nat),b.spot=none→b.add m=⟨b.block,b.off + m,none⟩:=fun b m hb=>by
         obtain ⟨b1,b2,b3⟩:=b
         cases hb
         cases m <;> simp [Addr.add]
        rw [hz a _ hspot,hz _ j rfl]
      rw [hlm] at key
      exact key
     ·
      have hels':els.length=len:=by rw [hl]; simp
      have hd:∃ rest,d=.slice (els.map (·.1)) rest:=by
       simp only [Option.bind_eq_some_iff,Option.map_eq_some_iff,Option.some.injEq,Prod.mk.injEq] at h
       first
        | (obtain ⟨rest,_,h,_⟩:=h; exact ⟨_,h.symm⟩)
        | (obtain ⟨rest,_,h⟩:=h; exact ⟨_,h.1.symm⟩)
      obtain ⟨rest,rfl⟩:=hd
      refine Nat.le_trans ?_ (B.sl _ _)
      rw [List.map_map]
      have e2:els.map (B.b ∘ fun x=>x.1)=(List.range len).map fun i=>((els[i]?).map fun y=>B.b y.1).getD 0:=by
       apply List.ext_getElem?
       intro i
       rw [List.getElem?_map,List.getElem?_map]
       by_cases hi:i < len
       ·
        have hi2:i < els.length:=by omega
        rw [List.getElem?_eq_getElem hi2,List.getElem?_range hi]
        simp [List.getElem?_eq_getElem hi2]
       ·
        rw [List.getElem?_eq_none (by omega),List.getElem?_eq_none (by simp; omega)]; rfl
      rw [e2]
      show ((List.range len).map f |>.map sz).sum ≤ _
      rw [List.map_map]
      refine vk len _ _ (fun i hi=>?_)
      have hi2:i < els.length:=by omega
      rw [List.getElem?_eq_getElem hi2]
      exact (hfg i hi).2.2.2 _ (List.getElem?_eq_getElem hi2)
   ·
    cases h
def sK (B:yw) (P:Program) (fs:List Field) (off tot:Nat) {β:Type} (enc:β→List D) (wf:β→Prop) (sz:β→Nat):Prop :=
 ∀ {H:Type} (en:TypeId × Value→H) (w:World) (base:Nat) (sp:Nat→Bool) (held:Bool) (fuel:Nat) (cs:List Value) (xs:List (DataW H × List MemPlace)),
  (fs.mapM fun f=>DataW.trod en P w base sp held fuel f.type ((cs.drop f.offset).take (P.cellsOf f.type)))=some xs→∃ y,wf y∧jH w (enc y) ((cs.drop off).take tot)∧sz y ≤ (xs.map fun x=>B.b x.1).sum
theorem sK.nil {B:yw} {P:Program} {off:Nat}:sK B P [] off 0 (fun _:Unit=>[]) (fun _=>True) (fun _=>0) :=
 fun en w base sp held fuel cs xs h=>⟨(),trivial,by simpa using jH.nil,Nat.zero_le _⟩
theorem sK.cons {B:yw} {P:Program} {f:Field} {fs:List Field} {off sz tot:Nat} {α β:Type} {enc:α→D} {wf:α→Prop} {s1:α→Nat} {enc2:β→List D} {wf2:β→Prop} {s2:β→Nat}
  (ho:f.offset=off) (hz:P.cellsOf f.type=sz) (h:pW B P f.type enc wf s1) (k:sK B P fs (off + sz) tot enc2 wf2 s2) :
  sK B P (f :: fs) off (sz + tot) (fun p:α × β=>(enc p.1).cells ++ enc2 p.2) (fun p=>wf p.1∧wf2 p.2) (fun p=>s1 p.1 + s2 p.2):=by
 intro H en w base sp held fuel cs xs hx
 simp only [List.mapM_cons,Option.pure_def,Option.bind_eq_bind,Option.bind_eq_some_iff] at hx
 obtain ⟨x,hx,ys,hys,hxs⟩:=hx
 rw [ho,hz] at hx
 obtain ⟨a,a1,a2,a3⟩:=h en w base sp held fuel _ x.1 x.2 hx
 obtain ⟨b,b1,b2,b3⟩:=k en w base sp held fuel cs ys hys
 have hxs:=(Option.some.inj hxs).symm
 subst hxs
 refine ⟨(a,b),⟨a1,b1⟩,?_,by simp only [List.map_cons,List.sum_cons]; omega⟩
 rw [List.take_add,List.drop_drop]
 exact a2.append b2
theorem pW.struct {B:yw} {P:Program} {t tot:Nat} {fs:Array Field} {α β:Type} {enc:α→D} {wf:α→Prop} {s1:α→Nat} {enc2:β→List D} {wf2:β→Prop} {s2:β→Nat} (hu:P.underlying t=some (.struct fs)) (hz:P.cellsOf t=tot)
  (h:sK B P fs.toList 0 tot enc2 wf2 s2) (g:β→α) (hg:∀ y,(enc (g y)).cells=enc2 y) (hw:∀ y,wf2 y→wf (g y)) (hs:∀ y,s1 (g y) ≤ s2 y):pW B P t enc wf s1:=by
 intro H en w base sp held fuel cs d p hd
 cases fuel with
 | zero=>cases hd
 | succ fuel =>
  simp only [DataW.trod,hu] at hd
  split at hd
  ·
   rename_i hc
   simp only [Option.map_eq_some_iff] at hd
   obtain ⟨xs,hxs,hdd⟩:=hd
   obtain ⟨y,y1,y2,y3⟩:=h en w base sp held fuel cs xs hxs
   simp only [Prod.mk.injEq] at hdd
   obtain ⟨rfl,_⟩:=hdd
   refine ⟨g y,hw y y1,?_,Nat.le_trans (hs y) (Nat.le_trans y3 (Nat.le_trans (by rw [List.map_map]; exact Nat.le_refl _) (B.agg _)))⟩
   rw [hg y]
   rw [hz] at hc
   simpa [← hc] using y2
  ·
   cases hd
theorem FJ {B:yw} {P:Program} {t:Nat} {α:Type} {enc:α→D} {wf:α→Prop} {s1:α→Nat} (O:pW B P t enc wf s1) (ha:∀ x,(enc x).isAgg=false)
  {H:Type} {en:TypeId × Value→H} {w:World} {base b0:Nat} {sp:Nat→Bool} {held:Bool} {v:Value} {d:DataW H} {p:List MemPlace} (hval:sj v=false) (hd:DataW.Trod en P w base sp held t v d p) :
  ∃ x,(wf x∧s1 x ≤ B.b d)∧bA w zL (enc x) v:=by
 obtain ⟨fuel,hf⟩:=hd
 obtain ⟨x,x1,x2,x3⟩:=O en w base sp held fuel _ d p hf
 exact ⟨x,⟨x1,x3⟩,x2.Ef,by rw [hval]; exact ha x⟩
end
end Go.Ev

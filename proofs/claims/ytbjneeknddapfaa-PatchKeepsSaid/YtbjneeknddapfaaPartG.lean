import Derived.Test.YtbjneeknddapfaaPartF
namespace Go.Ev
namespace Pr
set_option linter.unusedVariables false
set_option linter.unusedSimpArgs false
mutual
theorem JA:∀ (t:Tree),W.om t→Rt t
 | .mk a b c d e,h=>by
  obtain ⟨h1,h2⟩:=(W.wB _).1 h
  simp only [Tree.Kids] at h2
  have hr:=I8 e h2
  simp only [Rt]
  rcases h1 with ⟨q1,q2,q3,q4,q5⟩ | ⟨q1,q2,q3,q4,q5⟩
  ·
   simp only [Tree.Tag,Tree.Key,Tree.aL,Tree.Kids] at q1 q2 q3 q4
   exact ⟨fun _=>⟨q2,q3,q4⟩,fun h=>absurd q1 h⟩
  ·
   simp only [Tree.Tag,Tree.Text,Tree.aL,Tree.Kids] at q1 q2 q4
   refine ⟨fun h=>?_,fun _=>⟨q2,?_,hr⟩⟩
   ·
    simp [W.DI,h] at q1
   ·
    rcases q4 with q4 | ⟨x,q4,_⟩ <;> rw [q4] <;> simp
theorem I8:∀ (l:List Tree),W.om.lg l→KG l
 | [],_=>trivial
 | t :: l,h=>by rw [W.om.lg] at h; exact ⟨JA t h.1,I8 l h.2⟩
end
mutual
theorem CK:∀ (t:Tree),jL t=W.oz t
 | .mk _ _ _ _ ks=>by rw [jL,W.oz,DU ks]
theorem DU:∀ (l:List Tree),ig l=W.pJ l
 | []=>rfl
 | t :: l=>by rw [ig,W.pJ,CK t,DU l]
end
theorem zV:∀ (l:List Tree) (i j:Nat) (x:Int),(kZ l (fun k=>dY k l i))[j]? = some x→x=((i + j:Nat):Int)
 | [],i,j,x,h=>by simp [kZ] at h
 | t :: l,i,j,x,h=>by
  have a:dY (kd t) (t :: l) i=(i:Int) :: dY (kd t) l (i + 1):=by rw [dY,if_pos rfl]
  have e:(fun q=>if q=kd t then dY (kd t) l (i + 1) else dY q (t :: l) i)=fun q=>dY q l (i + 1):=by
   funext q
   by_cases hq:q=kd t
   ·
    subst hq; rw [if_pos rfl]
   ·
    rw [if_neg hq,dY,if_neg (fun h=>hq h.symm)]
  simp only [kZ,a,e] at h
  cases j with
  | zero=>simpa using h.symm
  | succ j =>
   have:=zV l (i + 1) j x (by simpa using h)
   rw [this]; congr 1; omega
theorem TA.kl {d:ay} {i:Int} {t:Tree} {F:List Int} (h:TA d i t F) {z:ah} (hz:nd d i=some z):z.lives=true∧z.kids.length=t.Kids.length:=by
 cases h with
 | mk h hl k=>rw [h] at hz; cases hz; exact ⟨hl,by simpa [Tree.Kids] using k.lens⟩
theorem Turned.same {d d':ay} {id:Int} {t:Tree} {F F':List Int} (h0:TA d id t F) (T:Turned d d' id t t F F'):∃ z z',nd d id=some z∧nd d' id=some z'∧z.lives=true∧z'.lives=true∧z'.kids=z.kids:=by
 obtain ⟨z,z',hz,hz',hk⟩:=T.kids
 obtain ⟨l1,l2⟩:=h0.kl hz
 obtain ⟨l3,l4⟩:=T.ta.kl hz'
 refine ⟨z,z',hz,hz',l1,l3,List.ext_getElem? fun i=>?_⟩
 by_cases hi:i < t.Kids.length
 ·
  have hf:(l6 t.Kids t.Kids).length=t.Kids.length:=(vG _ _).1
  have:=List.getElem?_eq_getElem (show i < (l6 t.Kids t.Kids).length by omega)
  have e:=zV t.Kids 0 i _ this
  rw [Nat.zero_add] at e
  rw [hk i _ this (by rw [e]; omega),e,nL]
 ·
  rw [List.getElem?_eq_none (by omega),List.getElem?_eq_none (by omega)]
theorem ze {n:Nat} {x:Tree} {z41:Int × ay} {was fr now:List Int} {cn:Int} {z76:Bool × ay} (hb:was.length < 100000) (hfr:∀ (i:Nat) (k:Int),fr[i]? = some k→k < was.length∧(0 ≤ k→∃ v,now[i]? = some v∧idx was k=some v)) (hfl:fr.length < 100000) :
  ∀ (rest done:List Int) (f:Nat),fr=done ++ rest→rest.length < f→aV n x z41 was cn fr z76 now f (done.length:Int)=aV n x z41 was cn fr z76 now 1 (fr.length:Int)
 | [],done,f + 1,h,hf=>by
  have:done.length=fr.length:=by rw [h]; simp
  rw [this,aV,if_neg (by simp)]
  conv=>rhs; rw [aV,if_neg (by simp)]
 | k :: rest,done,f + 1,h,hf=>by
  have hlen:fr.length=done.length + rest.length + 1:=by rw [h]; simp; omega
  have hk:fr[done.length]? = some k:=by rw [h]; simp
  obtain ⟨h1,h2⟩:=hfr _ _ hk
  have ih:=ze (n:=n) (x:=x) (z41:=z41) (cn:=cn) (z76:=z76) hb hfr hfl rest (done ++ [k]) f (by rw [h]; simp) (by simp at hf; omega)
  rw [List.length_append,List.length_singleton] at ih
  push_cast at ih
  conv=>lhs; rw [aV,if_pos (by rw [decide_eq_true_eq]; omega),iy h,Option.bind_some,if_neg (by rw [decide_eq_true_eq]; omega)]
  have hw:IntKind.wrap .i64 ((done.length:Int) + 1)=(done.length:Int) + 1:=mf (by omega) (by omega)
  by_cases h0:0 ≤ k
  ·
   obtain ⟨v,v1,v2⟩:=h2 h0
   rw [if_pos (by simpa using h0),nL,v1,Option.bind_some,v2,Option.bind_some,bT,if_neg (by simp),hw]
   exact ih
  ·
   rw [if_neg (by simpa using h0),bT,if_neg (by simp),hw]
   exact ih
theorem countP {d:ay} (h:WF d) (n:Nat):dZ n d=some (cnt d:Int):=by
 rw [oO h]; rfl
set_option maxRecDepth 100000 in
theorem Cc:iw 10000=some true:=by decide +kernel
theorem JG (a1 a2:dP):ib 10000 a1 a2=some true:=by
 obtain ⟨x,hx,gx,cx,_,tx,kx⟩:=W.Gj a1 10000 (by omega)
 obtain ⟨y,hy,gy,cy,_,ty,ky⟩:=W.Gj a2 10000 (by omega)
 have nx:=CK x
 have ny:=CK y
 have sx:=W.EM 13 x cx gx
 have sy:=W.EM 13 y cy gy
 have l0:Ag.l.length=1:=rfl
 have c0:cnt Ag=1:=rfl
 have rx:=JA x gx
 have ry:=JA y gy
 obtain ⟨id,d1,F1,e1,P⟩:=EI 10000 x Ag KA rx (by omega) (by omega)
 obtain ⟨z1,hz1,hl1,hp1⟩:=P.top
 have len1:=P.len
 obtain ⟨d2,F2,e2,T2⟩:=yw 10000 x x d1 id F1 P.wf P.ta rx rx rfl rfl (by omega) (by omega)
 obtain ⟨za,z2,hza,hz2,la,hl2,hk2⟩:=T2.same P.ta
 rw [hz1] at hza; cases hza
 have len2:=T2.len
 obtain ⟨d3,F3,e3,T3⟩:=yw 10000 y x d2 id F2 T2.wf T2.ta rx ry (by rw [tx,ty]) (by rw [kx,ky]) (by omega) (by omega)
 have len3:=T3.len
 obtain ⟨d4,F4,e4,T4⟩:=yw 10000 x y d3 id F3 T3.wf T3.ta ry rx (by rw [tx,ty]) (by rw [kx,ky]) (by omega) (by omega)
 obtain ⟨d5,e5,W5,c5,_⟩:=Gh T4.wf (n:=10000) (by omega) T4.ta P.ne1
 have f1:=P.ta.len
 have f2:=T2.ta.len
 have f3:=T3.ta.len
 have f4:=T4.ta.len
 have c1:=P.cnt
 have c2:=T2.cnt
 have c3:=T3.cnt
 have c4:=T4.cnt
 obtain ⟨zb,z3,hzb,hz3,hk3⟩:=T3.kids
 rw [hz2] at hzb; cases hzb
 obtain ⟨_,k2⟩:=T2.ta.kl hz2
 obtain ⟨hl3,k3⟩:=T3.ta.kl hz3
 have xl:=W.sK x.Kids
 have yl:=W.sK y.Kids
 have xk:=W.kV x
 have yk:=W.kV y
 have fl:=(vG x.Kids y.Kids).1
 rw [hk2] at k2
 have tx0:W.pY x x=true:=W.wY x
 have ty0:W.pY y y=true:=W.wY y
 have loop:=ze (n:=10000) (x:=x) (z41:=(id,d1)) (was:=z1.kids) (fr:=l6 x.Kids y.Kids) (now:=z3.kids) (cn:=(cnt d1:Int)) (z76:=(true,d3)) (by omega) (fun i k hi=>by
  have hil:i < (l6 x.Kids y.Kids).length:=(List.getElem?_eq_some_iff.1 hi).1
  rcases (vG x.Kids y.Kids).2.1 i k _ hi (List.getElem?_eq_getElem (by omega)) with q | ⟨q,u,q1,_⟩
  ·
   subst q; exact ⟨by omega,fun h=>by omega⟩
  ·
   have:=(List.getElem?_eq_some_iff.1 q1).1
   refine ⟨by omega,fun _=>?_⟩
   have h3:=hk3 i k hi q
   rw [hk2] at h3
   obtain ⟨v,v1,_⟩:=wT z1.kids q (by omega)
   exact ⟨v,by rw [h3,v1],v1⟩) (by omega) (l6 x.Kids y.Kids) [] 10000 (List.nil_append _).symm (by omega)
 unfold ib
 rw [La,Option.bind_some,Jb,hx,Option.bind_some,hy,Option.bind_some,e1,Option.bind_some]
 simp only []
 rw [yu P.wf,hz1]
 simp only [hl1,if_true,Option.bind_some]
 rw [countP P.wf,Option.bind_some,e2,Option.bind_some,if_neg (by simp)]
 simp only []
 rw [yu T2.wf,hz2]
 simp only [hl2,if_true,Option.bind_some]
 rw [J4 10000 _ _ (by rw [hk2]; omega) (by rw [hk2]; omega),Option.bind_some,if_neg (by simp [hk2]),countP T2.wf,Option.bind_some,if_neg (by simp; omega)]
 rw [Ga (n:=10000) (by omega) (by omega) (by omega) (by omega),Option.bind_some,e3,Option.bind_some,if_neg (by simp)]
 simp only []
 rw [yu T3.wf,hz3]
 simp only [hl3,if_true,Option.bind_some]
 rw [yA T3.wf T3.ta (by omega),Option.bind_some,if_neg (by simp),W.zP 26 y y (by omega) (by omega) 10000 (by omega),Option.bind_some,ty0,if_neg (by simp),if_neg (by simp; omega),countP T3.wf,Option.bind_some,W.oO 13 y cy (by omega) 10000 (by omega),Option.bind_some]
 rw [bU,mf (by omega) (by omega),if_neg (by simp; omega)]
 refine loop.trans ?_
 rw [aV,if_neg (by simp),e4,Option.bind_some,if_neg (by simp)]
 rw [yA T4.wf T4.ta (by omega),Option.bind_some,if_pos rfl,W.zP 26 x x (by omega) (by omega) 10000 (by omega),Option.bind_some,tx0,if_pos rfl,countP T4.wf,Option.bind_some,if_pos (by simp; omega),e5,Option.bind_some,W.oO 13 x cx (by omega) 10000 (by omega),Option.bind_some,if_pos (by simp; omega)]
 rw [countP W5,Option.bind_some,if_pos (by simp; omega),Cc]
 rfl
end Pr
end Go.Ev

import Derived.Test.YtbjneeknddapfaaPartE
namespace Go.Ev
namespace Pr
set_option linter.unusedVariables false
set_option linter.unusedSimpArgs false
set_option linter.unusedSectionVars false
theorem uj {α:Type} {l:List α} {k:Int} {c:α}:idx l k=some c↔0 ≤ k∧l[k.toNat]? = some c:=by
 unfold idx
 split
 ·
  rename_i h; simp [h]
 ·
  rename_i h; simp [h]
theorem zu {l:List Int} (h:l.Nodup) {k k' c:Int} (h1:idx l k=some c) (h2:idx l k'=some c):k=k':=by
 obtain ⟨a1,b1⟩:=uj.1 h1
 obtain ⟨a2,b2⟩:=uj.1 h2
 have:=(List.getElem?_inj (List.getElem?_eq_some_iff.1 b1).1 h).1 (b1.trans b2.symm)
 omega
theorem q8 {r1 r2:List Int} {c x:Int} (h:(r1 ++ c :: r2).Nodup):x ∈ r1 ++ r2↔x ∈ r1 ++ c :: r2∧x ≠ c:=by
 have h1:=List.nodup_append.1 h
 constructor
 ·
  intro q
  rcases List.mem_append.1 q with q | q
  ·
   exact ⟨List.mem_append_left _ q,fun e=>h1.2.2 x q c List.mem_cons_self e⟩
  ·
   exact ⟨List.mem_append_right _ (List.mem_cons_of_mem _ q),fun e=>(List.nodup_cons.1 h1.2.1).1 (e ▸ q)⟩
 ·
  rintro ⟨q,e⟩
  rcases List.mem_append.1 q with q | q
  ·
   exact List.mem_append_left _ q
  ·
   rcases List.mem_cons.1 q with q | q
   ·
    exact absurd q e
   ·
    exact List.mem_append_right _ q
theorem BQ {n:Nat} (hn6:6000 ≤ n) {self:ax→Int→Tree→Option (Bool × ax)} {id:Int} {t:Tree} {ks fr gone:List Int} (hks:ks.Nodup) (hg:gone.length ≤ 5000) {z:ah} :
  ∀ (todo dn:List Int) (d:ax) (rest:List Int) (rts:List Tree) (FR:List Int) (f:Nat),gone=dn ++ todo→St d id z [] rest [] rts [] FR→todo.Nodup→(∀ k ∈ todo,∃ c,idx ks k=some c∧c ∈ rest)→todo.length < f →
  ∃ d' rest' rts' FR',eX n self id t ks fr gone f d (dn.length:Int)=cZ n self id t ks fr n d' 0∧St d' id z [] rest' [] rts' [] FR'∧cnt d' - FR'.length=cnt d - FR.length∧d'.l.length=d.l.length ∧
   (∀ c,c ∈ rest'↔c ∈ rest∧∀ k ∈ todo,idx ks k ≠ some c)∧(∀ j ∈ FR',j ∈ FR)∧(∀ j,j ≠ id→j ∉ FR→jF d j=true→nd d' j=nd d j)∧(∀ c ∈ rest',∀ u F,TA d c u F→TA d' c u F)
 | [],dn,d,rest,rts,FR,f + 1,h,S,hN,hc,hf=>by
  rw [eX,if_neg (by rw [h]; simp)]
  exact ⟨d,rest,rts,FR,rfl,S,rfl,rfl,fun c=>by simp,fun j hj=>hj,fun j _ _ _=>rfl,fun c _ u F q=>q⟩
 | k :: todo,dn,d,rest,rts,FR,f + 1,h,S,hN,hc,hf=>by
  have hl:gone.length=dn.length + 1 + todo.length:=by rw [h]; simp; omega
  obtain ⟨c,c1,c2⟩:=hc k List.mem_cons_self
  obtain ⟨r1,r2,rfl⟩:=List.append_of_mem c2
  obtain ⟨m,d1,s1,tc,s2,F1,Fc,F2,q1,q2,q3,q4,q5,q6,q7⟩:=S.drop hn6
  have hnd:=S.nodup
  rw [List.nil_append] at hnd
  obtain ⟨hN1,hN2⟩:=List.nodup_cons.1 hN
  obtain ⟨d',rest',rts',FR',p1,p2,p3,p4,p5,p6,p7,p8⟩:=BQ (fr:=fr) (t:=t) (self:=self) hn6 hks hg todo (dn ++ [k]) d1 _ _ _ f (by rw [h]; simp) q4 hN2 (fun k' hk'=>by
   obtain ⟨c',e1,e2⟩:=hc k' (List.mem_cons_of_mem _ hk')
   refine ⟨c',e1,(q8 hnd).2 ⟨e2,fun e=>?_⟩⟩
   rw [e] at e1
   exact hN1 (zu hks c1 e1 ▸ hk')) (by simpa using hf)
  have hC1:∀ c' ∈ [c],c' ∈ ([]:List Int) ++ (r1 ++ c :: r2):=by simp
  refine ⟨d',rest',rts',FR',?_,p2,?_,by omega,fun c'=>?_,fun j hj=>?_,fun j j1 j2 j3=>?_,fun c' hc' u F hu=>?_⟩
  ·
   rw [eX,if_pos (by rw [decide_eq_true_eq]; omega),fI h,Option.bind_some,c1,Option.bind_some,q1,Option.bind_some,sQ (by omega) (by omega)]
   simpa using p1
  ·
   rw [q2]; simp at p3 ⊢; omega
  ·
   rw [p5,q8 hnd]
   constructor
   ·
    rintro ⟨⟨a1,a2⟩,a3⟩
    refine ⟨a1,fun k' hk' e=>?_⟩
    rcases List.mem_cons.1 hk' with rfl | hk'
    ·
     rw [c1] at e; cases e; exact a2 rfl
    ·
     exact a3 k' hk' e
   ·
    rintro ⟨a1,a3⟩
    exact ⟨⟨a1,fun e=>a3 k List.mem_cons_self (by rw [e]; exact c1)⟩,fun k' hk'=>a3 k' (List.mem_cons_of_mem _ hk')⟩
  ·
   have:=p6 j hj
   rw [q2]
   rcases List.mem_append.1 this with h | h <;> simp [h]
  ·
   have jc:j ∉ Fc:=fun q=>j2 (by rw [q2]; simp [q])
   have e1:=q7 j j1 jc j3
   rw [p7 j j1 (fun q=>j2 (by
    rw [q2]
    rcases List.mem_append.1 q with h | h <;> simp [h])) (by rw [uA e1]; exact j3),e1]
  ·
   have hm:=(q8 hnd).1 ((p5 c').1 hc').1
   exact p8 c' hc' u F (S.Hq (.one q3) hC1 q7 hu (by simpa using hm.1) (by simpa using hm.2))
theorem xE {n:Nat} (hn6:6000 ≤ n) {self:ax→Int→Tree→Option (Bool × ax)} {id:Int} {t:Tree} {ks fr:List Int} (hks:ks.Nodup) (htl:t.Kids.length ≤ 5000) {z:ah}
  (ih:∀ (t old:Tree) (d:ax) (id:Int) (F:List Int),WF d→TA d id old F→Rt old→Rt t→old.Tag=t.Tag→old.Key=t.Key→iF t + 6000 < n→d.l.length + iF t ≤ 5000→∃ d' F',self d id t=some (true,d')∧Turned d d' id old t F F') :
  ∀ (todo dn:List Tree) (frs frd:List Int) (d:ax) (P rest:List Int) (rts:List Tree) (FP FR:List Int) (f:Nat),t.Kids=dn ++ todo→fr=frd ++ frs→frd.length=dn.length→frs.length=todo.length→St d id z P rest dn rts FP FR→F6 todo→fC todo + 6000 < n→d.l.length + fC todo ≤ 5000 →
   (∀ p ∈ frs.zip todo,0 ≤ p.1→∃ c u Fc,idx ks p.1=some c∧c ∈ rest∧TA d c u Fc∧Rt u∧u.Tag=p.2.Tag∧u.Key=p.2.Key) →
   (frs.Pairwise fun a b=>0 ≤ a→a ≠ b)→(∀ c ∈ rest,∃ k ∈ frs,0 ≤ k∧idx ks k=some c)→todo.length < f →
  ∃ d' P2 F',cZ n self id t ks fr f d (dn.length:Int)=some (true,d')∧St d' id z (P ++ P2) [] (dn ++ todo) [] F' []∧cnt d' - F'.length=cnt d - FP.length - FR.length∧d'.l.length ≤ d.l.length + fC todo ∧
   (∀ j,j ≠ id→j ∉ FR→jF d j=true→nd d' j=nd d j)∧(∀ (i:Nat) k,frs[i]? = some k→0 ≤ k→P2[i]? = idx ks k)
 | [],dn,frs,frd,d,P,rest,rts,FP,FR,f + 1,h,hfr,hfd,hfl,S,hR,hb,hlen,hcs,hpw,hcm,hf=>by
  have:frs=[]:=List.length_eq_zero_iff.1 (by simpa using hfl)
  subst this
  have:rest=[]:=by
   cases rest with
   | nil=>rfl
   | cons c r=>obtain ⟨k,hk,_⟩:=hcm c List.mem_cons_self; cases hk
  subst this
  obtain ⟨S1,S2,S3,S4,S5,S6⟩:=S
  cases S6
  rw [cZ,if_neg (by rw [h]; simp)]
  exact ⟨d,[],FP,rfl,⟨S1,by simpa using S2,S3,S4,by simpa using S5,.nil⟩,by simp,by simp,fun j _ _ _=>rfl,fun i k hk=>by simp at hk⟩
 | u0 :: todo,dn,frs,frd,d,P,rest,rts,FP,FR,f + 1,h,hfr,hfd,hfl,S,hR,hb,hlen,hcs,hpw,hcm,hf=>by
  cases frs with
  | nil=>simp at hfl
  | cons k frs =>
  have hkl:t.Kids.length=dn.length + 1 + todo.length:=by rw [h]; simp; omega
  simp only [fC] at hb hlen
  obtain ⟨hR1,hR2⟩:=hR
  obtain ⟨hp1,hp2⟩:=List.pairwise_cons.1 hpw
  have hPl:=S.tp.lens
  have e1:idx t.Kids (dn.length:Int)=some u0:=fI h
  have e2:idx fr (dn.length:Int)=some k:=by rw [← hfd]; exact fI hfr
  have hw:IntKind.wrap .i64 ((dn.length:Int) + 1)=((dn ++ [u0]).length:Int):=by rw [sQ (by omega) (by omega)]; simp
  by_cases hk:k < 0
  ·
   obtain ⟨kid,d1,Fk,g1,Q⟩:=Dc n u0 d S.wf hR1 (by omega) (by omega)
   obtain ⟨d2,g2,S2,g3,g4,g5⟩:=S.put hn6 Q
   have hQl:=Q.len
   have hQc:=Q.cnt
   have hQF:=Q.ta.len
   obtain ⟨d',P2,F',r1,r2,r3,r4,r5,r6⟩:=xE (fr:=fr) hn6 hks htl ih todo (dn ++ [u0]) frs (frd ++ [k]) d2 (P ++ [kid]) rest rts (FP ++ Fk) FR f (by rw [h]; simp) (by rw [hfr]; simp) (by simp [hfd]) (by simpa using hfl) S2 hR2 (by omega) (by omega) (fun p hp hp0=>by
     obtain ⟨c,u,Fc,a1,a2,a3,a4⟩:=hcs p (by rw [List.zip_cons_cons]; exact List.mem_cons_of_mem _ hp) hp0
     refine ⟨c,u,Fc,a1,a2,a3.rH (fun j hj=>g5 j ((iM.one a3).zy S.wf S.hz S.hl (by simp [a2]) j hj) ?_),a4⟩
     obtain ⟨x,x1,x2,_⟩:=a3.live j hj
     rw [di x1,x2]) hp2 (fun c hc=>by
     obtain ⟨k',a1,a2,a3⟩:=hcm c hc
     rcases List.mem_cons.1 a1 with rfl | a1
     ·
      omega
     ·
      exact ⟨k',a1,a2,a3⟩) (by simpa using hf)
   refine ⟨d',kid :: P2,F',?_,by simpa using r2,?_,by simp only [fC]; omega,fun j j1 j2 j3=>?_,fun i k' hk' hk0=>?_⟩
   ·
    rw [cZ,if_pos (by rw [decide_eq_true_eq]; omega),e1,Option.bind_some,e2,Option.bind_some,if_pos (by simpa using hk),g1,Option.bind_some]
    simp only
    rw [hPl] at g2
    rw [g2,Option.bind_some]
    simp only
    unfold gJ
    rw [hw]; exact r1
   ·
    simp at r3; omega
   ·
    have e:=g5 j j1 j3
    rw [r5 j j1 j2 (by rw [uA e]; exact j3),e]
   ·
    cases i with
    | zero=>simp at hk'; omega
    | succ i=>exact r6 i k' (by simpa using hk') hk0
  ·
   obtain ⟨c,u,Fc,a1,a2,a3,a4,a5,a6⟩:=hcs (k,u0) (by rw [List.zip_cons_cons]; exact List.mem_cons_self) (by simpa using hk)
   simp only at a1 a5 a6
   obtain ⟨r1,r2,rfl⟩:=List.append_of_mem a2
   obtain ⟨d1,s1,tc,s2,F1,Fc',F2,g1,g2,g3,g4,S1,g5,g6,g7⟩:=S.move hn6
   obtain ⟨rfl,rfl⟩:=a3.uniq g3
   obtain ⟨d2,Fk,t1,T⟩:=ih u0 u d1 c Fc S1.wf g4 a4 hR1 a5 a6 (by omega) (by omega)
   have hPk:iM d1 P dn FP:=S.tp.rH (fun j hj=>g7 j (S.tp.zy S.wf S.hz S.hl (fun c h=>by simp [h]) j hj) (by
    obtain ⟨x,x1,x2,_⟩:=S.tp.live j hj
    rw [di x1,x2]))
   have S2:=S1.turn hPk g4 T
   have hTl:=T.len
   have hTc:=T.cnt
   have hnd:(r1 ++ c :: r2).Nodup:=(List.nodup_append.1 S.nodup).2.1
   have hC1:∀ c' ∈ [c],c' ∈ (P ++ [c]) ++ (r1 ++ r2):=by simp
   obtain ⟨d',P2,F',q1,q2,q3,q4,q5,q6⟩:=xE (fr:=fr) hn6 hks htl ih todo (dn ++ [u0]) frs (frd ++ [k]) d2 (P ++ [c]) (r1 ++ r2) _ (FP ++ Fk) (F1 ++ F2) f (by rw [h]; simp) (by rw [hfr]; simp) (by simp [hfd]) (by simpa using hfl) S2 hR2 (by omega) (by omega) (fun p hp hp0=>by
     obtain ⟨c',u',Fc',b1,b2,b3,b4⟩:=hcs p (by rw [List.zip_cons_cons]; exact List.mem_cons_of_mem _ hp) hp0
     have hpf:=(List.of_mem_zip hp).1
     have hne:c' ≠ c:=fun e=>by
      rw [e] at b1
      exact hp1 p.1 hpf (by omega) (zu hks a1 b1)
     refine ⟨c',u',Fc',b1,(q8 hnd).2 ⟨b2,hne⟩,?_,b4⟩
     have b5:TA d1 c' u' Fc':=b3.rH (fun j hj=>g7 j ((iM.one b3).zy S.wf S.hz S.hl (by simpa using .inr (by simpa using b2)) j hj) (by
      obtain ⟨x,x1,x2,_⟩:=b3.live j hj
      rw [di x1,x2]))
     exact S1.Hq (.one g4) hC1 (fun j _ h1 h2=>T.fr j h1 h2) b5 (List.mem_append_right _ ((q8 hnd).2 ⟨b2,hne⟩)) (by simpa using hne)) hp2 (fun c' hc'=>by
     obtain ⟨m1,m2⟩:=(q8 hnd).1 hc'
     obtain ⟨k',b1,b2,b3⟩:=hcm c' m1
     rcases List.mem_cons.1 b1 with rfl | b1
     ·
      rw [a1] at b3; cases b3; exact absurd rfl m2
     ·
      exact ⟨k',b1,b2,b3⟩) (by simpa using hf)
   refine ⟨d',c :: P2,F',?_,by simpa using q2,?_,by simp only [fC]; omega,fun j j1 j2 j3=>?_,fun i k' hk' hk0=>?_⟩
   ·
    rw [cZ,if_pos (by rw [decide_eq_true_eq]; omega),e1,Option.bind_some,e2,Option.bind_some,if_neg (by simpa using hk),Option.bind_some,a1,Option.bind_some]
    rw [hPl] at g1
    simp only [g1,Option.bind_some,a1,t1]
    unfold gJ
    rw [hw]; exact q1
   ·
    rw [g2]; simp at q3 ⊢; omega
   ·
    have jc:j ∉ Fc:=fun q=>j2 (by rw [g2]; simp [q])
    have e:=g7 j j1 j3
    have l1:jF d1 j=true:=by rw [uA e]; exact j3
    have e':=T.fr j jc l1
    rw [q5 j j1 (fun q=>j2 (by
     rw [g2]
     rcases List.mem_append.1 q with h | h <;> simp [h])) (by rw [uA e']; exact l1),e',e]
   ·
    cases i with
    | zero =>
     simp at hk'
     subst hk'
     rw [a1]; rfl
    | succ i=>exact q6 i k' (by simpa using hk') hk0
end Pr
end Go.Ev

namespace Go.Ev
namespace Pr
set_option linter.unusedVariables false
set_option linter.unusedSimpArgs false
set_option linter.unusedSectionVars false
theorem iM.at {d:ax}:∀ {is:List Int} {ts:List Tree} {F:List Int},iM d is ts F→∀ (i:Nat) (t:Tree),ts[i]? = some t→∃ c Fc,is[i]? = some c∧TA d c t Fc∧∀ j ∈ Fc,j ∈ F
 | _,_,_,.nil,i,t,h=>by simp at h
 | _,_,_,.cons (i:=c0) (F:=F0) h0 k,i,t,h=>by
  cases i with
  | zero=>simp at h; subst h; exact ⟨c0,F0,rfl,h0,fun j hj=>List.mem_append_left _ hj⟩
  | succ i =>
   obtain ⟨c,Fc,h1,h2,h3⟩:=k.at i t (by simpa using h)
   exact ⟨c,Fc,by simpa using h1,h2,fun j hj=>List.mem_append_right _ (h3 j hj)⟩
theorem F6.at:∀ {l:List Tree},F6 l→∀ (i:Nat) (t:Tree),l[i]? = some t→Rt t:=fun {l} h i t hi=>h.mem t (List.mem_of_getElem? hi)
theorem Dj:∀ (n:Nat) (t old:Tree) (d:ax) (id:Int) (F:List Int),WF d→TA d id old F→Rt old→Rt t→old.Tag=t.Tag→old.Key=t.Key→iF t + 6000 < n→d.l.length + iF t ≤ 5000→∃ d' F',dU n d id t=some (true,d')∧Turned d d' id old t F F'
 | 0,t,old,d,id,F,hW,hT,hRo,hR,e1,e2,hn,hl=>by omega
 | n + 1,.mk tag key text at_ ks,_,d,id,_,hW,.mk (z:=z) (ts:=ts) (F:=G) hz hzl hk,hRo,hR,e1,e2,hn,hl=>by
  simp only [Tree.Tag,Tree.Key] at e1 e2
  simp only [iF] at hn hl
  have hT:TA d id (Tree.mk z.tag z.key z.text z.attrs ts) (id :: G):=.mk hz hzl hk
  obtain ⟨l,hp⟩:=hW.path id (by rw [di hz,hzl])
  have hlen:=hW.len
  have hFl:(id :: G).length ≤ d.l.length:=gP _ _ (hT.nodup hW hp) hT.GQ
  have hTl:=hT.len
  have htn:iF (Tree.mk z.tag z.key z.text z.attrs ts) < n:=by omega
  have htns:fC ts < n:=by simp only [iF] at htn; omega
  have hkl:=qh hW hz hzl
  have hklen:=hk.lens
  have hksl:=om ks
  simp only [Rt] at hRo hR
  rw [dU,zO hW hT htn,Option.bind_some,if_neg (by simp [Tree.Tag,Tree.Key,e1,e2])]
  by_cases ht:tag=[]
  ·
   obtain ⟨ko,ao,to_⟩:=hRo.1 (by rw [e1]; exact ht)
   obtain ⟨kn,an,tn⟩:=hR.1 ht
   subst to_; subst tn
   have hkn:z.kids=[]:=List.length_eq_zero_iff.1 (by simpa using hklen)
   obtain ⟨q1,q2⟩:=II hW n hz hzl (by rw [e1]; exact ht) text
   rw [if_pos (by simpa [Tree.Tag] using ht)]
   simp only [Tree.Text]
   rw [q1,Option.bind_some]
   have hz2:nd (iO d id { z with text:=text }) id=some { z with text:=text }:=by rw [ik hz,if_pos rfl]
   refine ⟨_,[id],rfl,q2,?_,fun j hj hlv=>?_,?_,by simp,z,_,hz,hz2,fun i k hi=>?_⟩
   ·
    have:=TA.mk (d:=iO d id { z with text:=text }) (F:=[]) (ts:=[]) hz2 hzl (by simp only [hkn]; exact .nil)
    have e:Tree.mk tag key text at_ []=Tree.mk z.tag z.key text z.attrs []:=by rw [e1,e2,ao,an]
    rw [e]; exact this
   ·
    rw [ik hz,if_neg (fun e=>hj (by simp [e]))]
   ·
    have hG:G=[]:=by have:=hk.len; simpa [fC] using this
    subst hG
    unfold cnt; simp
   ·
    simp [ng,jX,Tree.Kids] at hi
  ·
   obtain ⟨tx,_,hRts⟩:=hRo.2 (by rw [e1]; exact ht)
   obtain ⟨txn,atl,hRks⟩:=hR.2 ht
   obtain ⟨q1,q2⟩:=Bp hW n hz hzl (by rw [e1]; exact ht) atl
   rw [if_neg (by simpa [Tree.Tag] using ht)]
   simp only [Tree.aQ,Tree.Kids]
   rw [q1,Option.bind_some]
   simp only
   have hz2:nd (iO d id { z with attrs:=at_ }) id=some { z with attrs:=at_ }:=by rw [ik hz,if_pos rfl]
   have fr0:∀ j,j ≠ id→nd (iO d id { z with attrs:=at_ }) j=nd d j:=fun j hj=>by rw [ik hz,if_neg hj]
   have hk1:iM (iO d id { z with attrs:=at_ }) z.kids ts G:=hk.rH fun j hj=>fr0 j (hk.zy hW hz hzl (fun c h=>h) j hj)
   rw [zM q2,hz2]
   dsimp only
   rw [if_pos hzl,Option.bind_some]
   rw [ES q2 hkl hk1 htns (by omega),Option.bind_some,Gm (by omega) (by omega) (by omega) (by omega),Option.bind_some]
   obtain ⟨f1,f2,f3⟩:=Fx ts ks
   obtain ⟨gone,g1,g2,g3,g4⟩:=Gy (n:=n) (n1:=z.kids.length) (ng ts ks) (by omega) hkl (by omega) (by omega)
   rw [g1,Option.bind_some]
   have hnd:=hW.kidN id z hz hzl
   have S:St (iO d id { z with attrs:=at_ }) id { z with attrs:=at_ } [] z.kids [] ts [] G:=⟨q2,by simpa using hz2,hzl,by rw [show ({ z with attrs:=at_ }:ah).tag=z.tag from rfl,e1]; exact ht,.nil,hk1⟩
   obtain ⟨d1,rest,rts,FR,p1,p2,p3,p4,p5,p6,p7,p8⟩:=BQ (n:=n) (t:=.mk tag key text at_ ks) (fr:=ng ts ks) (gone:=gone) (self:=dU n) (by omega) hnd (by omega) gone [] _ z.kids ts G n rfl S g2 (fun k hk'=>by
    obtain ⟨a1,a2,a3⟩:=(g3 k).1 hk'
    have hlt:k.toNat < z.kids.length:=by omega
    exact ⟨z.kids[k.toNat],uj.2 ⟨a1,List.getElem?_eq_getElem hlt⟩,List.getElem_mem hlt⟩) (by omega)
   simp only [j6] at p4
   obtain ⟨d2,P2,F',r1,r2,r3,r4,r5,r6⟩:=xE (n:=n) (self:=dU n) (ks:=z.kids) (t:=.mk tag key text at_ ks) (by omega) hnd (show ks.length ≤ 5000 by omega) (Dj n) ks [] (ng ts ks) [] d1 [] rest rts [] FR n rfl rfl rfl f1 p2 hRks (by omega) (by omega) (fun p hp hp0=>by
     obtain ⟨i,hi⟩:=List.getElem?_of_mem hp
     rw [List.getElem?_zip_eq_some] at hi
     rcases f2 i p.1 p.2 hi.1 hi.2 with e | ⟨_,u,u1,u2,u3⟩
     ·
      omega
     ·
      obtain ⟨c,Fc,c1,c2,c3⟩:=hk1.at _ u u1
      have hci:idx z.kids p.1=some c:=uj.2 ⟨hp0,c1⟩
      have hcr:c ∈ rest:=(p5 c).2 ⟨List.mem_of_getElem? c1,fun k' hk' e=>by
       have:=zu hnd hci e
       exact ((g3 k').1 hk').2.2 (this ▸ List.mem_of_getElem? hi.1)⟩
      exact ⟨c,u,Fc,hci,hcr,p8 c hcr u Fc c2,hRts.at _ u u1,u2,u3⟩) (List.pairwise_iff_getElem.2 fun i j hi hj hij h0 e=>by
     have:=f3 i j _ (List.getElem?_eq_getElem hi) (by rw [e]; exact List.getElem?_eq_getElem hj) h0
     omega) (fun c hc=>by
     obtain ⟨m1,m2⟩:=(p5 c).1 hc
     obtain ⟨i,hi⟩:=List.getElem?_of_mem m1
     have hlt:=(List.getElem?_eq_some_iff.1 hi).1
     have hci:idx z.kids (i:Int)=some c:=uj.2 ⟨by omega,by simpa using hi⟩
     refine ⟨(i:Int),?_,by omega,hci⟩
     by_cases hm:(i:Int) ∈ ng ts ks
     ·
      exact hm
     ·
      exact absurd hci (m2 _ ((g3 _).2 ⟨by omega,by omega,hm⟩))) (by omega)
   have hrz:=r2.hz
   have hta:=TA.mk (d:=d2) (F:=F') (ts:=ks) hrz r2.hl (by simpa using r2.tp)
   refine ⟨d2,id :: F',by simp only [List.length_nil,Int.natCast_zero] at p1; exact p1.trans r1,r2.wf,?_,fun j hj hlv=>?_,?_,by simp only [iF]; omega,z,_,hz,hrz,fun i k hi h0=>?_⟩
   ·
    rw [txn]; rw [tx] at hta; simpa [e1,e2] using hta
   ·
    have j1:j ≠ id:=fun e=>hj (by simp [e])
    have j2:j ∉ G:=fun e=>hj (by simp [e])
    have e:=fr0 j j1
    have l0:jF (iO d id { z with attrs:=at_ }) j=true:=by rw [uA e]; exact hlv
    have e':=p7 j j1 j2 l0
    rw [r5 j j1 (fun q=>j2 (p6 j q)) (by rw [uA e']; exact l0),e',e]
   ·
    have:cnt (iO d id { z with attrs:=at_ })=cnt d:=by unfold cnt; simp
    simp at r3 ⊢
    omega
   ·
    simpa using r6 i k hi h0
end Pr
end Go.Ev

namespace Go.Ev
namespace Pr
set_option linter.unusedVariables false
set_option linter.unusedSimpArgs false
theorem TA.kl {d:ax} {i:Int} {t:Tree} {F:List Int} (h:TA d i t F) {z:ah} (hz:nd d i=some z):z.lives=true∧z.kids.length=t.Kids.length:=by
 cases h with
 | mk h hl k=>rw [h] at hz; cases hz; exact ⟨hl,by simpa [Tree.Kids] using k.lens⟩
end Pr
end Go.Ev

namespace Go.Ev
namespace Pr
namespace W
set_option linter.unusedVariables false
set_option linter.unusedSimpArgs false
set_option linter.unusedSectionVars false
def kE:Tree→Nat
 | .mk _ _ _ ats ks=>1 + ats.length + lsz ks
  where lsz:List Tree→Nat
 | []=>0
 | t :: l=>kE t + lsz l
theorem sM (t:Tree):kE t=1 + t.aQ.length + kE.lsz t.Kids:=by cases t; rw [kE]; rfl
theorem DI:∀ {l:List Tree} {z:Tree},z ∈ l→kE z ≤ kE.lsz l
 | x :: l,z,h=>by
  rcases List.mem_cons.1 h with rfl | h
  ·
   simp only [kE.lsz]; omega
  ·
   have:=DI h
   simp only [kE.lsz]; omega
theorem Dn:∀ (l:List Tree),l.length ≤ kE.lsz l
 | []=>Nat.zero_le _
 | x :: l=>by
  have:=Dn l
  have:=sM x
  simp only [List.length_cons,kE.lsz]; omega
theorem FK {t z:Tree} (h:z ∈ t.Kids):kE z < kE t:=by
 have:=DI h
 have:=sM t; omega
def sN:List Attr→List Attr→Bool
 | [],[]=>true
 | a :: l,b :: m=>Attr.beq a b && sN l m
 | _,_=>false
def oZ:Tree→Tree→Bool
 | .mk a b c d e,.mk a' b' c' d' e'=>(a == a') && (b == b') && (c == c') && sN d d' && lbeq e e'
  where lbeq:List Tree→List Tree→Bool
 | [],[]=>true
 | x :: l,y :: m=>oZ x y && lbeq l m
 | _,_=>false
theorem BC:∀ {a b:List Attr},sN a b=true→a.length=b.length
 | [],[],_=>rfl
 | x :: l,y :: m,h=>by
  simp only [sN,Bool.and_eq_true] at h
  simp [BC h.2]
 | [],_ :: _,h=>by cases h
 | _ :: _,[],h=>by cases h
theorem Bq:∀ {a b:List Tree},oZ.lbeq a b=true→a.length=b.length
 | [],[],_=>rfl
 | x :: l,y :: m,h=>by
  simp only [oZ.lbeq,Bool.and_eq_true] at h
  simp [Bq h.2]
 | [],_ :: _,h=>by cases h
 | _ :: _,[],h=>by cases h
theorem Ga {a b:List Attr} (h:a.length ≠ b.length):sN a b=false:=by
 cases hq:sN a b
 ·
  rfl
 ·
  exact absurd (BC hq) h
theorem Gs {a b:List Tree} (h:a.length ≠ b.length):oZ.lbeq a b=false:=by
 cases hq:oZ.lbeq a b
 ·
  rfl
 ·
  exact absurd (Bq hq) h
theorem Gd (a b:Tree):oZ a b=((a.Tag == b.Tag) && (a.Key == b.Key) && (a.Text == b.Text) && sN a.aQ b.aQ && oZ.lbeq a.Kids b.Kids):=by cases a; cases b; rw [oZ]; rfl
theorem xS (l m:List Attr) (hb:l.length < 1000000000):∀ (r s d e:List Attr) (k:Nat),l=d ++ r→m=e ++ s→d.length=e.length→r.length=s.length→r.length < k →
  bB l m k (d.length:Int)=some (sN r s)
 | [],[],d,e,k + 1,hl,hm,_,_,_=>by
  rw [bB,if_neg (by rw [hl]; simp)]; rfl
 | z :: r,y :: s,d,e,k + 1,hl,hm,hd,hr,hk=>by
  have hkl:l.length=d.length + r.length + 1:=by rw [hl]; simp; omega
  rw [bB,if_pos (by rw [decide_eq_true_eq,hkl]; omega),fI hl,Option.bind_some,hd,fI hm,Option.bind_some]
  cases hq:Attr.beq z y
  ·
   simp [sN,hq]
  ·
   simp only [Bool.not_true,Bool.false_eq_true,if_false]
   rw [sQ (by omega) (by omega)]
   have:=xS l m hb r s (d ++ [z]) (e ++ [y]) k (by rw [hl]; simp) (by rw [hm]; simp) (by simp [hd]) (by simpa using hr) (by simp at hk; omega)
   rw [List.length_append,List.length_singleton,hd] at this
   push_cast at this
   rw [this]; simp [sN,hq]
 | [],_ :: _,d,e,k + 1,_,_,_,hr,_=>by simp at hr
 | _ :: _,[],d,e,k + 1,_,_,_,hr,_=>by simp at hr
theorem E5 (n:Nat) (l m:List Attr) (hb:l.length < 1000000000) (hn:l.length < n):dS n l m=some (sN l m):=by
 unfold dS
 by_cases h:l.length=m.length
 ·
  rw [if_neg (by simp [h])]
  exact xS l m hb l m [] [] n rfl rfl rfl h hn
 ·
  rw [if_pos (by simp; omega),Ga h]
theorem w9 (f:Tree→Tree→Option Bool) (a b:Tree) (hf:∀ x ∈ a.Kids,∀ y,f x y=some (oZ x y)) (hb:a.Kids.length < 1000000000):∀ (r s d e:List Tree) (k:Nat),a.Kids=d ++ r→b.Kids=e ++ s→d.length=e.length→r.length=s.length→r.length < k →
  cz f a b k (d.length:Int)=some (oZ.lbeq r s)
 | [],[],d,e,k + 1,hl,hm,_,_,_=>by
  rw [cz,if_neg (by rw [hl]; simp)]; rfl
 | z :: r,y :: s,d,e,k + 1,hl,hm,hd,hr,hk=>by
  have hkl:a.Kids.length=d.length + r.length + 1:=by rw [hl]; simp; omega
  rw [cz,if_pos (by rw [decide_eq_true_eq,hkl]; omega),fI hl,Option.bind_some,hd,fI hm,Option.bind_some,hf z (by rw [hl]; simp),Option.bind_some]
  cases hq:oZ z y
  ·
   simp [oZ.lbeq,hq]
  ·
   simp only [Bool.not_true,Bool.false_eq_true,if_false]
   rw [sQ (by omega) (by omega)]
   have:=w9 f a b hf hb r s (d ++ [z]) (e ++ [y]) k (by rw [hl]; simp) (by rw [hm]; simp) (by simp [hd]) (by simpa using hr) (by simp at hk; omega)
   rw [List.length_append,List.length_singleton,hd] at this
   push_cast at this
   rw [this]; simp [oZ.lbeq,hq]
 | [],_ :: _,d,e,k + 1,_,_,_,hr,_=>by simp at hr
 | _ :: _,[],d,e,k + 1,_,_,_,hr,_=>by simp at hr
theorem Aw:∀ (m:Nat) (t u:Tree),kE t ≤ m→m < 1000000→∀ n,m < n→cO n t u=some (oZ t u)
 | 0,t,u,h,_,n,_=>by rw [sM] at h; omega
 | m + 1,t,u,h,hm,n + 1,hn=>by
  have hk:=sM t
  have hlen:=Dn t.Kids
  have hf:∀ x ∈ t.Kids,∀ y,cO n x y=some (oZ x y):=fun x hx y=>Aw m x y (by have:=FK hx; omega) (by omega) n (by omega)
  rw [cO,Gd]
  cases h1:(t.Tag == u.Tag) <;> cases h2:(t.Key == u.Key) <;> cases h3:(t.Text == u.Text) <;> simp only [Bool.not_true,Bool.not_false,Bool.or_self,Bool.or_true,Bool.true_or,Bool.or_false,if_true,Option.bind_some,Bool.false_eq_true,if_false,Bool.and_false,Bool.false_and,Bool.and_self,Bool.true_and]
  rw [E5 n _ _ (by omega) (by omega),Option.bind_some,Option.bind_some]
  cases h4:sN t.aQ u.aQ
  ·
   simp
  ·
   simp only [Bool.not_true,Bool.false_or,Bool.true_and]
   by_cases hl:t.Kids.length=u.Kids.length
   ·
    rw [if_neg (by simp [hl])]
    have:=w9 (cO n) t u hf (by omega) t.Kids u.Kids [] [] n rfl rfl rfl hl (by omega)
    simp only [List.length_nil] at this
    rw [show ((0:Nat):Int)=0 from rfl] at this
    rw [this]
   ·
    rw [if_pos (by simp; omega),Gs hl]
theorem Em (a:Attr):Attr.beq a a=true:=by simp [Attr.beq]
theorem yV:∀ (l:List Attr),sN l l=true
 | []=>rfl
 | a :: l=>by simp [sN,Em,yV l]
theorem yD:∀ (t:Tree),oZ t t=true
 | .mk a b c d e=>by
  rw [oZ,yV]
  have:=go e
  simp [this]
  where go:∀ (l:List Tree),oZ.lbeq l l=true
 | []=>rfl
 | x :: l=>by rw [oZ.lbeq,yD x,go l]; rfl
end W
end Pr
end Go.Ev

namespace Go.Ev
namespace Pr
set_option linter.unusedVariables false
set_option linter.unusedSimpArgs false
theorem pK (k:aS):∀ (now:List Tree) (av:aS→List Int) (i j:Nat) (p q:Int),(dh k now i)[j]? = some p→(av k)[j]? = some q→(jX now av)[p.toNat - i]? = some q∧(i:Int) ≤ p
 | [],av,i,j,p,q,h,h'=>by simp [dh] at h
 | t :: now,av,i,j,p,q,h,h'=>by
  simp only [dh] at h
  simp only [jX]
  by_cases hk:kd t=k
  ·
   rw [if_pos hk] at h
   cases j with
   | zero =>
    simp at h; subst h
    split
    ·
     rename_i ha; rw [hk] at ha; rw [ha] at h'; simp at h'
    ·
     rename_i x r ha; rw [hk] at ha; rw [ha] at h'; simp at h'; subst h'; simp
   | succ j =>
    split
    ·
     rename_i ha; rw [hk] at ha; rw [ha] at h'; simp at h'
    ·
     rename_i x r ha
     rw [hk] at ha; rw [ha] at h'
     obtain ⟨q1,q2⟩:=pK k now (fun q=>if q=kd t then r else av q) (i + 1) j p q (by simpa using h) (by simp only [hk,if_true]; simpa using h')
     refine ⟨?_,by omega⟩
     rw [show p.toNat - i=(p.toNat - (i + 1)) + 1 by omega]
     simpa using q1
  ·
   rw [if_neg hk] at h
   split
   ·
    obtain ⟨q1,q2⟩:=pK k now av (i + 1) j p q h h'
    refine ⟨?_,by omega⟩
    rw [show p.toNat - i=(p.toNat - (i + 1)) + 1 by omega]
    simpa using q1
   ·
    rename_i x r ha
    obtain ⟨q1,q2⟩:=pK k now (fun q=>if q=kd t then r else av q) (i + 1) j p q h (by simp only [if_neg (fun h:k=kd t=>hk h.symm)]; exact h')
    refine ⟨?_,by omega⟩
    rw [show p.toNat - i=(p.toNat - (i + 1)) + 1 by omega]
    simpa using q1
theorem xB (k:aS):∀ (l:List Tree) (i j:Nat) (p:Int),(dh k l i)[j]? = some p→(i:Int) ≤ p∧p < i + l.length:=fun l i j p h=>by
 obtain ⟨m,t,h1,h2,h3⟩:=(jg k l i p).1 (List.mem_of_getElem? h)
 have:=(List.getElem?_eq_some_iff.1 h1).1
 omega
def kT:aS:=aS.mk [] []
def IM (t:Tree):Bool:=t.Tag == []
def jb:List Tree→List Int→List Int
 | t :: ts,c :: ids=>if t.Tag == [] then c :: jb ts ids else jb ts ids
 | _,_=>[]
def Plain (ts:List Tree):Prop:=∀ t ∈ ts,t.Tag=[]→t.Key=[]
theorem wM:∀ (ts:List Tree) (ids:List Int) (i:Nat),ts.length=ids.length→Plain ts→∀ (j:Nat),(jb ts ids)[j]? = ((dh kT ts i)[j]?).bind fun (p:Int)=>ids[p.toNat - i]?
 | [],ids,i,h,hp,j=>by cases ids <;> simp [jb,dh]
 | t :: ts,[],i,h,hp,j=>by simp at h
 | t :: ts,c :: ids,i,h,hp,j=>by
  have ih:=wM ts ids (i + 1) (by simpa using h) (fun t ht=>hp t (List.mem_cons_of_mem _ ht))
  have step:∀ (o:Option Int) (hge:∀ p,o=some p→(i:Int) + 1 ≤ p),(o.bind fun (p:Int)=>ids[p.toNat - (i + 1)]?)=o.bind fun (p:Int)=>(c :: ids)[p.toNat - i]?:=fun o hge=>by
   cases o with
   | none=>rfl
   | some p =>
    have:=hge p rfl
    simp only [Option.bind_some]
    rw [show p.toNat - i=(p.toNat - (i + 1)) + 1 by omega]
    simp
  have hge:∀ j p,(dh kT ts (i + 1))[j]? = some p→(i:Int) + 1 ≤ p:=fun j p hq=>by
   have:=(xB kT ts (i + 1) j p hq).1; push_cast at this; omega
  simp only [jb,dh]
  by_cases ht:t.Tag=[]
  ·
   have hk:kd t=kT:=by unfold kd kT; rw [ht,hp t List.mem_cons_self ht]
   rw [if_pos (by simp [ht]),if_pos hk]
   cases j with
   | zero=>simp
   | succ j =>
    rw [List.getElem?_cons_succ,List.getElem?_cons_succ,ih j,step _ (hge j)]
  ·
   have hk:kd t ≠ kT:=fun q=>ht (congrArg aS.tag q)
   rw [if_neg (by simp [ht]),if_neg hk,ih j,step _ (hge j)]
theorem wo (ts:List Tree):∀ (ids:List Int),ts.length=ids.length→(jb ts ids).length=(ts.filter IM).length:=by
 induction ts with
 | nil=>intro ids h; cases ids <;> simp [jb]
 | cons t ts ih =>
  intro ids h
  cases ids with
  | nil=>simp at h
  | cons c ids =>
   simp only [jb]
   by_cases ht:IM t=true
   ·
    rw [if_pos (show (t.Tag == [])=true from ht),List.filter_cons_of_pos ht]; simp [ih ids (by simpa using h)]
   ·
    rw [if_neg (show ¬ (t.Tag == [])=true from ht),List.filter_cons_of_neg ht]; exact ih ids (by simpa using h)
theorem zA:∀ (ts us:List Tree) (ids jds:List Int),ts.length=ids.length→jb (ts ++ us) (ids ++ jds)=jb ts ids ++ jb us jds
 | [],us,[],jds,_=>rfl
 | [],us,c :: ids,jds,h=>by simp at h
 | t :: ts,us,[],jds,h=>by simp at h
 | t :: ts,us,c :: ids,jds,h=>by
  simp only [List.cons_append,jb]
  rw [zA ts us ids jds (by simpa using h)]
  split <;> rfl
theorem Fj {d d':ax} {id:Int} {old t:Tree} {F F':List Int} (h0:TA d id old F) (T:Turned d d' id old t F F') {z z':ah} (hz:nd d id=some z) (hz':nd d' id=some z') (h1:Plain old.Kids) (h2:Plain t.Kids) {n:Nat} (hn:n ≤ (jb old.Kids z.kids).length) (hn':n ≤ (jb t.Kids z'.kids).length) :
  (jb old.Kids z.kids).take n=(jb t.Kids z'.kids).take n:=by
 obtain ⟨za,zb,ha,hb,hk⟩:=T.kids
 rw [hz] at ha; cases ha
 rw [hz'] at hb; cases hb
 have l1:=(h0.kl hz).2
 have l2:=(T.ta.kl hz').2
 refine List.ext_getElem? fun j=>?_
 by_cases hj:j < n
 ·
  rw [List.getElem?_take_of_lt hj,List.getElem?_take_of_lt hj,wM _ _ 0 l1.symm h1,wM _ _ 0 l2.symm h2]
  have e1:=wM _ _ 0 l1.symm h1 j
  have e2:=wM _ _ 0 l2.symm h2 j
  rw [List.getElem?_eq_getElem (by omega)] at e1 e2
  cases hp:(dh kT old.Kids 0)[j]? with
  | none=>rw [hp] at e1; cases e1
  | some p =>
   cases hq:(dh kT t.Kids 0)[j]? with
   | none=>rw [hq] at e2; cases e2
   | some q =>
    simp only [Option.bind_some,Nat.sub_zero]
    obtain ⟨g1,g2⟩:=pK kT t.Kids (fun k=>dh k old.Kids 0) 0 j q p hq hp
    have hp0:=(xB kT _ _ _ _ hp).1
    have:=hk q.toNat p (by rw [ng]; simpa using g1) (by omega)
    rw [this]
    have:p=((p.toNat:Nat):Int):=by omega
    rw [this,zq]; rfl
 ·
  rw [List.getElem?_take_eq_none (by omega),List.getElem?_take_eq_none (by omega)]
def tx (s:Str):Tree:=Tree.mk [] [] s [] []
def br:Tree:=Tree.mk [98,114] [] [] [] []
def BU:List Str→Nat→List Tree
 | [],_=>[]
 | s :: l,i=>tx s :: ((if i=2 then [br] else []) ++ BU l (i + 1))
theorem Dw:∀ (l:List Str) (s:Str) (i:Nat),BU (l ++ [s]) i=BU l i ++ (tx s :: (if i + l.length=2 then [br] else []))
 | [],s,i=>by simp [BU]
 | u :: l,s,i=>by
  simp only [List.cons_append,BU,Dw l s (i + 1),List.length_cons]
  rw [show i + 1 + l.length=i + (l.length + 1) by omega]
  split <;> simp
theorem uw:∀ (l:List Str) (i:Nat),∀ t ∈ BU l i,t=br∨∃ s,t=tx s
 | [],i,t,h=>by simp [BU] at h
 | s :: l,i,t,h=>by
  simp only [BU,List.mem_cons,List.mem_append] at h
  rcases h with rfl | h | h
  ·
   exact .inr ⟨_,rfl⟩
  ·
   split at h
   ·
    simp at h; exact .inl h
   ·
    cases h
  ·
   exact uw l (i + 1) t h
theorem qV:∀ (l:List Str) (i:Nat),fC (BU l i) ≤ 2 * l.length∧W.kE.lsz (BU l i) ≤ 2 * l.length∧(BU l i).length ≤ 2 * l.length∧((BU l i).filter IM).length=l.length
 | [],i=>by simp [BU,fC,W.kE.lsz]
 | s :: l,i=>by
  obtain ⟨h1,h2,h3,h4⟩:=qV l (i + 1)
  have e1:iF (tx s)=1:=by simp [tx,iF,fC]
  have e2:iF br=1:=by simp [br,iF,fC]
  have e3:W.kE (tx s)=1:=by simp [tx,W.kE,W.kE.lsz]
  have e4:W.kE br=1:=by simp [br,W.kE,W.kE.lsz]
  simp only [BU,fC,W.kE.lsz,List.length_cons,List.filter_cons_of_pos (show IM (tx s)=true from rfl)]
  by_cases hi:i=2
  ·
   simp only [if_pos hi,List.cons_append,List.nil_append,fC,W.kE.lsz,List.length_cons,List.filter_cons_of_neg (show ¬ IM br=true by simp [br,IM,Tree.Tag])]
   omega
  ·
   simp only [if_neg hi,List.nil_append]
   omega
theorem FT:∀ (l:List Tree),(∀ t ∈ l,t=br∨∃ s,t=tx s)→F6 l
 | [],_=>trivial
 | t :: l,h=>⟨by rcases h t List.mem_cons_self with rfl | ⟨s,rfl⟩ <;> simp [br,tx,Rt,F6],FT l (fun t ht=>h t (List.mem_cons_of_mem _ ht))⟩
def pT (l:List Str):Tree:=Tree.mk [112] [] [] [] (BU l 0)
theorem AZ (l:List Str):Plain (pT l).Kids:=fun t ht hg=>by
 rcases uw l 0 t ht with rfl | ⟨s,rfl⟩
 ·
  rfl
 ·
  rfl
theorem EL (l:List Str):Rt (pT l):=by
 simp only [pT,Rt]
 exact ⟨fun h=>(by cases h),fun _=>⟨trivial,by simp,FT _ (uw l 0)⟩⟩
theorem FV (l:List Str):iF (pT l) ≤ 1 + 2 * l.length:=by have:=(qV l 0).1; simp only [pT,iF]; omega
theorem IQ (l:List Str):W.kE (pT l) ≤ 1 + 2 * l.length:=by have:=(qV l 0).2.1; simp only [pT,W.kE,List.length_nil]; omega
theorem CR {α:Type} {l:List α} {k:Int} (h0:0 ≤ k) (h1:k ≤ l.length):cut l 0 k=some (l.take k.toNat):=by
 unfold cut; rw [if_pos ⟨by omega,h0,h1⟩]; rfl
theorem zh (a b:Int):jl a b=min a b:=by unfold jl; split <;> omega
end Pr
end Go.Ev

namespace Go.Ev
namespace Pr
set_option linter.unusedVariables false
set_option linter.unusedSimpArgs false
def cuts (l:List Str):List Str:=(l.take 9).map fun s=>s.take 9
theorem Di (a:List Str):∀ (r i f:Nat),i + r=min a.length 9→r < f→aX a f (BU (cuts (a.take i)) 0) (i:Int)=some (pT (cuts a))
 | 0,i,f + 1,hi,hf=>by
  rw [aX,if_neg (by simp only [Bool.and_eq_true,decide_eq_true_eq]; omega)]
  have:cuts (a.take i)=cuts a:=by
   unfold cuts
   congr 1
   by_cases h:a.length ≤ 9
   ·
    rw [List.take_of_length_le (show a.length ≤ i by omega)]
   ·
    rw [List.take_take,show min 9 i=9 by omega]
  rw [this]; rfl
 | r + 1,i,f + 1,hi,hf=>by
  have hii:i < a.length:=by omega
  have hw:IntKind.wrap .i64 ((i:Int) + 1)=((i + 1:Nat):Int):=by rw [sQ (by omega) (by omega)]; push_cast; rfl
  have hl:(cuts (a.take i)).length=i:=by unfold cuts; simp; omega
  have hs:cuts (a.take (i + 1))=cuts (a.take i) ++ [(a[i]).take 9]:=by
   unfold cuts
   rw [List.take_take,List.take_take,show min 9 (i + 1)=i + 1 by omega,show min 9 i=i by omega,List.take_add_one,List.getElem?_eq_getElem hii,List.map_append]
   rfl
  have hk:=(qV (cuts (a.take i)) 0).2.2.1
  rw [aX,if_pos (by simp only [Bool.and_eq_true,decide_eq_true_eq]; omega),zq,List.getElem?_eq_getElem hii,Option.bind_some,zh,CR (by omega) (by omega),Option.bind_some,jR (by rw [bnd]; simp; omega),Option.bind_some]
  have ht:(a[i]).take (min ((a[i]).length:Int) 9).toNat=(a[i]).take 9:=by
   by_cases h:(a[i]).length ≤ 9
   ·
    rw [List.take_of_length_le (show (a[i]).length ≤ 9 by omega),List.take_of_length_le (by omega)]
   ·
    rw [show (min ((a[i]).length:Int) 9).toNat=9 by omega]
  rw [ht]
  have ih:=Di a r (i + 1) f (by omega) (by omega)
  rw [hs,Dw,hl,Nat.zero_add] at ih
  by_cases h2:i=2
  ·
   subst h2
   rw [if_pos (by simp),jR (by rw [bnd]; simp; omega),Option.bind_some,bS,hw]
   rw [if_pos rfl] at ih
   rw [List.append_assoc]
   exact ih
  ·
   rw [if_neg (by simp; omega),bS,hw]
   rw [if_neg h2] at ih
   exact ih
theorem Fh {n:Nat} (hn:10 ≤ n) (a:List Str):dz n a=some (pT (cuts a)):=by
 have:=Di a (min a.length 9) 0 n (by omega) (by omega)
 unfold dz
 exact this
theorem AP (a:List Str):(cuts a).length=min a.length 9:=by unfold cuts; simp; omega
theorem xP {n:Nat} {a2:List Str} {z4:Tree} {z27:Int × ax} {was ids:List Int} {z66:Bool × ax} (hl:z4.Kids.length=ids.length) (hb:ids.length < 1000):∀ (r:List Int) (us:List Tree) (d:List Int) (ts:List Tree) (f:Nat),ids=d ++ r→z4.Kids=ts ++ us→ts.length=d.length→r.length < f →
  aV n a2 z4 z27 was z66 ids f (jb ts d) (d.length:Int)=aV n a2 z4 z27 was z66 ids 1 (jb z4.Kids ids) (ids.length:Int)
 | [],us,d,ts,f + 1,h1,h2,h3,hf=>by
  have e1:d=ids:=by rw [h1]; simp
  have e2:ts=z4.Kids:=by
   have:us=[]:=by
    have:=congrArg List.length h2
    rw [List.length_append,hl,h1,List.length_append] at this
    simp at this
    exact List.length_eq_zero_iff.1 (by omega)
   rw [h2,this]; simp
  rw [e1,e2,aV,if_neg (by simp)]
  conv=>rhs; rw [aV,if_neg (by simp)]
 | c :: r,[],d,ts,f + 1,h1,h2,h3,hf=>by
  exfalso
  have:=congrArg List.length h2
  rw [hl,h1] at this; simp at this; omega
 | c :: r,t :: us,d,ts,f + 1,h1,h2,h3,hf=>by
  have hlen:ids.length=d.length + r.length + 1:=by rw [h1]; simp; omega
  have hw:IntKind.wrap .i64 ((d.length:Int) + 1)=(((d ++ [c]).length:Nat):Int):=by rw [sQ (by omega) (by omega)]; simp
  have ih:=xP (n:=n) (a2:=a2) (z4:=z4) (z27:=z27) (was:=was) (z66:=z66) hl hb r us (d ++ [c]) (ts ++ [t]) f (by rw [h1]; simp) (by rw [h2]; simp) (by simp [h3]) (by simp at hf; omega)
  rw [zA ts [t] d [c] h3] at ih
  have hsl:(jb ts d).length ≤ d.length:=by rw [wo ts d h3,← h3]; exact List.length_filter_le _ _
  have hz:idx z4.Kids (d.length:Int)=some t:=by rw [← h3]; exact fI h2
  conv=>lhs; rw [aV,if_pos (by rw [decide_eq_true_eq]; omega),fI h1,Option.bind_some,if_pos (by rw [decide_eq_true_eq,hl]; omega),hz,Option.bind_some,Option.bind_some]
  by_cases ht:(t.Tag == [])=true
  ·
   rw [show jb [t] [c]=[c] by simp only [jb,if_pos ht]] at ih
   rw [if_pos ht,jR (by rw [bnd]; simp; omega),Option.bind_some,bY,hw]
   exact ih
  ·
   rw [show jb [t] [c]=[] by simp only [jb,if_neg ht],List.append_nil] at ih
   rw [if_neg ht,bY,hw]
   exact ih
theorem wL {n:Nat} {a2:List Str} {z3 z4:Tree} {z27:Int × ax} {ids:List Int} (hl:z3.Kids.length=ids.length) (hb:ids.length < 1000):∀ (r:List Int) (us:List Tree) (d:List Int) (ts:List Tree) (f:Nat),ids=d ++ r→z3.Kids=ts ++ us→ts.length=d.length→r.length < f →
  aU n a2 z3 z4 z27 ids f (jb ts d) (d.length:Int)=aU n a2 z3 z4 z27 ids 1 (jb z3.Kids ids) (ids.length:Int)
 | [],us,d,ts,f + 1,h1,h2,h3,hf=>by
  have e1:d=ids:=by rw [h1]; simp
  have e2:ts=z3.Kids:=by
   have:us=[]:=by
    have:=congrArg List.length h2
    rw [List.length_append,hl,h1,List.length_append] at this
    simp at this
    exact List.length_eq_zero_iff.1 (by omega)
   rw [h2,this]; simp
  rw [e1,e2,aU,if_neg (by simp)]
  conv=>rhs; rw [aU,if_neg (by simp)]
 | c :: r,[],d,ts,f + 1,h1,h2,h3,hf=>by
  exfalso
  have:=congrArg List.length h2
  rw [hl,h1] at this; simp at this; omega
 | c :: r,t :: us,d,ts,f + 1,h1,h2,h3,hf=>by
  have hlen:ids.length=d.length + r.length + 1:=by rw [h1]; simp; omega
  have hw:IntKind.wrap .i64 ((d.length:Int) + 1)=(((d ++ [c]).length:Nat):Int):=by rw [sQ (by omega) (by omega)]; simp
  have ih:=wL (n:=n) (a2:=a2) (z3:=z3) (z4:=z4) (z27:=z27) hl hb r us (d ++ [c]) (ts ++ [t]) f (by rw [h1]; simp) (by rw [h2]; simp) (by simp [h3]) (by simp at hf; omega)
  rw [zA ts [t] d [c] h3] at ih
  have hsl:(jb ts d).length ≤ d.length:=by rw [wo ts d h3,← h3]; exact List.length_filter_le _ _
  have hz:idx z3.Kids (d.length:Int)=some t:=by rw [← h3]; exact fI h2
  conv=>lhs; rw [aU,if_pos (by rw [decide_eq_true_eq]; omega),fI h1,Option.bind_some,if_pos (by rw [decide_eq_true_eq,hl]; omega),hz,Option.bind_some,Option.bind_some]
  by_cases ht:(t.Tag == [])=true
  ·
   rw [show jb [t] [c]=[c] by simp only [jb,if_pos ht]] at ih
   rw [if_pos ht,jR (by rw [bnd]; simp; omega),Option.bind_some,bZ,hw]
   exact ih
  ·
   rw [show jb [t] [c]=[] by simp only [jb,if_neg ht],List.append_nil] at ih
   rw [if_neg ht,bZ,hw]
   exact ih
set_option maxRecDepth 100000 in
theorem zB:gz 10000=some true:=by decide +kernel
theorem F7 (a1 a2:List Str):fV 10000 a1 a2=some true:=by
 have e1:=Fh (n:=10000) (by omega) a1
 have e2:=Fh (n:=10000) (by omega) a2
 have m1:=AP a1
 have m2:=AP a2
 have n1:=FV (cuts a1)
 have n2:=FV (cuts a2)
 have l0:yn.l.length=1:=rfl
 obtain ⟨id,d1,F1,e3,P⟩:=Dc 10000 (pT (cuts a1)) yn GG (EL _) (by omega) (by omega)
 obtain ⟨z1,hz1,hl1,hp1⟩:=P.top
 have len1:=P.len
 obtain ⟨d2,F2,e4,T⟩:=Dj 10000 (pT (cuts a2)) (pT (cuts a1)) d1 id F1 P.wf P.ta (EL _) (EL _) rfl rfl (by omega) (by omega)
 obtain ⟨z0,z2,hz0,hz2,_⟩:=T.kids
 obtain ⟨_,k1⟩:=P.ta.kl hz1
 obtain ⟨hl2,k2⟩:=T.ta.kl hz2
 have q1:=(qV (cuts a1) 0).2.2
 have q2:=(qV (cuts a2) 0).2.2
 have w1:z1.kids.length ≤ 18:=by rw [k1]; simp only [pT,Tree.Kids]; omega
 have w2:z2.kids.length ≤ 18:=by rw [k2]; simp only [pT,Tree.Kids]; omega
 have s1:(jb (pT (cuts a1)).Kids z1.kids).length=(cuts a1).length:=by rw [wo _ _ k1.symm]; exact q1.2
 have s2:(jb (pT (cuts a2)).Kids z2.kids).length=(cuts a2).length:=by rw [wo _ _ k2.symm]; exact q2.2
 have L1:=wL (n:=10000) (a2:=a2) (z3:=pT (cuts a1)) (z4:=pT (cuts a2)) (z27:=(id,d1)) (ids:=z1.kids) k1.symm (by omega) z1.kids (pT (cuts a1)).Kids [] [] 10000 rfl rfl rfl (by omega)
 have L2:=xP (n:=10000) (a2:=a2) (z4:=pT (cuts a2)) (z27:=(id,d1)) (was:=jb (pT (cuts a1)).Kids z1.kids) (ids:=z2.kids) (z66:=(true,d2)) k2.symm (by omega) z2.kids (pT (cuts a2)).Kids [] [] 10000 rfl rfl rfl (by omega)
 have e0:jb [] []=[]:=rfl
 rw [e0] at L1 L2
 have sz:=IQ (cuts a2)
 unfold fV
 rw [e1,Option.bind_some,e2,Option.bind_some,HY,Option.bind_some,Fe,e3,Option.bind_some]
 simp only []
 rw [zM P.wf,hz1]
 simp only [hl1,if_true,Option.bind_some]
 refine L1.trans ?_
 rw [aU,if_neg (by simp)]
 simp only []
 rw [e4,Option.bind_some,if_neg (by simp)]
 simp only []
 rw [zM T.wf,hz2]
 simp only [hl2,if_true,Option.bind_some]
 refine L2.trans ?_
 rw [aV,if_neg (by simp)]
 simp only []
 rw [zO T.wf T.ta (by omega),Option.bind_some,if_pos rfl,W.Aw 19 (pT (cuts a2)) (pT (cuts a2)) (by omega) (by omega) 10000 (by omega),Option.bind_some,W.yD,if_pos rfl,zh,CR (by omega) (by omega),Option.bind_some,CR (by omega) (by omega),Option.bind_some,GJ 10000 _ _ (by simp; omega) (by simp; omega),Option.bind_some,zh]
 have hkeep:=Fj P.ta T hz1 hz2 (AZ _) (AZ _) (n:=(min ((jb (pT (cuts a1)).Kids z1.kids).length:Int) ((jb (pT (cuts a2)).Kids z2.kids).length:Int)).toNat) (by omega) (by omega)
 rw [hkeep,if_pos (by simp),if_pos (by simp only [beq_iff_eq]; omega),zB]
 rfl
end Pr
end Go.Ev

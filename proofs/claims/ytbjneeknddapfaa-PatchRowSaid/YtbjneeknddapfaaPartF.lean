import Derived.Test.YtbjneeknddapfaaPartE
namespace Go.Ev
namespace Pr
set_option linter.unusedVariables false
set_option linter.unusedSimpArgs false
set_option linter.unusedSectionVars false
theorem iy.at {d:au}:∀ {is:List Int} {ts:List Tree} {F:List Int},iy d is ts F→∀ (i:Nat) (t:Tree),ts[i]? = some t→∃ c Fc,is[i]? = some c∧TA d c t Fc∧∀ j ∈ Fc,j ∈ F
 | _,_,_,.nil,i,t,h=>by simp at h
 | _,_,_,.cons (i:=c0) (F:=F0) h0 k,i,t,h=>by
  cases i with
  | zero=>simp at h; subst h; exact ⟨c0,F0,rfl,h0,fun j hj=>List.mem_append_left _ hj⟩
  | succ i =>
   obtain ⟨c,Fc,h1,h2,h3⟩:=k.at i t (by simpa using h)
   exact ⟨c,Fc,by simpa using h1,h2,fun j hj=>List.mem_append_right _ (h3 j hj)⟩
theorem F5.at:∀ {l:List Tree},F5 l→∀ (i:Nat) (t:Tree),l[i]? = some t→Rt t:=fun {l} h i t hi=>h.mem t (List.mem_of_getElem? hi)
theorem De:∀ (n:Nat) (t old:Tree) (d:au) (id:Int) (F:List Int),WF d→TA d id old F→Rt old→Rt t→old.Tag=t.Tag→old.Key=t.Key→iK t + 6000 < n→d.l.length + iK t ≤ 5000→∃ d' F',dP n d id t=some (true,d')∧Turned d d' id old t F F'
 | 0,t,old,d,id,F,hW,hT,hRo,hR,e1,e2,hn,hl=>by omega
 | n + 1,.mk tag key text at_ ks,_,d,id,_,hW,.mk (z:=z) (ts:=ts) (F:=G) hz hzl hk,hRo,hR,e1,e2,hn,hl=>by
  simp only [Tree.Tag,Tree.Key] at e1 e2
  simp only [iK] at hn hl
  have hT:TA d id (Tree.mk z.tag z.key z.text z.attrs ts) (id :: G):=.mk hz hzl hk
  obtain ⟨l,hp⟩:=hW.path id (by rw [bV hz,hzl])
  have hlen:=hW.len
  have hFl:(id :: G).length ≤ d.l.length:=gG _ _ (hT.nodup hW hp) hT.Fh
  have hTl:=hT.len
  have htn:iK (Tree.mk z.tag z.key z.text z.attrs ts) < n:=by omega
  have htns:fQ ts < n:=by simp only [iK] at htn; omega
  have hkl:=qd hW hz hzl
  have hklen:=hk.lens
  have hksl:=nU ks
  simp only [Rt] at hRo hR
  rw [dP,zK hW hT htn,Option.bind_some,if_neg (by simp [Tree.Tag,Tree.Key,e1,e2])]
  by_cases ht:tag=[]
  ·
   obtain ⟨ko,ao,to_⟩:=hRo.1 (by rw [e1]; exact ht)
   obtain ⟨kn,an,tn⟩:=hR.1 ht
   subst to_; subst tn
   have hkn:z.kids=[]:=List.length_eq_zero_iff.1 (by simpa using hklen)
   obtain ⟨q1,q2⟩:=Ht hW n hz hzl (by rw [e1]; exact ht) text
   rw [if_pos (by simpa [Tree.Tag] using ht)]
   simp only [Tree.Text]
   rw [q1,Option.bind_some]
   have hz2:nd (iO d id { z with text:=text }) id=some { z with text:=text }:=by rw [ib hz,if_pos rfl]
   refine ⟨_,[id],rfl,q2,?_,fun j hj hlv=>?_,?_,by simp,z,_,hz,hz2,fun i k hi=>?_⟩
   ·
    have:=TA.mk (d:=iO d id { z with text:=text }) (F:=[]) (ts:=[]) hz2 hzl (by simp only [hkn]; exact .nil)
    have e:Tree.mk tag key text at_ []=Tree.mk z.tag z.key text z.attrs []:=by rw [e1,e2,ao,an]
    rw [e]; exact this
   ·
    rw [ib hz,if_neg (fun e=>hj (by simp [e]))]
   ·
    have hG:G=[]:=by have:=hk.len; simpa [fQ] using this
    subst hG
    unfold cnt; simp
   ·
    simp [mF,j4,Tree.Kids] at hi
  ·
   obtain ⟨tx,_,hRts⟩:=hRo.2 (by rw [e1]; exact ht)
   obtain ⟨txn,atl,hRks⟩:=hR.2 ht
   obtain ⟨q1,q2⟩:=A7 hW n hz hzl (by rw [e1]; exact ht) atl
   rw [if_neg (by simpa [Tree.Tag] using ht)]
   simp only [Tree.aV,Tree.Kids]
   rw [q1,Option.bind_some]
   simp only
   have hz2:nd (iO d id { z with attrs:=at_ }) id=some { z with attrs:=at_ }:=by rw [ib hz,if_pos rfl]
   have fr0:∀ j,j ≠ id→nd (iO d id { z with attrs:=at_ }) j=nd d j:=fun j hj=>by rw [ib hz,if_neg hj]
   have hk1:iy (iO d id { z with attrs:=at_ }) z.kids ts G:=hk.q9 fun j hj=>fr0 j (hk.y7 hW hz hzl (fun c h=>h) j hj)
   rw [zb q2,hz2]
   dsimp only
   rw [if_pos hzl,Option.bind_some]
   rw [Fj q2 hkl hk1 htns (by omega),Option.bind_some,GK (by omega) (by omega) (by omega) (by omega),Option.bind_some]
   obtain ⟨f1,f2,f3⟩:=FL ts ks
   obtain ⟨gone,g1,g2,g3,g4⟩:=Gw (n:=n) (n1:=z.kids.length) (mF ts ks) (by omega) hkl (by omega) (by omega)
   rw [g1,Option.bind_some]
   have hnd:=hW.kidN id z hz hzl
   have S:St (iO d id { z with attrs:=at_ }) id { z with attrs:=at_ } [] z.kids [] ts [] G:=⟨q2,by simpa using hz2,hzl,by rw [show ({ z with attrs:=at_ }:ah).tag=z.tag from rfl,e1]; exact ht,.nil,hk1⟩
   obtain ⟨d1,rest,rts,FR,p1,p2,p3,p4,p5,p6,p7,p8⟩:=Bg (n:=n) (t:=.mk tag key text at_ ks) (fr:=mF ts ks) (gone:=gone) (self:=dP n) (by omega) hnd (by omega) gone [] _ z.kids ts G n rfl S g2 (fun k hk'=>by
    obtain ⟨a1,a2,a3⟩:=(g3 k).1 hk'
    have hlt:k.toNat < z.kids.length:=by omega
    exact ⟨z.kids[k.toNat],tQ.2 ⟨a1,List.getElem?_eq_getElem hlt⟩,List.getElem_mem hlt⟩) (by omega)
   simp only [j6] at p4
   obtain ⟨d2,P2,F',r1,r2,r3,r4,r5,r6⟩:=wT (n:=n) (self:=dP n) (ks:=z.kids) (t:=.mk tag key text at_ ks) (by omega) hnd (show ks.length ≤ 5000 by omega) (De n) ks [] (mF ts ks) [] d1 [] rest rts [] FR n rfl rfl rfl f1 p2 hRks (by omega) (by omega) (fun p hp hp0=>by
     obtain ⟨i,hi⟩:=List.getElem?_of_mem hp
     rw [List.getElem?_zip_eq_some] at hi
     rcases f2 i p.1 p.2 hi.1 hi.2 with e | ⟨_,u,u1,u2,u3⟩
     ·
      omega
     ·
      obtain ⟨c,Fc,c1,c2,c3⟩:=hk1.at _ u u1
      have hci:idx z.kids p.1=some c:=tQ.2 ⟨hp0,c1⟩
      have hcr:c ∈ rest:=(p5 c).2 ⟨List.mem_of_getElem? c1,fun k' hk' e=>by
       have:=zD hnd hci e
       exact ((g3 k').1 hk').2.2 (this ▸ List.mem_of_getElem? hi.1)⟩
      exact ⟨c,u,Fc,hci,hcr,p8 c hcr u Fc c2,hRts.at _ u u1,u2,u3⟩) (List.pairwise_iff_getElem.2 fun i j hi hj hij h0 e=>by
     have:=f3 i j _ (List.getElem?_eq_getElem hi) (by rw [e]; exact List.getElem?_eq_getElem hj) h0
     omega) (fun c hc=>by
     obtain ⟨m1,m2⟩:=(p5 c).1 hc
     obtain ⟨i,hi⟩:=List.getElem?_of_mem m1
     have hlt:=(List.getElem?_eq_some_iff.1 hi).1
     have hci:idx z.kids (i:Int)=some c:=tQ.2 ⟨by omega,by simpa using hi⟩
     refine ⟨(i:Int),?_,by omega,hci⟩
     by_cases hm:(i:Int) ∈ mF ts ks
     ·
      exact hm
     ·
      exact absurd hci (m2 _ ((g3 _).2 ⟨by omega,by omega,hm⟩))) (by omega)
   have hrz:=r2.hz
   have hta:=TA.mk (d:=d2) (F:=F') (ts:=ks) hrz r2.hl (by simpa using r2.tp)
   refine ⟨d2,id :: F',by simp only [List.length_nil,Int.natCast_zero] at p1; exact p1.trans r1,r2.wf,?_,fun j hj hlv=>?_,?_,by simp only [iK]; omega,z,_,hz,hrz,fun i k hi h0=>?_⟩
   ·
    rw [txn]; rw [tx] at hta; simpa [e1,e2] using hta
   ·
    have j1:j ≠ id:=fun e=>hj (by simp [e])
    have j2:j ∉ G:=fun e=>hj (by simp [e])
    have e:=fr0 j j1
    have l0:iU (iO d id { z with attrs:=at_ }) j=true:=by rw [uI e]; exact hlv
    have e':=p7 j j1 j2 l0
    rw [r5 j j1 (fun q=>j2 (p6 j q)) (by rw [uI e']; exact l0),e',e]
   ·
    have:cnt (iO d id { z with attrs:=at_ })=cnt d:=by unfold cnt; simp
    simp at r3 ⊢
    omega
   ·
    simpa using r6 i k hi h0
end Pr
end Go.Ev

namespace Go.Ev
namespace Pr
namespace W
set_option linter.unusedVariables false
set_option linter.unusedSimpArgs false
set_option linter.unusedSectionVars false
def lC:Tree→Nat
 | .mk _ _ _ ats ks=>1 + ats.length + lsz ks
  where lsz:List Tree→Nat
 | []=>0
 | t :: l=>lC t + lsz l
theorem tY (t:Tree):lC t=1 + t.aV.length + lC.lsz t.Kids:=by cases t; rw [lC]; rfl
theorem Di:∀ {l:List Tree} {z:Tree},z ∈ l→lC z ≤ lC.lsz l
 | x :: l,z,h=>by
  rcases List.mem_cons.1 h with rfl | h
  ·
   simp only [lC.lsz]; omega
  ·
   have:=Di h
   simp only [lC.lsz]; omega
theorem Da:∀ (l:List Tree),l.length ≤ lC.lsz l
 | []=>Nat.zero_le _
 | x :: l=>by
  have:=Da l
  have:=tY x
  simp only [List.length_cons,lC.lsz]; omega
theorem EW {t z:Tree} (h:z ∈ t.Kids):lC z < lC t:=by
 have:=Di h
 have:=tY t; omega
def sG:List Attr→List Attr→Bool
 | [],[]=>true
 | a :: l,b :: m=>Attr.beq a b && sG l m
 | _,_=>false
def oL:Tree→Tree→Bool
 | .mk a b c d e,.mk a' b' c' d' e'=>(a == a') && (b == b') && (c == c') && sG d d' && lbeq e e'
  where lbeq:List Tree→List Tree→Bool
 | [],[]=>true
 | x :: l,y :: m=>oL x y && lbeq l m
 | _,_=>false
theorem Bo:∀ {a b:List Attr},sG a b=true→a.length=b.length
 | [],[],_=>rfl
 | x :: l,y :: m,h=>by
  simp only [sG,Bool.and_eq_true] at h
  simp [Bo h.2]
 | [],_ :: _,h=>by cases h
 | _ :: _,[],h=>by cases h
theorem AO:∀ {a b:List Tree},oL.lbeq a b=true→a.length=b.length
 | [],[],_=>rfl
 | x :: l,y :: m,h=>by
  simp only [oL.lbeq,Bool.and_eq_true] at h
  simp [AO h.2]
 | [],_ :: _,h=>by cases h
 | _ :: _,[],h=>by cases h
theorem GN {a b:List Attr} (h:a.length ≠ b.length):sG a b=false:=by
 cases hq:sG a b
 ·
  rfl
 ·
  exact absurd (Bo hq) h
theorem GA {a b:List Tree} (h:a.length ≠ b.length):oL.lbeq a b=false:=by
 cases hq:oL.lbeq a b
 ·
  rfl
 ·
  exact absurd (AO hq) h
theorem Gq (a b:Tree):oL a b=((a.Tag == b.Tag) && (a.Key == b.Key) && (a.Text == b.Text) && sG a.aV b.aV && oL.lbeq a.Kids b.Kids):=by cases a; cases b; rw [oL]; rfl
theorem xN (l m:List Attr) (hb:l.length < 1000000000):∀ (r s d e:List Attr) (k:Nat),l=d ++ r→m=e ++ s→d.length=e.length→r.length=s.length→r.length < k →
  bz l m k (d.length:Int)=some (sG r s)
 | [],[],d,e,k + 1,hl,hm,_,_,_=>by
  rw [bz,if_neg (by rw [hl]; simp)]; rfl
 | z :: r,y :: s,d,e,k + 1,hl,hm,hd,hr,hk=>by
  have hkl:l.length=d.length + r.length + 1:=by rw [hl]; simp; omega
  rw [bz,if_pos (by rw [decide_eq_true_eq,hkl]; omega),iH hl,Option.bind_some,hd,iH hm,Option.bind_some]
  cases hq:Attr.beq z y
  ·
   simp [sG,hq]
  ·
   simp only [Bool.not_true,Bool.false_eq_true,if_false]
   rw [oJ (by omega) (by omega)]
   have:=xN l m hb r s (d ++ [z]) (e ++ [y]) k (by rw [hl]; simp) (by rw [hm]; simp) (by simp [hd]) (by simpa using hr) (by simp at hk; omega)
   rw [List.length_append,List.length_singleton,hd] at this
   push_cast at this
   rw [this]; simp [sG,hq]
 | [],_ :: _,d,e,k + 1,_,_,_,hr,_=>by simp at hr
 | _ :: _,[],d,e,k + 1,_,_,_,hr,_=>by simp at hr
theorem FN (n:Nat) (l m:List Attr) (hb:l.length < 1000000000) (hn:l.length < n):dL n l m=some (sG l m):=by
 unfold dL
 by_cases h:l.length=m.length
 ·
  rw [if_neg (by simp [h])]
  exact xN l m hb l m [] [] n rfl rfl rfl h hn
 ·
  rw [if_pos (by simp; omega),GN h]
theorem xU (f:Tree→Tree→Option Bool) (a b:Tree) (hf:∀ x ∈ a.Kids,∀ y,f x y=some (oL x y)) (hb:a.Kids.length < 1000000000):∀ (r s d e:List Tree) (k:Nat),a.Kids=d ++ r→b.Kids=e ++ s→d.length=e.length→r.length=s.length→r.length < k →
  bY f a b k (d.length:Int)=some (oL.lbeq r s)
 | [],[],d,e,k + 1,hl,hm,_,_,_=>by
  rw [bY,if_neg (by rw [hl]; simp)]; rfl
 | z :: r,y :: s,d,e,k + 1,hl,hm,hd,hr,hk=>by
  have hkl:a.Kids.length=d.length + r.length + 1:=by rw [hl]; simp; omega
  rw [bY,if_pos (by rw [decide_eq_true_eq,hkl]; omega),iH hl,Option.bind_some,hd,iH hm,Option.bind_some,hf z (by rw [hl]; simp),Option.bind_some]
  cases hq:oL z y
  ·
   simp [oL.lbeq,hq]
  ·
   simp only [Bool.not_true,Bool.false_eq_true,if_false]
   rw [oJ (by omega) (by omega)]
   have:=xU f a b hf hb r s (d ++ [z]) (e ++ [y]) k (by rw [hl]; simp) (by rw [hm]; simp) (by simp [hd]) (by simpa using hr) (by simp at hk; omega)
   rw [List.length_append,List.length_singleton,hd] at this
   push_cast at this
   rw [this]; simp [oL.lbeq,hq]
 | [],_ :: _,d,e,k + 1,_,_,_,hr,_=>by simp at hr
 | _ :: _,[],d,e,k + 1,_,_,_,hr,_=>by simp at hr
theorem Bw:∀ (m:Nat) (t u:Tree),lC t ≤ m→m < 1000000→∀ n,m < n→cu n t u=some (oL t u)
 | 0,t,u,h,_,n,_=>by rw [tY] at h; omega
 | m + 1,t,u,h,hm,n + 1,hn=>by
  have hk:=tY t
  have hlen:=Da t.Kids
  have hf:∀ x ∈ t.Kids,∀ y,cu n x y=some (oL x y):=fun x hx y=>Bw m x y (by have:=EW hx; omega) (by omega) n (by omega)
  rw [cu,Gq]
  cases h1:(t.Tag == u.Tag) <;> cases h2:(t.Key == u.Key) <;> cases h3:(t.Text == u.Text) <;> simp only [Bool.not_true,Bool.not_false,Bool.or_self,Bool.or_true,Bool.true_or,Bool.or_false,if_true,Option.bind_some,Bool.false_eq_true,if_false,Bool.and_false,Bool.false_and,Bool.and_self,Bool.true_and]
  rw [FN n _ _ (by omega) (by omega),Option.bind_some,Option.bind_some]
  cases h4:sG t.aV u.aV
  ·
   simp
  ·
   simp only [Bool.not_true,Bool.false_or,Bool.true_and]
   by_cases hl:t.Kids.length=u.Kids.length
   ·
    rw [if_neg (by simp [hl])]
    have:=xU (cu n) t u hf (by omega) t.Kids u.Kids [] [] n rfl rfl rfl hl (by omega)
    simp only [List.length_nil] at this
    rw [show ((0:Nat):Int)=0 from rfl] at this
    rw [this]
   ·
    rw [if_pos (by simp; omega),GA hl]
theorem DD (a:Attr):Attr.beq a a=true:=by simp [Attr.beq]
theorem yJ:∀ (l:List Attr),sG l l=true
 | []=>rfl
 | a :: l=>by simp [sG,DD,yJ l]
theorem yS:∀ (t:Tree),oL t t=true
 | .mk a b c d e=>by
  rw [oL,yJ]
  have:=go e
  simp [this]
  where go:∀ (l:List Tree),oL.lbeq l l=true
 | []=>rfl
 | x :: l=>by rw [oL.lbeq,yS x,go l]; rfl
end W
end Pr
end Go.Ev

namespace Go.Ev
namespace Pr
set_option linter.unusedVariables false
set_option linter.unusedSimpArgs false
theorem countP {d:au} (h:WF d) (n:Nat):fH n d=some (cnt d:Int):=by
 rw [w9 h]; rfl
theorem TA.kl {d:au} {i:Int} {t:Tree} {F:List Int} (h:TA d i t F) {z:ah} (hz:nd d i=some z):z.lives=true∧z.kids.length=t.Kids.length:=by
 cases h with
 | mk h hl k=>rw [h] at hz; cases hz; exact ⟨hl,by simpa [Tree.Kids] using k.lens⟩
theorem TA.Io {d:au} {i:Int} {t:Tree} {F:List Int} (h:TA d i t F) {z:ah} (hz:nd d i=some z):∃ G,iy d z.kids t.Kids G:=by
 cases h with
 | mk h hl k=>rw [h] at hz; cases hz; exact ⟨_,k⟩
theorem uN:∀ (now:List Tree) (av:aR→List Int),(now.map kd).Nodup→∀ (i:Nat) (t:Tree),now[i]? = some t→(j4 now av)[i]? = some (match av (kd t) with | []=>-1 | k :: _=>k)
 | [],av,_,i,t,h=>by simp at h
 | u :: now,av,hn,i,t,h=>by
  rw [List.map_cons,List.nodup_cons] at hn
  have hne:∀ i t,now[i]? = some t→kd t ≠ kd u:=fun i t h q=>hn.1 (by rw [← q]; exact List.mem_map_of_mem (List.mem_of_getElem? h))
  simp only [j4]
  split
  ·
   rename_i ha
   cases i with
   | zero=>simp at h; subst h; simp [ha]
   | succ i=>simpa using uN now av hn.2 i t (by simpa using h)
  ·
   rename_i k r ha
   cases i with
   | zero=>simp at h; subst h; simp [ha]
   | succ i =>
    have:=uN now (fun q=>if q=kd u then r else av q) hn.2 i t (by simpa using h)
    simp only [if_neg (hne i t (by simpa using h))] at this
    simpa using this
theorem Ef {d:au} (hW:WF d) {G:List Int} (hn:G.Nodup) (hl:∀ j ∈ G,iU d j=true) (hc:(G.length:Int)=cnt d):∀ j,iU d j=true→j ∈ G:=fun j hj=>by
 by_cases hm:j ∈ G
 ·
  exact hm
 ·
  exfalso
  have hr:∀ i,iU d i=true→1 ≤ i∧i ≤ (d.l.length:Int):=fun i hi=>by
   obtain ⟨z,hz,_⟩:=dW hi
   exact bM hz
  have hd:∀ i,iU d i=true→i ∉ d.freed:=fun i hi hf=>by
   obtain ⟨z,hz,hl⟩:=dW hi
   have:=(hW.dead i z hz).2 hf
   rw [hl] at this; cases this
  have hall:∀ i ∈ j :: G,iU d i=true:=fun i hi=>by
   rcases List.mem_cons.1 hi with rfl | hi
   ·
    exact hj
   ·
    exact hl i hi
  have:=gG d.l.length ((j :: G) ++ d.freed) (List.nodup_append.2 ⟨List.nodup_cons.2 ⟨hm,hn⟩,hW.freedN,fun a ha b hb q=>by subst q; exact hd a (hall a ha) hb⟩) (fun x hx=>by
   rcases List.mem_append.1 hx with hx | hx
   ·
    exact hr x (hall x hx)
   ·
    have:=hW.freedR x hx; omega)
  simp only [List.length_append,List.length_cons] at this
  unfold cnt at hc
  omega
theorem Du {d:au} (hW:WF d) {id:Int} {t:Tree} {F:List Int} (h:TA d id t F) (h1:(1:Int) ∉ F) (hr:∃ r,nd d 1=some r∧r.kids=[]) (hc:cnt d=1 + (F.length:Int)):oQ d=[id]:=by
 obtain ⟨G,hG⟩:=h.head
 have hid:id ∈ F:=by rw [hG]; exact List.mem_cons_self
 obtain ⟨z,hz,hl,_⟩:=h.live id hid
 have hlid:iU d id=true:=by rw [bV hz,hl]
 obtain ⟨l,hp⟩:=hW.path id hlid
 have hFn:=h.nodup hW hp
 obtain ⟨r,hr1,hr2⟩:=hr
 obtain ⟨r',hr1',hrl,hrp,_⟩:=hW.root
 rw [hr1] at hr1'; cases hr1'
 have all:=Ef hW (G:=1 :: F) (List.nodup_cons.2 ⟨h1,hFn⟩) (fun j hj=>by
  rcases List.mem_cons.1 hj with rfl | hj
  ·
   rw [bV hr1,hrl]
  ·
   obtain ⟨y,y1,y2,_⟩:=h.live j hj
   rw [bV y1,y2]) (by simp only [List.length_cons]; omega)
 have only:∀ j,j ∈ oQ d↔j=id:=fun j=>by
  rw [BV]
  constructor
  ·
   rintro ⟨y,y1,y2,y3,y4⟩
   have hj:=all j (by rw [bV y1,y2])
   rcases List.mem_cons.1 hj with q | hj
   ·
    exact absurd q y4
   ·
    by_cases q:j=id
    ·
     exact q
    ·
     exfalso
     obtain ⟨y',y1',_,y5,_⟩:=h.sub hW hp j hj q
     rw [y1] at y1'; cases y1'
     rw [y3] at y5
     have:=h.Fh 0 y5
     omega
  ·
   rintro rfl
   refine ⟨z,hz,hl,?_,fun q=>h1 (q ▸ hid)⟩
   by_cases hz0:z.parent=0
   ·
    exact hz0
   ·
    exfalso
    obtain ⟨p,p1,p2,p3,_⟩:=hW.par j z hz hl hz0
    rcases List.mem_cons.1 (all z.parent (by rw [bV p1,p2])) with q | q
    ·
     rw [q,hr1] at p1; cases p1
     rw [hr2] at p3; cases p3
    ·
     obtain ⟨l1,hp1⟩:=h.path hW hp z.parent q
     have:=hp.uniq (.up hz hl hz0 hp1)
     have:=congrArg List.length this
     simp at this; omega
 have hn:(oQ d).Nodup:=by
  refine List.Pairwise.filter _ ?_
  unfold nums
  refine List.Pairwise.map _ ?_ List.nodup_range
  intro a b hab q; apply hab; omega
 match hL:oQ d with
 | []=>have:=(only id).2 rfl; rw [hL] at this; cases this
 | [a]=>have:=(only a).1 (by rw [hL]; exact List.mem_cons_self); rw [this]
 | a :: b :: l =>
  have ea:=(only a).1 (by rw [hL]; exact List.mem_cons_self)
  have eb:=(only b).1 (by rw [hL]; exact List.mem_cons_of_mem _ List.mem_cons_self)
  rw [hL,ea,eb] at hn
  simp at hn
def li (k:Int):Tree:=Tree.mk [108,105] (([(IntKind.wrap .u8 (IntKind.wrap .i64 (48 + k)))]).map fun (n:Int)=>UInt8.ofNat n.toNat) [] [] [(Tree.mk [] [] (([(IntKind.wrap .u8 (IntKind.wrap .i64 (97 + k)))]).map fun (n:Int)=>UInt8.ofNat n.toNat) [] [])]
theorem F4 {a b:Int} (ha:0 ≤ a∧a ≤ 9) (hb:0 ≤ b∧b ≤ 9) (h:kd (li a)=kd (li b)):a=b:=by
 have key:∀ i ∈ List.range 10,∀ j ∈ List.range 10,kd (li (i:Int))=kd (li (j:Int))→i=j:=by decide +kernel
 have:=key a.toNat (List.mem_range.2 (by omega)) b.toNat (List.mem_range.2 (by omega)) (by rw [Int.toNat_of_nonneg ha.1,Int.toNat_of_nonneg hb.1]; exact h)
 omega
theorem I6 (k:Int):Rt (li k):=by simp [li,Rt,F5]
theorem EZ (k:Int):iK (li k)=2:=by simp [li,iK,fQ]
theorem I7 (k:Int):W.lC (li k)=2:=by simp [li,W.lC,W.lC.lsz]
def ul (ks:List Int):Tree:=Tree.mk [117,108] [] [] [] (ks.map li)
theorem CW:∀ (ks:List Int),fQ (ks.map li)=2 * ks.length
 | []=>rfl
 | k :: ks=>by simp only [List.map_cons,fQ,EZ,CW ks,List.length_cons]; omega
theorem FC:∀ (ks:List Int),F5 (ks.map li)
 | []=>trivial
 | k :: ks=>⟨I6 k,FC ks⟩
theorem FH (ks:List Int):iK (ul ks)=1 + 2 * ks.length:=by simp only [ul,iK,CW]
theorem Ez (ks:List Int):Rt (ul ks):=by simp [ul,Rt,FC]
structure Keys (ks:List Int):Prop where
 nd:ks.Nodup
 rg:∀ k ∈ ks,0 ≤ k∧k ≤ 9
 len:ks.length ≤ 9
theorem zw {n:Nat} (a1:List Int):∀ (r i f:Nat) (m:List (Int × Bool)) (ks:List Int),i + r=min a1.length 9→r < f→ks.Nodup→(∀ k ∈ ks,0 ≤ k∧k ≤ 9)→ks.length ≤ i→(∀ k,fe m k false=decide (k ∈ ks)) →
  ∃ ks',aW n a1 f m (ks.map li) ks (i:Int)=some (ks'.map li,ks')∧Keys ks'
 | 0,i,f + 1,m,ks,hi,hf,hn,hr,hl,hm=>by
  refine ⟨ks,?_,⟨hn,hr,by omega⟩⟩
  rw [aW,if_neg (by simp only [Bool.and_eq_true,decide_eq_true_eq]; omega)]
 | r + 1,i,f + 1,m,ks,hi,hf,hn,hr,hl,hm=>by
  have hii:i < a1.length:=by omega
  rw [aW,if_pos (by simp only [Bool.and_eq_true,decide_eq_true_eq]; omega),lN,List.getElem?_eq_getElem hii,Option.bind_some]
  obtain ⟨k,hk,k0,k9⟩:=Eg n a1[i] 0 9 (by omega) (by omega) (by omega)
  rw [hk,Option.bind_some,hm k]
  have hw:IntKind.wrap .i64 ((i:Int) + 1)=((i + 1:Nat):Int):=by rw [oJ (by omega) (by omega)]; push_cast; rfl
  by_cases hmem:k ∈ ks
  ·
   rw [if_neg (by simp [hmem]),bT,hw]
   exact zw a1 r (i + 1) f m ks (by omega) (by omega) hn hr (by omega) hm
  ·
   rw [if_pos (by simp [hmem]),jU (by rw [bnd]; simp; omega),Option.bind_some,jU (by rw [bnd]; simp; omega),Option.bind_some,bT,hw]
   have e:ks.map li ++ [li k]=(ks ++ [k]).map li:=by simp
   have:=zw (n:=n) a1 r (i + 1) f (iD m k true) (ks ++ [k]) (by omega) (by omega)
    (List.nodup_append.2 ⟨hn,by simp,fun a ha b hb q=>by simp at hb; subst hb; subst q; exact hmem ha⟩)
    (fun j hj=>(List.mem_append.1 hj).elim (hr j) (fun h=>by simp at h; subst h; exact ⟨k0,k9⟩))
    (by simp; omega) (fun j=>by
     rw [pz,hm j]
     by_cases q:j=k
     ·
      subst q; simp
     ·
      simp [q])
   rw [← e] at this
   exact this
theorem FU {n:Nat} (hn:10 ≤ n) (a:List Int):∃ ks,dD n a=some (ks.map li,ks)∧Keys ks:=by
 unfold dD
 exact zw a (min a.length 9) 0 n [] [] (by omega) (by omega) .nil (by simp) (by simp) (fun k=>by simp [DZ])
theorem FV {ks ls:List Int} (h1:Keys ks) (h2:Keys ls) {i j:Nat} {k:Int} (hi:ls[i]? = some k) (hj:ks[j]? = some k):(mF (ks.map li) (ls.map li))[i]? = some (j:Int):=by
 have hkr:=h1.rg k (List.mem_of_getElem? hj)
 have hn:((ls.map li).map kd).Nodup:=by
  rw [List.map_map,List.Nodup,List.pairwise_map]
  exact List.Pairwise.imp_of_mem (fun ha hb hab q=>hab (F4 (h2.rg _ ha) (h2.rg _ hb) q)) h2.nd
 have hmem:∀ x,x ∈ dZ (kd (li k)) (ks.map li) 0↔x=(j:Int):=fun x=>by
  rw [jg]
  constructor
  ·
   rintro ⟨j',t,e1,e2,e3⟩
   rw [List.getElem?_map,Option.map_eq_some_iff] at e1
   obtain ⟨k',e4,rfl⟩:=e1
   have:k'=k:=F4 (h1.rg k' (List.mem_of_getElem? e4)) hkr e2
   subst this
   have hj1:=(List.getElem?_eq_some_iff.1 hj)
   have hj2:=(List.getElem?_eq_some_iff.1 e4)
   obtain ⟨a1,a2⟩:=hj1
   obtain ⟨b1,b2⟩:=hj2
   have:j=j':=by
    rcases Nat.lt_trichotomy j j' with q | q | q
    ·
     exact absurd (a2.trans b2.symm) (List.pairwise_iff_getElem.1 h1.nd j j' a1 b1 q)
    ·
     exact q
    ·
     exact absurd (b2.trans a2.symm) (List.pairwise_iff_getElem.1 h1.nd j' j b1 a1 q)
   rw [e3,this]; congr 1; omega
  ·
   rintro rfl
   exact ⟨j,li k,by rw [List.getElem?_map,hj]; rfl,rfl,by congr 1; omega⟩
 rw [mF,uN _ _ hn i (li k) (by rw [List.getElem?_map,hi]; rfl)]
 match hp:dZ (kd (li k)) (ks.map li) 0 with
 | []=>have:=(hmem j).2 rfl; rw [hp] at this; cases this
 | x :: r =>
  have:=(hmem x).1 (by rw [hp]; exact List.mem_cons_self)
  rw [this]
theorem xW {n:Nat} (hn:6000 ≤ n) {ks ls was now:List Int} {b:Bool} {d:au} {m:List (Int × Int)} (hW:WF d) (h1:Keys ks) (h2:Keys ls) (hm:∀ k,(∀ v,oq m k=some v→∃ j:Nat,ks[j]? = some k∧was[j]? = some v))
  (hkeep:∀ i j:Nat,∀ k,ls[i]? = some k→ks[j]? = some k→now[i]? = was[j]?) {F:List Int} (hT:iy d now (ls.map li) F) {e:Option Bool}
  (he:∀ f,aU n (ls.map li,ls) (b,d) now m (f + 1) (ls.length:Int)=e):∀ (r i f:Nat),i + r=ls.length→r < f→aU n (ls.map li,ls) (b,d) now m f (i:Int)=e
 | 0,i,f + 1,hi,hf=>by rw [show i=ls.length by omega]; exact he f
 | r + 1,i,f + 1,hi,hf=>by
  have hii:i < ls.length:=by omega
  have hg:ls[i]? = some ls[i]:=List.getElem?_eq_getElem hii
  have hw:IntKind.wrap .i64 ((i:Int) + 1)=((i + 1:Nat):Int):=by
   have:=h2.len
   rw [oJ (by omega) (by omega)]; push_cast; rfl
  obtain ⟨c,Fc,hc,hT1,_⟩:=hT.at i (li ls[i]) (by rw [List.getElem?_map,hg]; rfl)
  rw [aU,if_pos (by simp only [decide_eq_true_eq]; omega),lN,hg,Option.bind_some,lN,hc]
  have e1:(if (oq m ls[i]).isSome=true then ((some c).bind fun z72=>(some (z72 != (fe m ls[i] 0)))) else some false)=some false:=by
   by_cases q:(oq m ls[i]).isSome=true
   ·
    rw [if_pos q,Option.bind_some]
    obtain ⟨v,hv⟩:=Option.isSome_iff_exists.1 q
    obtain ⟨j,j1,j2⟩:=hm _ v hv
    have:=hkeep i j _ hg j1
    rw [hc,j2] at this
    cases this
    have hD:fe m ls[i] 0=c:=by unfold fe; rw [hv]; rfl
    simp [hD]
   ·
    rw [if_neg q]
  rw [e1,Option.bind_some,if_neg (by simp),Option.bind_some]
  simp only []
  rw [zK hW hT1 (by rw [EZ]; omega),Option.bind_some,if_neg (by simp),lN,List.getElem?_map,hg,Option.map_some,Option.bind_some,W.Bw 2 _ _ (by rw [I7]; omega) (by omega) n (by omega),Option.bind_some,df,W.yS,if_neg (by simp),hw]
  exact xW hn hW h1 h2 hm hkeep hT he r (i + 1) f (by omega) (by omega)
theorem xn {n:Nat} {z4:List Tree × List Int} {ks was now:List Int} {z29:Bool × au} (h1:Keys ks) (hl:was.length=ks.length) {e:Option Bool}
  (he:∀ m:List (Int × Int),(∀ k v,oq m k=some v→∃ j:Nat,ks[j]? = some k∧was[j]? = some v)→aU n z4 z29 now m n 0=e):∀ (r i f:Nat) (m:List (Int × Int)),i + r=ks.length→r < f→(∀ k v,oq m k=some v→∃ j:Nat,ks[j]? = some k∧was[j]? = some v) →
  bJ n (ks.map li,ks) z4 was z29 now f m (i:Int)=e
 | 0,i,f + 1,m,hi,hf,hm=>by rw [bJ,if_neg (by simp only [decide_eq_true_eq]; omega)]; exact he m hm
 | r + 1,i,f + 1,m,hi,hf,hm=>by
  have hii:i < ks.length:=by omega
  have hw:IntKind.wrap .i64 ((i:Int) + 1)=((i + 1:Nat):Int):=by
   have:=h1.len
   rw [oJ (by omega) (by omega)]; push_cast; rfl
  rw [bJ,if_pos (by simp only [decide_eq_true_eq]; omega),lN,List.getElem?_eq_getElem hii,Option.bind_some,lN,List.getElem?_eq_getElem (show i < was.length by omega),Option.bind_some,hw]
  refine xn h1 hl he r (i + 1) f _ (by omega) (by omega) (fun k v hv=>?_)
  rw [uo] at hv
  by_cases q:k=ks[i]
  ·
   rw [if_pos (by simp [q])] at hv
   cases hv
   exact ⟨i,by rw [q]; exact List.getElem?_eq_getElem hii,List.getElem?_eq_getElem (by omega)⟩
  ·
   rw [if_neg (by simpa using q)] at hv
   exact hm k v hv
set_option maxRecDepth 100000 in
theorem zo:fZ 10000=some true:=by decide +kernel
theorem G9 (a1 a2:List Int):gM 10000 a1 a2=some true:=by
 obtain ⟨ks,e1,h1⟩:=FU (n:=10000) (by omega) a1
 obtain ⟨ls,e2,h2⟩:=FU (n:=10000) (by omega) a2
 have l1:=h1.len
 have l2:=h2.len
 have n1:=FH ks
 have n2:=FH ls
 have l0:vT.l.length=1:=rfl
 have c0:cnt vT=1:=rfl
 obtain ⟨id,d1,F1,e3,P⟩:=CE 10000 (ul ks) vT Ga (Ez ks) (by omega) (by omega)
 obtain ⟨z1,hz1,hl1,hp1⟩:=P.top
 have len1:=P.len
 obtain ⟨d2,F2,e4,T⟩:=De 10000 (ul ls) (ul ks) d1 id F1 P.wf P.ta (Ez ks) (Ez ls) rfl rfl (by omega) (by omega)
 obtain ⟨za,z2,hza,hz2,hk⟩:=T.kids
 rw [hz1] at hza; cases hza
 obtain ⟨_,k1⟩:=P.ta.kl hz1
 obtain ⟨hl2,k2⟩:=T.ta.kl hz2
 have k1':z1.kids.length=ks.length:=by rw [k1]; simp [ul,Tree.Kids]
 have k2':z2.kids.length=ls.length:=by rw [k2]; simp [ul,Tree.Kids]
 have f1:=P.ta.len
 have f2:=T.ta.len
 have c1:=P.cnt
 have c2:=T.cnt
 have hroot:nd d1 1=some l6:=P.old 1 l6 (by rw [y8]; rfl) rfl
 have hF1:(1:Int) ∉ F1:=fun h=>by have:=P.new 1 h; rw [bV (by rw [y8]; rfl:nd vT 1=some l6)] at this; cases this
 have hroot2:nd d2 1=some l6:=by rw [T.fr 1 hF1 (by rw [bV hroot]; rfl)]; exact hroot
 have hF2:(1:Int) ∉ F2:=fun h=>by
  obtain ⟨G,hG⟩:=T.ta.head
  obtain ⟨l,hp⟩:=T.wf.path id (by rw [bV hz2,hl2])
  by_cases q:(1:Int)=id
  ·
   exact P.ne1 q.symm
  ·
   obtain ⟨y,y1,_,y2,_⟩:=T.ta.sub T.wf hp 1 h q
   rw [hroot2] at y1; cases y1
   have:=T.ta.Fh _ y2
   have e:l6.parent=0:=rfl
   omega
 have hloose:=Du T.wf T.ta hF2 ⟨_,hroot2,rfl⟩ (by omega)
 obtain ⟨FF,hTs⟩:∃ FF,iy d2 z2.kids (ls.map li) FF:=by
  exact T.ta.Io hz2
 have hkeep:∀ i j:Nat,∀ k,ls[i]? = some k→ks[j]? = some k→z2.kids[i]? = z1.kids[j]?:=fun i j k hi hj=>by
  have:=hk i (j:Int) (FV h1 h2 hi hj) (by omega)
  rw [this,lN]
 unfold gM
 rw [e1,Option.bind_some,e2,Option.bind_some,Hw,Option.bind_some,FX]
 simp only []
 rw [show Tree.mk [117,108] [] [] [] (ks.map li)=ul ks from rfl,show Tree.mk [117,108] [] [] [] (ls.map li)=ul ls from rfl,e3,Option.bind_some]
 simp only []
 rw [zb P.wf,hz1]
 simp only [hl1,if_true,Option.bind_some]
 rw [if_neg (by simp; omega),e4,Option.bind_some,if_neg (by simp)]
 simp only []
 rw [zb T.wf,hz2]
 simp only [hl2,if_true,Option.bind_some]
 rw [if_neg (by simp; omega)]
 refine xn h1 k1' (e:=some true) (fun m hm=>?_) ks.length 0 10000 [] (by omega) (by omega) (fun k v hv=>by simp [oq,eQ] at hv)
 refine xW (n:=10000) (by omega) T.wf h1 h2 hm hkeep hTs (fun f=>?_) ls.length 0 10000 (by omega) (by omega)
 rw [aU,if_neg (by simp),countP T.wf,Option.bind_some,if_pos (by dsimp only; rw [oJ (n:=2 * _) (by omega) (by omega),oJ (by omega) (by omega)]; simp; omega),Fx T.wf (by omega),Option.bind_some,hloose,if_pos (by simp),zo]
 rfl
end Pr
end Go.Ev

import Derived.Test.YtjlfkpfombdelaaDoorPartC
namespace Go.Ev
namespace Pr
set_option linter.unusedVariables false
set_option linter.unusedSimpArgs false
theorem vC (n:Nat) (c d:UInt8) (t:Str):strings_CutPrefix n (d :: t) [c]=some (if d=c then (t,true) else (d :: t,false)):=by
 unfold strings_CutPrefix bY bW
 have e1:cut (d :: t) 0 (([c]:Str).length:Int)=some [d]:=by unfold cut; rw [if_pos ⟨by simp,by simp,by simp; omega⟩]; simp
 have e2:cut (d :: t) (([c]:Str).length:Int) ((d :: t).length:Int)=some t:=by unfold cut; rw [if_pos ⟨by simp,by simp; omega,by simp⟩]; simp
 rw [if_pos (by simp; omega),e1,e2]
 by_cases h:d=c
 ·
  subst h; simp
 ·
  rw [if_neg h]; simp [h]
theorem zZ (n:Nat) (c:UInt8) (s:Str) (h:s.length ≤ 1000000):strings_CutSuffix n s [c]=some (if s.getLast? = some c then (s.dropLast,true) else (s,false)):=by
 unfold strings_CutSuffix bX bZ
 by_cases hne:s=[]
 ·
  subst hne; rfl
 ·
  obtain ⟨a,x,rfl⟩:∃ a x,s=a ++ [x]:=⟨s.dropLast,s.getLast hne,(List.dropLast_concat_getLast hne).symm⟩
  have hl:(a ++ [x]).length=a.length + 1:=by simp
  have hw:IntKind.wrap .i64 (((a ++ [x]).length:Int) - (([c]:Str).length:Int))=(a.length:Int):=by
   rw [hl]
   simp only [List.length_cons,List.length_nil]
   rw [wQ (by omega) (by omega)]; omega
  have e1:cut (a ++ [x]) (a.length:Int) ((a ++ [x]).length:Int)=some [x]:=by
   unfold cut
   rw [if_pos ⟨by omega,by omega,by omega⟩]
   congr 1
   rw [Int.toNat_natCast,Int.toNat_natCast,List.take_length]
   simp
  have e2:cut (a ++ [x]) 0 (a.length:Int)=some a:=by
   unfold cut
   rw [if_pos ⟨by omega,by omega,by omega⟩]
   simp
  rw [if_pos (by simp; omega),hw,e1,e2,List.getLast?_concat,List.dropLast_concat]
  by_cases h:x=c
  ·
   rw [h]; simp
  ·
   simp [h]
theorem wT (n:Nat) (s:Str) (h:s.length ≤ 1000000):fH n s=some (fZ s):=by
 unfold fH
 cases s with
 | nil=>rfl
 | cons c t =>
  rw [vC,Option.bind_some,vC,Option.bind_some]
  by_cases h1:c=42
  ·
   subst h1; rw [yj]; rfl
  ·
   rw [if_neg h1,if_neg (by simp)]
   by_cases h2:c=58
   ·
    subst h2
    rw [if_pos rfl,if_neg (by simp),uQ,zZ n 63 t (by simp at h; omega),Option.bind_some]
    by_cases h3:t.getLast? = some 63
    ·
     rw [if_pos h3,if_pos rfl,if_pos h3]
    ·
     rw [if_neg h3,if_neg (by simp),if_neg h3]
   ·
    rw [if_neg h2,zh _ h1 h2]; rfl
theorem qC {a b:Str} (h:a.length + b.length ≤ 100000):cat a b=some (a ++ b):=by unfold cat; rw [if_pos (by omega)]
theorem yh {l:List Seg} (hl:l.length ≤ 8):∀ (rest done:List Seg) (k:Nat) (acc:Str),l=done ++ rest→rest.length < k→(∀ y ∈ rest,y.Text.length ≤ 16∧0 ≤ y.Kind∧y.Kind ≤ 3)→acc.length ≤ 100 * done.length→aT l k acc (done.length:Int)=some (acc ++ dW rest)
 | [],done,k + 1,acc,h,hk,hy,ha=>by
  rw [aT,if_neg (by rw [decide_eq_true_eq,h]; simp)]
  simp [dW]
 | x :: rest,done,k + 1,acc,h,hk,hy,ha=>by
  have hlen:l.length=done.length + rest.length + 1:=by rw [h]; simp; omega
  have hw:IntKind.wrap .i64 ((done.length:Int) + 1)=(((done ++ [x]).length:Nat):Int):=by rw [wQ (by omega) (by omega)]; simp
  obtain ⟨y1,y2,y3⟩:=hy x List.mem_cons_self
  have hb:qy acc 47=some (acc ++ [47]):=Ah (c:=47) (by omega)
  have fin:∀ t:Str,t.length ≤ 18→jg x=t→bO (done.length:Int) (aT l k) (acc ++ [47] ++ t)=some (acc ++ dW (x :: rest)):=fun t ht e=>by
   unfold bO
   rw [hw,yh hl rest (done ++ [x]) k _ (by rw [h]; simp) (by simp at hk; omega) (fun y hm=>hy y (List.mem_cons_of_mem _ hm)) (by simp; omega)]
   simp [dW,e]
  have bs:∀ t:Str,t.length ≤ 18→vg (acc ++ [47]) t=some (acc ++ [47] ++ t):=fun t ht=>by
   unfold vg; rw [if_pos (by rw [bnd]; simp; omega)]
  rw [aT,if_pos (by rw [decide_eq_true_eq]; omega),mi h,Option.bind_some,hb,Option.bind_some]
  by_cases k0:x.Kind=0
  ·
   rw [if_pos (by simpa using k0),bs _ (by omega),Option.bind_some,fin _ (by omega) (by unfold jg; rw [if_pos k0])]
  ·
   rw [if_neg (by simpa using k0)]
   by_cases k1:x.Kind=1
   ·
    rw [if_pos (by simpa using k1),qC (by simp; omega),Option.bind_some,bs _ (by simp; omega),Option.bind_some,fin _ (by simp; omega) (by unfold jg; rw [if_neg k0,if_pos k1]; rfl)]
   ·
    rw [if_neg (by simpa using k1)]
    by_cases k2:x.Kind=2
    ·
     rw [if_pos (by simpa using k2),qC (by simp; omega),Option.bind_some,qC (by simp; omega),Option.bind_some,bs _ (by simp; omega),Option.bind_some,fin _ (by simp; omega) (by unfold jg; rw [if_neg k0,if_neg k1,if_pos k2]; rfl)]
    ·
     rw [if_neg (by simpa using k2),qC (by simp; omega),Option.bind_some,bs _ (by simp; omega),Option.bind_some,fin _ (by simp; omega) (by unfold jg; rw [if_neg k0,if_neg k1,if_neg k2]; rfl)]
theorem oz {n:Nat} (hn:100 ≤ n) (l:List Seg):dM n l=some (fE l):=by
 unfold dM fE
 rw [qP hn,Option.bind_some]
 cases hr:eP l with
 | false=>rfl
 | true =>
  have h:=(jm l).1 hr
  rw [if_neg (by simp),if_pos rfl]
  cases l with
  | nil=>rfl
  | cons x l =>
   rw [if_neg (by simp; omega),if_neg (by simp)]
   have:=yh h.1 (x :: l) [] n [] rfl (by omega) (fun y hy=>⟨(pq (h.2.1 y hy).1).2.1,(h.2.1 y hy).2⟩) (by simp)
   simpa using this
theorem kT {c:UInt8}:∀ (s:Str),(cz c s).length ≤ s.length + 1∧cz c s ≠ []∧∀ y ∈ cz c s,y.length ≤ s.length
 | []=>by simp [cz]
 | b :: s=>by
  obtain ⟨h1,h2,h3⟩:=kT (c:=c) s
  rw [cz]
  split
  ·
   refine ⟨by simp; omega,by simp,fun y hy=>?_⟩
   rcases List.mem_cons.1 hy with rfl | hy
   ·
    simp
   ·
    have:=h3 y hy; simp; omega
  ·
   cases hs:cz c s with
   | nil=>exact absurd hs h2
   | cons x r =>
    rw [hs] at h1 h3
    refine ⟨by simp at h1 ⊢; omega,by simp,fun y hy=>?_⟩
    rcases List.mem_cons.1 hy with rfl | hy
    ·
     have:=h3 x List.mem_cons_self; simp; omega
    ·
     have:=h3 y (List.mem_cons_of_mem _ hy); simp; omega
theorem uq {n:Nat} (hn:100 ≤ n) (z:List Str) (hz:z.length ≤ 100000):∀ (rest done:List Str) (k:Nat),z=done ++ rest→rest.length < k→(∀ y ∈ rest,y.length ≤ 1000000)→done.length ≤ 8 →
  bI n z k (done.map fZ) (done.length:Int)=some (if (z.map fZ).length ≤ 8∧eP (z.map fZ)=true then (z.map fZ,true) else ([],false))
 | [],done,k + 1,h,hk,hy,hd=>by
  have e:z=done:=by rw [h]; simp
  subst e
  rw [bI,if_neg (by rw [decide_eq_true_eq]; omega),qP hn,Option.bind_some]
  cases hr:eP (z.map fZ) with
  | false =>
   have e:¬ ((z.map fZ).length ≤ 8∧false=true):=by simp
   rw [if_neg e]; rfl
  | true =>
   have e:((z.map fZ).length ≤ 8∧true=true):=⟨by simpa using hd,rfl⟩
   rw [if_pos e]; rfl
 | x :: rest,done,k + 1,h,hk,hy,hd=>by
  have hlen:z.length=done.length + rest.length + 1:=by rw [h]; simp; omega
  have hw:IntKind.wrap .i64 ((done.length:Int) + 1)=(((done ++ [x]).length:Nat):Int):=by rw [wQ (by omega) (by omega)]; simp
  rw [bI,if_pos (by rw [decide_eq_true_eq]; omega),mi h,Option.bind_some]
  by_cases h8:done.length=8
  ·
   rw [if_pos (by simp [h8]),if_neg (by simp; omega)]
  ·
   rw [if_neg (by simp; omega),wT n x (hy x List.mem_cons_self),Option.bind_some,xn (by rw [bnd]; simp; omega),Option.bind_some,hw]
   have:=uq hn z hz rest (done ++ [x]) k (by rw [h]; simp) (by simp at hk; omega) (fun y hm=>hy y (List.mem_cons_of_mem _ hm)) (by simp; omega)
   rw [List.map_append] at this
   exact this
theorem nL {n:Nat} (s:Str) (hs:s.length ≤ 1000) (hn:2000 ≤ n):cO n s=some (fI s):=by
 unfold cO fI
 by_cases h:s=[47]
 ·
  rw [if_pos (by simpa using h),if_pos h]
 ·
  rw [if_neg (by simpa using h),if_neg h]
  cases s with
  | nil=>rfl
  | cons c r =>
   rw [vC,Option.bind_some]
   simp only []
   by_cases h2:c=47
   ·
    rw [if_pos h2,if_pos h2,if_neg (by simp)]
    simp only [List.length_cons] at hs
    obtain ⟨g1,g2,g3⟩:=kT (c:=47) r
    have e:strings_Split n r [47]=some (cz 47 r):=by
     show (if r.length ≤ 1000000 then some (cz 47 r) else none)=_
     rw [if_pos (by omega)]
    rw [e,Option.bind_some]
    exact uq (by omega) (cz 47 r) (by omega) (cz 47 r) [] n rfl (by omega) (fun y hy=>by have:=g3 y hy; omega) (by simp)
   ·
    rw [if_neg h2,if_neg h2]; rfl
theorem Ai (x y:Seg):Seg.beq x y=decide (x=y):=by
 obtain ⟨a,b⟩:=x
 obtain ⟨c,d⟩:=y
 simp only [Seg.beq,Seg.mk.injEq,Bool.and_true]
 by_cases h:a=c
 ·
  by_cases h':b=d
  ·
   simp [h,h']
  ·
   simp [h,h']
 ·
  simp [h]
theorem xX {a b:List Seg} (hl:a.length=b.length) (ha:a.length ≤ 100000):∀ (r s d e:List Seg) (k:Nat),a=d ++ r→b=e ++ s→d.length=e.length→r.length < k→aP a b k (d.length:Int)=some (decide (r=s))
 | [],s,d,e,k + 1,h1,h2,h3,hk=>by
  have:s=[]:=by
   have:s.length=0:=by rw [h1,h2] at hl; simp at hl; omega
   exact List.length_eq_zero_iff.1 this
  subst this
  rw [aP,if_neg (by rw [decide_eq_true_eq,h1]; simp)]; rfl
 | x :: r,s,d,e,k + 1,h1,h2,h3,hk=>by
  cases s with
  | nil=>rw [h1,h2] at hl; simp at hl; omega
  | cons y s =>
   have hlen:a.length=d.length + r.length + 1:=by rw [h1]; simp; omega
   have hw:IntKind.wrap .i64 ((d.length:Int) + 1)=(((d ++ [x]).length:Nat):Int):=by rw [wQ (by omega) (by omega)]; simp
   have i2:idx b (d.length:Int)=some y:=by rw [h3]; exact mi h2
   rw [aP,if_pos (by rw [decide_eq_true_eq]; omega),mi h1,Option.bind_some,i2,Option.bind_some,Ai]
   by_cases hxy:x=y
   ·
    rw [if_neg (by simp [hxy]),hw,xX hl ha r s (d ++ [x]) (e ++ [y]) k (by rw [h1]; simp) (by rw [h2]; simp) (by simp [h3]) (by simp at hk; omega)]
    simp [hxy]
   ·
    rw [if_pos (by simp [hxy])]; simp [hxy]
theorem rQ {n:Nat} (a b:List Seg) (ha:a.length ≤ 100000) (hn:a.length < n):bg n a b=some (decide (a=b)):=by
 unfold bg
 by_cases hl:a.length=b.length
 ·
  rw [if_neg (by simp [hl])]
  exact xX hl ha a b [] [] n rfl rfl rfl hn
 ·
  rw [if_pos (by simp; omega)]
  congr 1
  symm
  rw [decide_eq_false_iff_not]
  intro h; rw [h] at hl; exact hl rfl
end Pr
end Go.Ev

namespace Go.Ev
namespace Pr
set_option linter.unusedVariables false
set_option linter.unusedSimpArgs false
theorem zQ:dI 10000=some true:=by decide +kernel
theorem wu {α:Type} (l:List α) (k:Nat):cut l 0 (ym ((l.length:Nat):Int) (k:Int))=some (l.take k):=by
 have e:ym ((l.length:Nat):Int) (k:Int)=((min l.length k:Nat):Int):=by unfold ym; split <;> omega
 unfold cut
 rw [e,if_pos ⟨by omega,by omega,by omega⟩]
 simp [List.take_eq_take_iff,Nat.min_comm]
theorem tF:∀ (l:List Seg),(∀ y ∈ l,gL y.Text=true)→(dW l).length ≤ 19 * l.length
 | [],_=>by simp [dW]
 | x :: l,h=>by
  have h1:=(jd (h x List.mem_cons_self)).2.2
  have h2:=tF l (fun y hy=>h y (List.mem_cons_of_mem _ hy))
  rw [show dW (x :: l)=47 :: (jg x ++ dW l) by simp [dW]]
  simp; omega
theorem qO (l:List Seg):(fE l).length ≤ 160:=by
 unfold fE
 split
 ·
  rename_i h
  have hr:=(jm l).1 h
  split
  ·
   simp
  ·
   have:=tF l (fun y hy=>(hr.2.1 y hy).1)
   have:=hr.1
   omega
 ·
  simp
theorem rH (l:List Seg):fE l=[]↔eP l=false:=by
 unfold fE
 cases h:eP l with
 | false=>simp
 | true =>
  simp only [if_true]
  cases l with
  | nil=>simp
  | cons x l=>simp [dW]
theorem tX:∀ (r:Str),dW ((cz 47 r).map fZ)=47 :: r
 | []=>by rfl
 | b :: r=>by
  have ih:=tX r
  rw [cz]
  by_cases h:b=47
  ·
   subst h
   rw [if_pos (by rfl),List.map_cons,show dW (fZ [] :: (cz 47 r).map fZ)=47 :: (jg (fZ []) ++ dW ((cz 47 r).map fZ)) by simp [dW],ih,r9]
   rfl
  ·
   rw [if_neg (by simpa using h)]
   obtain ⟨_,h2,_⟩:=kT (c:=47) r
   cases hs:cz 47 r with
   | nil=>exact absurd hs h2
   | cons x m =>
    rw [hs] at ih
    simp only [List.map_cons] at ih ⊢
    rw [show dW (fZ x :: m.map fZ)=47 :: (jg (fZ x) ++ dW (m.map fZ)) by simp [dW],r9] at ih
    rw [show dW (fZ (b :: x) :: m.map fZ)=47 :: (jg (fZ (b :: x)) ++ dW (m.map fZ)) by simp [dW],r9]
    have:=(List.cons.inj ih).2
    rw [List.cons_append,this]
theorem sS (s:Str):((fI s).2=true∧fE (fI s).1=s∧s ≠ [])∨((fI s).2=false∧(fI s).1=[]∧¬(s=[47])):=by
 unfold fI
 by_cases h:s=[47]
 ·
  rw [if_pos h,h]; exact .inl ⟨rfl,by decide +kernel,by simp⟩
 ·
  rw [if_neg h]
  cases s with
  | nil=>exact .inr ⟨rfl,rfl,h⟩
  | cons c r =>
   simp only []
   by_cases hc:c=47
   ·
    rw [if_pos hc]
    by_cases hr:((cz 47 r).map fZ).length ≤ 8∧eP ((cz 47 r).map fZ)=true
    ·
     rw [if_pos hr]
     refine .inl ⟨rfl,?_,by simp⟩
     simp only []
     unfold fE
     rw [if_pos hr.2,if_neg (by intro q; exact (kT (c:=47) r).2.1 (List.map_eq_nil_iff.1 q)),tX,hc]
    ·
     rw [if_neg hr]; exact .inr ⟨rfl,rfl,h⟩
   ·
    rw [if_neg hc]; exact .inr ⟨rfl,rfl,h⟩
theorem uF:fE []=[47]:=by decide +kernel
theorem zt (a b:bq) (raw:List Seg) (s:Str):dH 10000 a b raw s=some true:=by
 obtain ⟨l,hl,hl2⟩:=yc (n:=10000) (by omega) a
 obtain ⟨m,hm,hm2⟩:=yc (n:=10000) (by omega) b
 obtain ⟨rl,rl5,_⟩:=hl2.right
 obtain ⟨rm,rm5,_⟩:=hm2.right
 unfold dH
 have hpl:=qO l
 have cl:=jY rl
 have cm:=jY rm
 have hxy:((fE l == fE m) == decide (l=m))=true:=by
  by_cases e:l=m
  ·
   subst e; simp
  ·
   have:¬ (fE l=fE m):=by
    intro q
    rw [q,cm] at cl
    exact e (Prod.mk.inj cl).1.symm
   simp [e,this]
 rw [hl,Option.bind_some,hm,Option.bind_some,oz (by omega),Option.bind_some,oz (by omega),Option.bind_some,nL _ (by omega) (by omega),Option.bind_some,cl]
 rw [if_neg (by simp),rQ l l (by omega) (by omega),rQ l m (by omega) (by omega)]
 simp only [Option.bind_some,decide_true,Bool.not_true,Bool.false_eq_true,if_false,hxy]
 rw [show ((9:Int))=((9:Nat):Int) from rfl,wu,Option.bind_some,oz (by omega),Option.bind_some]
 generalize hr9:raw.take 9=r
 have hr:r.length ≤ 9:=by rw [← hr9]; simp; omega
 have hpr:=qO r
 rw [nL _ (by omega) (by omega),Option.bind_some,qP (by omega),Option.bind_some]
 have h1:((eP r) == (!(fE r == [])))=true:=by
  have:=rH r
  cases q:eP r with
  | false=>rw [q] at this; simp [this.2 rfl]
  | true=>rw [q] at this; simp at this; simp [this]
 have h2:(fI (fE r)).2=eP r∧(eP r=true→(fI (fE r)).1=r):=by
  cases q:eP r with
  | false=>rw [(rH r).2 q]; exact ⟨rfl,by simp⟩
  | true=>rw [jY q]; exact ⟨rfl,fun _=>rfl⟩
 rw [h1,if_neg (by simp),h2.1]
 simp only [Option.bind_some,beq_self_eq_true,Bool.not_true,Bool.false_eq_true,if_false]
 rw [show (if eP r=true then ((bg 10000 (fI (fE r)).1 r).bind fun z30=>(some (!z30))) else some false)=some false by
  cases q:eP r with
  | false=>rfl
  | true=>rw [h2.2 q,if_pos rfl,rQ r r (by omega) (by omega)]; simp]
 simp only [Option.bind_some,Bool.false_eq_true,if_false]
 rw [show ((40:Int))=((40:Nat):Int) from rfl,wu,Option.bind_some]
 generalize hs40:s.take 40=u
 have hu:u.length ≤ 40:=by rw [← hs40]; simp; omega
 rw [nL _ (by omega) (by omega),Option.bind_some,oz (by omega),Option.bind_some,zQ]
 rcases sS u with ⟨e1,e2,e3⟩ | ⟨e1,e2,e3⟩
 ·
  rw [e1,e2]; simp [e3]
 ·
  rw [e1,e2,uF]
  have:([47]:Str) ≠ u:=fun q=>e3 q.symm
  simp [this]
end Pr
end Go.Ev

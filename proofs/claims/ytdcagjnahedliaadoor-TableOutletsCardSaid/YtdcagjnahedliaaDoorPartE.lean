import Derived.Test.YtdcagjnahedliaaDoorPartD
namespace Go.Ev
namespace Pr
namespace C
set_option linter.unusedVariables false
set_option linter.unusedSimpArgs false
set_option linter.unusedSectionVars false
theorem eP (n:Nat) (a lo hi:Int) (h1:lo ≤ hi) (h2:-1000000000000 ≤ lo) (h3:hi ≤ 1000000000000000):∃ r,aR n a lo hi=some r∧lo ≤ r∧r ≤ hi:=by
 unfold aR
 rw [lD (n:=hi - lo) (by omega) (by omega),lD (by omega) (by omega),uK (by omega),Option.bind_some]
 have k1:=Int.tmod_lt_of_pos a (show 0 < hi - lo + 1 by omega)
 have k2:=Int.lt_tmod_of_pos a (show 0 < hi - lo + 1 by omega)
 unfold eU
 by_cases hz:a.tmod (hi - lo + 1) < 0
 ·
  rw [if_pos (by simpa using hz)]
  rw [lD (n:=a.tmod (hi - lo + 1) + hi) (by omega) (by omega),lD (n:=a.tmod (hi - lo + 1) + hi - lo) (by omega) (by omega),lD (n:=a.tmod (hi - lo + 1) + hi - lo + 1) (by omega) (by omega),lD (by omega) (by omega)]
  exact ⟨_,rfl,by omega,by omega⟩
 ·
  rw [if_neg (by simpa using hz),lD (by omega) (by omega)]
  exact ⟨_,rfl,by omega,by omega⟩
theorem lg (n:Nat) (l:List Int) (i:Int) (h:0 ≤ i):∃ r,bO n l i=some r:=by
 unfold bO
 by_cases h0:l.length=0
 ·
  rw [if_pos (by simp; exact List.eq_nil_of_length_eq_zero h0)]; exact ⟨_,rfl⟩
 ·
  rw [if_neg (by simp; intro q; exact h0 (by rw [q]; rfl)),uK (by omega),Option.bind_some]
  have hp:(0:Int) < (l.length:Int):=by omega
  obtain ⟨x,hx,_⟩:=kS l (i:=i.tmod l.length) (Int.tmod_nonneg _ h) (Int.tmod_lt_of_pos _ hp)
  exact ⟨x,by rw [hx]; rfl⟩
theorem BC (l:List Int) (q:Int→Bool):∀ (rest done:List Int) (f:Nat),l=done ++ rest→rest.length < f→l.length < 1000000→∃ r,bJ l (fun y=>some (q y)) f (done.length:Int)=some r∧decide (0 ≤ r)=rest.any q
 | [],done,f + 1,h,hf,hl=>by
  refine ⟨-1,?_,rfl⟩
  rw [bJ,if_neg (by subst h; simp)]
 | z :: rest,done,f + 1,h,hf,hl=>by
  have hd:done.length < l.length:=by subst h; simp
  rw [bJ,if_pos (by rw [decide_eq_true_eq]; omega),jw h,Option.bind_some,Option.bind_some]
  by_cases hq:q z=true
  ·
   rw [if_pos hq]; exact ⟨_,rfl,by simp [hq]⟩
  ·
   rw [if_neg hq,lD (by omega) (by omega)]
   obtain ⟨r,h1,h2⟩:=BC l q rest (done ++ [z]) f (by simp [h]) (by simp at hf; omega) hl
   refine ⟨r,by rw [← h1]; simp,?_⟩
   rw [h2]; simp [hq]
theorem Io (n:Nat) (l:List Int) (q:Int→Bool) (h:l.length < n) (hl:l.length < 1000000):eB n l (fun y=>some (q y))=some (l.any q):=by
 obtain ⟨r,h1,h2⟩:=BC l q l [] n rfl h hl
 unfold eB gz
 rw [show (0:Int)=(([]:List Int).length:Int) from rfl,h1,Option.bind_some,← h2]; rfl
def yX (v:Int):Bool:=decide (-1000 ≤ v) && decide (v ≤ 1000)
theorem GQ (n:Nat) (v:Int):rz n v=some (yX v):=rfl
theorem J3 (n:Nat) (l:List Int) (h:l.length < n) (hl:l.length < 1000000) (hm:∀ v ∈ l,yX v=true):rD n l=some true:=by
 unfold rD
 have e:(fun y2=>mq n y2)=fun y=>some (!yX y):=by funext y; unfold mq; rw [GQ,Option.bind_some]
 rw [e,Io n l _ h hl,Option.bind_some]
 have:(l.any fun y=>!yX y)=false:=by rw [List.any_eq_false]; intro x hx; simp [hm x hx]
 rw [this]; rfl
def Im (m:Nat) (o:On):Prop:=0 ≤ o.N∧o.N < m∧yX o.Add=true
theorem Cw {v:Int}:yX v=true↔-1000 ≤ v∧v ≤ 1000:=by simp [yX]
def letters:Str:=[97,98,99,100,101,102,103,104,105,106,107,108,109,110,111,112,113,114,115,116,117,118,119,120,121,122,48,49,50,51,52,53,54,55,56,57]
def Ar (o:On):Prop:=o.Event ≠ []∧o.Event.length ≤ 16∧kC 0 o.Event letters=some []
theorem xC (n:Nat) (c:aG):∀ (rest done:List On) (f:Nat),c.On=done ++ rest→rest.length < f→c.On.length < 1000000→(∀ o ∈ rest,Im c.Init.length o∧Ar o)→gH n c f (done.length:Int)=some true
 | [],done,f + 1,h,hf,hl,ho=>by rw [gH,if_neg (by rw [h]; simp)]
 | o :: rest,done,f + 1,h,hf,hl,ho=>by
  have hd:done.length < c.On.length:=by rw [h]; simp
  obtain ⟨⟨o1,o2,o3⟩,o4,o5,o6⟩:=ho o (by simp)
  have hT:kC n o.Event [97,98,99,100,101,102,103,104,105,106,107,108,109,110,111,112,113,114,115,116,117,118,119,120,121,122,48,49,50,51,52,53,54,55,56,57]=some []:=o6
  rw [gH,if_pos (by rw [decide_eq_true_eq]; omega),jw h,Option.bind_some]
  rw [if_pos (by simp [o4]; omega),hT,Option.bind_some,Option.bind_some,if_neg (by simp; omega),GQ,Option.bind_some,Option.bind_some,o3,if_neg (by simp),lD (by omega) (by omega)]
  have:=xC n c rest (done ++ [o]) f (by simp [h]) (by simp at hf; omega) hl (fun p hp=>ho p (by simp [hp]))
  simp only [List.length_append,List.length_cons,List.length_nil,Nat.zero_add,Int.natCast_add,Int.cast_ofNat_Int] at this
  exact this
theorem Fv (n:Nat) (hn:30 < n) (c:aG) (h1:c.Init.length ≤ 6) (h2:∀ v ∈ c.Init,yX v=true) (h3:c.On.length ≤ 24) (h4:j5 n c.aF (c.Init.length:Int)=some true) (h5:∀ o ∈ c.On,Im c.Init.length o∧Ar o):ib n c=some true:=by
 unfold ib
 rw [if_neg (by simp; omega),J3 n c.Init (by omega) (by omega) h2,Option.bind_some,Option.bind_some]
 rw [if_neg (by simp; omega),h4,Option.bind_some,Option.bind_some,if_neg (by simp)]
 exact xC n c c.On [] n rfl (by omega) (by omega) h5
mutual
def iY:aF→Nat
 | .mk _ _ _ _ _ ks=>1 + iI ks
def iI:List aF→Nat
 | []=>0
 | t :: l=>iY t + iI l
end
mutual
def nZ:aF→Nat
 | .mk _ _ _ _ _ ks=>1 + kK ks
def kK:List aF→Nat
 | []=>0
 | t :: l=>max (nZ t) (kK l)
end
theorem dL (t:aF):iY t=1 + iI t.Kids:=by cases t; rw [iY]; rfl
theorem qi (t:aF):nZ t=1 + kK t.Kids:=by cases t; rw [nZ]; rfl
theorem zC:∀ (a b:List aF),iI (a ++ b)=iI a + iI b
 | [],b=>by simp [iI]
 | x :: a,b=>by simp only [List.cons_append,iI,zC a b]; omega
theorem Ah:∀ (a b:List aF),kK (a ++ b)=max (kK a) (kK b)
 | [],b=>by simp [kK]
 | x :: a,b=>by simp only [List.cons_append,kK,Ah a b]; omega
theorem kG:∀ (l:List aF),l.length ≤ iI l
 | []=>Nat.le_refl _
 | x :: l=>by
  have:=kG l
  have:=dL x
  simp only [List.length_cons,iI]; omega
theorem zA:∀ {l:List aF} {z:aF},z ∈ l→iY z ≤ iI l
 | x :: l,z,h=>by
  rcases List.mem_cons.1 h with rfl | h
  ·
   simp only [iI]; omega
  ·
   have:=zA h
   simp only [iI]; omega
theorem jy {t z:aF} (h:z ∈ t.Kids):iY z < iY t:=by
 have:=zA h
 have:=dL t; omega
def mQ:Str:=[111,117,116,108,101,116]
mutual
def pg (m:Int):aF→Prop
 | .mk k n g x a ks=>(1 ≤ k∧k ≤ m)∧(k ≠ 1→k ≠ 5→k ≠ 6→ks=[])∧g ≠ mQ∧(0 ≤ n∧n ≤ 4)∧a.length ≤ 64∧KW m ks
def KW (m:Int):List aF→Prop
 | []=>True
 | t :: l=>pg m t∧KW m l
end
theorem Ep {m:Int}:∀ {l:List aF},KW m l↔∀ z ∈ l,pg m z
 | []=>by simp [KW]
 | t :: l=>by
  rw [KW,Ep (l:=l)]; simp
theorem nY {m:Int} (t:aF):pg m t↔(1 ≤ t.Kind∧t.Kind ≤ m)∧(t.Kind ≠ 1→t.Kind ≠ 5→t.Kind ≠ 6→t.Kids=[])∧t.Tag ≠ mQ∧(0 ≤ t.N∧t.N ≤ 4)∧t.bB.length ≤ 64∧(∀ z ∈ t.Kids,pg m z):=by
 cases t
 rw [pg,Ep]; rfl
theorem w9:∀ (m:Nat) (t:aF),iY t ≤ m→pg 6 t→pg 7 t
 | 0,t,h,_=>by have:=dL t; omega
 | m + 1,t,h,g=>by
  obtain ⟨⟨a1,a2⟩,a3,a4,a5,a6,a7⟩:=(nY t).1 g
  exact (nY t).2 ⟨⟨a1,by omega⟩,a3,a4,a5,a6,fun z hz=>w9 m z (by have:=jy hz; omega) (a7 z hz)⟩
theorem yP (n:Nat) (self:aF→Option (Int × Int)) (t:aF) (hs:∀ z ∈ t.Kids,self z=some ((iY z:Int),(nZ z:Int))) (hl:iY t < 1000000) (hD:∀ z ∈ t.Kids,nZ z < 1000000):∀ (rest done:List aF) (k a d:Nat),t.Kids=done ++ rest→rest.length < k→a + iI rest < 2000000→d < 1000000 →
  gI self t k (a:Int) (d:Int) (done.length:Int)=some (((a + iI rest:Nat):Int),((max d (kK rest) + 1:Nat):Int))
 | [],done,k + 1,a,d,h,hk,ha,hd=>by
  rw [gI,if_neg (by rw [h]; simp),lD (by omega) (by omega)]
  simp [iI,kK]
 | z :: rest,done,k + 1,a,d,h,hk,ha,hd=>by
  have hlen:done.length < t.Kids.length:=by rw [h]; simp
  have:=kG t.Kids
  have:=dL t
  have hz:z ∈ t.Kids:=by rw [h]; simp
  have hdz:=hD z hz
  simp only [iI] at ha
  rw [gI,if_pos (by rw [decide_eq_true_eq]; omega),jw h,Option.bind_some,hs z hz,Option.bind_some]
  have e:Gf (d:Int) (nZ z:Int)=((max d (nZ z):Nat):Int):=by unfold Gf; split <;> omega
  simp only [e]
  rw [lD (n:=(a:Int) + (iY z:Int)) (by omega) (by omega),lD (n:=(done.length:Int) + 1) (by omega) (by omega)]
  have:=yP n self t hs hl hD rest (done ++ [z]) k (a + iY z) (max d (nZ z)) (by simp [h]) (by simp at hk; omega) (by omega) (by omega)
  simp only [List.length_append,List.length_cons,List.length_nil,Nat.zero_add,Int.natCast_add,Int.cast_ofNat_Int] at this
  rw [this]
  simp only [iI,kK,Option.some.injEq,Prod.mk.injEq]
  refine ⟨by omega,by omega⟩
theorem Es:∀ (m:Nat) (t:aF),iY t ≤ m→nZ t ≤ iY t
 | 0,t,h=>by have:=dL t; omega
 | m + 1,t,h=>by
  rw [dL,qi]
  have:∀ (l:List aF),(∀ z ∈ l,nZ z ≤ iY z)→kK l ≤ iI l:=by
   intro l
   induction l with
   | nil=>intro _; exact Nat.le_refl _
   | cons z l ih =>
    intro hz
    have h1:=hz z (by simp)
    have h2:=ih (fun y hy=>hz y (by simp [hy]))
    simp only [kK,iI]; omega
  have:=this t.Kids (fun z hz=>Es m z (by have:=jy hz; omega))
  omega
theorem CV:∀ (m:Nat) (t:aF),iY t ≤ m→m < 1000000→∀ n,m < n→iT n t=some ((iY t:Int),(nZ t:Int))
 | 0,t,h,_,n,_=>by have:=dL t; omega
 | m + 1,t,h,hm,n + 1,hn=>by
  have hk:=dL t
  have hlen:=kG t.Kids
  rw [iT]
  have:=yP n (iT n) t (fun z hz=>CV m z (by have:=jy hz; omega) (by omega) n (by omega)) (by omega) (fun z hz=>by
   have:=Es (iY z) z (Nat.le_refl _)
   have:=jy hz; omega) t.Kids [] n 1 0 rfl (by omega) (by omega) (by omega)
  simp only [List.length_nil,Int.natCast_zero,Int.ofNat_zero,Int.cast_ofNat_Int,Int.natCast_one,Int.ofNat_one] at this
  rw [this,dL,qi]
  simp only [Option.some.injEq,Prod.mk.injEq,true_and]
  omega
theorem wm (self:aF→Int→Bool→Option Bool) (t:aF) (b:Bool) (hl:t.Kids.length < 1000000):∀ (rest done:List aF) (k:Nat),t.Kids=done ++ rest→rest.length < k→(∀ z ∈ rest,self z 5 ((b || (t.Kind == 5)) || (t.Kind == 6))=some true) →
  gB self t 5 b k (done.length:Int)=some true
 | [],done,k + 1,h,hk,hs=>by rw [gB,if_neg (by rw [h]; simp)]
 | z :: rest,done,k + 1,h,hk,hs=>by
  have hlen:done.length < t.Kids.length:=by rw [h]; simp
  rw [gB,if_pos (by rw [decide_eq_true_eq]; omega),jw h,Option.bind_some,hs z (by simp),Option.bind_some,if_neg (by simp),lD (by omega) (by omega)]
  have:=wm self t b hl rest (done ++ [z]) k (by simp [h]) (by simp at hk; omega) (fun y hy=>hs y (by simp [hy]))
  simp only [List.length_append,List.length_cons,List.length_nil,Nat.zero_add,Int.natCast_add,Int.cast_ofNat_Int] at this
  exact this
theorem vE (n:Nat) (t:aF) (b:Bool) (h1:1 ≤ t.Kind) (h2:t.Kind ≤ 7) (h3:t.Kind ≠ 1→t.Kind ≠ 5→t.Kind ≠ 6→t.Kids=[]) (h4:t.Tag ≠ mQ) (h5:0 ≤ t.N∧t.N ≤ 4) (h6:t.Kind=7→b=false) (hl:t.Kids.length < n) (hl2:t.Kids.length < 1000000)
  (hs:∀ z ∈ t.Kids,fq n z 5 ((b || (t.Kind == 5)) || (t.Kind == 6))=some true):fq (n + 1) t 5 b=some true:=by
 rw [fq]
 have c1:(((decide (t.Kind < 1)) || (decide (7 < t.Kind))) || ((!(((t.Kind == 1) || (t.Kind == 5)) || (t.Kind == 6))) && (decide (0 < ((t.Kids).length:Int)))))=false:=by
  by_cases k1:t.Kind=1
  ·
   simp [k1]
  ·
   by_cases k5:t.Kind=5
   ·
    simp [k5]
   ·
    by_cases k6:t.Kind=6
    ·
     simp [k6]
    ·
     rw [h3 k1 k5 k6]; simp; omega
 rw [if_neg (by rw [c1]; decide),if_neg (by simpa [mQ] using h4)]
 unfold jd
 have c2:((t.Kind == 7) && b)=false:=by
  by_cases k7:t.Kind=7
  ·
   rw [h6 k7]; simp
  ·
   simp [k7]
 rw [if_neg (by rw [c2]; decide),if_neg (by simp; intro _; omega)]
 exact wm (fq n) t b hl2 t.Kids [] n rfl hl hs
theorem vK:∀ (m:Nat) (t:aF),iY t ≤ m→m < 1000000→pg 6 t→∀ n b,m < n→fq n t 5 b=some true
 | 0,t,h,_,_,n,_,_=>by have:=dL t; omega
 | m + 1,t,h,hm,g,n + 1,b,hn=>by
  obtain ⟨⟨a1,a2⟩,a3,a4,a5,a6,a7⟩:=(nY t).1 g
  have:=kG t.Kids
  have:=dL t
  exact vE n t b a1 (by omega) a3 a4 a5 (fun q=>by omega) (by omega) (by omega) (fun z hz=>vK m z (by have:=jy hz; omega) (by omega) (a7 z hz) n _ (by omega))
mutual
def wo:aF→aF
 | .mk k n g x a ks=>.mk k n g x a (Dy ks)
def Dy:List aF→List aF
 | []=>[]
 | t :: l=>if t.Kind=7 then Dy l else wo t :: Dy l
end
theorem Ej (t:aF):wo t=.mk t.Kind t.N t.Tag t.Text t.bB (Dy t.Kids):=by cases t; rw [wo]; rfl
theorem DN:∀ (m:Nat) (t:aF),iY t ≤ m→iY (wo t) ≤ iY t∧nZ (wo t) ≤ nZ t∧(pg 7 t→t.Kind ≠ 7→pg 6 (wo t))
 | 0,t,h=>by have:=dL t; omega
 | m + 1,t,h=>by
  have key:∀ (l:List aF),(∀ z ∈ l,z ∈ t.Kids)→iI (Dy l) ≤ iI l∧kK (Dy l) ≤ kK l∧((∀ z ∈ l,pg 7 z)→∀ y ∈ Dy l,pg 6 y):=by
   intro l
   induction l with
   | nil=>intro _; exact ⟨Nat.le_refl _,Nat.le_refl _,fun _ y hy=>by simp [Dy] at hy⟩
   | cons z l ih =>
    intro hz
    obtain ⟨i1,i2,i3⟩:=ih (fun y hy=>hz y (by simp [hy]))
    obtain ⟨z1,z2,z3⟩:=DN m z (by have:=jy (hz z (by simp)); omega)
    rw [Dy]
    by_cases hk:z.Kind=7
    ·
     rw [if_pos hk]
     refine ⟨by simp only [iI]; omega,by simp only [kK]; omega,fun hg=>i3 (fun y hy=>hg y (by simp [hy]))⟩
    ·
     rw [if_neg hk]
     refine ⟨by simp only [iI]; omega,by simp only [kK]; omega,fun hg y hy=>?_⟩
     rcases List.mem_cons.1 hy with rfl | hy
     ·
      exact z3 (hg z (by simp)) hk
     ·
      exact i3 (fun y hy=>hg y (by simp [hy])) y hy
  obtain ⟨k1,k2,k3⟩:=key t.Kids (fun z hz=>hz)
  have e:=Ej t
  refine ⟨?_,?_,fun g hk=>?_⟩
  ·
   rw [e,dL,dL t]; show 1 + iI (Dy t.Kids) ≤ _; omega
  ·
   rw [e,qi,qi t]; show 1 + kK (Dy t.Kids) ≤ _; omega
  ·
   obtain ⟨⟨a1,a2⟩,a3,a4,a5,a6,a7⟩:=(nY t).1 g
   rw [e]
   refine (nY _).2 ⟨⟨a1,by show t.Kind ≤ 6; omega⟩,fun q1 q5 q6=>?_,a4,a5,a6,k3 a7⟩
   show Dy t.Kids=[]
   rw [a3 q1 q5 q6]; rfl
theorem qB (self:aF→Option aF) (t:aF) (hs:∀ z ∈ t.Kids,self z=some (wo z)) (hl:t.Kids.length < 1000000):∀ (rest done acc:List aF) (k:Nat),t.Kids=done ++ rest→rest.length < k→acc.length ≤ done.length →
  aT self t k acc (done.length:Int)=some (.mk t.Kind t.N t.Tag t.Text t.bB (acc ++ Dy rest))
 | [],done,acc,k + 1,h,hk,ha=>by
  rw [aT,if_neg (by rw [h]; simp)]; simp [Dy]
 | z :: rest,done,acc,k + 1,h,hk,ha=>by
  have hlen:done.length < t.Kids.length:=by rw [h]; simp
  rw [aT,if_pos (by rw [decide_eq_true_eq]; omega),jw h,Option.bind_some,Dy]
  by_cases hz:z.Kind=7
  ·
   rw [if_neg (by simp [hz]),if_pos hz]
   unfold cB
   rw [lD (by omega) (by omega)]
   have:=qB self t hs hl rest (done ++ [z]) acc k (by simp [h]) (by simp at hk; omega) (by simp; omega)
   simp only [List.length_append,List.length_cons,List.length_nil,Nat.zero_add,Int.natCast_add,Int.cast_ofNat_Int] at this
   exact this
  ·
   rw [if_pos (by simp [hz]),if_neg hz,hs z (by rw [h]; simp),Option.bind_some,iH (by rw [bnd]; simp; omega),Option.bind_some]
   unfold cB
   rw [lD (by omega) (by omega)]
   have:=qB self t hs hl rest (done ++ [z]) (acc ++ [wo z]) k (by simp [h]) (by simp at hk; omega) (by simp; omega)
   simp only [List.length_append,List.length_cons,List.length_nil,Nat.zero_add,Int.natCast_add,Int.cast_ofNat_Int] at this
   rw [this]; simp
theorem sZ:∀ (m:Nat) (t:aF),iY t ≤ m→m < 1000000→∀ n,m < n→bg n t=some (wo t)
 | 0,t,h,_,n,_=>by have:=dL t; omega
 | m + 1,t,h,hm,n + 1,hn=>by
  have:=kG t.Kids
  have:=dL t
  rw [bg]
  have:=qB (bg n) t (fun z hz=>sZ m z (by have:=jy hz; omega) (by omega) n (by omega)) (by omega) t.Kids [] [] n rfl (by omega) (by simp)
  rw [show ((([]:List aF).length:Nat):Int)=0 from rfl] at this
  rw [this,Ej]; simp
theorem wC (self:aF→Option aF) (t:aF) (hs:∀ z ∈ t.Kids,self z=some z) (hl:t.Kids.length < 1000000):∀ (rest done:List aF) (k:Nat),t.Kids=done ++ rest→rest.length < k →
  eG self t t.bB t.Kids k t.Kids (done.length:Int)=some t
 | [],done,k + 1,h,hk=>by
  rw [eG,if_neg (by rw [h]; simp)]; cases t; rfl
 | z :: rest,done,k + 1,h,hk=>by
  have hlen:done.length < t.Kids.length:=by rw [h]; simp
  rw [eG,if_pos (by rw [decide_eq_true_eq]; omega),jw h,Option.bind_some,hs z (by rw [h]; simp),Option.bind_some,Option.bind_some,lD (by omega) (by omega)]
  have e:jJ t.Kids (done.length:Int) z=t.Kids:=by
   unfold jJ
   rw [show ((done.length:Int)).toNat=done.length by omega,h,List.set_append_right _ _ (by omega)]; simp
  rw [e]
  have:=wC self t hs hl rest (done ++ [z]) k (by simp [h]) (by simp at hk; omega)
  simp only [List.length_append,List.length_cons,List.length_nil,Nat.zero_add,Int.natCast_add,Int.cast_ofNat_Int] at this
  exact this
theorem Ab:∀ (m:Nat) (t:aF),iY t ≤ m→m < 1000000→pg 7 t→∀ n,m < n→fu n t=some t
 | 0,t,h,_,_,n,_=>by have:=dL t; omega
 | m + 1,t,h,hm,g,n + 1,hn=>by
  obtain ⟨_,_,_,_,a6,a7⟩:=(nY t).1 g
  have:=kG t.Kids
  have:=dL t
  rw [fu]
  unfold eX fF
  rw [iH (by rw [bnd]; simp; omega),Option.bind_some,iH (by rw [bnd]; simp; omega),Option.bind_some,List.nil_append,List.nil_append]
  exact wC (fu n) t (fun z hz=>Ab m z (by have:=jy hz; omega) (by omega) (a7 z hz) n (by omega)) (by omega) t.Kids [] n rfl (by omega)
def JH (t:bY):Prop:=(1 ≤ t.Kind∧t.Kind ≤ 7)∧t.Tag ≠ mQ∧(0 ≤ t.N∧t.N ≤ 4)∧t.bB.length ≤ 64
def opens (t:bY):Prop:=t.Kind=1∨t.Kind=5∨t.Kind=6
structure Wd (nodes:List bY) (under:List Int) (lv:List Nat):Prop where
 lu:under.length=nodes.length
 ll:lv.length=nodes.length
 pos:0 < nodes.length
 le:nodes.length ≤ 13
 ok:∀ (j:Nat) (t:bY),nodes[j]? = some t→JH t
 root:under[0]? = some (-1)∧lv[0]? = some 1
 par:∀ (j:Nat),0 < j→j < nodes.length→∃ (p:Nat) (t:bY) (v:Nat),under[j]? = some (p:Int)∧p < j∧nodes[p]? = some t∧opens t∧lv[p]? = some v∧lv[j]? = some (v + 1)
 lim:∀ (j v:Nat),lv[j]? = some v→v ≤ 7∧1 ≤ v
section
variable {nodes:List bY} {under:List Int} {lv:List Nat}
theorem EF (h:Wd nodes under lv):∀ (m j v:Nat),j ≤ m→lv[j]? = some v→∀ (k:Nat) (acc:Int),v + 1 < k→0 ≤ acc→acc + v ≤ 60→dE under k (j:Int) acc=some (acc + v)
 | m,0,v,_,hv,k + 2,acc,hk,h0,h1=>by
  have hr:=h.root
  rw [hr.2] at hv; cases hv
  rw [dE,if_pos (by simp; omega)]
  have:idx under ((0:Nat):Int)=some (-1):=by rw [gY]; exact hr.1
  rw [this,Option.bind_some,lD (by omega) (by omega),dE,if_neg (by simp)]
  rfl
 | m + 1,j + 1,v,hj,hv,k + 1,acc,hk,h0,h1=>by
  have hjl:j + 1 < nodes.length:=by
   have:=(List.getElem?_eq_some_iff.1 hv).1
   rw [h.ll] at this; exact this
  obtain ⟨p,t,v',hu,hp,_,_,hvp,hvj⟩:=h.par (j + 1) (by omega) hjl
  rw [hv] at hvj; cases hvj
  have hl:=(h.lim (j + 1) (v' + 1) hv).1
  rw [dE,if_pos (by simp; omega)]
  have:idx under ((j + 1:Nat):Int)=some (p:Int):=by rw [gY]; exact hu
  rw [this,Option.bind_some,lD (by omega) (by omega)]
  rw [EF h m p v' (by omega) hvp k (acc + 1) (by omega) (by omega) (by omega)]
  congr 1
  push_cast; omega
 | m,0,v,_,hv,1,acc,hk,_,_=>by omega
theorem GY (h:Wd nodes under lv) (n:Nat) (hn:20 < n) {j v:Nat} (hv:lv[j]? = some v):jh n under (j:Int)=some (v:Int):=by
 have hl:=(h.lim j v hv).1
 unfold jh
 rw [EF h j j v (Nat.le_refl _) hv n 0 (by omega) (by omega) (by omega)]
 simp
def ni (under:List Int) (at_:Nat) (l:List Nat):List Nat:=l.filter fun j=>under[j]? == some (at_:Int)
def xn (nodes:List bY) (under:List Int):Nat→Nat→aF
 | 0,_=>.mk 0 0 [] [] [] []
 | f + 1,j=>match nodes[j]? with
  | some t=>.mk t.Kind t.N t.Tag t.Text t.bB ((ni under j (List.range nodes.length)).map (xn nodes under f))
  | none=>.mk 0 0 [] [] [] []
theorem rT (h:Wd nodes under lv) {j i:Nat} {l:List Nat} (hi:i ∈ ni under j l):i < nodes.length∧j < i∧∃ v,lv[j]? = some v∧lv[i]? = some (v + 1)∧∃ t,nodes[j]? = some t∧opens t:=by
 obtain ⟨_,h2⟩:=List.mem_filter.1 hi
 have h2:=eq_of_beq h2
 have hil:i < nodes.length:=by rw [← h.lu]; exact (List.getElem?_eq_some_iff.1 h2).1
 cases i with
 | zero=>rw [h.root.1] at h2; cases h2
 | succ i =>
  obtain ⟨p,t,v,hu,hp,ht,htg,hvp,hvj⟩:=h.par (i + 1) (by omega) hil
  rw [hu] at h2
  have:p=j:=by have:=Option.some.inj h2; omega
  subst this
  exact ⟨hil,hp,v,hvp,hvj,t,ht,htg⟩
theorem BV (h:Wd nodes under lv):∀ (f g j:Nat),j < nodes.length→nodes.length ≤ j + f→nodes.length ≤ j + g→xn nodes under f j=xn nodes under g j
 | 0,g,j,hj,hf,_=>by omega
 | f + 1,0,j,hj,_,hg=>by omega
 | f + 1,g + 1,j,hj,hf,hg=>by
  rw [xn,xn]
  split
  ·
   congr 1
   apply List.map_congr_left
   intro i hi
   obtain ⟨h1,h2,_⟩:=rT h hi
   exact BV h f g i h1 (by omega) (by omega)
  ·
   rfl
def gt (nodes:List bY) (under:List Int) (j:Nat):aF:=xn nodes under (nodes.length + 1) j
theorem Ey (h:Wd nodes under lv) {j:Nat} {t:bY} (ht:nodes[j]? = some t):gt nodes under j=.mk t.Kind t.N t.Tag t.Text t.bB ((ni under j (List.range nodes.length)).map (gt nodes under)):=by
 unfold gt
 rw [xn]
 simp only [ht]
 congr 1
 apply List.map_congr_left
 intro i hi
 obtain ⟨h1,h2,_⟩:=rT h hi
 exact BV h _ _ i h1 (by omega) (by omega)
theorem vS (h:Wd nodes under lv) (self:List bY→List Int→Int→Option aF) (j:Nat) (z:bY) (hs:∀ i,i < nodes.length→j < i→self nodes under (i:Int)=some (gt nodes under i)):∀ (m i k:Nat) (acc:List aF),nodes.length=i + m→m < k→acc.length ≤ i →
  cz self nodes under (j:Int) z k acc (i:Int)=some (.mk z.Kind z.N z.Tag z.Text z.bB (acc ++ (ni under j (List.range' i m)).map (gt nodes under)))
 | 0,i,k + 1,acc,hm,_,_=>by
  rw [cz,if_neg (by rw [hm]; simp)]
  simp [ni]
 | m + 1,i,k + 1,acc,hm,hk,ha=>by
  have hle:=h.le
  have hil:i < under.length:=by rw [h.lu]; omega
  rw [cz,if_pos (by rw [hm]; simp; omega),gY,List.getElem?_eq_getElem hil,Option.bind_some]
  rw [List.range'_succ]
  by_cases hu:under[i]=(j:Int)
  ·
   have hin:i ∈ ni under j [i]:=by simp [ni,hil,hu]
   obtain ⟨g1,g2,_⟩:=rT h hin
   rw [if_pos (by simpa using hu),hs i g1 g2,Option.bind_some,iH (by rw [bnd]; simp; omega),Option.bind_some]
   unfold fw
   rw [lD (by omega) (by omega)]
   have:=vS h self j z hs m (i + 1) k (acc ++ [gt nodes under i]) (by omega) (by omega) (by simp; omega)
   push_cast at this
   rw [this]
   have:ni under j (i :: List.range' (i + 1) m)=i :: ni under j (List.range' (i + 1) m):=by
    unfold ni; rw [List.filter_cons,if_pos (by simp [hil,hu])]
   rw [this]; simp
  ·
   rw [if_neg (by simpa using hu)]
   unfold fw
   rw [lD (by omega) (by omega)]
   have:=vS h self j z hs m (i + 1) k acc (by omega) (by omega) (by omega)
   push_cast at this
   rw [this]
   have:ni under j (i :: List.range' (i + 1) m)=ni under j (List.range' (i + 1) m):=by
    unfold ni; rw [List.filter_cons,if_neg (by simp [hil,hu])]
   rw [this]
theorem Ef (h:Wd nodes under lv):∀ (n j:Nat),j < nodes.length→2 * nodes.length + 2 ≤ j + n→bZ n nodes under (j:Int)=some (gt nodes under j)
 | 0,j,hj,hn=>by omega
 | n + 1,j,hj,hn=>by
  rw [bZ,gY,List.getElem?_eq_getElem hj,Option.bind_some]
  have:=vS h (bZ n) j nodes[j] (fun i hi hji=>Ef h n i hi (by omega)) nodes.length 0 n [] (by omega) (by omega) (by simp)
  rw [show ((0:Nat):Int)=0 from rfl] at this
  rw [this,Ey h (List.getElem?_eq_getElem hj),List.range_eq_range']
  rfl
theorem ED (h:Wd nodes under lv):∀ (m j v:Nat),nodes.length ≤ j + m→lv[j]? = some v→pg 7 (gt nodes under j)∧nZ (gt nodes under j) + v ≤ 8
 | 0,j,v,hm,hv=>by
  have:=(List.getElem?_eq_some_iff.1 hv).1
  rw [h.ll] at this; omega
 | m + 1,j,v,hm,hv=>by
  have hj:j < nodes.length:=by rw [← h.ll]; exact (List.getElem?_eq_some_iff.1 hv).1
  have ht:=List.getElem?_eq_getElem hj
  have hv7:=h.lim j v hv
  rw [Ey h ht]
  have hk:∀ i ∈ ni under j (List.range nodes.length),pg 7 (gt nodes under i)∧nZ (gt nodes under i) + (v + 1) ≤ 8:=fun i hi=>by
   obtain ⟨g1,g2,v',g3,g4,_⟩:=rT h hi
   rw [hv] at g3; cases g3
   exact ED h m i (v + 1) (by omega) g4
  obtain ⟨a1,a2,a3,a4⟩:=h.ok j _ ht
  refine ⟨(nY _).2 ⟨a1,fun q1 q5 q6=>?_,a2,a3,a4,fun z hz=>?_⟩,?_⟩
  ·
   show List.map _ _=[]
   rw [List.map_eq_nil_iff]
   cases hq:ni under j (List.range nodes.length) with
   | nil=>rfl
   | cons i l =>
    obtain ⟨_,_,_,_,_,t,e1,e2⟩:=rT h (l:=List.range nodes.length) (i:=i) (j:=j) (by rw [hq]; simp)
    rw [ht] at e1; cases e1
    rcases e2 with e | e | e
    ·
     exact absurd e q1
    ·
     exact absurd e q5
    ·
     exact absurd e q6
  ·
   obtain ⟨i,hi,rfl⟩:=List.mem_map.1 hz
   exact (hk i hi).1
  ·
   rw [nZ]
   have:∀ (l:List Nat),(∀ i ∈ l,nZ (gt nodes under i) + (v + 1) ≤ 8)→kK (l.map (gt nodes under)) + (v + 1) ≤ 8:=by
    intro l
    induction l with
    | nil=>intro _; simp only [List.map_nil,kK]; omega
    | cons i l ih =>
     intro hl
     have h1:=hl i List.mem_cons_self
     have h2:=ih (fun i hi=>hl i (List.mem_cons_of_mem _ hi))
     simp only [List.map_cons,kK]; omega
   have:=this _ (fun i hi=>(hk i hi).2)
   omega
def lG (p:Nat→Bool) (f:Nat→Nat):List Nat→Nat
 | []=>0
 | i :: l=>(if p i then f i else 0) + lG p f l
theorem sV (f:Nat→aF) (p:Nat→Bool):∀ (l:List Nat),iI ((l.filter p).map f)=lG p (fun i=>iY (f i)) l
 | []=>rfl
 | i :: l=>by
  rw [List.filter_cons,lG]
  by_cases h:p i=true
  ·
   rw [if_pos h,if_pos h,List.map_cons,iI,sV f p l]
  ·
   rw [if_neg h,if_neg h,sV f p l]; omega
theorem wh (f:Nat→Nat) (p q r:Nat→Bool):∀ (l:List Nat),(∀ i ∈ l,p i=(q i || r i)∧(q i && r i)=false)→lG p f l=lG q f l + lG r f l
 | [],_=>rfl
 | i :: l,h=>by
  obtain ⟨h1,h2⟩:=h i List.mem_cons_self
  have ih:=wh f p q r l (fun i hi=>h i (List.mem_cons_of_mem _ hi))
  rw [lG,lG,lG,h1,ih]
  cases hq:q i <;> cases hr:r i <;> simp_all <;> omega
theorem tZ (f:Nat→Nat) (p:Nat→Bool):∀ (l:List Nat),(∀ i ∈ l,p i=false)→lG p f l=0
 | [],_=>rfl
 | i :: l,h=>by
  rw [lG,h i List.mem_cons_self,tZ f p l (fun i hi=>h i (List.mem_cons_of_mem _ hi))]; simp
theorem zN (f:Nat→Nat) (p:Nat→Bool):∀ (l m:List Nat),lG p f (l ++ m)=lG p f l + lG p f m
 | [],m=>by simp [lG]
 | i :: l,m=>by rw [List.cons_append,lG,lG,zN f p l m]; omega
def ahead (under:List Int) (m:Nat) (j:Nat):Bool:=match under[j]? with
 | some u=>decide (u < (m:Int))
 | none=>false
theorem FU (h:Wd nodes under lv):∀ (d m:Nat),m + d=nodes.length→lG (ahead under m) (fun i=>iY (gt nodes under i)) (List.range' m d)=d
 | 0,m,_=>rfl
 | d + 1,m,hm=>by
  have ih:=FU h d (m + 1) (by omega)
  have hml:m < nodes.length:=by omega
  have hmu:m < under.length:=by rw [h.lu]; exact hml
  rw [List.range'_succ,lG]
  have hself:ahead under m m=true:=by
   unfold ahead
   cases m with
   | zero=>rw [h.root.1]; rfl
   | succ m =>
    obtain ⟨p,_,_,hu,hp,_⟩:=h.par (m + 1) (by omega) hml
    rw [hu]; simp; omega
  rw [if_pos hself,Ey h (List.getElem?_eq_getElem hml),iY]
  unfold ni
  rw [sV]
  have hr:List.range nodes.length=List.range' 0 (m + 1) ++ List.range' (m + 1) d:=by
   have hq:=List.range'_append_1 (s:=0) (m:=m + 1) (n:=d)
   rw [Nat.zero_add] at hq
   rw [List.range_eq_range',hq]
   congr 1; omega
  rw [hr,zN,tZ _ _ (List.range' 0 (m + 1)) (fun i hi=>?_)]
  ·
   have hsp:=wh (fun i=>iY (gt nodes under i)) (ahead under (m + 1)) (ahead under m) (fun j=>under[j]? == some (m:Int)) (List.range' (m + 1) d) (fun i hi=>?_)
   ·
    rw [hsp] at ih
    omega
   ·
    have hil:i < under.length:=by
     have:=List.mem_range'_1.1 hi
     rw [h.lu]; omega
    unfold ahead
    rw [List.getElem?_eq_getElem hil]
    generalize under[i]=u
    simp only
    rcases Int.lt_trichotomy u (m:Int) with q | q | q
    ·
     have q1:u < ((m + 1:Nat):Int):=by omega
     have q2:u ≠ (m:Int):=by omega
     simp only [q,q1,decide_true,Bool.true_or,Bool.true_and,true_and]
     simpa using q2
    ·
     subst q
     have q1:(m:Int) < ((m + 1:Nat):Int):=by omega
     have q2:¬ (m:Int) < (m:Int):=by omega
     simp only [q1,q2,decide_true,decide_false,Bool.false_or,Bool.false_and,and_true,beq_self_eq_true]
    ·
     have q1:¬ u < ((m + 1:Nat):Int):=by omega
     have q2:¬ u < (m:Int):=by omega
     have q3:u ≠ (m:Int):=by omega
     simp only [q1,q2,decide_false,Bool.false_or,Bool.false_and,and_true]
     symm; simpa using q3
  ·
   cases hc:under[i]? == some (m:Int) with
   | false=>rfl
   | true =>
    have him:=List.mem_range'_1.1 hi
    obtain ⟨_,q,_⟩:=rT h (l:=[i]) (i:=i) (j:=m) (by simp [ni,hc])
    omega
theorem J2 (h:Wd nodes under lv):iY (gt nodes under 0)=nodes.length:=by
 obtain ⟨d,hd⟩:∃ d,nodes.length=d + 1:=⟨nodes.length - 1,by have:=h.pos; omega⟩
 have:=FU h nodes.length 0 (by omega)
 rw [hd,List.range'_succ,lG] at this
 have h0:ahead under 0 0=true:=by unfold ahead; rw [h.root.1]; rfl
 rw [if_pos h0,tZ _ _ _ (fun i hi=>?_)] at this
 ·
  rw [hd]; omega
 ·
  have hi':=List.mem_range'_1.1 hi
  obtain ⟨p,_,_,hu,_⟩:=h.par i (by omega) (by omega)
  unfold ahead
  rw [hu]; simp
end
def words:List Str:=[[97],[98],[105,116,101,109],[120,32,121],[37],[97,47,98],[46,46],[122],[49],[108,105,115,116],[255],[63,61,38]]
def IZ:List Str:=[[100,105,118],[112],[108,105],[98]]
def JM:List Str:=[[105,100],[112,97],[112,98],[108,97,115,116]]
theorem JR:(words.length:Int)=12:=rfl
theorem BZ:∀ s ∈ IZ,s ≠ mQ:=by decide
section
variable {nodes:List bY} {under:List Int} {lv:List Nat}
theorem getElem?_push {α:Type} (l:List α) (x:α) (j:Nat):(l ++ [x])[j]? = if j < l.length then l[j]? else if j=l.length then some x else none:=by
 by_cases h:j < l.length
 ·
  rw [if_pos h,List.getElem?_append_left h]
 ·
  rw [if_neg h,List.getElem?_append_right (by omega)]
  by_cases h2:j=l.length
  ·
   rw [if_pos h2,h2]; simp
  ·
   rw [if_neg h2]
   have:∃ k,j - l.length=k + 1:=⟨j - l.length - 1,by omega⟩
   obtain ⟨k,hk⟩:=this
   rw [hk]; rfl
theorem lN {α:Type} {l:List α} {x y:α} {j:Nat} (h:l[j]? = some y):(l ++ [x])[j]? = some y:=by
 rw [List.getElem?_append_left (List.getElem?_eq_some_iff.1 h).1]; exact h
theorem IC (h:Wd nodes under lv) (hl:nodes.length ≤ 12) {t:bY} (ht:JH t) {p v:Nat} {tp:bY} (hp:nodes[p]? = some tp) (htp:opens tp) (hv:lv[p]? = some v) (h6:v ≤ 6):Wd (nodes ++ [t]) (under ++ [(p:Int)]) (lv ++ [v + 1]) where
 lu:=by simp [h.lu]
 ll:=by simp [h.ll]
 pos:=by simp
 le:=by simp; omega
 ok:=fun j u hu=>by
  rw [getElem?_push] at hu
  split at hu
  ·
   exact h.ok j u hu
  ·
   split at hu
   ·
    cases hu; exact ht
   ·
    cases hu
 root:=⟨lN h.root.1,lN h.root.2⟩
 par:=fun j h0 hj=>by
  simp only [List.length_append,List.length_singleton] at hj
  by_cases hjl:j < nodes.length
  ·
   obtain ⟨q,tq,vq,h1,h2,h3,h4,h5,h6⟩:=h.par j h0 hjl
   exact ⟨q,tq,vq,lN h1,h2,lN h3,h4,lN h5,lN h6⟩
  ·
   have hj:j=nodes.length:=by omega
   subst hj
   have hpl:=(List.getElem?_eq_some_iff.1 hp).1
   refine ⟨p,tp,v,?_,hpl,lN hp,htp,lN hv,?_⟩
   ·
    rw [getElem?_push,h.lu,if_neg (by omega),if_pos rfl]
   ·
    rw [getElem?_push,h.ll,if_neg (by omega),if_pos rfl]
 lim:=fun j w hw=>by
  rw [getElem?_push] at hw
  split at hw
  ·
   exact h.lim j w hw
  ·
   split at hw
   ·
    cases hw; omega
   ·
    cases hw
def xK (nodes:List bY):Prop:=∃ t,nodes[0]? = some t∧t.Kind=1
theorem JA (hl:nodes.length ≤ 12) (hu:under.length ≤ 12) {i:Nat} (hi:i ≤ 20) (again:List bY→List Int→Int→Option aF) (p kd nn:Int) (tag text:Str) (ats:List Attr) :
  bS nodes under (i:Int) again p kd nn tag text ats=again (nodes ++ [⟨kd,nn,tag,text,ats⟩]) (under ++ [p]) ((i + 1:Nat):Int):=by
 unfold bS
 rw [iH (by rw [bnd]; simp; omega),Option.bind_some,iH (by rw [bnd]; simp; omega),Option.bind_some,lD (by omega) (by omega)]
 rfl
theorem Bu (hl:nodes.length ≤ 12) (hu:under.length ≤ 12) (n:Nat) (k:bR) {i:Nat} (hi:i ≤ 20) (again:List bY→List Int→Int→Option aF) (p:Int) :
  ∃ t,JH t∧cK n k words nodes under (i:Int) again p=again (nodes ++ [t]) (under ++ [p]) ((i + 1:Nat):Int):=by
 obtain ⟨r1,e1⟩:=lg n k.Kinds (i:Int) (by omega)
 obtain ⟨kd,k1,k2,k3⟩:=eP n r1 1 7 (by omega) (by omega) (by omega)
 obtain ⟨r2,e2⟩:=lg n k.Ns (i:Int) (by omega)
 obtain ⟨nn,n1,n2,n3⟩:=eP n r2 0 4 (by omega) (by omega) (by omega)
 obtain ⟨r3,e3⟩:=lg n k.Texts (i:Int) (by omega)
 have go:=fun (tag text:Str) (ats:List Attr)=>JA hl hu hi again p kd nn tag text ats
 unfold cK
 rw [e1,Option.bind_some,k1,Option.bind_some,e2,Option.bind_some,n1,Option.bind_some,e3,Option.bind_some]
 simp only []
 have l4:IntKind.wrap .i64 ((([[100,105,118],[112],[108,105],[98]]:List Str).length:Int) - 1)=3:=by rw [lD (by simp) (by simp)]; rfl
 have l5:IntKind.wrap .i64 ((([[105,100],[112,97],[112,98],[108,97,115,116]]:List Str).length:Int) - 1)=3:=by rw [lD (by simp) (by simp)]; rfl
 have l12:IntKind.wrap .i64 ((words.length:Int) - 1)=11:=by rw [JR,lD (by omega) (by omega)]; rfl
 by_cases c1:kd=1
 ·
  rw [if_pos (by simp [c1]),l4]
  obtain ⟨q,q1,q2,q3⟩:=eP n r3 0 3 (by omega) (by omega) (by omega)
  obtain ⟨tag,t1,t2,_⟩:=kS IZ q2 (by show q < 4; omega)
  have t1':idx [[100,105,118],[112],[108,105],[98]] q=some tag:=t1
  rw [q1,Option.bind_some,t1',Option.bind_some]
  by_cases c3:(dn .i64 r3 3 == 3)=true
  ·
   rw [if_pos c3]
   obtain ⟨r4,e4⟩:∃ r4,yw .i64 r3 4=some r4:=⟨_,by unfold yw; rw [if_neg (by omega)]⟩
   obtain ⟨q',q1',q2',q3'⟩:=eP n r4 0 11 (by omega) (by omega) (by omega)
   obtain ⟨w,w1,_,_⟩:=kS words q2' (by rw [JR]; omega)
   rw [e4,Option.bind_some,l12,q1',Option.bind_some,w1,Option.bind_some]
   exact ⟨_,⟨⟨k2,k3⟩,BZ tag t2,⟨n2,n3⟩,by simp⟩,go _ _ _⟩
  ·
   rw [if_neg c3]
   exact ⟨_,⟨⟨k2,k3⟩,BZ tag t2,⟨n2,n3⟩,by simp⟩,go _ _ _⟩
 ·
  rw [if_neg (by simp [c1])]
  by_cases c2:kd=2
  ·
   rw [if_pos (by simp [c2]),l12]
   obtain ⟨q,q1,q2,q3⟩:=eP n r3 0 11 (by omega) (by omega) (by omega)
   obtain ⟨w,w1,_,_⟩:=kS words q2 (by rw [JR]; omega)
   rw [q1,Option.bind_some,w1,Option.bind_some]
   exact ⟨_,⟨⟨k2,k3⟩,by simp [mQ],⟨n2,n3⟩,by simp⟩,go _ _ _⟩
  ·
   rw [if_neg (by simp [c2])]
   by_cases c4:kd=4
   ·
    rw [if_pos (by simp [c4]),l5]
    obtain ⟨q,q1,q2,q3⟩:=eP n r3 0 3 (by omega) (by omega) (by omega)
    obtain ⟨w,w1,_,_⟩:=kS JM q2 (by show q < 4; omega)
    have w1':idx [[105,100],[112,97],[112,98],[108,97,115,116]] q=some w:=w1
    rw [q1,Option.bind_some,w1',Option.bind_some]
    exact ⟨_,⟨⟨k2,k3⟩,by simp [mQ],⟨n2,n3⟩,by simp⟩,go _ _ _⟩
   ·
    rw [if_neg (by simp [c4])]
    exact ⟨_,⟨⟨k2,k3⟩,by simp [mQ],⟨n2,n3⟩,by simp⟩,go _ _ _⟩
theorem xg (n:Nat) (hn:100 < n) (k:bR):∀ (m i f:Nat) (nodes:List bY) (under:List Int) (lv:List Nat),Wd nodes under lv→xK nodes→nodes.length=i + 1→i + m=11→m < f →
  ∃ nodes' under' lv',Wd nodes' under' lv'∧xK nodes'∧aV n k words f nodes under (i:Int)=bZ n nodes' under' 0
 | m,i,f + 1,nodes,under,lv,h,hr,hl,hm,hf=>by
  rw [aV]
  by_cases hc:i < k.Under.length∧i < 11
  ·
   obtain ⟨m,rfl⟩:∃ m',m=m' + 1:=⟨m - 1,by omega⟩
   rw [if_pos (by simp; omega),gY,List.getElem?_eq_getElem hc.1,Option.bind_some]
   rw [lD (n:=(nodes.length:Int) - 1) (by omega) (by omega)]
   obtain ⟨q,q1,q2,q3⟩:=eP n k.Under[i] 0 ((nodes.length:Int) - 1) (by omega) (by omega) (by omega)
   obtain ⟨t,t1,t2,t3⟩:=kS nodes q2 (by omega)
   rw [q1,Option.bind_some,t1,Option.bind_some]
   have go:∀ (p:Nat) (tp:bY) (v:Nat),nodes[p]? = some tp→opens tp→lv[p]? = some v→v ≤ 6→∃ nodes' under' lv',Wd nodes' under' lv'∧xK nodes'∧cK n k words nodes under (i:Int) (aV n k words f) (p:Int)=bZ n nodes' under' 0:=fun p tp v hp htp hv h6=>by
    obtain ⟨t',k1,k2⟩:=Bu (nodes:=nodes) (under:=under) (i:=i) (by omega) (by rw [h.lu]; omega) n k (by omega) (aV n k words f) (p:Int)
    have hr':xK (nodes ++ [t']):=by
     obtain ⟨t0,h1,h2⟩:=hr
     exact ⟨t0,lN h1,h2⟩
    obtain ⟨n',u',l',g1,g2,g3⟩:=xg n hn k m (i + 1) f _ _ _ (IC h (by omega) k1 hp htp hv h6) hr' (by simp; omega) (by omega) (by omega)
    exact ⟨n',u',l',g1,g2,by rw [k2,g3]⟩
   have root:∃ nodes' under' lv',Wd nodes' under' lv'∧xK nodes'∧cK n k words nodes under (i:Int) (aV n k words f) 0=bZ n nodes' under' 0:=by
    obtain ⟨t0,h1,h2⟩:=hr
    exact go 0 t0 1 h1 (.inl h2) h.root.2 (by omega)
   have hqn:q=(q.toNat:Int):=by omega
   by_cases hb:(((t.Kind != 1) && (t.Kind != 5)) && (t.Kind != 6))=true
   ·
    rw [if_pos hb,Option.bind_some,if_pos rfl]
    exact root
   ·
    rw [if_neg hb]
    have ho:opens t:=by
     simp at hb
     unfold opens
     by_cases a:t.Kind=1
     ·
      exact .inl a
     ·
      by_cases b:t.Kind=5
      ·
       exact .inr (.inl b)
      ·
       exact .inr (.inr (hb a b))
    have hql:q.toNat < lv.length:=by rw [h.ll]; exact (List.getElem?_eq_some_iff.1 t3).1
    have hv:=List.getElem?_eq_getElem hql
    have hd:=GY h n (by omega) hv
    rw [← hqn] at hd
    rw [hd,Option.bind_some,Option.bind_some]
    by_cases h5:5 < lv[q.toNat]
    ·
     rw [if_pos (by rw [decide_eq_true_eq]; omega)]
     exact root
    ·
     rw [if_neg (by rw [decide_eq_true_eq]; omega),hqn]
     exact go q.toNat t _ t3 ho hv (by omega)
  ·
   rw [if_neg (by simp; omega)]
   exact ⟨nodes,under,lv,h,hr,by cases bZ n nodes under 0 <;> rfl⟩
end
theorem Gz (k:bR) (n:Nat) (hn:100 < n):∃ t,gL n k=some t∧pg 7 t∧iY t ≤ 13∧nZ t ≤ 7∧t.Kind=1:=by
 have h0:Wd [⟨1,0,[109,97,105,110],[],[]⟩] [-1] [1]:=by
  refine ⟨rfl,rfl,by simp,by simp,fun j t ht=>?_,⟨rfl,rfl⟩,fun j h1 h2=>?_,fun j v hv=>?_⟩
  ·
   cases j with
   | zero=>simp at ht; subst ht; exact ⟨⟨by simp,by simp⟩,by simp [mQ],⟨by simp,by simp⟩,by simp⟩
   | succ j=>simp at ht
  ·
   simp at h2; omega
  ·
   cases j with
   | zero=>simp at hv; subst hv; omega
   | succ j=>simp at hv
 obtain ⟨nodes,under,lv,h,hr,he⟩:=xg n hn k 11 0 n _ _ _ h0 ⟨_,rfl,rfl⟩ rfl rfl (by omega)
 have hle:=h.le
 have hg:=ED h nodes.length 0 1 (by omega) h.root.2
 have hc:=J2 h
 obtain ⟨t0,r1,r2⟩:=hr
 refine ⟨gt nodes under 0,?_,hg.1,by rw [hc]; exact hle,by omega,by rw [Ey h r1]; exact r2⟩
 unfold gL jR
 rw [Option.bind_some]
 have:=Ef h n 0 h.pos (by omega)
 rw [show ((0:Nat):Int)=0 from rfl] at this he
 rw [← this,← he]
 rfl
theorem F7 (n:Nat) (hn:100 < n) (t:aF) (o:Bool) (g:pg 7 t) (hc:iY t ≤ 13) (hd:nZ t ≤ 7) (hk:t.Kind=1):∃ u,gu n t o=some u∧pg 7 u∧iY u ≤ 14∧j5 n u 5=some true:=by
 obtain ⟨c1,c2,c3⟩:=DN _ t (Nat.le_refl _)
 have g6:=c3 g (by omega)
 have hwk:(wo t).Kind=1:=by rw [Ej]; exact hk
 have hlen:=kG (wo t).Kids
 have hpk:=dL (wo t)
 have hpd:=qi (wo t)
 obtain ⟨⟨a1,a2⟩,a3,a4,a5,a6,a7⟩:=(nY _).1 g6
 have fin:∀ u,pg 7 u→iY u ≤ 14→nZ u ≤ 9→u.Kind=1→fq n u 5 false=some true→j5 n u 5=some true:=fun u h1 h2 h3 h4 h5=>by
  unfold j5
  rw [CV 14 u h2 (by omega) n (by omega),Option.bind_some,if_pos (by simp [h4]; omega),h5]; rfl
 unfold gu
 rw [sZ 13 t hc (by omega) n (by omega),Option.bind_some]
 cases o with
 | false =>
  rw [if_neg (by simp)]
  unfold dF
  have e:aF.mk (wo t).Kind (wo t).N (wo t).Tag (wo t).Text (wo t).bB (wo t).Kids=wo t:=by cases wo t; rfl
  rw [e]
  exact ⟨_,rfl,w9 _ _ (Nat.le_refl _) g6,by omega,fin _ (w9 _ _ (Nat.le_refl _) g6) (by omega) (by omega) hwk (vK 13 _ (by omega) (by omega) g6 n false (by omega))⟩
 | true =>
  rw [if_pos rfl,iH (by rw [bnd]; simp; omega),Option.bind_some]
  unfold dF
  have go:pg 7 (aF.mk 7 0 [] [] [] []):=(nY _).2 ⟨⟨by decide,by decide⟩,fun _ _ _=>rfl,by decide,⟨by decide,by decide⟩,by decide,fun z hz=>by cases hz⟩
  have hp:pg 7 (aF.mk (wo t).Kind (wo t).N (wo t).Tag (wo t).Text (wo t).bB ((wo t).Kids ++ [aF.mk 7 0 [] [] [] []])):=by
   refine (nY _).2 ⟨⟨a1,by show (wo t).Kind ≤ 7; omega⟩,fun q=>absurd hwk q,a4,a5,a6,fun z hz=>?_⟩
   rcases List.mem_append.1 hz with hz | hz
   ·
    exact w9 _ _ (Nat.le_refl _) (a7 z hz)
   ·
    rw [List.mem_singleton.1 hz]; exact go
  have hcn:iY (aF.mk (wo t).Kind (wo t).N (wo t).Tag (wo t).Text (wo t).bB ((wo t).Kids ++ [aF.mk 7 0 [] [] [] []])) ≤ 14:=by
   rw [iY,zC]; simp only [iI,iY]; omega
  have hdp:nZ (aF.mk (wo t).Kind (wo t).N (wo t).Tag (wo t).Text (wo t).bB ((wo t).Kids ++ [aF.mk 7 0 [] [] [] []])) ≤ 9:=by
   rw [nZ,Ah]; simp only [kK,nZ]; omega
  refine ⟨_,rfl,hp,hcn,fin _ hp hcn hdp hwk ?_⟩
  obtain ⟨n,rfl⟩:∃ q,n=q + 1:=⟨n - 1,by omega⟩
  refine vE n _ false a1 (by show (wo t).Kind ≤ 7; omega) (fun q=>absurd hwk q) a4 a5 (fun _=>rfl) (by show List.length (_ ++ _) < n; simp; omega) (by show List.length (_ ++ _) < _; simp; omega) (fun z hz=>?_)
  have hb:((false || ((wo t).Kind == 5)) || ((wo t).Kind == 6))=false:=by rw [hwk]; rfl
  show fq n z 5 ((false || ((wo t).Kind == 5)) || ((wo t).Kind == 6))=some true
  rw [hb]
  rcases List.mem_append.1 hz with hz | hz
  ·
   exact vK 13 z (by have:=jy hz; omega) (by omega) (a7 z hz) n false (by omega)
  ·
   rw [List.mem_singleton.1 hz]
   obtain ⟨n,rfl⟩:∃ q,n=q + 1:=⟨n - 1,by omega⟩
   exact vE n _ false (by decide) (by decide) (fun _ _ _=>rfl) (by decide) ⟨by decide,by decide⟩ (fun _=>rfl) (by show 0 < n; omega) (by decide) (fun z hz=>by cases hz)
def DF (o:On):Prop:=Im 5 o∧Ar o∧-3 ≤ o.Add∧o.Add ≤ 3
def AO:List Str:=[[117,112],[100,111,119,110],[97]]
theorem DX:∀ s ∈ AO,s ≠ []∧s.length ≤ 16∧kC 0 s letters=some []:=by
 intro s hs
 simp only [AO,List.mem_cons,List.not_mem_nil,or_false] at hs
 rcases hs with rfl | rfl | rfl <;> exact ⟨by decide,by decide,rfl⟩
theorem zO (n:Nat) (k:dW) (t:aF) (ini:List Int):∀ (m i f:Nat) (acc:List On),acc.length=i→i + m=5→m < f→(∀ o ∈ acc,DF o) →
  ∃ ons:List On,ons.length ≤ 5∧(∀ o ∈ ons,DF o)∧dB n k t ini f acc (i:Int)=some (aG.mk t ini ons)
 | m,i,f + 1,acc,hl,hm,hf,ho=>by
  rw [dB]
  by_cases hc:i < k.Adds.length∧i < 5
  ·
   obtain ⟨m,rfl⟩:∃ m',m=m' + 1:=⟨m - 1,by omega⟩
   rw [if_pos (by simp; omega),uK (by omega),Option.bind_some]
   have h3:(i:Int).tmod 3=((i % 3:Nat):Int):=by rw [Int.tmod_eq_emod_of_nonneg (by omega)]; omega
   have hi3:i % 3 < 3:=Nat.mod_lt _ (by omega)
   obtain ⟨s,s1,s2,_⟩:=kS AO (i:=(i:Int).tmod 3) (by rw [h3]; omega) (by rw [h3]; show _ < (3:Int); omega)
   have s1':idx [[117,112],[100,111,119,110],[97]] ((i:Int).tmod 3)=some s:=s1
   rw [s1',Option.bind_some,gY,List.getElem?_eq_getElem hc.1,Option.bind_some]
   obtain ⟨q,q1,q2,q3⟩:=eP n k.Adds[i] 0 4 (by omega) (by omega) (by omega)
   obtain ⟨r4,e4⟩:∃ r4,yw .i64 k.Adds[i] 5=some r4:=⟨_,by unfold yw; rw [if_neg (by omega)]⟩
   obtain ⟨d,d1,d2,d3⟩:=eP n r4 (-3) 3 (by omega) (by omega) (by omega)
   rw [q1,Option.bind_some,e4,Option.bind_some,d1,Option.bind_some,iH (by rw [bnd]; simp; omega),Option.bind_some,lD (by omega) (by omega)]
   exact zO n k t ini m (i + 1) f _ (by simp [hl]) (by omega) (by omega) (fun o hx=>by
    rcases List.mem_append.1 hx with hx | hx
    ·
     exact ho o hx
    ·
     rw [List.mem_singleton.1 hx]
     exact ⟨⟨q2,by show q < 5; omega,by rw [Cw]; show -1000 ≤ d∧d ≤ 1000; omega⟩,DX s s2,d2,d3⟩)
  ·
   rw [if_neg (by simp; omega)]
   exact ⟨acc,by omega,ho,rfl⟩
theorem Ac (n:Nat) (hn:100 < n) (k:dW) (t:aF):∀ (m i f:Nat) (acc:List Int),acc.length=i→i + m=5→m < f→(∀ v ∈ acc,yX v=true) →
  ∃ (ini:List Int) (ons:List On),ini.length=5∧(∀ v ∈ ini,yX v=true)∧ons.length ≤ 5∧(∀ o ∈ ons,DF o)∧cO n k t f acc (i:Int)=some (aG.mk t ini ons)
 | 0,i,f + 1,acc,hl,hm,hf,ho=>by
  rw [cO,if_neg (by simp; omega)]
  obtain ⟨ons,o1,o2,o3⟩:=zO n k t acc 5 0 n [] rfl rfl (by omega) (fun o ho=>by cases ho)
  exact ⟨acc,ons,by omega,ho,o1,o2,o3⟩
 | m + 1,i,f + 1,acc,hl,hm,hf,ho=>by
  rw [cO,if_pos (by simp; omega)]
  obtain ⟨r,e⟩:=lg n k.Init (i:Int) (by omega)
  obtain ⟨q,q1,q2,q3⟩:=eP n r (-2) 4 (by omega) (by omega) (by omega)
  rw [e,Option.bind_some,q1,Option.bind_some,iH (by rw [bnd]; simp; omega),Option.bind_some,lD (by omega) (by omega)]
  exact Ac n hn k t m (i + 1) f _ (by simp [hl]) (by omega) (by omega) (fun v hx=>by
   rcases List.mem_append.1 hx with hx | hx
   ·
    exact ho v hx
   ·
    rw [List.mem_singleton.1 hx,Cw]; omega)
section
variable {n:Nat} {c:aG}
end
end C
end Pr
end Go.Ev

namespace Go.Ev
namespace Pr
set_option linter.unusedVariables false
set_option linter.unusedSimpArgs false
set_option linter.unusedSectionVars false
mutual
def BM:aF→Nat
 | .mk k _ _ _ _ ks=>(if k=7 then 1 else 0) + qP ks
def qP:List aF→Nat
 | []=>0
 | t :: l=>BM t + qP l
end
theorem uV (t:aF):BM t=(if t.Kind=7 then 1 else 0) + qP t.Kids:=by cases t; rw [BM]; rfl
theorem Ex:∀ (m:Nat) (t:aF),C.iY t ≤ m→BM t ≤ C.iY t
 | 0,t,hm=>by have:=C.dL t; omega
 | m + 1,t,hm=>by
  have hl:∀ (l:List aF),(∀ z ∈ l,BM z ≤ C.iY z)→qP l ≤ C.iI l:=by
   intro l
   induction l with
   | nil=>intro _; exact Nat.le_refl _
   | cons x l ih =>
    intro hz
    have:=hz x List.mem_cons_self
    have:=ih (fun z h=>hz z (List.mem_cons_of_mem _ h))
    simp only [qP,C.iI]; omega
  have:=hl t.Kids (fun z hz=>Ex m z (by have:=C.jy hz; omega))
  rw [uV,C.dL]; split <;> omega
theorem qY (self:aF→Option Int) (t:aF) (hl:t.Kids.length < 1000000):∀ (rest done:List aF) (k acc:Nat),t.Kids=done ++ rest→rest.length < k→(∀ z ∈ rest,self z=some (BM z:Int))→acc + qP rest < 1000000000 →
  gD self t k (acc:Int) (done.length:Int)=some ((acc + qP rest:Nat):Int)
 | [],done,k + 1,acc,h,hk,hs,ha=>by
  rw [gD,if_neg (by rw [decide_eq_true_eq,h]; simp)]
  simp [qP]
 | z :: rest,done,k + 1,acc,h,hk,hs,ha=>by
  have hlen:t.Kids.length=done.length + rest.length + 1:=by rw [h]; simp; omega
  have hw:IntKind.wrap .i64 ((done.length:Int) + 1)=(((done ++ [z]).length:Nat):Int):=by rw [lD (by omega) (by omega)]; simp
  simp only [qP] at ha
  have hw2:IntKind.wrap .i64 ((acc:Int) + (BM z:Int))=((acc + BM z:Nat):Int):=by rw [lD (by omega) (by omega)]; push_cast; rfl
  rw [gD,if_pos (by rw [decide_eq_true_eq]; omega),jw h,Option.bind_some,hs z List.mem_cons_self,Option.bind_some,hw,hw2,qY self t hl rest (done ++ [z]) k (acc + BM z) (by rw [h]; simp) (by simp at hk; omega) (fun z hz=>hs z (List.mem_cons_of_mem _ hz)) (by omega),qP,Nat.add_assoc]
theorem zt:∀ (m:Nat) (t:aF),C.iY t ≤ m→m < 1000000→∀ n,m < n→dH n t=some (BM t:Int)
 | 0,t,h,_,n,_=>by have:=C.dL t; omega
 | m + 1,t,h,hm,n + 1,hn=>by
  have h1:=C.dL t
  have h2:=C.kG t.Kids
  have h3:=Ex (m + 1) t h
  have h4:=uV t
  have hs:∀ z ∈ t.Kids,dH n z=some (BM z:Int):=fun z hz=>zt m z (by have:=C.jy hz; omega) (by omega) n (by omega)
  rw [dH]
  unfold jD
  by_cases c:t.Kind=7
  ·
   rw [if_pos (by simpa using c),h4,if_pos c]
   rw [if_pos c] at h4
   exact qY (dH n) t (by omega) t.Kids [] n 1 rfl (by omega) hs (by omega)
  ·
   rw [if_neg (by simpa using c),h4,if_neg c]
   rw [if_neg c] at h4
   exact qY (dH n) t (by omega) t.Kids [] n 0 rfl (by omega) hs (by omega)
end Pr
end Go.Ev

namespace Go.Ev
namespace Pr
set_option linter.unusedVariables false
set_option linter.unusedSimpArgs false
set_option linter.unusedSectionVars false
theorem eP (n:Nat) (a lo hi:Int) (h1:lo ≤ hi) (h2:-1000000000000 ≤ lo) (h3:hi ≤ 1000000000000000):∃ r,aR n a lo hi=some r∧lo ≤ r∧r ≤ hi:=by
 unfold aR
 rw [lD (n:=hi - lo) (by omega) (by omega),lD (by omega) (by omega),uK (by omega),Option.bind_some]
 have k1:=Int.tmod_lt_of_pos a (show 0 < hi - lo + 1 by omega)
 have k2:=Int.lt_tmod_of_pos a (show 0 < hi - lo + 1 by omega)
 unfold eU
 by_cases hz:a.tmod (hi - lo + 1) < 0
 ·
  rw [if_pos (by simpa using hz)]
  rw [lD (n:=a.tmod (hi - lo + 1) + hi) (by omega) (by omega),lD (n:=a.tmod (hi - lo + 1) + hi - lo) (by omega) (by omega),lD (n:=a.tmod (hi - lo + 1) + hi - lo + 1) (by omega) (by omega),lD (by omega) (by omega)]
  exact ⟨_,rfl,by omega,by omega⟩
 ·
  rw [if_neg (by simpa using hz),lD (by omega) (by omega)]
  exact ⟨_,rfl,by omega,by omega⟩
theorem lg (n:Nat) (l:List Int) (i:Int) (h:0 ≤ i):∃ r,bO n l i=some r:=by
 unfold bO
 by_cases h0:l.length=0
 ·
  rw [if_pos (by simp; exact List.eq_nil_of_length_eq_zero h0)]; exact ⟨_,rfl⟩
 ·
  rw [if_neg (by simp; intro q; exact h0 (by rw [q]; rfl)),uK (by omega),Option.bind_some]
  have hp:(0:Int) < (l.length:Int):=by omega
  obtain ⟨x,hx,_⟩:=kS l (i:=i.tmod l.length) (Int.tmod_nonneg _ h) (Int.tmod_lt_of_pos _ hp)
  exact ⟨x,by rw [hx]; rfl⟩
def nm (i:Int):Str:=([(IntKind.wrap .u8 (IntKind.wrap .i64 (97 + i)))]).map fun (n:Int)=>UInt8.ofNat n.toNat
def oC:Nat→Str
 | 0=>[104,111,109,101]
 | j + 1=>[114] ++ nm j
theorem Af {a b:Nat} (ha:a < 8) (hb:b < 8) (h:oC a=oC b):a=b:=by
 have key:∀ i ∈ List.range 8,∀ j ∈ List.range 8,oC i=oC j→i=j:=by decide +kernel
 exact key a (List.mem_range.2 ha) b (List.mem_range.2 hb) h
def texts:List Str:=[[97],[98],[105,116,101,109],[122],[49],[108,105,115,116]]
def zn (j:Nat) (s:Seg):Prop:=(s.Kind=0∧s.Text ∈ texts)∨(1 ≤ s.Kind∧s.Kind ≤ 3∧∃ i:Nat,j=i + 1∧s.Text=[112] ++ nm i)
structure Rs (l:List au):Prop where
 pos:0 < l.length
 le:l.length ≤ 8
 par:∀ (j:Nat) (r:au),l[j]? = some r→-1 ≤ r.Parent∧r.Parent < j
 name:∀ (j:Nat) (r:au),l[j]? = some r→r.Name=oC j
 segs:∀ (j:Nat) (r:au),l[j]? = some r→r.eT.length ≤ 1
 sg:∀ (j:Nat) (r:au),l[j]? = some r→r.eT=[]∨∃ s,r.eT=[s]∧zn j s
 kid:∀ (j:Nat) (r:au),l[j]? = some r→0 ≤ r.Parent→∃ p,idx l r.Parent=some p∧∀ s ∈ p.eT,s.Kind < 2
theorem Rs.snoc {l:List au} (h:Rs l) (hl:l.length ≤ 7) {r:au} (hn:r.Name=oC l.length) (hp:-1 ≤ r.Parent∧r.Parent < l.length) (hs:∃ s,r.eT=[s]∧zn l.length s) (hk:0 ≤ r.Parent→∃ p,idx l r.Parent=some p∧∀ s ∈ p.eT,s.Kind < 2):Rs (l ++ [r]):=by
 have get:∀ (j:Nat) (x:au),(l ++ [r])[j]? = some x→l[j]? = some x∨(j=l.length∧x=r):=fun j x hx=>by
  by_cases q:j < l.length
  ·
   rw [List.getElem?_append_left q] at hx; exact .inl hx
  ·
   rw [List.getElem?_append_right (by omega)] at hx
   have:j - l.length=0:=by
    have:=(List.getElem?_eq_some_iff.1 hx).1
    simp at this; omega
   rw [this] at hx
   simp at hx
   exact .inr ⟨by omega,hx.symm⟩
 have idxl:∀ (k:Int) (p:au),idx l k=some p→idx (l ++ [r]) k=some p:=fun k p hk=>by
  obtain ⟨h1,h2⟩:=jU hk
  have h3:=(List.getElem?_eq_some_iff.1 h2).1
  unfold idx
  rw [if_pos h1,List.getElem?_append_left h3,h2]
 refine ⟨by simp,by simp; omega,fun j x hx=>?_,fun j x hx=>?_,fun j x hx=>?_,fun j x hx=>?_,fun j x hx h0=>?_⟩
 ·
  rcases get j x hx with q | ⟨rfl,rfl⟩
  ·
   exact h.par j x q
  ·
   exact hp
 ·
  rcases get j x hx with q | ⟨rfl,rfl⟩
  ·
   exact h.name j x q
  ·
   exact hn
 ·
  rcases get j x hx with q | ⟨rfl,rfl⟩
  ·
   exact h.segs j x q
  ·
   obtain ⟨s,hs,_⟩:=hs; rw [hs]; simp
 ·
  rcases get j x hx with q | ⟨rfl,rfl⟩
  ·
   exact h.sg j x q
  ·
   exact .inr hs
 ·
  rcases get j x hx with q | ⟨rfl,rfl⟩
  ·
   obtain ⟨p,p1,p2⟩:=h.kid j x q h0
   exact ⟨p,idxl _ _ p1,p2⟩
  ·
   obtain ⟨p,p1,p2⟩:=hk h0
   exact ⟨p,idxl _ _ p1,p2⟩
def RO (l:List au) (r:au):Prop:=(0 ≤ r.aJ.Kind∧r.aJ.Kind ≤ 4)∧(0 ≤ r.aJ.Flag∧r.aJ.Flag ≤ 3)∧(r.aJ.Kind=3∨r.aJ.Kind=4→∃ p ∈ l,p.Name=r.aJ.To)∧(¬(r.aJ.Kind=3∨r.aJ.Kind=4)→r.aJ.To=[])∧(0 ≤ r.aG∧r.aG ≤ 3)
theorem RO.snoc {l:List au} (h:∀ r ∈ l,RO l r) {x:au} (hx:RO l x):∀ r ∈ l ++ [x],RO (l ++ [x]) r:=by
 have up:∀ r,RO l r→RO (l ++ [x]) r:=fun r ⟨a,b,c,d,e⟩=>⟨a,b,fun h=>by
  obtain ⟨p,p1,p2⟩:=c h
  exact ⟨p,List.mem_append_left _ p1,p2⟩,d,e⟩
 intro r hr
 rcases List.mem_append.1 hr with hr | hr
 ·
  exact up r (h r hr)
 ·
  rw [List.mem_singleton.1 hr]; exact up x hx
def J8 (i:Int) (s:Seg):Prop:=(s.Kind=0∧s.Text ∈ texts)∨(1 ≤ s.Kind∧s.Kind ≤ 3∧s.Text=[112] ++ nm i)
section
variable {n:Nat} {a1:fU} {l:List au} {dp:List Int} {again:List au→List Int→Int→Option (List au)}
theorem D8 (hl:l.length ≤ 8) (hd:dp.length ≤ 8) (i x28 x32 x44:Int) (x45 z47:Str) (z48 z50 x63 x64:Int) (x65:Str):∃ rec:au,rec.Name=z47∧rec.Parent=x28∧rec.eT=[Seg.mk x44 x45]∧(rec.aG=z50∧rec.aJ=aJ.mk x63 x64 x65)∧bW l dp i again x28 x32 x44 x45 z47 z48 z50 x63 x64 x65=again (l ++ [rec]) (dp ++ [x32]) (IntKind.wrap .i64 (i + 1)):=by
 unfold bW
 rw [iH (by rw [bnd]; simp; omega),Option.bind_some,iH (by rw [bnd]; simp; omega),Option.bind_some]
 exact ⟨_,rfl,rfl,rfl,⟨rfl,rfl⟩,rfl⟩
theorem FP {a b:Str} (h:a.length + b.length ≤ 1000):cat a b=some (a ++ b):=by unfold cat; rw [if_pos (by omega)]
theorem GI (hp:0 < l.length) (hl:l.length ≤ 8) (hd:dp.length ≤ 8) {i:Int} (h0:0 ≤ i) (h7:i ≤ 7) (x28 x32 x44:Int) (x45:Str):∃ rec:au,rec.Name=[114] ++ nm i∧rec.Parent=x28∧rec.eT=[Seg.mk x44 x45]∧RO l rec∧dx n a1 l dp i again x28 x32 x44 x45=again (l ++ [rec]) (dp ++ [x32]) (IntKind.wrap .i64 (i + 1)):=by
 unfold dx
 have hc:cat [114] (([(IntKind.wrap .u8 (IntKind.wrap .i64 (97 + i)))]).map fun (n:Int)=>UInt8.ofNat n.toNat)=some ([114] ++ nm i):=FP (by simp)
 obtain ⟨k1,e1⟩:=lg n a1.fK i h0
 obtain ⟨k2,e2⟩:=lg n a1.Comps i h0
 obtain ⟨w1,f1,f1a,f1b⟩:=eP n k2 0 3 (by omega) (by omega) (by omega)
 obtain ⟨k3,e3⟩:=lg n a1.Rules i h0
 rw [hc,Option.bind_some,e1,Option.bind_some,e2,Option.bind_some,f1,Option.bind_some,e3,Option.bind_some]
 split
 ·
  rw [Option.bind_some]
  have hq:yw .i64 k3 4=some (IntKind.wrap .i64 (k3.tdiv 4)):=by unfold yw; rw [if_neg (by omega)]
  obtain ⟨w2,f2,f2a,f2b⟩:=eP n (IntKind.wrap .i64 (k3.tdiv 4)) 0 4 (by omega) (by omega) (by omega)
  obtain ⟨k4,e4⟩:=lg n a1.Flags i h0
  obtain ⟨w3,f3,f3a,f3b⟩:=eP n k4 0 3 (by omega) (by omega) (by omega)
  rw [hq,Option.bind_some,f2,Option.bind_some,e4,Option.bind_some,f3,Option.bind_some]
  split
  ·
   rename_i hh
   have hh':w2=3∨w2=4:=by simpa using hh
   have hw:IntKind.wrap .i64 (i + 1)=i + 1:=lD (by omega) (by omega)
   obtain ⟨k5,e5⟩:=lg n a1.Flags (IntKind.wrap .i64 (i + 1)) (by rw [hw]; omega)
   have hw2:IntKind.wrap .i64 ((l.length:Int) - 1)=(l.length:Int) - 1:=lD (by omega) (by omega)
   obtain ⟨w4,f4,g1,g2⟩:=eP n k5 0 (IntKind.wrap .i64 ((l.length:Int) - 1)) (by rw [hw2]; omega) (by omega) (by rw [hw2]; omega)
   rw [hw2] at g2
   obtain ⟨x,hx,hxm,_⟩:=kS l (i:=w4) g1 (by omega)
   rw [e5,Option.bind_some,f4,Option.bind_some,hx,Option.bind_some]
   obtain ⟨rec,q1,q2,q3,⟨q5,q6⟩,q4⟩:=D8 (again:=again) hl hd i x28 x32 x44 x45 ([114] ++ nm i) k1 w1 w2 w3 x.Name
   exact ⟨rec,q1,q2,q3,by unfold RO; rw [q5,q6]; exact ⟨⟨f2a,f2b⟩,⟨f3a,f3b⟩,fun _=>⟨x,hxm,rfl⟩,fun h=>absurd hh' h,f1a,f1b⟩,q4⟩
  ·
   rename_i hh
   obtain ⟨rec,q1,q2,q3,⟨q5,q6⟩,q4⟩:=D8 (again:=again) hl hd i x28 x32 x44 x45 ([114] ++ nm i) k1 w1 w2 w3 []
   have hh':¬(w2=3∨w2=4):=by simpa using hh
   exact ⟨rec,q1,q2,q3,by unfold RO; rw [q5,q6]; exact ⟨⟨f2a,f2b⟩,⟨f3a,f3b⟩,fun h=>absurd h hh',fun _=>rfl,f1a,f1b⟩,q4⟩
 ·
  obtain ⟨rec,q1,q2,q3,⟨q5,q6⟩,q4⟩:=D8 (again:=again) hl hd i x28 x32 x44 x45 ([114] ++ nm i) k1 w1 0 0 []
  exact ⟨rec,q1,q2,q3,by unfold RO; rw [q5,q6]; exact ⟨⟨by simp,by simp⟩,⟨by simp,by simp⟩,fun h=>by simp at h,fun _=>rfl,f1a,f1b⟩,q4⟩
theorem Bu (hp:0 < l.length) (hl:l.length ≤ 8) (hd:dp.length ≤ 8) {i:Int} (h0:0 ≤ i) (h7:i ≤ 7) (x28 x32:Int):∃ rec:au,rec.Name=[114] ++ nm i∧rec.Parent=x28∧(∃ s,rec.eT=[s]∧J8 i s)∧RO l rec∧dm n a1 l dp i again x28 x32=again (l ++ [rec]) (dp ++ [x32]) (IntKind.wrap .i64 (i + 1)):=by
 unfold dm
 obtain ⟨k1,e1⟩:=lg n a1.Kinds i h0
 obtain ⟨w1,f1,f10,f14⟩:=eP n k1 0 4 (by omega) (by omega) (by omega)
 have hc:cat [112] (([(IntKind.wrap .u8 (IntKind.wrap .i64 (97 + i)))]).map fun (n:Int)=>UInt8.ofNat n.toNat)=some ([112] ++ nm i):=FP (by simp)
 rw [e1,Option.bind_some,f1,Option.bind_some,hc,Option.bind_some]
 split
 ·
  obtain ⟨k2,e2⟩:=lg n a1.Texts i h0
  have h6:IntKind.wrap .i64 ((([[97],[98],[105,116,101,109],[122],[49],[108,105,115,116]]:List Str).length:Int) - 1)=5:=by rw [lD (by simp) (by simp)]; rfl
  obtain ⟨w2,f2,g1,g2⟩:=eP n k2 0 5 (by omega) (by omega) (by omega)
  obtain ⟨x,hx,hxm,_⟩:=kS ([[97],[98],[105,116,101,109],[122],[49],[108,105,115,116]]:List Str) (i:=w2) g1 (by simp; omega)
  rw [e2,Option.bind_some,h6,f2,Option.bind_some,hx,Option.bind_some]
  obtain ⟨rec,q1,q2,q3,q4r,q4⟩:=GI (n:=n) (a1:=a1) (again:=again) hp hl hd h0 h7 x28 x32 (Seg.mk 0 x).Kind (Seg.mk 0 x).Text
  exact ⟨rec,q1,q2,⟨_,q3,.inl ⟨rfl,hxm⟩⟩,q4r,q4⟩
 ·
  rename_i hk
  simp only [decide_eq_true_eq] at hk
  rw [lD (by omega) (by omega)] at hk
  obtain ⟨rec,q1,q2,q3,q4r,q4⟩:=GI (n:=n) (a1:=a1) (again:=again) hp hl hd h0 h7 x28 x32 (Seg.mk (IntKind.wrap .i64 (w1 - 1)) ([112] ++ nm i)).Kind (Seg.mk (IntKind.wrap .i64 (w1 - 1)) ([112] ++ nm i)).Text
  refine ⟨rec,q1,q2,⟨_,q3,.inr ⟨?_,?_,rfl⟩⟩,q4r,q4⟩
  ·
   simp only; rw [lD (by omega) (by omega)]; omega
  ·
   simp only; rw [lD (by omega) (by omega)]; omega
theorem JI (hp:0 < l.length) (hl:l.length ≤ 8) (hd:dp.length=l.length) {i x28:Int} (h0:0 ≤ i) (h7:i ≤ 7) (hx:x28 < l.length):∃ (rec:au) (x32:Int),rec.Name=[114] ++ nm i∧rec.Parent=x28∧(∃ s,rec.eT=[s]∧J8 i s)∧RO l rec∧bX n a1 l dp i again x28=again (l ++ [rec]) (dp ++ [x32]) (IntKind.wrap .i64 (i + 1)):=by
 unfold bX
 by_cases h:0 ≤ x28
 ·
  obtain ⟨x,hx,_⟩:=kS dp (i:=x28) h (by omega)
  rw [if_pos (by simpa using h),hx,Option.bind_some]
  obtain ⟨rec,q⟩:=Bu (n:=n) (a1:=a1) (again:=again) (l:=l) (dp:=dp) hp hl (by omega) h0 h7 x28 (IntKind.wrap .i64 (x + 1))
  exact ⟨rec,_,q⟩
 ·
  rw [if_neg (by simpa using h)]
  obtain ⟨rec,q⟩:=Bu (n:=n) (a1:=a1) (again:=again) (l:=l) (dp:=dp) hp hl (by omega) h0 h7 x28 1
  exact ⟨rec,_,q⟩
end
theorem IG (n:Nat) (s:List Seg) (h:s.length ≤ 1):∃ b,iE n s=some b∧(b=false→∀ x ∈ s,x.Kind < 2):=by
 unfold iE
 match s,h with
 | [],_=>exact ⟨false,rfl,fun _ x hx=>by cases hx⟩
 | [x],_ =>
  refine ⟨decide (2 ≤ x.Kind),?_,fun hb y hy=>?_⟩
  ·
   rw [if_pos (by simp),show IntKind.wrap .i64 ((([x]:List Seg).length:Int) - 1)=0 from by rw [lD (by simp) (by simp)]; rfl]
   rfl
  ·
   simp at hy hb; subst hy; exact hb
theorem Er {n:Nat} {a1:fU}:∀ (r i f:Nat) (l:List au) (dp:List Int),i + r=min a1.Parents.length 7→r < f→Rs l→(∀ r ∈ l,RO l r)→l.length=i + 1→dp.length=i + 1→∃ l',aL n a1 f l dp (i:Int)=some l'∧Rs l'∧(∀ r ∈ l',RO l' r)
 | 0,i,f + 1,l,dp,hi,hf,hR,hO,hl,hd=>by
  refine ⟨l,?_,hR,hO⟩
  rw [aL,if_neg (by simp only [Bool.and_eq_true,decide_eq_true_eq]; omega)]
 | r + 1,i,f + 1,l,dp,hi,hf,hR,hO,hl,hd=>by
  have hii:i < a1.Parents.length:=by omega
  have hw2:IntKind.wrap .i64 ((l.length:Int) - 1)=(l.length:Int) - 1:=lD (by omega) (by omega)
  obtain ⟨z,fz,z1,z2⟩:=eP n a1.Parents[i] (-1) (IntKind.wrap .i64 ((l.length:Int) - 1)) (by rw [hw2]; omega) (by omega) (by rw [hw2]; omega)
  rw [hw2] at z2
  have hin:∃ b,(if (decide (0 ≤ z))=true then ((idx dp z).bind fun z101=>((if (decide (3 < z101))=true then some true else ((idx l z).bind fun z102=>((iE n z102.eT).bind fun z103=>(some z103)))).bind fun z103=>(some z103))) else some false)=some b∧(b=false→0 ≤ z→∃ p,idx l z=some p∧∀ s ∈ p.eT,s.Kind < 2):=by
   by_cases h0:0 ≤ z
   ·
    obtain ⟨x,hx,_⟩:=kS dp (i:=z) h0 (by omega)
    obtain ⟨y,hy,_,hy2⟩:=kS l (i:=z) h0 (by omega)
    obtain ⟨b,hb,hb2⟩:=IG n y.eT (hR.segs _ _ hy2)
    rw [if_pos (by simpa using h0),hx,Option.bind_some,hy,Option.bind_some,hb]
    split
    ·
     exact ⟨true,rfl,fun h=>by cases h⟩
    ·
     exact ⟨b,rfl,fun h _=>⟨y,rfl,hb2 h⟩⟩
   ·
    rw [if_neg (by simpa using h0)]; exact ⟨false,rfl,fun _ h=>absurd h h0⟩
  obtain ⟨b,hb,hbk⟩:=hin
  rw [aL,if_pos (by simp only [Bool.and_eq_true,decide_eq_true_eq]; omega),gY,List.getElem?_eq_getElem hii,Option.bind_some,fz,Option.bind_some,hb,Option.bind_some]
  have fin:∀ x28:Int,-1 ≤ x28→x28 < l.length→(0 ≤ x28→∃ p,idx l x28=some p∧∀ s ∈ p.eT,s.Kind < 2)→∃ l',bX n a1 l dp (i:Int) (aL n a1 f) x28=some l'∧Rs l'∧(∀ r ∈ l',RO l' r):=fun x28 g1 g2 g3=>by
   obtain ⟨rec,x32,q1,q2,⟨sg,q3,q5⟩,q4r,q4⟩:=JI (n:=n) (a1:=a1) (again:=aL n a1 f) hR.pos hR.le (by omega:dp.length=l.length) (i:=(i:Int)) (x28:=x28) (by omega) (by omega) g2
   rw [q4,show IntKind.wrap .i64 ((i:Int) + 1)=((i + 1:Nat):Int) by rw [lD (by omega) (by omega)]; push_cast; rfl]
   exact Er r (i + 1) f (l ++ [rec]) (dp ++ [x32]) (by omega) (by omega) (hR.snoc (by omega) (by rw [q1,hl]; rfl) (by rw [q2]; exact ⟨g1,g2⟩) ⟨sg,q3,q5.imp id (fun q=>⟨q.1,q.2.1,i,by omega,q.2.2⟩)⟩ (by rw [q2]; exact g3)) (RO.snoc hO q4r) (by simp [hl]) (by simp [hd])
  cases b with
  | true=>exact fin (-1) (by omega) (by omega) (fun h=>by omega)
  | false=>exact fin z z1 (by omega) (hbk rfl)
theorem DD {n:Nat} (hn:10 ≤ n) (a1:fU):∃ l,fJ n a1=some l∧Rs l∧(∀ r ∈ l,RO l r):=by
 unfold fJ
 refine Er (min a1.Parents.length 7) 0 n _ _ (by omega) (by omega) ⟨by simp,by simp,fun j r h=>?_,fun j r h=>?_,fun j r h=>?_,fun j r h=>?_,fun j r h h0=>?_⟩ (fun r hr=>by
  rw [List.mem_singleton.1 hr]
  exact ⟨⟨by simp,by simp⟩,⟨by simp,by simp⟩,fun h=>by simp at h,fun _=>rfl,by simp,by simp⟩) rfl rfl <;>
 ·
  have hj:j=0:=by have:=(List.getElem?_eq_some_iff.1 h).1; simp at this; omega
  subst hj
  simp at h
  subst h
  simp_all [oC]
end Pr
end Go.Ev

namespace Go.Ev
namespace Pr
set_option linter.unusedVariables false
set_option linter.unusedSimpArgs false
theorem Cc {α:Type} {d r:List α} {z z':α}:jJ (d ++ z :: r) (d.length:Int) z'=d ++ z' :: r:=by
 unfold jJ; simp
theorem Ei:∀ (k:Nat) (m p s:List Int) (f:Nat),m.length ≤ k→m.length < f→(p ++ m ++ s).length < 1000000→bH f (p ++ m ++ s) (p.length:Int) ((p.length:Int) + m.length - 1)=some (p ++ m.reverse ++ s)
 | k,[],p,s,f + 1,hk,hf,hl=>by
  rw [bH,if_neg (by simp; omega)]; simp
 | k,[a],p,s,f + 1,hk,hf,hl=>by
  rw [bH,if_neg (by simp)]; simp
 | k + 1,a :: b :: t,p,s,f + 1,hk,hf,hl=>by
  obtain ⟨m',c,hm⟩:∃ m' c,b :: t=m' ++ [c]:=⟨(b :: t).dropLast,(b :: t).getLast (by simp),(List.dropLast_concat_getLast (by simp)).symm⟩
  have hml:(b :: t).length=m'.length + 1:=by rw [hm]; simp
  simp only [List.length_cons] at hml
  have e:p ++ (a :: b :: t) ++ s=p ++ a :: (m' ++ c :: s):=by rw [hm]; simp
  have e2:p ++ (a :: b :: t) ++ s=(p ++ a :: m') ++ c :: s:=by rw [e]; simp
  have hlen:(p ++ (a :: b :: t) ++ s).length=p.length + (t.length + 2) + s.length:=by simp; omega
  have hj:(p.length:Int) + (a :: b :: t).length - 1=(((p ++ a :: m').length:Nat):Int):=by simp; omega
  have i1:idx (p ++ (a :: b :: t) ++ s) ((p.length:Int) + (a :: b :: t).length - 1)=some c:=by rw [hj]; exact jw e2
  have i2:idx (p ++ (a :: b :: t) ++ s) (p.length:Int)=some a:=jw e
  have s1:jJ (p ++ (a :: b :: t) ++ s) (p.length:Int) c=(p ++ c :: m') ++ c :: s:=by rw [e,Cc]; simp
  have hj2:(p.length:Int) + (a :: b :: t).length - 1=(((p ++ c :: m').length:Nat):Int):=by simp; omega
  have i3:idx ((p ++ c :: m') ++ c :: s) ((p.length:Int) + (a :: b :: t).length - 1)=some c:=by rw [hj2]; exact jw rfl
  have s2:jJ ((p ++ c :: m') ++ c :: s) ((p.length:Int) + (a :: b :: t).length - 1) a=(p ++ [c]) ++ m' ++ (a :: s):=by rw [hj2,Cc]; simp
  rw [bH,if_pos (by simp only [List.length_cons,decide_eq_true_eq]; omega),i1,Option.bind_some,i2,Option.bind_some,s1,i3,Option.bind_some,s2]
  have ih:=Ei k m' (p ++ [c]) (a :: s) f (by simp at hk; omega) (by simp at hf; omega) (by rw [hlen] at hl; simp; omega)
  have w1:IntKind.wrap .i64 ((p.length:Int) + 1)=(((p ++ [c]).length:Nat):Int):=by rw [lD (by omega) (by rw [hlen] at hl; omega)]; simp
  have w2:IntKind.wrap .i64 ((p.length:Int) + (a :: b :: t).length - 1 - 1)=(((p ++ [c]).length:Nat):Int) + m'.length - 1:=by
   rw [lD (by simp only [List.length_cons]; omega) (by simp only [List.length_cons]; rw [hlen] at hl; omega)]
   simp; omega
  rw [w1,w2,ih,hm]
  simp
theorem Di {n:Nat} {a:List Int} (hn:a.length < n) (hl:a.length < 1000000):fO n a=some a.reverse:=by
 unfold fO
 have:=Ei a.length a [] [] n (Nat.le_refl _) hn (by simpa using hl)
 simp only [List.nil_append,List.append_nil,List.length_nil] at this
 rw [lD (by omega) (by omega)]
 rw [show ((0:Nat):Int) + (a.length:Int) - 1=(a.length:Int) - 1 by omega] at this
 exact this
theorem kF {α:Type} {l:List α} {i:Int} {x:α} (h:idx l i=some x):0 ≤ i∧i < l.length∧l[i.toNat]? = some x:=by
 obtain ⟨h1,h2⟩:=jU h
 have:=(List.getElem?_eq_some_iff.1 h2).1
 exact ⟨h1,by omega,h2⟩
inductive Up (l:List au):Int→List Int→Prop
 | top {i:Int} {r:au} (h:idx l i=some r) (hp:r.Parent < 0):Up l i [i]
 | up {i:Int} {r:au} {us:List Int} (h:idx l i=some r) (hp:0 ≤ r.Parent) (k:Up l r.Parent us):Up l i (i :: us)
structure Pk (l:List au) (K:Int):Prop where
 par:∀ k r,idx l k=some r→k ≤ K→-1 ≤ r.Parent∧r.Parent < k
 segs:∀ k r,idx l k=some r→k ≤ K→r.eT.length ≤ 2
theorem Rs.pk {l:List au} (h:Rs l) (K:Int):Pk l K:=⟨fun k r hr _=>by
  obtain ⟨h1,_,h2⟩:=kF hr
  have:=h.par _ r h2
  omega,fun k r hr _=>by
  obtain ⟨h1,_,h2⟩:=kF hr
  have:=h.segs _ r h2
  omega⟩
theorem Up.exists {l:List au} (hR:Rs l):∀ (m:Nat) (i:Int),0 ≤ i→i < l.length→i < m→∃ us,Up l i us∧us.length ≤ i.toNat + 1
 | 0,i,h0,_,hm=>by omega
 | m + 1,i,h0,hl,hm=>by
  obtain ⟨r,hr,_,hr2⟩:=kS l h0 hl
  have hp:=hR.par _ r hr2
  by_cases h:r.Parent < 0
  ·
   exact ⟨[i],.top hr h,by simp⟩
  ·
   obtain ⟨us,hu,hl'⟩:=Up.exists hR m r.Parent (by omega) (by omega) (by omega)
   exact ⟨i :: us,.up hr (by omega) hu,by simp; omega⟩
theorem Up.to {l m:List au} {K:Int} (hP:Pk l K) (hm:∀ k r,k ≤ K→idx l k=some r→∃ r',idx m k=some r'∧r'.Parent=r.Parent) {i:Int} {us:List Int} (h:Up l i us):i ≤ K→Up m i us:=by
 induction h with
 | top h hp =>
  intro hi
  obtain ⟨r',h1,h2⟩:=hm _ _ hi h
  exact .top h1 (by omega)
 | up h hp k ih =>
  intro hi
  obtain ⟨r',h1,h2⟩:=hm _ _ hi h
  have:=hP.par _ _ h hi
  exact .up h1 (by omega) (by rw [h2]; exact ih (by omega))
theorem Up.le {l:List au} {K:Int} (hP:Pk l K) {i:Int} {us:List Int} (h:Up l i us):i ≤ K→∀ k ∈ us,k ≤ i:=by
 induction h with
 | top h hp=>intro _ k hk; simp at hk; omega
 | up h hp k ih =>
  intro hi x hx
  have:=hP.par _ _ h hi
  rcases List.mem_cons.1 hx with rfl | hx
  ·
   omega
  ·
   have:=ih (by omega) x hx; omega
theorem Fp {n:Nat} {l:List au} {K:Int} (hP:Pk l K) {i:Int} {us:List Int} (h:Up l i us):i ≤ K→∀ (f:Nat) (acc:List Int),us.length < f→acc.length + us.length ≤ 1000→fC n l f i acc=iG n (acc ++ us):=by
 induction h with
 | top h hp =>
  intro hi f acc hf hl
  obtain ⟨f,rfl⟩:∃ g,f=g + 2:=⟨f - 2,by simp at hf; omega⟩
  obtain ⟨h1,h2,h3⟩:=kF h
  simp at hl
  rw [fC,if_pos (by simp only [Bool.and_eq_true,decide_eq_true_eq]; exact ⟨h1,h2⟩),iH (by rw [bnd]; simp; omega),Option.bind_some,h,Option.bind_some,if_neg (by rw [decide_eq_true_eq]; omega),fC,if_neg (by simp only [Bool.and_eq_true,decide_eq_true_eq]; omega)]
 | up h hp k ih =>
  intro hi f acc hf hl
  rename_i i r us
  obtain ⟨f,rfl⟩:∃ g,f=g + 1:=⟨f - 1,by simp at hf; omega⟩
  obtain ⟨h1,h2,h3⟩:=kF h
  have hpar:=hP.par _ _ h hi
  simp at hl hf
  rw [fC,if_pos (by simp only [Bool.and_eq_true,decide_eq_true_eq]; exact ⟨h1,h2⟩),iH (by rw [bnd]; simp; omega),Option.bind_some,h,Option.bind_some,if_neg (by rw [decide_eq_true_eq]; omega),ih (by omega) f (acc ++ [i]) (by omega) (by simp; omega)]
  simp
theorem FY {n:Nat} (hn:100 ≤ n) {l:List au} {K:Int} (hP:Pk l K) {i:Int} {us:List Int} (h:Up l i us) (hi:i ≤ K) (hu:us.length ≤ 50):mZ n l i=some us.reverse:=by
 unfold mZ
 rw [Fp hP h hi n [] (by omega) (by simp; omega),List.nil_append,iG,Di (by omega) (by omega)]
 rfl
inductive Down (l:List au):List Int→Int→Prop
 | top {i:Int} {r:au} (h:idx l i=some r) (hp:r.Parent = -1):Down l [i] i
 | snoc {c:List Int} {p i:Int} {r:au} (k:Down l c p) (h:idx l i=some r) (hp:r.Parent=p) (h0:0 ≤ p):Down l (c ++ [i]) i
theorem Up.down {l:List au} {K:Int} (hP:Pk l K) {i:Int} {us:List Int} (h:Up l i us):i ≤ K→Down l us.reverse i:=by
 induction h with
 | top h hp =>
  intro hi
  have:=hP.par _ _ h hi
  exact .top h (by omega)
 | up h hp k ih =>
  intro hi
  have:=hP.par _ _ h hi
  rw [List.reverse_cons]; exact .snoc (ih (by omega)) h rfl hp
theorem Down.last {l:List au} {c:List Int} {i:Int} (h:Down l c i):∃ d,c=d ++ [i]:=by
 cases h with
 | top h hp=>exact ⟨[],rfl⟩
 | snoc k h hp h0=>exact ⟨_,rfl⟩
theorem Down.at {l:List au} {c:List Int} {i:Int} (h:Down l c i):∀ (m:Nat) (k:Int),c[m]? = some k→∃ r,idx l k=some r∧((m=0∧r.Parent = -1)∨(0 < m∧c[m - 1]? = some r.Parent)):=by
 induction h with
 | top h hp =>
  intro m k hk
  have hm:m=0:=by have:=(List.getElem?_eq_some_iff.1 hk).1; simp at this; omega
  subst hm
  simp at hk; subst hk
  exact ⟨_,h,.inl ⟨rfl,hp⟩⟩
 | snoc k h hp h0 ih =>
  rename_i c p i r
  intro m x hx
  obtain ⟨d,hd⟩:=k.last
  by_cases q:m < c.length
  ·
   rw [List.getElem?_append_left q] at hx
   obtain ⟨r',h1,h2⟩:=ih m x hx
   refine ⟨r',h1,?_⟩
   rcases h2 with h2 | ⟨h2,h3⟩
   ·
    exact .inl h2
   ·
    exact .inr ⟨h2,by rw [List.getElem?_append_left (by omega)]; exact h3⟩
  ·
   have hm:m=c.length:=by have:=(List.getElem?_eq_some_iff.1 hx).1; simp at this; omega
   subst hm
   rw [List.getElem?_append_right (Nat.le_refl _)] at hx
   simp at hx; subst hx
   have hcl:c.length=d.length + 1:=by rw [hd]; simp
   refine ⟨r,h,.inr ⟨by omega,?_⟩⟩
   rw [List.getElem?_append_left (by omega),hp]
   rw [hcl,Nat.add_sub_cancel,hd]
   simp
def iP (l:List au) (k:Int):List Seg:=match idx l k with | some r=>r.eT | none=>[]
theorem Cf {l:List au} {K:Int} (hP:Pk l K) (c:List Int) (hc:∀ k ∈ c,0 ≤ k∧k < l.length∧k ≤ K) (hcl:c.length ≤ 50):∀ (rest done:List Int) (out:List Seg) (f:Nat),c=done ++ rest→rest.length < f→out.length ≤ 2 * done.length→gF l c f out (done.length:Int)=some (out ++ rest.flatMap (iP l))
 | [],done,out,f + 1,h,hf,ho=>by
  rw [gF,if_neg (by rw [h]; simp)]; simp
 | k :: rest,done,out,f + 1,h,hf,ho=>by
  have hlen:c.length=done.length + rest.length + 1:=by rw [h]; simp; omega
  obtain ⟨h0,h1,hK⟩:=hc k (by rw [h]; simp)
  obtain ⟨r,hr,_,hr2⟩:=kS l h0 h1
  have hs:=hP.segs _ r hr hK
  have hseg:iP l k=r.eT:=by unfold iP; rw [hr]
  rw [gF,if_pos (by rw [decide_eq_true_eq]; omega),jw h,Option.bind_some,hr,Option.bind_some,iH (by rw [bnd]; omega),Option.bind_some]
  have ih:=Cf hP c hc hcl rest (done ++ [k]) (out ++ r.eT) f (by rw [h]; simp) (by simp at hf; omega) (by simp; omega)
  have hw:IntKind.wrap .i64 ((done.length:Int) + 1)=(((done ++ [k]).length:Nat):Int):=by rw [lD (by omega) (by omega)]; simp
  rw [hw,ih]
  simp [hseg]
theorem IK {n:Nat} (hn:100 ≤ n) {l:List au} {K:Int} (hP:Pk l K) {i:Int} {us:List Int} (h:Up l i us) (hi:i ≤ K) (hu:us.length ≤ 50):mE n l i=some (us.reverse.flatMap (iP l)):=by
 have hc:∀ k ∈ us.reverse,0 ≤ k∧k < l.length∧k ≤ K:=fun k hk=>by
  obtain ⟨m,hm⟩:=List.getElem?_of_mem hk
  obtain ⟨r,hr,_⟩:=(h.down hP hi).at m k hm
  have:=kF hr
  have:=h.le hP hi k (by simpa using hk)
  exact ⟨by omega,by omega,by omega⟩
 unfold mE
 rw [FY hn hP h hi hu,Option.bind_some]
 have:=Cf hP us.reverse hc (by simpa using hu) us.reverse [] [] n rfl (by simp; omega) (by simp)
 simpa using this
end Pr
end Go.Ev

namespace Go.Ev
namespace Pr
set_option linter.unusedVariables false
set_option linter.unusedSimpArgs false
theorem rW (n:Nat) (s:Str):fQ n s=fQ 0 s:=rfl
set_option maxRecDepth 100000 in
theorem Cu:∀ t ∈ texts,fQ 0 t=some true:=by decide +kernel
set_option maxRecDepth 100000 in
theorem Fs:∀ i ∈ List.range 8,fQ 0 ([112] ++ nm (i:Int))=some true:=by decide +kernel
set_option maxRecDepth 100000 in
theorem EM:∀ j ∈ List.range 8,fQ 0 (oC j)=some true:=by decide +kernel
theorem Ji {a b:Nat} (ha:a < 8) (hb:b < 8) (h:nm (a:Int)=nm (b:Int)):a=b:=by
 have key:∀ i ∈ List.range 8,∀ j ∈ List.range 8,nm (i:Int)=nm (j:Int)→i=j:=by decide +kernel
 exact key a (List.mem_range.2 ha) b (List.mem_range.2 hb) h
theorem zn.named {j:Nat} {s:Seg} (h:zn j s) (hj:j ≤ 8) (n:Nat):fQ n s.Text=some true∧0 ≤ s.Kind∧s.Kind ≤ 3:=by
 rcases h with ⟨h1,h2⟩ | ⟨h1,h2,i,rfl,h3⟩
 ·
  exact ⟨by rw [rW]; exact Cu _ h2,by omega,by omega⟩
 ·
  exact ⟨by rw [rW,h3]; exact Fs i (List.mem_range.2 (by omega)),by omega,by omega⟩
theorem Ak {n:Nat} (a:List Seg) (p:Seg→Option Bool) (hp:∀ t ∈ a,p t=some false) (hl:a.length < 1000000):∀ (rest done:List Seg) (f:Nat),a=done ++ rest→rest.length < f→aX a p f (done.length:Int)=some (-1)
 | [],done,f + 1,h,hf=>by rw [aX,if_neg (by rw [decide_eq_true_eq,h]; simp)]
 | t :: rest,done,f + 1,h,hf=>by
  have hlen:a.length=done.length + rest.length + 1:=by rw [h]; simp; omega
  have hw:IntKind.wrap .i64 ((done.length:Int) + 1)=(((done ++ [t]).length:Nat):Int):=by rw [lD (by omega) (by omega)]; simp
  rw [aX,if_pos (by rw [decide_eq_true_eq]; omega),jw h,Option.bind_some,hp t (by rw [h]; simp),Option.bind_some,if_neg (by simp),hw]
  exact Ak (n:=n) a p hp hl rest (done ++ [t]) f (by rw [h]; simp) (by simp at hf; omega)
theorem Cj {n:Nat} {a:List Seg} {p:Seg→Option Bool} (hp:∀ t ∈ a,p t=some false) (hl:a.length < n) (hl2:a.length < 1000000):bV n a p=some false:=by
 unfold bV eF
 have:=Ak (n:=n) a p hp hl2 a [] n rfl hl
 rw [List.length_nil,show ((0:Nat):Int)=0 from rfl] at this
 rw [this]; rfl
structure Ec (a:List Seg) (N:Nat):Prop where
 nam:∀ (q:Nat) (s:Seg),a[q]? = some s→q < N→∀ n,fQ n s.Text=some true∧0 ≤ s.Kind∧s.Kind ≤ 3
 last:∀ (q:Nat) (s:Seg),a[q]? = some s→q < N→2 ≤ s.Kind→q + 1=a.length
 twice:∀ (q q':Nat) (s t:Seg),a[q]? = some s→q < N→a[q']? = some t→q' < q→s.Kind ≠ 0→¬(t.Kind ≠ 0∧t.Text=s.Text)
theorem EH {n:Nat} (hn:100 ≤ n) {a:List Seg} {N:Nat} (hN:N ≤ a.length) (ha:a.length ≤ 50) (G:Ec a N):∀ (r q f:Nat),q + r=N→r ≤ f→dN n a f (q:Int)=dN n a (f - r) (N:Int)
 | 0,q,f,hq,hf=>by rw [show q=N by omega]; rfl
 | r + 1,q,f + 1,hq,hf=>by
  have hqa:q < a.length:=by omega
  have hg:a[q]? = some a[q]:=List.getElem?_eq_getElem hqa
  obtain ⟨h1,h2,h3⟩:=G.nam q _ hg (by omega) n
  have hw:IntKind.wrap .i64 ((q:Int) + 1)=((q + 1:Nat):Int):=by rw [lD (by omega) (by omega)]; push_cast; rfl
  have hw1:IntKind.wrap .i64 ((a.length:Int) - 1)=(a.length:Int) - 1:=lD (by omega) (by omega)
  have c1:decide (a[q].Kind < 0)=false:=by rw [decide_eq_false_iff_not]; omega
  have c2:decide (3 < a[q].Kind)=false:=by rw [decide_eq_false_iff_not]; omega
  have c3:¬(decide (2 ≤ a[q].Kind) && (!((q:Int) == IntKind.wrap .i64 ((a.length:Int) - 1))))=true:=by
   rw [hw1]
   simp only [Bool.and_eq_true,decide_eq_true_eq,Bool.not_eq_true',beq_eq_false_iff_ne]
   rintro ⟨k1,k2⟩
   have:=G.last q _ hg (by omega) k1
   apply k2; omega
  have c4:(if (a[q].Kind != 0)=true then ((cut a 0 (q:Int)).bind fun z25=>((bV n z25 (fun y26=>iL n y26 a[q])).bind fun z27=>(some z27))) else some false)=some false:=by
   by_cases hk:a[q].Kind=0
   ·
    rw [if_neg (by simp [hk])]
   ·
    have hcut:cut a 0 (q:Int)=some (a.take q):=by unfold cut; rw [if_pos ⟨by omega,by omega,by omega⟩]; simp
    rw [if_pos (by simp [hk]),hcut,Option.bind_some,Cj (fun t ht=>?_) (by simp; omega) (by simp; omega)]
    ·
     rfl
    ·
     obtain ⟨q',hq'⟩:=List.getElem?_of_mem ht
     have hlt:q' < q:=by have:=(List.getElem?_eq_some_iff.1 hq').1; simp at this; omega
     rw [List.getElem?_take_of_lt hlt] at hq'
     have:=G.twice q q' _ t hg (by omega) hq' hlt hk
     unfold iL
     congr 1
     simp only [Bool.and_eq_false_iff,bne_eq_false_iff_eq,beq_eq_false_iff_ne]
     by_cases ht0:t.Kind=0
     ·
      exact .inl ht0
     ·
      exact .inr (fun e=>this ⟨ht0,e⟩)
  rw [dN,if_pos (by rw [decide_eq_true_eq]; omega),gY,hg,Option.bind_some,h1,Option.bind_some,c1,c2,if_neg (by simp),if_neg c3,c4,Option.bind_some,if_neg (by simp),hw]
  rw [EH hn hN ha G r (q + 1) f (by omega) (by omega)]
  congr 1
  omega
theorem El {n:Nat} (hn:100 ≤ n) {a:List Seg} (ha:a.length ≤ 8) (G:Ec a a.length):gQ n a=some true:=by
 unfold gQ
 rw [if_neg (by rw [decide_eq_true_eq]; omega)]
 have:=EH hn (Nat.le_refl _) (by omega) G a.length 0 n (by omega) (by omega)
 rw [show ((0:Nat):Int)=0 from rfl] at this
 obtain ⟨g,hg⟩:∃ g,n - a.length=g + 1:=⟨n - a.length - 1,by omega⟩
 rw [this,hg,dN,if_neg (by simp)]
theorem I7 {n:Nat} (hn:100 ≤ n) {s:Str} {b:Bool} (hs:fQ 0 s=some b):gQ n [Seg.mk 0 s]=some b:=by
 cases b with
 | true =>
  refine El hn (by simp) ⟨fun q x hx hq m=>?_,fun q x hx hq hk=>?_,fun q q' x t hx hq ht hlt hk=>?_⟩
  ·
   simp at hq; subst hq; simp at hx; subst hx; exact ⟨by rw [rW]; exact hs,by simp,by simp⟩
  ·
   simp at hq; subst hq; simp
  ·
   simp at hq; omega
 | false =>
  unfold gQ
  obtain ⟨g,rfl⟩:∃ g,n=g + 1:=⟨n - 1,by omega⟩
  rw [if_neg (by simp),dN,if_pos (by simp),show idx [Seg.mk 0 s] 0=some (Seg.mk 0 s) from rfl,Option.bind_some,rW]
  simp only []
  rw [hs,Option.bind_some,if_pos (by simp)]
structure eT (l:List au) (c:List Int) (i:Int):Prop where
 ok:∀ s ∈ c.flatMap (iP l),∃ j:Nat,j < 8∧(j:Int) ≤ i∧zn j s
 pw:(c.flatMap (iP l)).Pairwise (fun s t=>¬(t.Kind ≠ 0∧s.Kind ≠ 0∧s.Text=t.Text))
 sp:∃ y,c.flatMap (iP l)=y ++ iP l i∧∀ s ∈ y,s.Kind < 2
 len:(c.flatMap (iP l)).length ≤ c.length
theorem CU {l:List au} {i:Int} {r:au} (h:idx l i=some r):iP l i=r.eT:=by unfold iP; rw [h]
theorem ym {l:List au} (hR:Rs l) {i:Int} {r:au} (h:idx l i=some r):(iP l i).length ≤ 1∧∀ s ∈ iP l i,∃ j:Nat,(j:Int)=i∧j < 8∧zn j s:=by
 obtain ⟨h0,h1,h2⟩:=kF h
 have hle:=hR.le
 rw [CU h]
 refine ⟨hR.segs _ r h2,fun s hs=>?_⟩
 rcases hR.sg _ r h2 with q | ⟨s',q,q'⟩
 ·
  rw [q] at hs; cases hs
 ·
  rw [q] at hs
  simp at hs; subst hs
  exact ⟨i.toNat,by omega,by omega,q'⟩
theorem Ib {l:List au} (hR:Rs l) {c:List Int} {i:Int} (h:Down l c i):eT l c i:=by
 induction h with
 | top h hp =>
  rename_i i r
  obtain ⟨h1,h2⟩:=ym hR h
  have e:([i]:List Int).flatMap (iP l)=iP l i:=by simp
  refine ⟨fun s hs=>?_,?_,⟨[],by rw [e]; rfl,by simp⟩,by rw [e]; simpa using h1⟩
  ·
   rw [e] at hs; obtain ⟨j,a,b,d⟩:=h2 s hs; exact ⟨j,b,by omega,d⟩
  ·
   rw [e]
   match iP l i,h1 with
   | [],_=>exact .nil
   | [x],_=>simp
 | snoc k h hp h0 ih =>
  rename_i c p i r
  obtain ⟨h1,h2⟩:=ym hR h
  obtain ⟨g0,g1,g2⟩:=kF h
  have hpi:=hR.par _ r g2
  obtain ⟨pr,hpr,hkid⟩:=hR.kid _ r g2 (by omega)
  rw [hp] at hpr
  obtain ⟨y,hy,hy2⟩:=ih.sp
  have e:(c ++ [i]).flatMap (iP l)=c.flatMap (iP l) ++ iP l i:=by simp
  have low:∀ s ∈ c.flatMap (iP l),s.Kind < 2:=fun s hs=>by
   rw [hy] at hs
   rcases List.mem_append.1 hs with q | q
   ·
    exact hy2 s q
   ·
    rw [CU hpr] at q; exact hkid s q
  refine ⟨fun s hs=>?_,?_,⟨_,e,low⟩,by rw [e,List.length_append,List.length_append]; have:=ih.len; simp only [List.length_cons,List.length_nil]; omega⟩
  ·
   rw [e] at hs
   rcases List.mem_append.1 hs with q | q
   ·
    obtain ⟨j,a,b,d⟩:=ih.ok s q; exact ⟨j,a,by omega,d⟩
   ·
    obtain ⟨j,a,b,d⟩:=h2 s q; exact ⟨j,b,by omega,d⟩
  ·
   rw [e]
   refine List.pairwise_append.2 ⟨ih.pw,?_,fun s hs t ht=>?_⟩
   ·
    match iP l i,h1 with
    | [],_=>exact .nil
    | [x],_=>simp
   ·
    rintro ⟨k1,k2,k3⟩
    obtain ⟨j,a1,a2,a3⟩:=ih.ok s hs
    obtain ⟨j',b1,b2,b3⟩:=h2 t ht
    rcases a3 with ⟨a3,_⟩ | ⟨_,_,m,rfl,a3⟩
    ·
     exact k2 a3
    ·
     rcases b3 with ⟨b3,_⟩ | ⟨_,_,m',rfl,b3⟩
     ·
      exact k1 b3
     ·
      rw [a3,b3] at k3
      have:=Ji (by omega) (by omega) (List.append_cancel_left k3)
      subst this
      omega
theorem eT.good {l:List au} {c:List Int} {i:Int} (S:eT l c i) (h1:(iP l i).length ≤ 1):Ec (c.flatMap (iP l)) (c.flatMap (iP l)).length:=by
 refine ⟨fun q s hs hq n=>?_,fun q s hs hq hk=>?_,fun q q' s t hs hq ht hlt hk=>?_⟩
 ·
  obtain ⟨j,a,b,d⟩:=S.ok s (List.mem_of_getElem? hs)
  exact d.named (by omega) n
 ·
  obtain ⟨y,hy,hy2⟩:=S.sp
  rw [hy] at hs ⊢
  by_cases hqy:q < y.length
  ·
   rw [List.getElem?_append_left hqy] at hs
   have:=hy2 s (List.mem_of_getElem? hs); omega
  ·
   have:=(List.getElem?_eq_some_iff.1 hs).1
   simp at this ⊢; omega
 ·
  obtain ⟨e1,e2⟩:=List.getElem?_eq_some_iff.1 hs
  obtain ⟨e3,e4⟩:=List.getElem?_eq_some_iff.1 ht
  have:=List.pairwise_iff_getElem.1 S.pw q' q e3 e1 hlt
  rw [e2,e4] at this
  rintro ⟨k1,k2⟩
  exact this ⟨hk,k1,k2⟩
end Pr
end Go.Ev

namespace Go.Ev
namespace Pr
set_option linter.unusedVariables false
set_option linter.unusedSimpArgs false
set_option linter.unusedSectionVars false
section
variable {κ ν:Type} [BEq κ] [LawfulBEq κ]
theorem qW (k:κ):∀ (m:List (κ × ν)) (i:Nat),(nK k m i).map (·.2)=(nK k m 0).map (·.2)
 | [],i=>rfl
 | (a,b) :: l,i=>by
  simp only [nK]
  split
  ·
   rfl
  ·
   rw [qW k l (i + 1),qW k l 1]
theorem qh (a:κ) (b:ν) (l:List (κ × ν)) (k:κ):Dk ((a,b) :: l) k=if (k == a)=true then some b else Dk l k:=by
 unfold Dk
 simp only [nK]
 split
 ·
  rfl
 ·
  exact qW k l 1
theorem zB (k:κ):∀ (m:List (κ × ν)) (i:Nat),nK k m (i + 1)=(nK k m i).map fun r=>(r.1 + 1,r.2)
 | [],i=>rfl
 | (c,e) :: m,i=>by
  simp only [nK]
  cases (k == c) with
  | true=>rfl
  | false=>exact zB k m (i + 1)
theorem E8 (a:κ) (b:ν) (l:List (κ × ν)) (k:κ) (v:ν):vC ((a,b) :: l) k v=if (k == a)=true then (k,v) :: l else (a,b) :: vC l k v:=by
 unfold vC
 simp only [nK,zB]
 cases h:(k == a) with
 | true=>have:=eq_of_beq h; subst this; simp
 | false=>cases nK k l 0 <;> simp
theorem Aa:∀ (m:List (κ × ν)) (k k':κ) (v:ν),Dk (vC m k v) k'=if (k' == k)=true then some v else Dk m k'
 | [],k,k',v=>by
  have:vC ([]:List (κ × ν)) k v=[(k,v)]:=rfl
  rw [this,qh]
 | (a,b) :: l,k,k',v=>by
  rw [E8]
  by_cases h:(k == a)=true
  ·
   rw [if_pos h,qh,qh]
   have:=eq_of_beq h
   subst this
   by_cases h2:(k' == k)=true
   ·
    rw [if_pos h2,if_pos h2]
   ·
    rw [if_neg h2,if_neg h2,if_neg h2]
  ·
   rw [if_neg h,qh,Aa l k k' v,qh]
   by_cases h2:(k' == a)=true
   ·
    rw [if_pos h2,if_pos h2]
    have:=eq_of_beq h2
    subst this
    have h3:(k' == k)=false:=by
     cases hq:k' == k with
     | false=>rfl
     | true=>have:=eq_of_beq hq; subst this; simp at h
    rw [h3]; rfl
   ·
    rw [if_neg h2,if_neg h2]
theorem tu (m:List (κ × ν)) (k k':κ) (v z:ν):lI (vC m k v) k' z=if (k' == k)=true then v else lI m k' z:=by
 unfold lI
 rw [Aa]
 split <;> rfl
end
end Pr
end Go.Ev

namespace Go.Ev
namespace Pr
set_option linter.unusedVariables false
set_option linter.unusedSimpArgs false
structure Agree (l m:List au) (b:Nat):Prop where
 rs:Rs l
 le:b ≤ l.length
 lm:b ≤ m.length
 eq:∀ k:Nat,k < b→m[k]? = l[k]?
section
variable {l m:List au} {b:Nat}
theorem Agree.pk (A:Agree l m b):Pk m ((b:Int) - 1):=by
 have get:∀ k r,idx m k=some r→k ≤ (b:Int) - 1→idx l k=some r:=fun k r h hk=>by
  obtain ⟨h0,_,h2⟩:=kF h
  rw [A.eq _ (by omega)] at h2
  unfold idx
  rw [if_pos h0,h2]
 have P:=A.rs.pk ((b:Int) - 1)
 exact ⟨fun k r h hk=>P.par k r (get k r h hk) hk,fun k r h hk=>P.segs k r (get k r h hk) hk⟩
theorem Agree.to (A:Agree l m b):∀ k r,k ≤ (b:Int) - 1→idx l k=some r→∃ r',idx m k=some r'∧r'.Parent=r.Parent:=fun k r hk h=>by
 obtain ⟨h0,_,h2⟩:=kF h
 refine ⟨r,?_,rfl⟩
 unfold idx
 rw [if_pos h0,A.eq _ (by omega),h2]
theorem Agree.K3 (A:Agree l m b) {k:Int} (hk:k ≤ (b:Int) - 1):iP m k=iP l k:=by
 unfold iP idx
 by_cases h0:0 ≤ k
 ·
  rw [if_pos h0,if_pos h0,A.eq _ (by omega)]
 ·
  rw [if_neg h0,if_neg h0]
theorem xH {f g:Int→List Seg}:∀ (c:List Int),(∀ k ∈ c,f k=g k)→c.flatMap f=c.flatMap g
 | [],_=>rfl
 | a :: c,h=>by simp only [List.flatMap_cons]; rw [h a List.mem_cons_self,xH c (fun k hk=>h k (List.mem_cons_of_mem _ hk))]
theorem Agree.full (A:Agree l m b) {n:Nat} (hn:100 ≤ n) {j:Nat} (hj:j < b):∃ a,mE n m (j:Int)=some a∧gQ n a=some true:=by
 have hle:=A.rs.le
 have hlb:=A.le
 obtain ⟨us,hU,hul⟩:=Up.exists A.rs (j + 1) (j:Int) (by omega) (by omega) (by omega)
 have hUm:=hU.to (A.rs.pk ((b:Int) - 1)) A.to (by omega)
 have hf:=IK hn A.pk hUm (by omega) (by omega)
 have hle2:=hU.le (A.rs.pk ((b:Int) - 1)) (by omega)
 have e:us.reverse.flatMap (iP m)=us.reverse.flatMap (iP l):=xH _ (fun k hk=>A.K3 (by have:=hle2 k (by simpa using hk); omega))
 have hD:=hU.down (A.rs.pk (j:Int)) (Int.le_refl _)
 have S:=Ib A.rs hD
 obtain ⟨r,hr,_⟩:=kS l (i:=(j:Int)) (by omega) (by omega)
 refine ⟨_,hf,?_⟩
 rw [e]
 have hl:=S.len
 simp only [List.length_reverse] at hl
 exact El hn (by omega) (S.good (ym A.rs hr).1)
structure Names (map:List (Str × Int)) (j:Nat):Prop where
 old:∀ k,k < j→lI map (oC k) 0=1
 new:∀ k,j ≤ k→k < 8→lI map (oC k) 0=0
 other:lI map [] 0=0
theorem Gl (k:Nat):oC k ≠ []:=by cases k <;> simp [oC]
end
theorem Names.put {map:List (Str × Int)} {j:Nat} (h:Names map j) (hj:j < 8) (v:Int) (hv:v=1):Names (vC map (oC j) v) (j + 1):=by
 refine ⟨fun k hk=>?_,fun k h1 h2=>?_,?_⟩
 ·
  rw [tu]
  by_cases q:k=j
  ·
   subst q; rw [if_pos (by simp)]; exact hv
  ·
   rw [if_neg (by simp only [beq_iff_eq]; intro e; exact q (Af (by omega) hj e))]
   exact h.old k (by omega)
 ·
  rw [tu,if_neg (by simp only [beq_iff_eq]; intro e; have:=Af h2 hj e; omega)]
  exact h.new k (by omega) h2
 ·
  rw [tu,if_neg (by simp only [beq_iff_eq]; intro e; exact Gl j e.symm)]
  exact h.other
theorem Fh:Names [] 0:=⟨fun k h=>by omega,fun k _ _=>rfl,rfl⟩
theorem EE {l m:List au} {b n:Nat} (hn:100 ≤ n) (A:Agree l m b):∀ (r j f:Nat) (map:List (Str × Int)),j + r=b→r ≤ f→Names map j→∃ map',fB n m f map (j:Int)=fB n m (f - r) map' (b:Int)∧Names map' b
 | 0,j,f,map,hj,hf,hN=>⟨map,by rw [show j=b by omega]; rfl,by rw [show b=j by omega]; exact hN⟩
 | r + 1,j,f + 1,map,hj,hf,hN=>by
  have hle:=A.rs.le
  have hlb:=A.le
  have hlm:=A.lm
  have hjl:j < l.length:=by omega
  have hg:m[j]? = some l[j]:=by rw [A.eq j (by omega)]; exact List.getElem?_eq_getElem hjl
  have hgl:l[j]? = some l[j]:=List.getElem?_eq_getElem hjl
  have hname:=A.rs.name j _ hgl
  have hpar:=A.rs.par j _ hgl
  obtain ⟨a,ha,hpr⟩:=A.full hn (j:=j) (by omega)
  have hnm:=EM j (List.mem_range.2 (by omega))
  have hw:IntKind.wrap .i64 ((j:Int) + 1)=((j + 1:Nat):Int):=by rw [lD (by omega) (by omega)]; push_cast; rfl
  have h0:=hN.new j (Nat.le_refl _) (by omega)
  obtain ⟨map',e1,e2⟩:=EE hn A r (j + 1) f (vC map (oC j) (IntKind.wrap .i64 (lI map (oC j) 0 + 1))) (by omega) (by omega) (hN.put (by omega) _ (by rw [h0,lD (by omega) (by omega)]; rfl))
  refine ⟨map',?_,e2⟩
  have c1:decide (l[j].Parent < -1)=false:=by rw [decide_eq_false_iff_not]; omega
  have c2:decide ((j:Int) ≤ l[j].Parent)=false:=by rw [decide_eq_false_iff_not]; omega
  rw [fB,if_pos (by rw [decide_eq_true_eq]; omega),gY,hg,Option.bind_some,hname,I7 hn hnm,Option.bind_some,h0,c1,c2,if_neg (by simp),ha,Option.bind_some,hpr,Option.bind_some,Option.bind_some,if_neg (by simp),hw]
  rw [h0] at e1
  rw [e1]
  congr 1
  omega
theorem DR {n:Nat} (hn:100 ≤ n) {l:List au} (hR:Rs l):j4 n l=some true:=by
 have hle:=hR.le
 have hpos:=hR.pos
 obtain ⟨map',e1,_⟩:=EE hn (l:=l) (m:=l) (b:=l.length) ⟨hR,Nat.le_refl _,Nat.le_refl _,fun _ _=>rfl⟩ l.length 0 n [] (by omega) (by omega) Fh
 unfold j4
 rw [if_neg (by simp only [Bool.or_eq_true,decide_eq_true_eq]; omega)]
 rw [show ((0:Nat):Int)=0 from rfl] at e1
 obtain ⟨g,hg⟩:∃ g,n - l.length=g + 1:=⟨n - l.length - 1,by omega⟩
 rw [e1,hg,fB,if_neg (by simp)]
end Pr
end Go.Ev

namespace Go.Ev
namespace Pr
set_option linter.unusedVariables false
set_option linter.unusedSimpArgs false
theorem Gq (a b:List aF):qP (a ++ b)=qP a + qP b:=by
 induction a with
 | nil=>simp [qP]
 | cons x a ih=>simp only [List.cons_append,qP,ih]; omega
theorem En:∀ (m:Nat) (t:aF),C.iY t ≤ m→C.pg 6 t→BM t=0
 | 0,t,hm,_=>by have:=C.dL t; omega
 | m + 1,t,hm,h=>by
  have h':=(C.nY t).1 h
  have hl:∀ (l:List aF),(∀ z ∈ l,BM z=0)→qP l=0:=by
   intro l
   induction l with
   | nil=>intro _; rfl
   | cons x l ih =>
    intro hz
    have:=hz x List.mem_cons_self
    have:=ih (fun z h=>hz z (List.mem_cons_of_mem _ h))
    simp only [qP]; omega
  have:=hl t.Kids (fun z hz=>En m z (by have:=C.jy hz; omega) (h'.2.2.2.2.2 z hz))
  rw [uV,this,if_neg (by omega)]
theorem EU (n:Nat) (hn:100 < n) (t u:aF) (o:Bool) (g:C.pg 7 t) (hc:C.iY t ≤ 13) (hk:t.Kind=1) (h:gu n t o=some u):BM u=if o=true then 1 else 0:=by
 obtain ⟨c1,c2,c3⟩:=C.DN _ t (Nat.le_refl _)
 have g6:=c3 g (by omega)
 have hwk:(C.wo t).Kind=1:=by rw [C.Ej]; exact hk
 have h0:=En _ _ (Nat.le_refl _) g6
 have hlen:=C.kG (C.wo t).Kids
 have hpk:=C.dL (C.wo t)
 rw [uV,if_neg (by omega)] at h0
 unfold gu at h
 rw [C.sZ 13 t hc (by omega) n (by omega),Option.bind_some] at h
 cases o with
 | false =>
  rw [if_neg (by simp)] at h
  unfold dF at h
  rw [← Option.some.inj h,BM,hwk]
  simp only [Bool.false_eq_true,if_false]
  rw [if_neg (by omega)]; omega
 | true =>
  rw [if_pos rfl,iH (by rw [bnd]; simp; omega),Option.bind_some] at h
  unfold dF at h
  rw [← Option.some.inj h,BM,hwk,if_neg (by omega),Gq]
  simp only [qP,BM,if_true]; omega
structure GC (n:Nat) (o:Bool) (c:aG):Prop where
 rt:ib n c=some true
 sl:dH n c.aF=some (if o=true then 1 else 0)
 pg:C.pg 7 c.aF
 cnt:C.iY c.aF ≤ 14
 il:c.Init.length=5
 ol:c.On.length ≤ 5
theorem CJ (k:dW) (n:Nat) (hn:100 < n):∃ c,fM n k=some c∧GC n k.Outlet c:=by
 obtain ⟨t,t1,t2,t3,t4,t5⟩:=C.Gz k.Page n hn
 obtain ⟨u,u1,u2,u3,u4⟩:=C.F7 n hn t k.Outlet t2 t3 t4 t5
 have u5:=EU n hn t u k.Outlet t2 t3 t5 u1
 obtain ⟨ini,ons,i1,i2,i3,i4,i5⟩:=C.Ac n hn k u 5 0 n [] rfl rfl (by omega) (fun v hv=>by cases hv)
 refine ⟨aG.mk u ini ons,?_,C.Fv n (by omega) _ (by show ini.length ≤ 6; omega) i2 (by show ons.length ≤ 24; omega) ?_ (fun o ho=>?_),?_,u2,u3,i1,i3⟩
 ·
  unfold fM
  rw [t1,Option.bind_some,u1,Option.bind_some]
  exact i5
 ·
  show j5 n u (ini.length:Int)=_
  rw [i1]; exact u4
 ·
  obtain ⟨p1,p2,_⟩:=i4 o ho
  exact ⟨by show C.Im ini.length o; rw [i1]; exact p1,p2⟩
 ·
  show dH n u=_
  rw [zt 14 u u3 (by omega) n (by omega),u5]
  cases k.Outlet <;> rfl
def CS (n:Nat) (cs:List aG):Prop:=∀ (i:Nat) (c:aG),cs[i]? = some c→GC n (i % 2 == 1) c
theorem CS.two {n:Nat} {cs:List aG} (h:CS n cs) (he:cs.length % 2=0) {a b:aG} (ha:GC n false a) (hb:GC n true b):CS n (cs ++ [a] ++ [b]):=by
 intro i c hc
 by_cases q:i < cs.length
 ·
  rw [List.append_assoc,List.getElem?_append_left q] at hc; exact h i c hc
 ·
  rw [List.append_assoc,List.getElem?_append_right (by omega)] at hc
  have hlt:=(List.getElem?_eq_some_iff.1 hc).1
  simp at hlt
  by_cases q0:i=cs.length
  ·
   subst q0; simp at hc; subst hc
   have:(cs.length % 2 == 1)=false:=by rw [he]; rfl
   rw [this]; exact ha
  ·
   have e:i - cs.length=1:=by omega
   rw [e] at hc; simp at hc; subst hc
   have:(i % 2 == 1)=true:=by rw [beq_iff_eq]; omega
   rw [this]; exact hb
theorem zR {n:Nat} (hn:100 < n) (a1:jS) (l:List au) (ca:Int):∀ (m i f:Nat) (cs:List aG),i + m=4→m < f→cs.length=2 * i→CS n cs→∃ cs',cs'.length=8∧CS n cs'∧bE n a1 l ca f cs (i:Int)=aY n l ca cs' n l 0
 | 0,i,f + 1,cs,hi,hf,hl,hC=>by
  refine ⟨cs,by omega,hC,?_⟩
  rw [bE,if_neg (by rw [decide_eq_true_eq]; omega)]
 | m + 1,i,f + 1,cs,hi,hf,hl,hC=>by
  have hw:IntKind.wrap .i64 ((i:Int) + 1)=((i + 1:Nat):Int):=by rw [lD (by omega) (by omega)]; push_cast; rfl
  have fin:∀ (x36 x37 x38 x39 x40 x41:List Int) (x42:Bool),∃ cs',cs'.length=8∧CS n cs'∧dU n cs (i:Int) (bE n a1 l ca f) x36 x37 x38 x39 x40 x41 x42=aY n l ca cs' n l 0:=fun x36 x37 x38 x39 x40 x41 x42=>by
   obtain ⟨a,a1',a2⟩:=CJ (dW.mk (bR.mk x36 x37 x38 x39) x40 x41 false) n hn
   obtain ⟨b,b1',b2⟩:=CJ (dW.mk (bR.mk x36 x37 x38 x39) x40 x41 true) n hn
   unfold dU
   rw [a1',Option.bind_some,iH (by rw [bnd]; simp; omega),Option.bind_some,b1',Option.bind_some,iH (by rw [bnd]; simp; omega),Option.bind_some,hw]
   exact zR hn a1 l ca m (i + 1) f _ (by omega) (by omega) (by simp; omega) (hC.two (by omega) a2 b2)
  rw [bE,if_pos (by rw [decide_eq_true_eq]; omega)]
  split
  ·
   rename_i h
   rw [decide_eq_true_eq] at h
   rw [gY,List.getElem?_eq_getElem (by omega),Option.bind_some]
   exact fin _ _ _ _ _ _ _
  ·
   exact fin _ _ _ _ _ _ _
def gJ (l:List au) (i:Int):Bool:=l.any fun r=>r.Parent == i
def nk (r:au) (c:Int):au:=au.mk r.Name r.Parent r.eT c r.iK r.aJ
theorem or_one:∀ w ∈ [(0:Int),1,2,3],KZ .i64 (2 * w) 1=2 * w + 1∧KZ .i64 (2 * w + 1) 1=2 * w + 1∧IntKind.wrap .i64 (2 * w)=2 * w:=by decide
theorem xP (l:List au) (hl:l.length ≤ 8) (i:Int) (again:List au→Int→Option dO) (w:Int) (hw:w ∈ [(0:Int),1,2,3]):∀ (rest done:List au) (k:Nat),l=done ++ rest→rest.length < k →
  bG l i again k (2 * w + (if gJ done i=true then 1 else 0)) (done.length:Int)=(idx l i).bind fun z=>again (jJ l i (nk z (2 * w + (if gJ l i=true then 1 else 0)))) (IntKind.wrap .i64 (i + 1))
 | [],done,k + 1,h,hk=>by
  have e:l=done:=by rw [h]; simp
  subst e
  rw [bG,if_neg (by simp)]
  rfl
 | r :: rest,done,k + 1,h,hk=>by
  have hlen:l.length=done.length + rest.length + 1:=by rw [h]; simp; omega
  have hw1:IntKind.wrap .i64 ((done.length:Int) + 1)=(((done ++ [r]).length:Nat):Int):=by rw [lD (by omega) (by omega)]; simp
  obtain ⟨o1,o2,_⟩:=or_one w hw
  have hin:gJ (done ++ [r]) i=(gJ done i || r.Parent == i):=by simp [gJ]
  have ih:=xP l hl i again w hw rest (done ++ [r]) k (by rw [h]; simp) (by simp at hk; omega)
  rw [bG,if_pos (by rw [decide_eq_true_eq]; omega),jw h,Option.bind_some]
  unfold eQ
  rw [hw1,← ih,hin]
  cases hp:(r.Parent == i) with
  | true =>
   rw [if_pos rfl]
   cases gJ done i <;> simp [o1,o2]
  | false=>rw [if_neg (by simp)]; simp
structure Fix (l m:List au) (k:Nat):Prop where
 len:m.length=l.length
 at_:∀ (j:Nat) (r:au),l[j]? = some r→∃ c,m[j]? = some (nk r c)∧(j < k→0 ≤ c∧c < 8∧(gJ l (j:Int)=true→c % 2=1))
theorem Fix.inner {l m:List au} {k:Nat} (h:Fix l m k) (i:Int):gJ m i=gJ l i:=by
 have key:m.map (·.Parent)=l.map (·.Parent):=by
  apply List.ext_getElem?
  intro j
  rw [List.getElem?_map,List.getElem?_map]
  cases hj:l[j]? with
  | none =>
   have:l.length ≤ j:=by rw [List.getElem?_eq_none_iff] at hj; exact hj
   rw [List.getElem?_eq_none_iff.2 (by rw [h.len]; exact this)]
  | some r =>
   obtain ⟨c,hc,_⟩:=h.at_ j r hj
   rw [hc]; rfl
 have e:∀ l:List au,gJ l i=(l.map (·.Parent)).any (fun p=>p == i):=fun l=>by unfold gJ; rw [List.any_map]; rfl
 rw [e,e,key]
theorem uy {α:Type} (l:List α) (i:Nat) (z:α):jJ l (i:Int) z=l.set i z:=by unfold jJ; simp
theorem zU {n:Nat} (hn:100 < n) (l:List au) (hl:l.length ≤ 8) (ca:Int) (cs:List aG):∀ (r i f:Nat) (m:List au),i + r=l.length→r < f→Fix l m i→∃ m',Fix l m' l.length∧aY n l ca cs f m (i:Int)=some (dO.mk m' cs ca)
 | 0,i,f + 1,m,hi,hf,hF=>by
  refine ⟨m,by rw [← hi]; exact hF,?_⟩
  rw [aY,if_neg (by rw [decide_eq_true_eq]; omega)]
 | r + 1,i,f + 1,m,hi,hf,hF=>by
  have hil:i < l.length:=by omega
  obtain ⟨c,hc,_⟩:=hF.at_ i l[i] (List.getElem?_eq_getElem hil)
  obtain ⟨w,w1,w2,w3⟩:=C.eP n c 0 3 (by omega) (by omega) (by omega)
  have hw:w ∈ [(0:Int),1,2,3]:=by simp; omega
  have hz:(nk l[i] c).aG=c:=rfl
  have hi1:IntKind.wrap .i64 ((i:Int) + 1)=((i + 1:Nat):Int):=by rw [lD (by omega) (by omega)]; push_cast; rfl
  rw [aY,if_pos (by rw [decide_eq_true_eq]; omega),gY,hc,Option.bind_some,hz,w1,Option.bind_some,(or_one w hw).2.2]
  have:=xP m (by rw [hF.len]; exact hl) (i:Int) (aY n l ca cs f) w hw m [] n rfl (by rw [hF.len]; omega)
  have hnil:gJ [] (i:Int)=false:=rfl
  simp only [List.length_nil,hnil,Bool.false_eq_true,if_false,Int.add_zero] at this
  rw [show ((0:Nat):Int)=0 from rfl] at this
  rw [this,gY,hc,Option.bind_some,hi1,uy]
  refine zU hn l hl ca cs r (i + 1) f _ (by omega) (by omega) ⟨by simp [hF.len],fun j x hx=>?_⟩
  by_cases hj:j=i
  ·
   subst hj
   have ex:x=l[j]:=by rw [List.getElem?_eq_getElem hil] at hx; exact (Option.some.inj hx).symm
   subst ex
   refine ⟨_,by rw [List.getElem?_set_self (by rw [hF.len]; exact hil)]; rfl,fun _=>?_⟩
   have e2:gJ m (j:Int)=gJ l (j:Int):=hF.inner (j:Int)
   have:w ≤ 3:=w3
   split
   ·
    exact ⟨by omega,by omega,fun _=>by omega⟩
   ·
    rename_i h; exact ⟨by omega,by omega,fun q=>absurd (e2.trans q) h⟩
  ·
   obtain ⟨c',h1,h2⟩:=hF.at_ j x hx
   refine ⟨c',by rw [List.getElem?_set_ne (by omega)]; exact h1,fun q=>h2 (by omega)⟩
structure sO (n:Nat) (a:dO):Prop where
 rs:Rs a.Records
 ru:∀ r ∈ a.Records,(0 ≤ r.aJ.Kind∧r.aJ.Kind ≤ 4)∧(0 ≤ r.aJ.Flag∧r.aJ.Flag ≤ 3)∧(r.aJ.Kind=3∨r.aJ.Kind=4→∃ p ∈ a.Records,p.Name=r.aJ.To)∧(¬(r.aJ.Kind=3∨r.aJ.Kind=4)→r.aJ.To=[])
 cp:∀ (j:Nat) (r:au),a.Records[j]? = some r→0 ≤ r.aG∧r.aG < 8∧(gJ a.Records (j:Int)=true→r.aG % 2=1)
 cl:a.Comps.length=8
 cs:CS n a.Comps
 ca:0 ≤ a.Cache∧a.Cache ≤ 4
theorem Rs.like {l m:List au} (h:Rs l) (hl:m.length=l.length) (hm:∀ (j:Nat) (r':au),m[j]? = some r'→∃ r,l[j]? = some r∧r'.Name=r.Name∧r'.Parent=r.Parent∧r'.eT=r.eT):Rs m:=by
 refine ⟨by rw [hl]; exact h.pos,by rw [hl]; exact h.le,fun j r' hr=>?_,fun j r' hr=>?_,fun j r' hr=>?_,fun j r' hr=>?_,fun j r' hr h0=>?_⟩ <;> obtain ⟨r,q1,q2,q3,q4⟩:=hm j r' hr
 ·
  rw [q3]; exact h.par j r q1
 ·
  rw [q2]; exact h.name j r q1
 ·
  rw [q4]; exact h.segs j r q1
 ·
  rw [q4]; exact h.sg j r q1
 ·
  rw [q3] at h0
  obtain ⟨p,p1,p2⟩:=h.kid j r q1 h0
  obtain ⟨x1,x2⟩:=jU p1
  have hlt:=(List.getElem?_eq_some_iff.1 x2).1
  obtain ⟨s,s1,s2,s3,s4⟩:=hm r.Parent.toNat _ (List.getElem?_eq_getElem (by rw [hl]; exact hlt))
  rw [x2] at s1
  have:=Option.some.inj s1
  subst this
  refine ⟨_,by rw [q3]; unfold idx; rw [if_pos h0]; exact List.getElem?_eq_getElem (by rw [hl]; exact hlt),?_⟩
  rw [s4]; exact p2
theorem IW {n:Nat} (hn:100 < n) (k:jS):∃ a,ik n k=some a∧sO n a:=by
 obtain ⟨l,l1,l2,l3⟩:=DD (n:=n) (by omega) k.Table
 obtain ⟨ca,c1,c2,c3⟩:=C.eP n k.Cache 0 4 (by omega) (by omega) (by omega)
 obtain ⟨cs,s1,s2,s3⟩:=zR hn k l ca 4 0 n [] rfl (by omega) rfl (fun i c h=>by cases i <;> cases h)
 obtain ⟨m,m1,m2⟩:=zU hn l l2.le ca cs l.length 0 n l (by omega) (by have:=l2.le; omega) ⟨rfl,fun j r hr=>⟨r.aG,by rw [hr]; rfl,fun h=>by omega⟩⟩
 have back:∀ (j:Nat) (r':au),m[j]? = some r'→∃ r c,l[j]? = some r∧r'=nk r c∧0 ≤ c∧c < 8∧(gJ l (j:Int)=true→c % 2=1):=fun j r' hr=>by
  have hj:j < l.length:=by rw [← m1.len]; exact (List.getElem?_eq_some_iff.1 hr).1
  obtain ⟨c,hc,hc2⟩:=m1.at_ j l[j] (List.getElem?_eq_getElem hj)
  rw [hr] at hc
  exact ⟨l[j],c,List.getElem?_eq_getElem hj,Option.some.inj hc,hc2 hj⟩
 refine ⟨dO.mk m cs ca,?_,⟨l2.like m1.len (fun j r' hr=>?_),fun r' hr'=>?_,fun j r' hr=>?_,s1,s2,c2,c3⟩⟩
 ·
  unfold ik fZ
  rw [l1,Option.bind_some,c1,Option.bind_some]
  rw [show ((0:Nat):Int)=0 from rfl] at s3 m2
  rw [s3]; exact m2
 ·
  obtain ⟨r,c,q1,q2,_⟩:=back j r' hr
  exact ⟨r,q1,by rw [q2]; exact ⟨rfl,rfl,rfl⟩⟩
 ·
  obtain ⟨j,hj,hjr⟩:=List.getElem_of_mem hr'
  obtain ⟨r,c,q1,q2,_⟩:=back j r' (by rw [List.getElem?_eq_getElem hj]; exact congrArg some hjr)
  obtain ⟨o1,o2,o3,o4,_⟩:=l3 r (List.mem_of_getElem? q1)
  rw [q2]
  refine ⟨o1,o2,fun h=>?_,o4⟩
  obtain ⟨p,p1,p2⟩:=o3 h
  obtain ⟨i,hi,hip⟩:=List.getElem_of_mem p1
  obtain ⟨c',h1,_⟩:=m1.at_ i p (by rw [List.getElem?_eq_getElem hi]; exact congrArg some hip)
  exact ⟨nk p c',List.mem_of_getElem? h1,p2⟩
 ·
  obtain ⟨r,c,q1,q2,q3,q4,q5⟩:=back j r' hr
  rw [q2]
  exact ⟨q3,q4,fun h=>q5 (by rw [← m1.inner]; exact h)⟩
end Pr
end Go.Ev

namespace Go.Ev
namespace Pr
set_option linter.unusedVariables false
set_option linter.unusedSimpArgs false
set_option linter.unusedSectionVars false
theorem xM (l:List au) (p:au→Option Bool) (q:au→Bool) (hp:∀ r,p r=some (q r)):∀ (rest done:List au) (f:Nat),l=done ++ rest→rest.length < f→l.length < 1000000→∃ r,aS l p f (done.length:Int)=some r∧decide (0 ≤ r)=rest.any q
 | [],done,f + 1,h,hf,hl=>by
  rw [aS,if_neg (by rw [decide_eq_true_eq,h]; simp)]
  exact ⟨_,rfl,rfl⟩
 | x :: rest,done,f + 1,h,hf,hl=>by
  have hlen:l.length=done.length + rest.length + 1:=by rw [h]; simp; omega
  have hw:IntKind.wrap .i64 ((done.length:Int) + 1)=(((done ++ [x]).length:Nat):Int):=by rw [lD (by omega) (by omega)]; simp
  rw [aS,if_pos (by rw [decide_eq_true_eq]; omega),jw h,Option.bind_some,hp,Option.bind_some,List.any_cons]
  cases hq:q x with
  | true=>rw [if_pos rfl]; exact ⟨_,rfl,by simp⟩
  | false =>
   rw [if_neg (by simp),hw]
   obtain ⟨r,r1,r2⟩:=xM l p q hp rest (done ++ [x]) f (by rw [h]; simp) (by simp at hf; omega) hl
   exact ⟨r,r1,by simpa using r2⟩
theorem yo {n:Nat} (b:dO) (i:Int) (h:b.Records.length < n) (hl:b.Records.length < 1000000):jk n b i=some (gJ b.Records i):=by
 unfold jk dC bP
 obtain ⟨r,r1,r2⟩:=xM b.Records (fun y9=>kX n y9 i) (fun r=>r.Parent == i) (fun _=>rfl) b.Records [] n rfl h hl
 rw [show ([]:List au).length=0 from rfl,show ((0:Nat):Int)=0 from rfl] at r1
 rw [r1,Option.bind_some,Option.bind_some,r2]; rfl
theorem Eo {n:Nat} (b:dO) (u:aJ) (h:b.Records.length < n) (hl:b.Records.length < 1000000):lF n b u=some (if (u.Kind != 3 && u.Kind != 4)=true then true else b.Records.any fun r=>r.Name == u.To):=by
 unfold lF o9 bP
 obtain ⟨r,r1,r2⟩:=xM b.Records (fun y=>kV n y u.To) (fun r=>r.Name == u.To) (fun _=>rfl) b.Records [] n rfl h hl
 rw [show ([]:List au).length=0 from rfl,show ((0:Nat):Int)=0 from rfl] at r1
 split
 ·
  rfl
 ·
  rw [r1,Option.bind_some,Option.bind_some,r2]; rfl
def uG (u:aJ):Bool:=((((decide (0 ≤ u.Kind)) && (decide (u.Kind ≤ 4))) && (decide (0 ≤ u.Flag))) && (decide (u.Flag < 8))) && (((u.Kind == 3) || (u.Kind == 4)) || (u.To == []))
def q9 (l:List au) (u:aJ):Bool:=if (u.Kind != 3 && u.Kind != 4)=true then true else l.any fun r=>r.Name == u.To
def Pass (n:Nat) (b:dO) (k:Nat):Prop:=∃ r,b.Records[k]? = some r∧0 ≤ r.aG∧r.aG < b.Comps.length∧uG r.aJ=true∧q9 b.Records r.aJ=true∧(gJ b.Records (k:Int)=true→∃ c,idx b.Comps r.aG=some c∧dH n c.aF=some 1)
def Ke (n:Nat) (b:dO) (k:Nat):Prop:=∃ r,b.Records[k]? = some r∧((r.aG < 0∨(b.Comps.length:Int) ≤ r.aG)∨uG r.aJ=false∨q9 b.Records r.aJ=false∨(gJ b.Records (k:Int)=true∧∃ c s,idx b.Comps r.aG=some c∧dH n c.aF=some s∧s ≠ 1))
section
variable {n:Nat} {b:dO} (hl:b.Records.length < 1000) (hn:1000 < n)
include hl hn
theorem zS {k f:Nat} (h:Pass n b k):dz n b (f + 1) (k:Int)=dz n b f ((k + 1:Nat):Int):=by
 obtain ⟨r,h1,h2,h3,h4,h5,h6⟩:=h
 have hk:=(List.getElem?_eq_some_iff.1 h1).1
 have hw:IntKind.wrap .i64 ((k:Int) + 1)=((k + 1:Nat):Int):=by rw [lD (by omega) (by omega)]; push_cast; rfl
 have hr:oF n r.aJ=some true:=by rw [← h4]; rfl
 have ha:lF n b r.aJ=some true:=by rw [Eo b _ (by omega) (by omega)]; exact congrArg some h5
 rw [dz,if_pos (by rw [decide_eq_true_eq]; omega),gY,h1,Option.bind_some,if_neg (by simp only [Bool.or_eq_true,decide_eq_true_eq]; omega),hr,Option.bind_some,Option.bind_some,if_neg (by simp),ha,Option.bind_some,Option.bind_some,if_neg (by simp),yo b _ (by omega) (by omega),Option.bind_some,hw]
 cases hi:gJ b.Records (k:Int) with
 | false=>rw [if_neg (by simp),Option.bind_some,if_neg (by simp)]
 | true =>
  obtain ⟨c,c1,c2⟩:=h6 hi
  rw [if_pos rfl,c1,Option.bind_some,c2,Option.bind_some,Option.bind_some,if_neg (by simp)]
theorem Fg {k f:Nat} (h:Ke n b k):dz n b (f + 1) (k:Int)=some false:=by
 obtain ⟨r,h1,h2⟩:=h
 have hk:=(List.getElem?_eq_some_iff.1 h1).1
 have hr:oF n r.aJ=some (uG r.aJ):=rfl
 have ha:lF n b r.aJ=some (q9 b.Records r.aJ):=by rw [Eo b _ (by omega) (by omega)]; rfl
 rw [dz,if_pos (by rw [decide_eq_true_eq]; omega),gY,h1,Option.bind_some]
 by_cases c1:((decide (r.aG < 0)) || (decide (((b.Comps).length:Int) ≤ r.aG)))=true
 ·
  rw [if_pos c1,Option.bind_some,if_pos rfl,Option.bind_some,if_pos rfl]
 ·
  rw [if_neg c1,hr,Option.bind_some,Option.bind_some]
  simp only [Bool.or_eq_true,decide_eq_true_eq] at c1
  cases c2:uG r.aJ with
  | false=>rw [if_pos (by rfl),Option.bind_some,if_pos rfl]
  | true =>
   rw [if_neg (by simp),ha,Option.bind_some,Option.bind_some]
   cases c3:q9 b.Records r.aJ with
   | false=>rw [if_pos (by rfl)]
   | true =>
    rw [if_neg (by simp),yo b _ (by omega) (by omega),Option.bind_some]
    rcases h2 with h2 | h2 | h2 | ⟨h2,c,s,h3,h4,h5⟩
    ·
     exact absurd h2 c1
    ·
     rw [h2] at c2; cases c2
    ·
     rw [h2] at c3; cases c3
    ·
     rw [h2,if_pos rfl,h3,Option.bind_some,h4,Option.bind_some,Option.bind_some,if_pos (by simpa using h5)]
theorem BB:∀ (m j f:Nat),j + m=b.Records.length→m < f→(∀ k,j ≤ k→k < b.Records.length→Pass n b k)→dz n b f (j:Int)=some true
 | 0,j,f + 1,hj,hf,hp=>by
  rw [dz,if_neg (by rw [decide_eq_true_eq]; omega)]
 | m + 1,j,f + 1,hj,hf,hp=>by
  rw [zS hl hn (hp j (Nat.le_refl _) (by omega))]
  exact BB m (j + 1) f (by omega) (by omega) (fun k h1 h2=>hp k (by omega) h2)
theorem zF {i:Nat} (hf:Ke n b i):∀ (m j f:Nat),j + m=i→m < f→(∀ k,j ≤ k→k < i→Pass n b k)→dz n b f (j:Int)=some false
 | 0,j,f + 1,hj,hff,hp=>by
  have:j=i:=by omega
  subst this
  exact Fg hl hn hf
 | m + 1,j,f + 1,hj,hff,hp=>by
  rw [zS hl hn (hp j (Nat.le_refl _) (by omega))]
  exact zF hf m (j + 1) f (by omega) (by omega) (fun k h1 h2=>hp k (by omega) h2)
omit hl in
theorem Cz (hcl:b.Comps.length ≤ 16):∀ (m j f:Nat),j + m ≤ b.Comps.length→m < f→(∀ (k:Nat) (c:aG),b.Comps[k]? = some c→k < j + m→ib n c=some true)→fA n b f (j:Int)=fA n b (f - m) ((j + m:Nat):Int)
 | 0,j,f + 1,hj,hf,hp=>rfl
 | m + 1,j,f + 1,hj,hf,hp=>by
  have hw:IntKind.wrap .i64 ((j:Int) + 1)=((j + 1:Nat):Int):=by rw [lD (by omega) (by omega)]; push_cast; rfl
  rw [fA,if_pos (by rw [decide_eq_true_eq]; omega),gY,List.getElem?_eq_getElem (by omega),Option.bind_some,hp j b.Comps[j] (List.getElem?_eq_getElem (by omega)) (by omega),Option.bind_some,if_neg (by simp),hw,Cz hcl m (j + 1) f (by omega) (by omega) (fun k c h1 h2=>hp k c h1 (by omega))]
  rw [show f + 1 - (m + 1)=f - m by omega,show j + 1 + m=j + (m + 1) by omega]
omit hl in
theorem Hm (hr:j4 n b.Records=some true) (hc1:1 ≤ b.Comps.length) (hc2:b.Comps.length ≤ 16) (hca:0 ≤ b.Cache∧b.Cache ≤ 8) (hcs:∀ (k:Nat) (c:aG),b.Comps[k]? = some c→ib n c=some true):iQ n b=dz n b n 0:=by
 unfold iQ
 rw [hr,Option.bind_some,if_neg (by simp; omega)]
 have:=Cz (n:=n) (b:=b) hn hc2 b.Comps.length 0 n (by omega) (by omega) (fun k c h _=>hcs k c h)
 rw [show ((0:Nat):Int)=0 from rfl] at this
 obtain ⟨g,hg⟩:∃ g,n - b.Comps.length=g + 1:=⟨n - b.Comps.length - 1,by omega⟩
 rw [this,hg,fA,if_neg (by rw [decide_eq_true_eq]; omega)]
end
section
variable {n:Nat} {a:dO} (hn:1000 < n) (A:sO n a)
include hn A
theorem sO.KO (k:Nat) (c:aG) (h:a.Comps[k]? = some c):ib n c=some true:=(A.cs k c h).rt
theorem sO.uG {r:au} (h:r ∈ a.Records):Pr.uG r.aJ=true∧q9 a.Records r.aJ=true:=by
 obtain ⟨h1,h2,h3,h4⟩:=A.ru r h
 constructor
 ·
  unfold Pr.uG
  by_cases c:r.aJ.Kind=3∨r.aJ.Kind=4
  ·
   rcases c with c | c <;> simp [c] <;> omega
  ·
   have:=h4 c
   simp [this]; omega
 ·
  unfold q9
  split
  ·
   rfl
  ·
   rename_i hc
   have hc':r.aJ.Kind=3∨r.aJ.Kind=4:=by
    simp only [Bool.and_eq_true,bne_iff_ne,ne_eq] at hc
    by_cases c3:r.aJ.Kind=3
    ·
     exact .inl c3
    ·
     exact .inr (by omega)
   obtain ⟨p,p1,p2⟩:=h3 hc'
   exact List.any_eq_true.2 ⟨p,p1,by simpa using p2⟩
theorem sO.pass {k:Nat} (hk:k < a.Records.length):Pass n a k:=by
 have hg:=List.getElem?_eq_getElem hk
 obtain ⟨c1,c2,c3⟩:=A.cp k _ hg
 obtain ⟨r1,r2⟩:=A.uG hn (List.getElem_mem hk)
 refine ⟨_,hg,c1,by rw [A.cl]; exact c2,r1,r2,fun hi=>?_⟩
 have hodd:=c3 hi
 have hlt:(a.Records[k].aG).toNat < a.Comps.length:=by rw [A.cl]; omega
 refine ⟨a.Comps[(a.Records[k].aG).toNat],?_,?_⟩
 ·
  unfold idx; rw [if_pos c1]; exact List.getElem?_eq_getElem hlt
 ·
  have:=(A.cs _ _ (List.getElem?_eq_getElem hlt)).sl
  have e:((a.Records[k].aG).toNat % 2 == 1)=true:=by rw [beq_iff_eq]; omega
  rw [e] at this; exact this
end
end Pr
end Go.Ev

namespace Go.Ev
namespace Pr
set_option linter.unusedVariables false
set_option linter.unusedSimpArgs false
set_option linter.unusedSectionVars false
theorem nX {α:Type} {l:List α} {j:Nat} {z:α} (h:l[j]? = some z):l.set j z=l:=by
 apply List.ext_getElem?
 intro i
 by_cases q:i=j
 ·
  subst q; rw [List.getElem?_set_self (List.getElem?_eq_some_iff.1 h).1,h]
 ·
  rw [List.getElem?_set_ne (by omega)]
section
variable {n:Nat} {a:dO} (hn:1000 < n) (A:sO n a)
include hn A
theorem Ci:∀ (m j f:Nat),j + m=a.Comps.length→m < f→gG n a a.Records a.Comps f a.Comps (j:Int)=some a
 | 0,j,f + 1,hj,hf=>by
  rw [gG,if_neg (by rw [decide_eq_true_eq]; omega)]
 | m + 1,j,f + 1,hj,hf=>by
  have hlt:j < a.Comps.length:=by omega
  have hg:=List.getElem?_eq_getElem hlt
  have hcl:=A.cl
  have G:=A.cs j _ hg
  have hil:=G.il
  have hol:=G.ol
  have hw:IntKind.wrap .i64 ((j:Int) + 1)=((j + 1:Nat):Int):=by rw [lD (by omega) (by omega)]; push_cast; rfl
  have ht:fu n a.Comps[j].aF=some a.Comps[j].aF:=C.Ab 14 _ G.cnt (by omega) G.pg n (by omega)
  rw [gG,if_pos (by rw [decide_eq_true_eq]; omega),gY,hg,Option.bind_some,ht,Option.bind_some]
  unfold iw fT
  rw [iH (by rw [bnd]; simp; omega),Option.bind_some,iH (by rw [bnd]; simp; omega),Option.bind_some,Option.bind_some,hw,uy]
  simp only [List.nil_append]
  rw [show aG.mk a.Comps[j].aF a.Comps[j].Init a.Comps[j].On=a.Comps[j] from rfl,nX hg]
  exact Ci m (j + 1) f (by omega) (by omega)
theorem Ce:∀ (m j f:Nat),j + m=a.Records.length→m < f→gy n a a.Records f a.Records (j:Int)=some a
 | 0,j,f + 1,hj,hf=>by
  have hcl:=A.cl
  rw [gy,if_neg (by rw [decide_eq_true_eq]; omega)]
  unfold eY
  rw [iH (by rw [bnd]; simp; omega),Option.bind_some,List.nil_append]
  exact Ci hn A a.Comps.length 0 n (by omega) (by omega)
 | m + 1,j,f + 1,hj,hf=>by
  have hlt:j < a.Records.length:=by omega
  have hg:=List.getElem?_eq_getElem hlt
  have hle:=A.rs.le
  have hs:=A.rs.segs j _ hg
  have hw:IntKind.wrap .i64 ((j:Int) + 1)=((j + 1:Nat):Int):=by rw [lD (by omega) (by omega)]; push_cast; rfl
  rw [gy,if_pos (by rw [decide_eq_true_eq]; omega),gY,hg,Option.bind_some]
  unfold fH
  rw [iH (by rw [bnd]; simp; omega),Option.bind_some,Option.bind_some,hw,uy]
  simp only [List.nil_append]
  rw [show au.mk a.Records[j].Name a.Records[j].Parent a.Records[j].eT a.Records[j].aG a.Records[j].iK a.Records[j].aJ=a.Records[j] from rfl,nX hg]
  exact Ce m (j + 1) f (by omega) (by omega)
theorem Iu:oq n a=some a:=by
 have hle:=A.rs.le
 unfold oq dP
 rw [iH (by rw [bnd]; simp; omega),Option.bind_some,List.nil_append]
 exact Ce hn A a.Records.length 0 n (by omega) (by omega)
end
theorem yD {l:List au} {i:Nat} {r r':au} (h:l[i]? = some r) (hp:r'.Parent=r.Parent) (k:Int):gJ (l.set i r') k=gJ l k:=by
 have e:∀ l:List au,gJ l k=(l.map (·.Parent)).any (fun p=>p == k):=fun l=>by unfold gJ; rw [List.any_map]; rfl
 rw [e,e,List.map_set,hp,nX (by rw [List.getElem?_map,h]; rfl)]
theorem FB {l:List au} {i:Nat} {r r':au} (h:l[i]? = some r) (hp:r'.Name=r.Name) (s:Str):((l.set i r').any fun r=>r.Name == s)=l.any fun r=>r.Name == s:=by
 have e:∀ l:List au,(l.any fun r=>r.Name == s)=(l.map (·.Name)).any (fun p=>p == s):=fun l=>by rw [List.any_map]; rfl
 rw [e,e,List.map_set,hp,nX (by rw [List.getElem?_map,h]; rfl)]
theorem zM {l:List au} {i:Nat} {r r':au} (h:l[i]? = some r) (hp:r'.Name=r.Name) (u:aJ):q9 (l.set i r') u=q9 l u:=by
 unfold q9; rw [FB h hp]
section
variable {n:Nat} {a:dO} (hn:1000 < n) (A:sO n a)
include hn A
theorem sO.Jj {i:Nat} {r r':au} (h:a.Records[i]? = some r) (h1:r'.Name=r.Name) (h2:r'.Parent=r.Parent) (h3:r'.eT=r.eT):Rs (a.Records.set i r'):=by
 refine A.rs.like (by simp) (fun j x hx=>?_)
 by_cases q:j=i
 ·
  subst q
  rw [List.getElem?_set_self (List.getElem?_eq_some_iff.1 h).1] at hx
  rw [← Option.some.inj hx]
  exact ⟨r,h,h1,h2,h3⟩
 ·
  rw [List.getElem?_set_ne (by omega)] at hx
  exact ⟨x,hx,rfl,rfl,rfl⟩
theorem sO.others {i:Nat} {r r':au} (h:a.Records[i]? = some r) (h1:r'.Name=r.Name) (h2:r'.Parent=r.Parent) (cs:List aG) (ca:Int) {k:Nat} (hk:k < a.Records.length) (hki:k ≠ i):Pass n (dO.mk (a.Records.set i r') (a.Comps ++ cs) ca) k:=by
 obtain ⟨x,x1,x2,x3,x4,x5,x6⟩:=A.pass hn hk
 refine ⟨x,?_,x2,by show x.aG < ((a.Comps ++ cs).length:Int); simp; omega,x4,?_,fun hi=>?_⟩
 ·
  show (a.Records.set i r')[k]? = some x
  rw [List.getElem?_set_ne (by omega)]; exact x1
 ·
  show q9 (a.Records.set i r') x.aJ=true
  rw [zM h h1]; exact x5
 ·
  have hi:gJ (a.Records.set i r') (k:Int)=true:=hi
  rw [yD h h2] at hi
  obtain ⟨c,c1,c2⟩:=x6 hi
  refine ⟨c,?_,c2⟩
  obtain ⟨d1,d2⟩:=jU c1
  show idx (a.Comps ++ cs) x.aG=some c
  unfold idx
  rw [if_pos d1,List.getElem?_append_left (List.getElem?_eq_some_iff.1 d2).1,d2]
end
theorem Iz:iy 10000=some true:=by decide +kernel
def qM (kids:List aF):aG:=aG.mk (aF.mk 1 0 [112] [] [] kids) [] []
def two:List aF:=[(aF.mk 7 0 [] [] [] []),(aF.mk 7 0 [] [] [] [])]
theorem Jh:ib 10000 (qM [])=some true∧ib 10000 (qM two)=some true∧dH 10000 (qM []).aF=some 0∧dH 10000 (qM two).aF=some 2:=by decide +kernel
theorem yz {a:dO} (A:sO 10000 a) {i:Nat} (hi:i < a.Records.length) (kids:List aF) (h1:ib 10000 (qM kids)=some true) {s:Int} (h2:dH 10000 (qM kids).aF=some s) (h3:s ≠ 1):dw 10000 a (i:Int) a kids=some true:=by
 have hcl:=A.cl
 have hle:=A.rs.le
 have hg:=List.getElem?_eq_getElem hi
 unfold dw
 rw [gY,hg,Option.bind_some,iH (by rw [bnd]; simp; omega),Option.bind_some,uy]
 have key:iQ 10000 (dO.mk (a.Records.set i (nk a.Records[i] 8)) (a.Comps ++ [qM kids]) a.Cache)=some (!(gJ a.Records (i:Int))):=by
  have hlen:(a.Records.set i (nk a.Records[i] 8)).length=a.Records.length:=by simp
  have hrt:j4 10000 (a.Records.set i (nk a.Records[i] 8))=some true:=DR (by omega) (A.Jj (by omega) hg rfl rfl rfl)
  rw [Hm (by omega) hrt (by show 1 ≤ (a.Comps ++ [qM kids]).length; simp) (by show (a.Comps ++ [qM kids]).length ≤ 16; simp; omega) (by have:=A.ca; show 0 ≤ a.Cache∧a.Cache ≤ 8; omega) (fun k c h=>by
   have h:(a.Comps ++ [qM kids])[k]? = some c:=h
   by_cases q:k < a.Comps.length
   ·
    rw [List.getElem?_append_left q] at h; exact A.KO (by omega) k c h
   ·
    rw [List.getElem?_append_right (by omega)] at h
    have hlt:=(List.getElem?_eq_some_iff.1 h).1
    simp at hlt
    rw [show k - a.Comps.length=0 by omega] at h
    simp at h; rw [← h]; exact h1)]
  have others:∀ k,k < a.Records.length→k ≠ i→Pass 10000 (dO.mk (a.Records.set i (nk a.Records[i] 8)) (a.Comps ++ [qM kids]) a.Cache) k:=fun k hk hki=>A.others (r':=nk a.Records[i] 8) (by omega) hg rfl rfl [qM kids] a.Cache hk hki
  have hin:=yD hg (r':=nk a.Records[i] 8) rfl (i:Int)
  have hself:(a.Records.set i (nk a.Records[i] 8))[i]? = some (nk a.Records[i] 8):=List.getElem?_set_self hi
  obtain ⟨r1,r2⟩:=A.uG (by omega) (List.getElem_mem hi)
  have hown:idx (a.Comps ++ [qM kids]) (nk a.Records[i] 8).aG=some (qM kids):=by
   show idx (a.Comps ++ [qM kids]) 8=_
   exact jw (l:=a.Comps ++ [qM kids]) (done:=a.Comps) (rest:=[]) rfl |>.symm ▸ (by rw [hcl]; rfl)
  cases hb:gJ a.Records (i:Int) with
  | true =>
   refine zF (by show (a.Records.set i _).length < 1000; omega) (by omega) (i:=i) ⟨_,hself,.inr (.inr (.inr ⟨by rw [hb] at hin; exact hin,_,_,hown,h2,h3⟩))⟩ i 0 10000 (by omega) (by omega) (fun k _ hk=>others k (by omega) (by omega))
  | false =>
   refine BB (by show (a.Records.set i _).length < 1000; omega) (by omega) a.Records.length 0 10000 (by show _=(a.Records.set i _).length; omega) (by omega) (fun k _ hk=>?_)
   have hk:k < (a.Records.set i (nk a.Records[i] 8)).length:=hk
   by_cases q:k=i
   ·
    subst q
    refine ⟨_,hself,by show (0:Int) ≤ 8; omega,by show (8:Int) < ((a.Comps ++ [qM kids]).length:Int); simp; omega,r1,?_,fun h=>?_⟩
    ·
     show q9 (a.Records.set k _) _=true
     rw [zM hg (by rfl)]; exact r2
    ·
     have h:gJ (a.Records.set k (nk a.Records[k] 8)) (k:Int)=true:=h
     rw [hin,hb] at h; cases h
   ·
    exact others k (by omega) q
 have e8:((a.Comps).length:Int)=8:=by omega
 rw [e8]
 show (iQ 10000 (dO.mk (a.Records.set i (nk a.Records[i] 8)) (a.Comps ++ [qM kids]) a.Cache)).bind _=_
 rw [key,Option.bind_some,yo a _ (by omega) (by omega),Option.bind_some,if_pos (by simp),Iz]
 rfl
theorem FI (k:jS) (at_:Int) (b:Bool):gK 10000 k at_ b=some true:=by
 obtain ⟨a,a1,A⟩:=IW (n:=10000) (by omega) k
 have hle:=A.rs.le
 have hpos:=A.rs.pos
 have hw:IntKind.wrap .i64 ((a.Records.length:Int) - 1)=(a.Records.length:Int) - 1:=lD (by omega) (by omega)
 obtain ⟨i,i1,i2,i3⟩:=C.eP 10000 at_ 0 ((a.Records.length:Int) - 1) (by omega) (by omega) (by omega)
 obtain ⟨o1,o2,o3,o4⟩:=Jh
 obtain ⟨j,rfl⟩:=Int.eq_ofNat_of_zero_le i2
 unfold gK
 rw [a1,Option.bind_some,hw,i1,Option.bind_some,Iu (by omega) A,Option.bind_some,if_neg (by simp)]
 cases b with
 | true=>rw [if_pos rfl]; exact yz A (by omega) two o2 o4 (by omega)
 | false=>rw [if_neg (by simp)]; exact yz A (by omega) [] o1 o3 (by omega)
end Pr
end Go.Ev

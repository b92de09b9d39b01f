import Derived.Test.YtbjneeknddapfaaPartF
import Derived.ProofKit
namespace Go.Ev
namespace Pr
namespace W
set_option linter.unusedVariables false
set_option linter.unusedSimpArgs false
set_option linter.unusedSectionVars false
mutual
def oJ:Tree→Nat
 | .mk _ _ _ _ ks=>1 + qh ks
def qh:List Tree→Nat
 | []=>0
 | t :: l=>oJ t + qh l
end
mutual
def GH:Tree→Nat
 | .mk _ _ _ _ ks=>1 + I4 ks
def I4:List Tree→Nat
 | []=>0
 | t :: l=>max (GH t) (I4 l)
end
theorem oq (t:Tree):oJ t=1 + qh t.Kids:=by cases t; rw [oJ]; rfl
theorem zX:∀ (l:List Tree),l.length ≤ qh l
 | []=>Nat.le_refl _
 | x :: l=>by
  have:=zX l
  have:=oq x
  simp only [List.length_cons,qh]; omega
theorem Dx:∀ {l:List Tree} {z:Tree},z ∈ l→oJ z ≤ qh l
 | x :: l,z,h=>by
  rcases List.mem_cons.1 h with rfl | h
  ·
   simp only [qh]; omega
  ·
   have:=Dx h
   simp only [qh]; omega
theorem AY {t z:Tree} (h:z ∈ t.Kids):oJ z < oJ t:=by
 have:=Dx h
 have:=oq t; omega
theorem Jy {t:Tree} {m:Nat} {α:Type} {f:Nat→Tree→Option α} {g:Tree→α} (ht:oJ t ≤ m + 1) (ih:∀ z,oJ z ≤ m→∀ n,m < n→f n z=some (g z)) {n:Nat} (hn:m < n):∀ z ∈ t.Kids,f n z=some (g z) :=
 fun z hz=>ih z (by have:=AY hz; omega) n hn
theorem yM (self:Tree→Option Int) (t:Tree) (hs:∀ z ∈ t.Kids,self z=some (oJ z:Int)) (hb:qh t.Kids < 1000000000):∀ (rest done:List Tree) (k:Nat) (acc:Int),t.Kids=done ++ rest→rest.length < k→0 ≤ acc→acc + qh rest < 2000000000 →
  jV self t k acc (done.length:Int)=some (acc + qh rest)
 | [],done,k + 1,acc,hk,_,h0,h1=>by
  rw [jV,if_neg (by rw [hk]; simp)]
  simp [qh]
 | z :: rest,done,k + 1,acc,hk,hl,h0,h1=>by
  have hlen:=zX t.Kids
  have hkl:t.Kids.length=done.length + rest.length + 1:=by rw [hk]; simp; omega
  have hz:z ∈ t.Kids:=by rw [hk]; simp
  simp only [qh] at h1
  rw [jV,if_pos (by rw [decide_eq_true_eq,hkl]; omega),jQ hk,Option.bind_some,hs z hz,Option.bind_some]
  rw [mE (by omega) (by omega),mE (by omega) (by omega)]
  have:=yM self t hs hb rest (done ++ [z]) k (acc + oJ z) (by rw [hk]; simp) (by simp at hl; omega) (by omega) (by omega)
  rw [List.length_append,List.length_singleton] at this
  push_cast at this
  rw [this,qh]
  congr 1
  push_cast; omega
theorem wB:∀ (m:Nat) (t:Tree),oJ t ≤ m→m < 1000000000→∀ n,m < n→ny n t=some (oJ t:Int)
 | 0,t,h,_,n,_=>by rw [oq] at h; omega
 | m + 1,t,h,hm,n + 1,hn=>by
  have hs:=Jy (f:=ny) (g:=fun z=>(oJ z:Int)) h (fun z hz n hn=>wB m z hz (by omega) n hn) (show m < n by omega)
  have hk:=oq t
  have hlen:=zX t.Kids
  rw [ny]
  have:=yM (ny n) t hs (by omega) t.Kids [] n 1 rfl (by omega) (by omega) (by omega)
  simp only [List.length_nil] at this
  rw [show ((0:Nat):Int)=0 from rfl] at this
  rw [this,hk]; push_cast; rfl
def nI:Tree→Nat
 | .mk _ _ _ ats ks=>1 + ats.length + lsz ks
  where lsz:List Tree→Nat
 | []=>0
 | t :: l=>nI t + lsz l
theorem si (t:Tree):nI t=1 + t.aI.length + nI.lsz t.Kids:=by cases t; rw [nI]; rfl
theorem FH:∀ {l:List Tree} {z:Tree},z ∈ l→nI z ≤ nI.lsz l
 | x :: l,z,h=>by
  rcases List.mem_cons.1 h with rfl | h
  ·
   simp only [nI.lsz]; omega
  ·
   have:=FH h
   simp only [nI.lsz]; omega
theorem Fu:∀ (l:List Tree),l.length ≤ nI.lsz l
 | []=>Nat.zero_le _
 | x :: l=>by
  have:=Fu l
  have:=si x
  simp only [List.length_cons,nI.lsz]; omega
theorem Ji {t z:Tree} (h:z ∈ t.Kids):nI z < nI t:=by
 have:=FH h
 have:=si t; omega
def vT:List Attr→List Attr→Bool
 | [],[]=>true
 | a :: l,b :: m=>Attr.beq a b && vT l m
 | _,_=>false
def qI:Tree→Tree→Bool
 | .mk a b c d e,.mk a' b' c' d' e'=>(a == a') && (b == b') && (c == c') && vT d d' && lbeq e e'
  where lbeq:List Tree→List Tree→Bool
 | [],[]=>true
 | x :: l,y :: m=>qI x y && lbeq l m
 | _,_=>false
theorem Dk:∀ {a b:List Attr},vT a b=true→a.length=b.length
 | [],[],_=>rfl
 | x :: l,y :: m,h=>by
  simp only [vT,Bool.and_eq_true] at h
  simp [Dk h.2]
 | [],_ :: _,h=>by cases h
 | _ :: _,[],h=>by cases h
theorem Ea:∀ {a b:List Tree},qI.lbeq a b=true→a.length=b.length
 | [],[],_=>rfl
 | x :: l,y :: m,h=>by
  simp only [qI.lbeq,Bool.and_eq_true] at h
  simp [Ea h.2]
 | [],_ :: _,h=>by cases h
 | _ :: _,[],h=>by cases h
theorem J7 {a b:List Attr} (h:a.length ≠ b.length):vT a b=false:=by
 cases hq:vT a b
 ·
  rfl
 ·
  exact absurd (Dk hq) h
theorem Jv {a b:List Tree} (h:a.length ≠ b.length):qI.lbeq a b=false:=by
 cases hq:qI.lbeq a b
 ·
  rfl
 ·
  exact absurd (Ea hq) h
theorem Ju (a b:Tree):qI a b=((a.Tag == b.Tag) && (a.Key == b.Key) && (a.Text == b.Text) && vT a.aI b.aI && qI.lbeq a.Kids b.Kids):=by cases a; cases b; rw [qI]; rfl
theorem zW (l m:List Attr) (hb:l.length < 1000000000):∀ (r s d e:List Attr) (k:Nat),l=d ++ r→m=e ++ s→d.length=e.length→r.length=s.length→r.length < k →
  bI l m k (d.length:Int)=some (vT r s)
 | [],[],d,e,k + 1,hl,hm,_,_,_=>by
  rw [bI,if_neg (by rw [hl]; simp)]; rfl
 | z :: r,y :: s,d,e,k + 1,hl,hm,hd,hr,hk=>by
  have hkl:l.length=d.length + r.length + 1:=by rw [hl]; simp; omega
  rw [bI,if_pos (by rw [decide_eq_true_eq,hkl]; omega),jQ hl,Option.bind_some,hd,jQ hm,Option.bind_some]
  cases hq:Attr.beq z y
  ·
   simp [vT,hq]
  ·
   simp only [Bool.not_true,Bool.false_eq_true,if_false]
   rw [mE (by omega) (by omega)]
   have:=zW l m hb r s (d ++ [z]) (e ++ [y]) k (by rw [hl]; simp) (by rw [hm]; simp) (by simp [hd]) (by simpa using hr) (by simp at hk; omega)
   rw [List.length_append,List.length_singleton,hd] at this
   push_cast at this
   rw [this]; simp [vT,hq]
 | [],_ :: _,d,e,k + 1,_,_,_,hr,_=>by simp at hr
 | _ :: _,[],d,e,k + 1,_,_,_,hr,_=>by simp at hr
theorem Ih (n:Nat) (l m:List Attr) (hb:l.length < 1000000000) (hn:l.length < n):fD n l m=some (vT l m):=by
 unfold fD
 by_cases h:l.length=m.length
 ·
  rw [if_neg (by simp [h])]
  exact zW l m hb l m [] [] n rfl rfl rfl h hn
 ·
  rw [if_pos (by simp; omega),J7 h]
theorem yJ (f:Tree→Tree→Option Bool) (a b:Tree) (hf:∀ x ∈ a.Kids,∀ y,f x y=some (qI x y)) (hb:a.Kids.length < 1000000000):∀ (r s d e:List Tree) (k:Nat),a.Kids=d ++ r→b.Kids=e ++ s→d.length=e.length→r.length=s.length→r.length < k →
  dG f a b k (d.length:Int)=some (qI.lbeq r s)
 | [],[],d,e,k + 1,hl,hm,_,_,_=>by
  rw [dG,if_neg (by rw [hl]; simp)]; rfl
 | z :: r,y :: s,d,e,k + 1,hl,hm,hd,hr,hk=>by
  have hkl:a.Kids.length=d.length + r.length + 1:=by rw [hl]; simp; omega
  rw [dG,if_pos (by rw [decide_eq_true_eq,hkl]; omega),jQ hl,Option.bind_some,hd,jQ hm,Option.bind_some,hf z (by rw [hl]; simp),Option.bind_some]
  cases hq:qI z y
  ·
   simp [qI.lbeq,hq]
  ·
   simp only [Bool.not_true,Bool.false_eq_true,if_false]
   rw [mE (by omega) (by omega)]
   have:=yJ f a b hf hb r s (d ++ [z]) (e ++ [y]) k (by rw [hl]; simp) (by rw [hm]; simp) (by simp [hd]) (by simpa using hr) (by simp at hk; omega)
   rw [List.length_append,List.length_singleton,hd] at this
   push_cast at this
   rw [this]; simp [qI.lbeq,hq]
 | [],_ :: _,d,e,k + 1,_,_,_,hr,_=>by simp at hr
 | _ :: _,[],d,e,k + 1,_,_,_,hr,_=>by simp at hr
theorem ze:∀ (m:Nat) (t u:Tree),nI t ≤ m→m < 1000000→∀ n,m < n→cZ n t u=some (qI t u)
 | 0,t,u,h,_,n,_=>by rw [si] at h; omega
 | m + 1,t,u,h,hm,n + 1,hn=>by
  have hk:=si t
  have hlen:=Fu t.Kids
  have hf:∀ x ∈ t.Kids,∀ y,cZ n x y=some (qI x y):=fun x hx y=>ze m x y (by have:=Ji hx; omega) (by omega) n (by omega)
  rw [cZ,Ju]
  cases h1:(t.Tag == u.Tag) <;> cases h2:(t.Key == u.Key) <;> cases h3:(t.Text == u.Text) <;> simp only [Bool.not_true,Bool.not_false,Bool.or_self,Bool.or_true,Bool.true_or,Bool.or_false,if_true,Option.bind_some,Bool.false_eq_true,if_false,Bool.and_false,Bool.false_and,Bool.and_self,Bool.true_and]
  rw [Ih n _ _ (by omega) (by omega),Option.bind_some,Option.bind_some]
  cases h4:vT t.aI u.aI
  ·
   simp
  ·
   simp only [Bool.not_true,Bool.false_or,Bool.true_and]
   by_cases hl:t.Kids.length=u.Kids.length
   ·
    rw [if_neg (by simp [hl])]
    have:=yJ (cZ n) t u hf (by omega) t.Kids u.Kids [] [] n rfl rfl rfl hl (by omega)
    simp only [List.length_nil] at this
    rw [show ((0:Nat):Int)=0 from rfl] at this
    rw [this]
   ·
    rw [if_pos (by simp; omega),Jv hl]
theorem GY (a:Attr):Attr.beq a a=true:=by simp [Attr.beq]
theorem Ay:∀ (l:List Attr),vT l l=true
 | []=>rfl
 | a :: l=>by simp [vT,GY,Ay l]
theorem wI:∀ (t:Tree),qI t t=true
 | .mk a b c d e=>by
  rw [qI,Ay]
  have:=go e
  simp [this]
  where go:∀ (l:List Tree),qI.lbeq l l=true
 | []=>rfl
 | x :: l=>by rw [qI.lbeq,wI x,go l]; rfl
def CX (s:Str):Bool:=!(s == []) && decide (s.length ≤ 16)
def Cc (l:List Attr):Prop:=l=[]∨∃ a,l=[a]∧a.Name ≠ []∧a.Name.length ≤ 64∧a.Value.length ≤ 64
def Ip (t:Tree):Prop:=(t.Tag=[]∧t.Key=[]∧t.aI=[]∧t.Kids=[]∧t.Text.length ≤ 64)∨(CX t.Tag=true∧t.Text=[]∧t.Key.length ≤ 64∧Cc t.aI∧t.Kids.length ≤ 24)
def oF:Tree→Prop
 | .mk a b c d e=>Ip (.mk a b c d e)∧lg e
  where lg:List Tree→Prop
 | []=>True
 | x :: l=>oF x∧lg l
theorem wQ (t:Tree):oF t↔Ip t∧oF.lg t.Kids:=by cases t; rw [oF]; rfl
theorem Eg:∀ {l:List Tree},oF.lg l↔∀ z ∈ l,oF z
 | []=>⟨fun _ z h=>(by cases h),fun _=>trivial⟩
 | x :: l=>by
  rw [oF.lg,Eg]
  exact ⟨fun h z hz=>by rcases List.mem_cons.1 hz with rfl | hz; exact h.1; exact h.2 z hz,fun h=>⟨h x List.mem_cons_self,fun z hz=>h z (List.mem_cons_of_mem _ hz)⟩⟩
theorem IZ:∀ (m:Nat) (t:Tree),oJ t ≤ m→oF t→nI t ≤ 2 * oJ t
 | 0,t,h,_=>by rw [oq] at h; omega
 | m + 1,t,h,hg=>by
  obtain ⟨h1,h2⟩:=(wQ t).1 hg
  have hl:∀ (l:List Tree),(∀ z ∈ l,z ∈ t.Kids)→nI.lsz l ≤ 2 * qh l:=by
   intro l
   induction l with
   | nil=>intro _; simp [nI.lsz,qh]
   | cons x l ih =>
    intro hm
    have hx:=hm x List.mem_cons_self
    have:=IZ m x (by have:=AY hx; omega) (Eg.1 h2 x hx)
    have:=ih (fun z hz=>hm z (List.mem_cons_of_mem _ hz))
    simp only [nI.lsz,qh]; omega
  have ha:t.aI.length ≤ 1:=by
   rcases h1 with h1 | h1
   ·
    rw [h1.2.2.1]; simp
   ·
    rcases h1.2.2.2.1 with h | ⟨a,h,_⟩ <;> rw [h] <;> simp
  have:=hl t.Kids (fun z hz=>hz)
  rw [si,oq]; omega
theorem mP (n:Nat) (a lo hi:Int) (h1:lo ≤ hi) (h2:-1000000000000 ≤ lo) (h3:hi ≤ 1000000000000000):∃ r,df n a lo hi=some r∧lo ≤ r∧r ≤ hi:=by
 unfold df
 rw [mE (n:=hi - lo) (by omega) (by omega),mE (by omega) (by omega),BK (by omega),Option.bind_some]
 have k1:=Int.tmod_lt_of_pos a (show 0 < hi - lo + 1 by omega)
 have k2:=Int.lt_tmod_of_pos a (show 0 < hi - lo + 1 by omega)
 unfold eP
 by_cases hz:a.tmod (hi - lo + 1) < 0
 ·
  rw [if_pos (by simpa using hz)]
  rw [mE (n:=a.tmod (hi - lo + 1) + hi) (by omega) (by omega),mE (n:=a.tmod (hi - lo + 1) + hi - lo) (by omega) (by omega),mE (n:=a.tmod (hi - lo + 1) + hi - lo + 1) (by omega) (by omega),mE (by omega) (by omega)]
  exact ⟨_,rfl,by omega,by omega⟩
 ·
  rw [if_neg (by simpa using hz),mE (by omega) (by omega)]
  exact ⟨_,rfl,by omega,by omega⟩
theorem vQ (n:Nat) (l:List Int) (i:Int) (h:0 ≤ i):∃ r,fe n l i=some r:=by
 unfold fe
 by_cases h0:l.length=0
 ·
  rw [if_pos (by simp; exact List.eq_nil_of_length_eq_zero h0)]; exact ⟨_,rfl⟩
 ·
  rw [if_neg (by simp; intro q; exact h0 (by rw [q]; rfl)),BK (by omega),Option.bind_some]
  have hp:(0:Int) < (l.length:Int):=by omega
  obtain ⟨x,hx,_⟩:=yO l (i:=i.tmod l.length) (Int.tmod_nonneg _ h) (Int.tmod_lt_of_pos _ hp)
  exact ⟨x,by rw [hx]; rfl⟩
def Kk (t:bf):Prop:=(t.Tag=[]∧t.Key=[]∧t.aI=[]∧t.Text.length ≤ 64)∨(CX t.Tag=true∧t.Text=[]∧t.Key.length ≤ 64∧Cc t.aI)
structure Wd (nodes:List bf) (under:List Int) (lv:List Nat):Prop where
 lu:under.length=nodes.length
 ll:lv.length=nodes.length
 pos:0 < nodes.length
 le:nodes.length ≤ 13
 ok:∀ (j:Nat) (t:bf),nodes[j]? = some t→Kk t
 root:under[0]? = some (-1)∧lv[0]? = some 1
 par:∀ (j:Nat),0 < j→j < nodes.length→∃ (p:Nat) (t:bf) (v:Nat),under[j]? = some (p:Int)∧p < j∧nodes[p]? = some t∧t.Tag ≠ []∧lv[p]? = some v∧lv[j]? = some (v + 1)
 lim:∀ (j v:Nat),lv[j]? = some v→v ≤ 7∧1 ≤ v
section
variable {nodes:List bf} {under:List Int} {lv:List Nat}
theorem FJ (h:Wd nodes under lv):∀ (m j v:Nat),j ≤ m→lv[j]? = some v→∀ (k:Nat) (acc:Int),v + 1 < k→0 ≤ acc→acc + v ≤ 60→dB under k (j:Int) acc=some (acc + v)
 | m,0,v,_,hv,k + 2,acc,hk,h0,h1=>by
  have hr:=h.root
  rw [hr.2] at hv; cases hv
  rw [dB,if_pos (by simp; omega)]
  have:idx under ((0:Nat):Int)=some (-1):=by rw [pU]; exact hr.1
  rw [this,Option.bind_some,mE (by omega) (by omega),dB,if_neg (by simp)]
  rfl
 | m + 1,j + 1,v,hj,hv,k + 1,acc,hk,h0,h1=>by
  have hjl:j + 1 < nodes.length:=by
   have:=(List.getElem?_eq_some_iff.1 hv).1
   rw [h.ll] at this; exact this
  obtain ⟨p,t,v',hu,hp,_,_,hvp,hvj⟩:=h.par (j + 1) (by omega) hjl
  rw [hv] at hvj; cases hvj
  have hl:=(h.lim (j + 1) (v' + 1) hv).1
  rw [dB,if_pos (by simp; omega)]
  have:idx under ((j + 1:Nat):Int)=some (p:Int):=by rw [pU]; exact hu
  rw [this,Option.bind_some,mE (by omega) (by omega)]
  rw [FJ h m p v' (by omega) hvp k (acc + 1) (by omega) (by omega) (by omega)]
  congr 1
  push_cast; omega
 | m,0,v,_,hv,1,acc,hk,_,_=>by omega
theorem Ij (h:Wd nodes under lv) (n:Nat) (hn:20 < n) {j v:Nat} (hv:lv[j]? = some v):jI n under (j:Int)=some (v:Int):=by
 have hl:=(h.lim j v hv).1
 unfold jI
 rw [FJ h j j v (Nat.le_refl _) hv n 0 (by omega) (by omega) (by omega)]
 simp
def ma (under:List Int) (at_:Nat) (l:List Nat):List Nat:=l.filter fun j=>under[j]? == some (at_:Int)
def zQ (nodes:List bf) (under:List Int):Nat→Nat→Tree
 | 0,_=>.mk [] [] [] [] []
 | f + 1,j=>match nodes[j]? with
  | some t=>.mk t.Tag t.Key t.Text t.aI ((ma under j (List.range nodes.length)).map (zQ nodes under f))
  | none=>.mk [] [] [] [] []
theorem uk (h:Wd nodes under lv) {j i:Nat} {l:List Nat} (hi:i ∈ ma under j l):i < nodes.length∧j < i∧∃ v,lv[j]? = some v∧lv[i]? = some (v + 1)∧∃ t,nodes[j]? = some t∧t.Tag ≠ []:=by
 obtain ⟨_,h2⟩:=List.mem_filter.1 hi
 have h2:=eq_of_beq h2
 have hil:i < nodes.length:=by rw [← h.lu]; exact (List.getElem?_eq_some_iff.1 h2).1
 cases i with
 | zero=>rw [h.root.1] at h2; cases h2
 | succ i =>
  obtain ⟨p,t,v,hu,hp,ht,htg,hvp,hvj⟩:=h.par (i + 1) (by omega) hil
  rw [hu] at h2
  have:p=j:=by have:=Option.some.inj h2; omega
  subst this
  exact ⟨hil,hp,v,hvp,hvj,t,ht,htg⟩
theorem CF (h:Wd nodes under lv):∀ (f g j:Nat),j < nodes.length→nodes.length ≤ j + f→nodes.length ≤ j + g→zQ nodes under f j=zQ nodes under g j
 | 0,g,j,hj,hf,_=>by omega
 | f + 1,0,j,hj,_,hg=>by omega
 | f + 1,g + 1,j,hj,hf,hg=>by
  rw [zQ,zQ]
  split
  ·
   congr 1
   apply List.map_congr_left
   intro i hi
   obtain ⟨h1,h2,_⟩:=uk h hi
   exact CF h f g i h1 (by omega) (by omega)
  ·
   rfl
def gt (nodes:List bf) (under:List Int) (j:Nat):Tree:=zQ nodes under (nodes.length + 1) j
theorem Dt (h:Wd nodes under lv) {j:Nat} {t:bf} (ht:nodes[j]? = some t):gt nodes under j=.mk t.Tag t.Key t.Text t.aI ((ma under j (List.range nodes.length)).map (gt nodes under)):=by
 unfold gt
 rw [zQ]
 simp only [ht]
 congr 1
 apply List.map_congr_left
 intro i hi
 obtain ⟨h1,h2,_⟩:=uk h hi
 exact CF h _ _ i h1 (by omega) (by omega)
theorem wU (h:Wd nodes under lv) (self:List bf→List Int→Int→Option Tree) (j:Nat) (z:bf) (hs:∀ i,i < nodes.length→j < i→self nodes under (i:Int)=some (gt nodes under i)):∀ (m i k:Nat) (acc:List Tree),nodes.length=i + m→m < k→acc.length ≤ i →
  bV self nodes under (j:Int) z k acc (i:Int)=some (.mk z.Tag z.Key z.Text z.aI (acc ++ (ma under j (List.range' i m)).map (gt nodes under)))
 | 0,i,k + 1,acc,hm,_,_=>by
  rw [bV,if_neg (by rw [hm]; simp)]
  simp [ma]
 | m + 1,i,k + 1,acc,hm,hk,ha=>by
  have hle:=h.le
  have hil:i < under.length:=by rw [h.lu]; omega
  rw [bV,if_pos (by rw [hm]; simp; omega),pU,List.getElem?_eq_getElem hil,Option.bind_some]
  rw [List.range'_succ]
  by_cases hu:under[i]=(j:Int)
  ·
   have hin:i ∈ ma under j [i]:=by simp [ma,hil,hu]
   obtain ⟨g1,g2,_⟩:=uk h hin
   rw [if_pos (by simpa using hu),hs i g1 g2,Option.bind_some,lD (by rw [bnd]; simp; omega),Option.bind_some]
   unfold eY
   rw [mE (by omega) (by omega)]
   have:=wU h self j z hs m (i + 1) k (acc ++ [gt nodes under i]) (by omega) (by omega) (by simp; omega)
   push_cast at this
   rw [this]
   have:ma under j (i :: List.range' (i + 1) m)=i :: ma under j (List.range' (i + 1) m):=by
    unfold ma; rw [List.filter_cons,if_pos (by simp [hil,hu])]
   rw [this]; simp
  ·
   rw [if_neg (by simpa using hu)]
   unfold eY
   rw [mE (by omega) (by omega)]
   have:=wU h self j z hs m (i + 1) k acc (by omega) (by omega) (by omega)
   push_cast at this
   rw [this]
   have:ma under j (i :: List.range' (i + 1) m)=ma under j (List.range' (i + 1) m):=by
    unfold ma; rw [List.filter_cons,if_neg (by simp [hil,hu])]
   rw [this]
theorem Fw (h:Wd nodes under lv):∀ (n j:Nat),j < nodes.length→2 * nodes.length + 2 ≤ j + n→bY n nodes under (j:Int)=some (gt nodes under j)
 | 0,j,hj,hn=>by omega
 | n + 1,j,hj,hn=>by
  rw [bY,pU,List.getElem?_eq_getElem hj,Option.bind_some]
  have:=wU h (bY n) j nodes[j] (fun i hi hji=>Fw h n i hi (by omega)) nodes.length 0 n [] (by omega) (by omega) (by simp)
  rw [show ((0:Nat):Int)=0 from rfl] at this
  rw [this,Dt h (List.getElem?_eq_getElem hj),List.range_eq_range']
  rfl
theorem FY (h:Wd nodes under lv):∀ (m j v:Nat),nodes.length ≤ j + m→lv[j]? = some v→oF (gt nodes under j)∧GH (gt nodes under j) + v ≤ 8
 | 0,j,v,hm,hv=>by
  have:=(List.getElem?_eq_some_iff.1 hv).1
  rw [h.ll] at this; omega
 | m + 1,j,v,hm,hv=>by
  have hj:j < nodes.length:=by rw [← h.ll]; exact (List.getElem?_eq_some_iff.1 hv).1
  have ht:=List.getElem?_eq_getElem hj
  have hv7:=h.lim j v hv
  rw [Dt h ht]
  have hk:∀ i ∈ ma under j (List.range nodes.length),oF (gt nodes under i)∧GH (gt nodes under i) + (v + 1) ≤ 8:=fun i hi=>by
   obtain ⟨g1,g2,v',g3,g4,_⟩:=uk h hi
   rw [hv] at g3; cases g3
   exact FY h m i (v + 1) (by omega) g4
  have hlen:(ma under j (List.range nodes.length)).length ≤ 13:=by
   have:=List.length_filter_le (fun i=>under[i]? == some (j:Int)) (List.range nodes.length)
   rw [List.length_range] at this
   have:=h.le
   unfold ma; omega
  refine ⟨(wQ _).2 ⟨?_,?_⟩,?_⟩
  ·
   rcases h.ok j _ ht with ⟨a1,a2,a3,a4⟩ | ⟨a1,a2,a3,a4⟩
   ·
    refine .inl ⟨a1,a2,a3,?_,a4⟩
    show List.map _ _=[]
    rw [List.map_eq_nil_iff]
    cases hq:ma under j (List.range nodes.length) with
    | nil=>rfl
    | cons i l =>
     obtain ⟨_,_,_,_,_,t,q1,q2⟩:=uk h (l:=List.range nodes.length) (i:=i) (j:=j) (by rw [hq]; simp)
     rw [ht] at q1; cases q1
     exact absurd a1 q2
   ·
    refine .inr ⟨a1,a2,a3,a4,?_⟩
    show (List.map _ _).length ≤ 24
    rw [List.length_map]; omega
  ·
   show oF.lg (List.map _ _)
   rw [Eg]
   intro z hz
   obtain ⟨i,hi,rfl⟩:=List.mem_map.1 hz
   exact (hk i hi).1
  ·
   rw [GH]
   have:∀ (l:List Nat),(∀ i ∈ l,GH (gt nodes under i) + (v + 1) ≤ 8)→I4 (l.map (gt nodes under)) + (v + 1) ≤ 8:=by
    intro l
    induction l with
    | nil=>intro _; simp only [List.map_nil,I4]; omega
    | cons i l ih =>
     intro hl
     have h1:=hl i List.mem_cons_self
     have h2:=ih (fun i hi=>hl i (List.mem_cons_of_mem _ hi))
     simp only [List.map_cons,I4]; omega
   have:=this _ (fun i hi=>(hk i hi).2)
   omega
def lJ (p:Nat→Bool) (f:Nat→Nat):List Nat→Nat
 | []=>0
 | i :: l=>(if p i then f i else 0) + lJ p f l
theorem uL (f:Nat→Tree) (p:Nat→Bool):∀ (l:List Nat),qh ((l.filter p).map f)=lJ p (fun i=>oJ (f i)) l
 | []=>rfl
 | i :: l=>by
  rw [List.filter_cons,lJ]
  by_cases h:p i=true
  ·
   rw [if_pos h,if_pos h,List.map_cons,qh,uL f p l]
  ·
   rw [if_neg h,if_neg h,uL f p l]; omega
theorem xJ (f:Nat→Nat) (p q r:Nat→Bool):∀ (l:List Nat),(∀ i ∈ l,p i=(q i || r i)∧(q i && r i)=false)→lJ p f l=lJ q f l + lJ r f l
 | [],_=>rfl
 | i :: l,h=>by
  obtain ⟨h1,h2⟩:=h i List.mem_cons_self
  have ih:=xJ f p q r l (fun i hi=>h i (List.mem_cons_of_mem _ hi))
  rw [lJ,lJ,lJ,h1,ih]
  cases hq:q i <;> cases hr:r i <;> simp_all <;> omega
theorem u7 (f:Nat→Nat) (p:Nat→Bool):∀ (l:List Nat),(∀ i ∈ l,p i=false)→lJ p f l=0
 | [],_=>rfl
 | i :: l,h=>by
  rw [lJ,h i List.mem_cons_self,u7 f p l (fun i hi=>h i (List.mem_cons_of_mem _ hi))]; simp
theorem Bc (f:Nat→Nat) (p:Nat→Bool):∀ (l m:List Nat),lJ p f (l ++ m)=lJ p f l + lJ p f m
 | [],m=>by simp [lJ]
 | i :: l,m=>by rw [List.cons_append,lJ,lJ,Bc f p l m]; omega
def ahead (under:List Int) (m:Nat) (j:Nat):Bool:=match under[j]? with
 | some u=>decide (u < (m:Int))
 | none=>false
theorem IU (h:Wd nodes under lv):∀ (d m:Nat),m + d=nodes.length→lJ (ahead under m) (fun i=>oJ (gt nodes under i)) (List.range' m d)=d
 | 0,m,_=>rfl
 | d + 1,m,hm=>by
  have ih:=IU h d (m + 1) (by omega)
  have hml:m < nodes.length:=by omega
  have hmu:m < under.length:=by rw [h.lu]; exact hml
  rw [List.range'_succ,lJ]
  have hself:ahead under m m=true:=by
   unfold ahead
   cases m with
   | zero=>rw [h.root.1]; rfl
   | succ m =>
    obtain ⟨p,_,_,hu,hp,_⟩:=h.par (m + 1) (by omega) hml
    rw [hu]; simp; omega
  rw [if_pos hself,Dt h (List.getElem?_eq_getElem hml),oJ]
  unfold ma
  rw [uL]
  have hr:List.range nodes.length=List.range' 0 (m + 1) ++ List.range' (m + 1) d:=by
   have hq:=List.range'_append_1 (s:=0) (m:=m + 1) (n:=d)
   rw [Nat.zero_add] at hq
   rw [List.range_eq_range',hq]
   congr 1; omega
  rw [hr,Bc,u7 _ _ (List.range' 0 (m + 1)) (fun i hi=>?_)]
  ·
   have hsp:=xJ (fun i=>oJ (gt nodes under i)) (ahead under (m + 1)) (ahead under m) (fun j=>under[j]? == some (m:Int)) (List.range' (m + 1) d) (fun i hi=>?_)
   ·
    rw [hsp] at ih
    omega
   ·
    have hil:i < under.length:=by
     have:=List.mem_range'_1.1 hi
     rw [h.lu]; omega
    unfold ahead
    rw [List.getElem?_eq_getElem hil]
    generalize under[i]=u
    simp only
    rcases Int.lt_trichotomy u (m:Int) with q | q | q
    ·
     have q1:u < ((m + 1:Nat):Int):=by omega
     have q2:u ≠ (m:Int):=by omega
     simp only [q,q1,decide_true,Bool.true_or,Bool.true_and,true_and]
     simpa using q2
    ·
     subst q
     have q1:(m:Int) < ((m + 1:Nat):Int):=by omega
     have q2:¬ (m:Int) < (m:Int):=by omega
     simp only [q1,q2,decide_true,decide_false,Bool.false_or,Bool.false_and,and_true,beq_self_eq_true]
    ·
     have q1:¬ u < ((m + 1:Nat):Int):=by omega
     have q2:¬ u < (m:Int):=by omega
     have q3:u ≠ (m:Int):=by omega
     simp only [q1,q2,decide_false,Bool.false_or,Bool.false_and,and_true]
     symm; simpa using q3
  ·
   cases hc:under[i]? == some (m:Int) with
   | false=>rfl
   | true =>
    have him:=List.mem_range'_1.1 hi
    obtain ⟨_,q,_⟩:=uk h (l:=[i]) (i:=i) (j:=m) (by simp [ma,hc])
    omega
theorem LB (h:Wd nodes under lv):oJ (gt nodes under 0)=nodes.length:=by
 obtain ⟨d,hd⟩:∃ d,nodes.length=d + 1:=⟨nodes.length - 1,by have:=h.pos; omega⟩
 have:=IU h nodes.length 0 (by omega)
 rw [hd,List.range'_succ,lJ] at this
 have h0:ahead under 0 0=true:=by unfold ahead; rw [h.root.1]; rfl
 rw [if_pos h0,u7 _ _ _ (fun i hi=>?_)] at this
 ·
  rw [hd]; omega
 ·
  have hi':=List.mem_range'_1.1 hi
  obtain ⟨p,_,_,hu,_⟩:=h.par i (by omega) (by omega)
  unfold ahead
  rw [hu]; simp
end
def words:List Str:=[[97],[98],[105,116,101,109],[120,32,121],[37],[97,47,98],[46,46],[122],[49],[108,105,115,116],[255],[63,61,38]]
theorem AP:∀ w ∈ words,w.length ≤ 64:=by decide
theorem JN:∀ s ∈ ([[97],[98],[108,105],[111,117,116,108,101,116]]:List Str),CX s=true:=by decide +kernel
theorem KP:CX [100,105,118]=true:=by decide +kernel
section
variable {nodes:List bf} {under:List Int} {lv:List Nat}
theorem getElem?_push {α:Type} (l:List α) (x:α) (j:Nat):(l ++ [x])[j]? = if j < l.length then l[j]? else if j=l.length then some x else none:=by
 by_cases h:j < l.length
 ·
  rw [if_pos h,List.getElem?_append_left h]
 ·
  rw [if_neg h,List.getElem?_append_right (by omega)]
  by_cases h2:j=l.length
  ·
   rw [if_pos h2,h2]; simp
  ·
   rw [if_neg h2]
   have:∃ k,j - l.length=k + 1:=⟨j - l.length - 1,by omega⟩
   obtain ⟨k,hk⟩:=this
   rw [hk]; rfl
theorem lW {α:Type} {l:List α} {x y:α} {j:Nat} (h:l[j]? = some y):(l ++ [x])[j]? = some y:=by
 rw [List.getElem?_append_left (List.getElem?_eq_some_iff.1 h).1]; exact h
theorem FL (h:Wd nodes under lv) (hl:nodes.length ≤ 12) {t:bf} (ht:Kk t) {p v:Nat} {tp:bf} (hp:nodes[p]? = some tp) (htp:tp.Tag ≠ []) (hv:lv[p]? = some v) (h6:v ≤ 6):Wd (nodes ++ [t]) (under ++ [(p:Int)]) (lv ++ [v + 1]) where
 lu:=by simp [h.lu]
 ll:=by simp [h.ll]
 pos:=by simp
 le:=by simp; omega
 ok:=fun j u hu=>by
  rw [getElem?_push] at hu
  split at hu
  ·
   exact h.ok j u hu
  ·
   split at hu
   ·
    cases hu; exact ht
   ·
    cases hu
 root:=⟨lW h.root.1,lW h.root.2⟩
 par:=fun j h0 hj=>by
  simp only [List.length_append,List.length_singleton] at hj
  by_cases hjl:j < nodes.length
  ·
   obtain ⟨q,tq,vq,h1,h2,h3,h4,h5,h6⟩:=h.par j h0 hjl
   exact ⟨q,tq,vq,lW h1,h2,lW h3,h4,lW h5,lW h6⟩
  ·
   have hj:j=nodes.length:=by omega
   subst hj
   have hpl:=(List.getElem?_eq_some_iff.1 hp).1
   refine ⟨p,tp,v,?_,hpl,lW hp,htp,lW hv,?_⟩
   ·
    rw [getElem?_push,h.lu,if_neg (by omega),if_pos rfl]
   ·
    rw [getElem?_push,h.ll,if_neg (by omega),if_pos rfl]
 lim:=fun j w hw=>by
  rw [getElem?_push] at hw
  split at hw
  ·
   exact h.lim j w hw
  ·
   split at hw
   ·
    cases hw; omega
   ·
    cases hw
def vw (nodes:List bf):Prop:=∃ t,nodes[0]? = some t∧t.Tag=[100,105,118]∧t.Key=[]
theorem EN (h:Wd nodes under lv) (hr:vw nodes) (n:Nat) (hn:20 < n) (hl:nodes.length ≤ 12) {i:Int} (again:List bf→List Int→Int→Option Tree) {p:Nat} {tp:bf} (hp:nodes[p]? = some tp) (htp:tp.Tag ≠ []) (a b c:Str) (ats:List Attr) (ht:Kk ⟨a,b,c,ats⟩) :
  ∃ (u:Int) (w:Nat),Wd (nodes ++ [⟨a,b,c,ats⟩]) (under ++ [u]) (lv ++ [w])∧dn n nodes under i again (p:Int) a b c ats=again (nodes ++ [⟨a,b,c,ats⟩]) (under ++ [u]) (IntKind.wrap .i64 (i + 1)):=by
 have hpl:p < lv.length:=by rw [h.ll]; exact (List.getElem?_eq_some_iff.1 hp).1
 have hv:=List.getElem?_eq_getElem hpl
 have key:∀ (q:Nat) (u:Int),u=(q:Int)→dO nodes under i again a b c ats u=again (nodes ++ [⟨a,b,c,ats⟩]) (under ++ [u]) (IntKind.wrap .i64 (i + 1)):=fun q u hu=>by
  unfold dO
  rw [lD (by rw [bnd]; simp; omega),Option.bind_some,lD (by rw [bnd,h.lu]; simp; omega),Option.bind_some]
 unfold dn
 rw [Ij h n hn hv,Option.bind_some]
 by_cases h6:6 < lv[p]
 ·
  obtain ⟨t0,h1,h2,_⟩:=hr
  refine ⟨((0:Nat):Int),2,FL h hl ht h1 (by rw [h2]; simp) h.root.2 (by omega),?_⟩
  rw [if_pos (by rw [decide_eq_true_eq]; omega)]
  exact key 0 _ rfl
 ·
  refine ⟨(p:Int),lv[p] + 1,FL h hl ht hp htp hv (by omega),?_⟩
  rw [if_neg (by rw [decide_eq_true_eq]; omega)]
  exact key p _ rfl
theorem J3:(words.length:Int)=12:=rfl
theorem Hr {tag key:Str} (h1:tag ∈ ([[97],[98],[108,105],[111,117,116,108,101,116]]:List Str)) (h2:key.length ≤ 64) {ats:List Attr} (h3:Cc ats):Kk ⟨tag,key,[],ats⟩:=.inr ⟨JN tag h1,rfl,h2,h3⟩
theorem Ig (h:Wd nodes under lv) (hr:vw nodes) (n:Nat) (hn:20 < n) (hl:nodes.length ≤ 12) (k:fA) {i:Nat} (hi:i ≤ 20) (again:List bf→List Int→Int→Option Tree) {p:Nat} {tp:bf} (hp:nodes[p]? = some tp) (htp:tp.Tag ≠ []) {tag key:Str} (h1:tag ∈ ([[97],[98],[108,105],[111,117,116,108,101,116]]:List Str)) (h2:key.length ≤ 64) :
  ∃ (t:bf) (u:Int) (w:Nat),Wd (nodes ++ [t]) (under ++ [u]) (lv ++ [w])∧dP n k words nodes under (i:Int) again (p:Int) tag key=again (nodes ++ [t]) (under ++ [u]) ((i + 1:Nat):Int):=by
 obtain ⟨r,hr1⟩:=vQ n k.Texts (i:Int) (by omega)
 unfold dP
 rw [hr1,Option.bind_some]
 by_cases hb:(K7 .i64 r 1 == 1)=true
 ·
  rw [if_pos hb,mE (by omega) (by omega)]
  obtain ⟨r2,hr2⟩:=vQ n k.Texts ((i:Int) + 1) (by omega)
  rw [hr2,Option.bind_some,J3,mE (by omega) (by omega)]
  obtain ⟨q,q1,q2,q3⟩:=mP n r2 0 (12 - 1) (by omega) (by omega) (by omega)
  obtain ⟨w,w1,w2,_⟩:=yO words q2 (by rw [J3]; omega)
  rw [q1,Option.bind_some,w1,Option.bind_some]
  obtain ⟨u,v,k1,k2⟩:=EN h hr n hn hl (i:=(i:Int)) again hp htp tag key [] [Attr.mk [120] w] (Hr h1 h2 (.inr ⟨_,rfl,by simp,by simp,AP w w2⟩))
  rw [mE (by omega) (by omega)] at k2
  exact ⟨_,u,v,k1,k2⟩
 ·
  rw [if_neg hb]
  obtain ⟨u,v,k1,k2⟩:=EN h hr n hn hl (i:=(i:Int)) again hp htp tag key [] [] (Hr h1 h2 (.inl rfl))
  rw [mE (by omega) (by omega)] at k2
  exact ⟨_,u,v,k1,k2⟩
theorem Lr (h:Wd nodes under lv) (hr:vw nodes) (n:Nat) (hn:20 < n) (hl:nodes.length ≤ 12) (k:fA) {i:Nat} (hi:i ≤ 20) (again:List bf→List Int→Int→Option Tree) {p:Nat} {tp:bf} (hp:nodes[p]? = some tp) (htp:tp.Tag ≠ []) :
  ∃ (t:bf) (u:Int) (w:Nat),Wd (nodes ++ [t]) (under ++ [u]) (lv ++ [w])∧di n k words nodes under (i:Int) again (p:Int)=again (nodes ++ [t]) (under ++ [u]) ((i + 1:Nat):Int):=by
 obtain ⟨r,hr1⟩:=vQ n k.Texts (i:Int) (by omega)
 obtain ⟨q,q1,q2,q3⟩:=mP n r 0 (12 - 1) (by omega) (by omega) (by omega)
 obtain ⟨w,w1,w2,_⟩:=yO words q2 (by rw [J3]; omega)
 obtain ⟨r2,hr2⟩:=vQ n k.Kinds (i:Int) (by omega)
 obtain ⟨c,c1,c2,c3⟩:=mP n r2 0 5 (by omega) (by omega) (by omega)
 unfold di
 rw [hr1,Option.bind_some,J3,mE (by omega) (by omega),q1,Option.bind_some,w1,Option.bind_some,hr2,Option.bind_some,c1,Option.bind_some]
 by_cases hc:c < 4
 ·
  rw [if_pos (by rw [decide_eq_true_eq]; exact hc)]
  obtain ⟨tag,t1,t2,_⟩:=yO ([[97],[98],[108,105],[111,117,116,108,101,116]]:List Str) c2 (by simp; omega)
  obtain ⟨r3,hr3⟩:=vQ n k.Keys (i:Int) (by omega)
  obtain ⟨d,d1,d2,d3⟩:=mP n r3 0 6 (by omega) (by omega) (by omega)
  rw [t1,Option.bind_some,hr3,Option.bind_some,d1,Option.bind_some]
  by_cases hd:d < 4
  ·
   rw [if_pos (by rw [decide_eq_true_eq]; exact hd)]
   exact Ig h hr n hn hl k hi again hp htp t2 (by simp)
  ·
   rw [if_neg (by rw [decide_eq_true_eq]; exact hd)]
   exact Ig h hr n hn hl k hi again hp htp t2 (by simp)
 ·
  rw [if_neg (by rw [decide_eq_true_eq]; exact hc)]
  obtain ⟨u,v,k1,k2⟩:=EN h hr n hn hl (i:=(i:Int)) again hp htp [] [] w [] (.inl ⟨rfl,rfl,rfl,AP w w2⟩)
  rw [mE (by omega) (by omega)] at k2
  exact ⟨_,u,v,k1,k2⟩
theorem Bd (n:Nat) (hn:100 < n) (k:fA):∀ (m i f:Nat) (nodes:List bf) (under:List Int) (lv:List Nat),Wd nodes under lv→vw nodes→nodes.length=i + 1→i + m=12→m < f →
  ∃ nodes' under' lv',Wd nodes' under' lv'∧vw nodes'∧aV n k words f nodes under (i:Int)=bY n nodes' under' 0
 | m,i,f + 1,nodes,under,lv,h,hr,hl,hm,hf=>by
  rw [aV]
  by_cases hc:i < k.Under.length∧i < 12
  ·
   obtain ⟨m,rfl⟩:∃ m',m=m' + 1:=⟨m - 1,by omega⟩
   rw [if_pos (by simp; omega),pU,List.getElem?_eq_getElem hc.1,Option.bind_some]
   rw [mE (n:=(nodes.length:Int) - 1) (by omega) (by omega)]
   obtain ⟨q,q1,q2,q3⟩:=mP n k.Under[i] 0 ((nodes.length:Int) - 1) (by omega) (by omega) (by omega)
   obtain ⟨t,t1,t2,t3⟩:=yO nodes q2 (by omega)
   rw [q1,Option.bind_some,t1,Option.bind_some]
   have go:∀ (p:Nat) (tp:bf),nodes[p]? = some tp→tp.Tag ≠ []→∃ nodes' under' lv',Wd nodes' under' lv'∧vw nodes'∧di n k words nodes under (i:Int) (aV n k words f) (p:Int)=bY n nodes' under' 0:=fun p tp hp htp=>by
    obtain ⟨t',u,w,k1,k2⟩:=Lr (i:=i) h hr n (by omega) (by omega) k (by omega) (aV n k words f) hp htp
    have hr':vw (nodes ++ [t']):=by
     obtain ⟨t0,h1,h2⟩:=hr
     exact ⟨t0,lW h1,h2⟩
    obtain ⟨n',u',l',g1,g2,g3⟩:=Bd n hn k m (i + 1) f _ _ _ k1 hr' (by simp; omega) (by omega) (by omega)
    exact ⟨n',u',l',g1,g2,by rw [k2,g3]⟩
   by_cases hb:(t.Tag == [])=true
   ·
    rw [if_pos hb]
    obtain ⟨t0,h1,h2,h3⟩:=hr
    exact go 0 t0 h1 (by rw [h2]; simp)
   ·
    rw [if_neg hb]
    have hqn:q=(q.toNat:Int):=by omega
    rw [hqn]
    exact go q.toNat t t3 (by simpa using hb)
  ·
   rw [if_neg (by simp; omega)]
   exact ⟨nodes,under,lv,h,hr,by cases bY n nodes under 0 <;> rfl⟩
end
theorem Ke (k:fA) (n:Nat) (hn:100 < n):∃ t,fH n k=some t∧oF t∧oJ t ≤ 13∧GH t ≤ 7∧t.Tag=[100,105,118]∧t.Key=[]:=by
 have h0:Wd [⟨[100,105,118],[],[],[]⟩] [-1] [1]:=by
  refine ⟨rfl,rfl,by simp,by simp,fun j t ht=>?_,⟨rfl,rfl⟩,fun j h1 h2=>?_,fun j v hv=>?_⟩
  ·
   cases j with
   | zero=>simp at ht; subst ht; exact .inr ⟨KP,rfl,by simp,.inl rfl⟩
   | succ j=>simp at ht
  ·
   simp at h2; omega
  ·
   cases j with
   | zero=>simp at hv; subst hv; omega
   | succ j=>simp at hv
 obtain ⟨nodes,under,lv,h,hr,he⟩:=Bd n hn k 12 0 n _ _ _ h0 ⟨_,rfl,rfl,rfl⟩ rfl rfl (by omega)
 have hle:=h.le
 have hg:=FY h nodes.length 0 1 (by omega) h.root.2
 have hc:=LB h
 obtain ⟨t0,r1,r2,r3⟩:=hr
 refine ⟨gt nodes under 0,?_,hg.1,by rw [hc]; exact hle,by omega,by rw [Dt h r1]; exact r2,by rw [Dt h r1]; exact r3⟩
 unfold fH kr
 rw [Option.bind_some]
 have:=Fw h n 0 h.pos (by omega)
 rw [show ((0:Nat):Int)=0 from rfl] at this he
 rw [← this,← he]
 rfl
end W
end Pr
end Go.Ev

namespace Go.Ev
namespace Pr
set_option linter.unusedVariables false
set_option linter.unusedSimpArgs false
mutual
theorem KN:∀ (t:Tree),W.oF t→Rt t
 | .mk a b c d e,h=>by
  obtain ⟨h1,h2⟩:=(W.wQ _).1 h
  simp only [Tree.Kids] at h2
  have hr:=Iy e h2
  simp only [Rt]
  rcases h1 with ⟨q1,q2,q3,q4,q5⟩ | ⟨q1,q2,q3,q4,q5⟩
  ·
   simp only [Tree.Tag,Tree.Key,Tree.aI,Tree.Kids] at q1 q2 q3 q4
   exact ⟨fun _=>⟨q2,q3,q4⟩,fun h=>absurd q1 h⟩
  ·
   simp only [Tree.Tag,Tree.Text,Tree.aI,Tree.Kids] at q1 q2 q4
   refine ⟨fun h=>?_,fun _=>⟨q2,?_,hr⟩⟩
   ·
    simp [W.CX,h] at q1
   ·
    rcases q4 with q4 | ⟨x,q4,_⟩ <;> rw [q4] <;> simp
theorem Iy:∀ (l:List Tree),W.oF.lg l→LH l
 | [],_=>trivial
 | t :: l,h=>by rw [W.oF.lg] at h; exact ⟨KN t h.1,Iy l h.2⟩
end
mutual
theorem FW:∀ (t:Tree),jZ t=W.oJ t
 | .mk _ _ _ _ ks=>by rw [jZ,W.oJ,DZ ks]
theorem DZ:∀ (l:List Tree),jo l=W.qh l
 | []=>rfl
 | t :: l=>by rw [jo,W.qh,FW t,DZ l]
end
def MAIN:Str:=[109,97,105,110]
def OUT:Str:=[111,117,116,108,101,116]
theorem Cz {d:aB} (hW:WF d) {n:Nat} (hn:6000 ≤ n) {id:Int} {z:ah} (hz:nd d id=some z) (hl:z.lives=true):∃ t F,TA d id t F∧fP n d id=some (t,true)∧t.Tag=z.tag:=by
 obtain ⟨t,F,h⟩:=hW.tree (i:=id) (by rw [dZ hz,hl])
 obtain ⟨l,hp⟩:=hW.path id (by rw [dZ hz,hl])
 have hlen:=hW.len
 have h1:=iW _ _ (h.nodup hW hp) h.Jq
 have h2:=h.len
 refine ⟨t,F,h,ym hW h (by omega),?_⟩
 cases h with
 | mk g gl gk=>rw [g] at hz; cases hz; rfl
theorem F3 {d:aB} (hW:WF d) {n:Nat} (hn:6001 ≤ n) {id:Int} (h:kI d id=false):bN n d id=some 0:=by
 obtain ⟨m,rfl⟩:∃ m,n=m + 1:=⟨n - 1,by omega⟩
 rw [bN,FT hW m h,Option.bind_some,if_pos (by simp)]
theorem Bj {d:aB} (hW:WF d) {n:Nat} (hn:6001 ≤ n) {id:Int} {z:ah} (hz:nd d id=some z) (hl:z.lives=true) (ht:z.tag=OUT):bN n d id=some id:=by
 obtain ⟨m,rfl⟩:∃ m,n=m + 1:=⟨n - 1,by omega⟩
 obtain ⟨t,F,hT,e,et⟩:=Cz hW (n:=m) (by omega) hz hl
 rw [bN,e,Option.bind_some,if_neg (by simp),show jm m d=some 1 from rfl,Option.bind_some,if_pos (by rw [et,ht]; simp [OUT])]
theorem AZ {d:aB} (hW:WF d) {n:Nat} (hn:6002 ≤ n) {id:Int} {z:ah} (hz:nd d id=some z) (hl:z.lives=true) (ht:z.tag ≠ OUT) (h1:id ≠ 1) (hk:z.kids=[]):bN n d id=some 0:=by
 obtain ⟨m,rfl⟩:∃ m,n=m + 2:=⟨n - 2,by omega⟩
 obtain ⟨t,F,hT,e,et⟩:=Cz hW (n:=m + 1) (by omega) hz hl
 have ht':(z.tag == [111,117,116,108,101,116])=false:=by rw [beq_eq_false_iff_ne]; exact ht
 rw [bN,e,Option.bind_some,if_neg (by simp),show jm (m + 1) d=some 1 from rfl,Option.bind_some,if_neg (by simp only [et,ht',Bool.or_false,beq_iff_eq]; exact h1),uu hW,hz]
 simp only [hl,if_true,hk,Option.bind_some]
 rw [fT,if_neg (by simp)]
theorem zl {d:aB} (hW:WF d) {n:Nat} (hn:6003 ≤ n) {id c s:Int} {z:ah} (hz:nd d id=some z) (hl:z.lives=true) (ht:z.tag ≠ OUT) (h1:id ≠ 1) (hk:z.kids=[c]) (hc:∀ m,6002 ≤ m→bN m d c=some s):bN n d id=some (if 0 < s then s else 0):=by
 obtain ⟨m,rfl⟩:∃ m,n=m + 3:=⟨n - 3,by omega⟩
 obtain ⟨t,F,hT,e,et⟩:=Cz hW (n:=m + 2) (by omega) hz hl
 have ht':(z.tag == [111,117,116,108,101,116])=false:=by rw [beq_eq_false_iff_ne]; exact ht
 rw [bN,e,Option.bind_some,if_neg (by simp),show jm (m + 2) d=some 1 from rfl,Option.bind_some,if_neg (by simp only [et,ht',Bool.or_false,beq_iff_eq]; exact h1),uu hW,hz]
 simp only [hl,if_true,hk,Option.bind_some]
 rw [fT,if_pos (by simp),show idx [c] 0=some c from rfl,Option.bind_some,hc (m + 2) (by omega),Option.bind_some]
 by_cases hs:0 < s
 ·
  rw [if_pos (by simpa using hs),if_pos hs]
 ·
  rw [if_neg (by simpa using hs),if_neg hs,fT,if_neg (by rw [mE (by omega) (by omega)]; simp)]
theorem Gp {d:aB} {i:Int} {z:ah} (hz:nd d i=some z):l8 d i z=d:=by
 unfold nd at hz
 split at hz
 ·
  unfold l8
  obtain ⟨h1,h2⟩:=List.getElem?_eq_some_iff.1 hz
  have:d.l.set (i - 1).toNat z=d.l:=by rw [← h2]; exact List.set_getElem_self h1
  rw [this]
 ·
  cases hz
theorem GK {n:Nat} (hn:6000 ≤ n) {d:aB} (hW:WF d) (hz2:nd d 2=some (ah.mk true MAIN [] [] [] [3] 0)) (hz3:nd d 3=some (ah.mk true OUT [] [] [] [] 2)) :
  ∃ d5,eZ (n + 3) d 2 (Tree.mk MAIN [] [] [] [])=some (true,d5)∧WF d5∧cnt d5=cnt d - 1∧d5.l.length=d.l.length∧kI d5 3=false∧(∀ j z,j ≠ 3→nd d j=some z→nd d5 j=some (if z.lives=true then { z with kids:=z.kids.erase 3 } else z)):=by
 have T3:TA d 3 (Tree.mk OUT [] [] [] []) [3]:=.mk hz3 rfl .nil
 have T2:TA d 2 (Tree.mk MAIN [] [] [] [Tree.mk OUT [] [] [] []]) (2 :: ([3] ++ [])):=.mk hz2 rfl (.cons T3 .nil)
 obtain ⟨d5,e5,W5,c5,l5,k5,g5⟩:=Km hW (n:=n + 2) (by omega) T3 (by decide)
 obtain ⟨g,eg,gn,gm,gl⟩:=Kc (n:=n + 2) (n1:=1) [] (by omega) (by omega) (by simp) (by simp)
 have hg:g=[0]:=by
  have h0:(0:Int) ∈ g:=(gm 0).2 (by simp)
  match g,gl,h0 with
  | [a],_,h0=>simp at h0; rw [h0]
 have ha:=(CJ hW (n + 2) hz2 rfl (by decide) (at_:=[]) (by simp)).1
 rw [Gp (z:={ ah.mk true MAIN [] [] [] [3] 0 with attrs:=[] }) hz2] at ha
 refine ⟨d5,?_,W5,by simpa using c5,l5,k5 3 (by simp),fun j z hj hz=>g5 j z (by simpa using hj) hz⟩
 have hT:=ym hW T2 (n:=n + 2) (by simp [jZ,jo]; omega)
 have hpk:=IB (n:=n + 2) hW (ks:=[3]) (by simp) (.cons T3 .nil) (by simp [jZ,jo]) (by simp)
 have hfr:mQ (n + 2) [Tree.mk OUT [] [] [] []] []=some []:=Ka (by simp) (by simp) (by simp) (by simp)
 rw [eZ,hT,Option.bind_some,if_neg (by simp [Tree.Tag,Tree.Key]),if_neg (by simp [Tree.Tag,MAIN])]
 simp only [Tree.aI,Tree.Kids]
 rw [ha,Option.bind_some]
 simp only []
 rw [uu hW,hz2]
 simp only [if_true,Option.bind_some]
 rw [hpk,Option.bind_some,hfr,Option.bind_some]
 rw [show (([3]:List Int).length:Int)=((1:Nat):Int) from rfl,eg,Option.bind_some,hg,iq,if_pos (by simp),show idx ([0]:List Int) 0=some 0 from rfl,Option.bind_some,show idx ([3]:List Int) 0=some 3 from rfl,Option.bind_some,e5,Option.bind_some]
 simp only []
 rw [iq,if_neg (by rw [mE (by omega) (by omega)]; simp),fM,if_neg (by simp [Tree.Kids])]
theorem yA {n:Nat} {self:aB→Tree→Option (Int × aB)} {t:Tree} {z18:Int × aB}:∀ (f:Nat) (d:aB) (i:Int) (r:Int × aB),fK n self t z18 f d i=some r→r.1=z18.1
 | 0,d,i,r,h=>by cases h
 | f + 1,d,i,r,h=>by
  rw [fK] at h
  split at h
  ·
   obtain ⟨x,_,h⟩:=Option.bind_eq_some_iff.1 h
   obtain ⟨y,_,h⟩:=Option.bind_eq_some_iff.1 h
   obtain ⟨w,_,h⟩:=Option.bind_eq_some_iff.1 h
   exact yA f _ _ _ h
  ·
   cases h; rfl
theorem Lv {n:Nat} {d:aB} {t:Tree} {r:Int × aB} (hW:WF d) (hl:d.l.length < 5000) (ht:t.Tag ≠ []) (h:eO (n + 1) d t=some r):r.1=nextId d:=by
 rw [eO,if_neg (by simpa using ht)] at h
 obtain ⟨d',e,_⟩:=yX hW hl n (tag:=t.Tag) (key:=t.Key) ht
 rw [e,Option.bind_some] at h
 obtain ⟨x,_,h⟩:=Option.bind_eq_some_iff.1 h
 exact yA _ _ _ _ h
theorem AA:∀ {l m:List Int},l.Pairwise (· < ·)→m.Pairwise (· < ·)→(∀ x,x ∈ l↔x ∈ m)→l=m
 | [],[],_,_,_=>rfl
 | [],b :: m,_,_,h=>by have:=(h b).2 List.mem_cons_self; cases this
 | a :: l,[],_,_,h=>by have:=(h a).1 List.mem_cons_self; cases this
 | a :: l,b :: m,h1,h2,h=>by
  rw [List.pairwise_cons] at h1 h2
  have e:a=b:=by
   have ha:=(h a).1 List.mem_cons_self
   have hb:=(h b).2 List.mem_cons_self
   rcases List.mem_cons.1 ha with q | q
   ·
    exact q
   ·
    rcases List.mem_cons.1 hb with q' | q'
    ·
     exact q'.symm
    ·
     have:=h2.1 a q; have:=h1.1 b q'; omega
  subst e
  congr 1
  refine AA h1.2 h2.2 fun x=>?_
  constructor
  ·
   intro hx
   have hlt:=h1.1 x hx
   rcases List.mem_cons.1 ((h x).1 (List.mem_cons_of_mem _ hx)) with q | q
   ·
    omega
   ·
    exact q
  ·
   intro hx
   have hlt:=h2.1 x hx
   rcases List.mem_cons.1 ((h x).2 (List.mem_cons_of_mem _ hx)) with q | q
   ·
    omega
   ·
    exact q
theorem Ai (d:aB):(uR d).Pairwise (· < ·):=by
 refine List.Pairwise.filter _ ?_
 unfold nums
 rw [List.pairwise_map]
 exact List.pairwise_lt_range.imp (fun h=>by omega)
end Pr
end Go.Ev

namespace Go.Ev
namespace Pr
set_option linter.unusedVariables false
set_option linter.unusedSimpArgs false
def dA:aB:=aB.mk [nz,ah.mk true MAIN [] [] [] [3] 0,ah.mk true OUT [] [] [] [] 2] []
set_option maxRecDepth 100000 in
theorem CE:eO 10000 Am (Tree.mk [109,97,105,110] [] [] [] [Tree.mk [111,117,116,108,101,116] [] [] [] []])=some (2,dA):=by kernel_rfl
theorem Fz (i:Int):nd dA i=if i=1 then some nz else if i=2 then some (ah.mk true MAIN [] [] [] [3] 0) else if i=3 then some (ah.mk true OUT [] [] [] [] 2) else none:=by
 by_cases h1:i=1
 ·
  subst h1; rfl
 ·
  by_cases h2:i=2
  ·
   subst h2; rfl
  ·
   by_cases h3:i=3
   ·
    subst h3; rfl
   ·
    rw [if_neg h1,if_neg h2,if_neg h3]
    cases hq:nd dA i with
    | none=>rfl
    | some z=>have:=bZ hq; have e:dA.l.length=3:=rfl; omega
theorem Mj:WF dA:=by
 obtain ⟨id,d',F,e,P⟩:=BS 10000 (Tree.mk [109,97,105,110] [] [] [] [Tree.mk [111,117,116,108,101,116] [] [] [] []]) Am JY (by simp [Rt,LH]) (by simp [jZ,jo]) (by simp [jZ,jo]; decide)
 rw [CE] at e
 cases e
 exact P.wf
set_option maxRecDepth 100000 in
theorem Ad:iE 10000=some true:=by decide +kernel
set_option maxRecDepth 100000 in
theorem EO:jC 10000 [Tree.mk [98] [] [] [] [],Tree.mk [99] [] [] [] []]=some (Tree.mk [98] [] [] [] []):=by kernel_rfl
structure KH (d:aB) (p:Int) (t:Tree) (F:List Int):Prop where
 wf:WF d
 ta:TA d p t F
 root:nd d 1=some nz
 two:nd d 2=some (ah.mk true MAIN [] [] [] [] 0)
 dead:kI d 3=false
 top:∃ z,nd d p=some z∧z.lives=true∧z.parent=0
 big:4 ≤ p
 new:∀ j ∈ F,4 ≤ j
 freed:d.freed=[3]
 len:d.l.length=3 + jZ t
theorem I8 (t:Tree) (hR:Rt t) (hn:jZ t ≤ 13):∃ p d2 d3 d5 F,eO 10000 dA t=some (p,d2)∧gU 10000 d2 2 p=some (true,d3)∧il 10000 d3 2 (Tree.mk MAIN [] [] [] [])=some (true,d5)∧KH d5 p t F:=by
 have lA:dA.l.length=3:=rfl
 have cA:cnt dA=3:=rfl
 obtain ⟨p,d2,F,e2,P⟩:=BS 10000 t dA Mj hR (by omega) (by omega)
 have n1:nd d2 1=some nz:=P.old 1 _ (by rw [Fz]; rfl) rfl
 have n2:nd d2 2=some (ah.mk true MAIN [] [] [] [3] 0):=P.old 2 _ (by rw [Fz]; rfl) rfl
 have n3:nd d2 3=some (ah.mk true OUT [] [] [] [] 2):=P.old 3 _ (by rw [Fz]; rfl) rfl
 have hnew:∀ j ∈ F,4 ≤ j:=fun j hj=>by
  have h1:=P.new j hj
  have h2:=(P.ta.Jq j hj).1
  by_cases q:j ≤ 3
  ·
   exfalso
   have:kI dA j=true:=by
    unfold kI; rw [Fz]
    by_cases q1:j=1
    ·
     rw [if_pos q1]; rfl
    ·
     by_cases q2:j=2
     ·
      rw [if_neg q1,if_pos q2]
     ·
      rw [if_neg q1,if_neg q2,if_pos (by omega)]
   rw [h1] at this; cases this
  ·
   omega
 obtain ⟨G,hG⟩:=P.ta.head
 have hpF:p ∈ F:=by rw [hG]; exact List.mem_cons_self
 have hp4:=hnew p hpF
 obtain ⟨zp,hzp,hlp,hpp⟩:=P.top
 have hf:=P.ta.len
 have c2:=P.cnt
 have l2:=P.len
 have fr2:d2.freed=[]∧d2.l.length=3 + jZ t:=by
  unfold cnt at c2 cA
  have:d2.freed.length=0:=by omega
  exact ⟨List.length_eq_zero_iff.1 this,by omega⟩
 have xk:Path d2 3 [3,2]:=.up n3 rfl (by simp) (.top n2 rfl rfl)
 have hok:mF d2 3 p=true:=by
  unfold mF xK
  rw [xk.of,dZ n3,dZ hzp,hlp,n3]
  have e1:(p == 1)=false:=by rw [beq_eq_false_iff_ne]; omega
  simp [OUT,e1]
  omega
 obtain ⟨W3,g3⟩:=Hu P.wf 0 hok
 rw [jO hzp hpp] at W3 g3
 have no2:∀ j z,nd d2 j=some z→z.lives=true→p ∉ z.kids:=fun j z hz hl hm=>by
  obtain ⟨y,y1,_,y3⟩:=P.wf.kid j z p hz hl hm
  rw [hzp] at y1; cases y1
  have:=(bZ hz).1
  omega
 have er:∀ j z,nd d2 j=some z→z.lives=true→z.kids.erase p=z.kids:=fun j z hz hl=>List.erase_of_not_mem (no2 j z hz hl)
 have m1:nd (fU d2 3 p 0) 1=some nz:=by rw [g3 1 _ n1 rfl,er 1 _ n1 rfl,if_neg (by decide),if_neg (by omega)]
 have m2:nd (fU d2 3 p 0) 2=some (ah.mk true MAIN [] [] [] [3] 0):=by rw [g3 2 _ n2 rfl,er 2 _ n2 rfl,if_neg (by decide),if_neg (by omega)]
 have m3:nd (fU d2 3 p 0) 3=some (ah.mk true OUT [] [] [] [p] 2):=by rw [g3 3 _ n3 rfl,er 3 _ n3 rfl,if_pos rfl,if_neg (by omega)]; rfl
 have mp:nd (fU d2 3 p 0) p=some { zp with parent:=3 }:=by rw [g3 p _ hzp hlp,er p _ hzp hlp,if_neg (by omega),if_pos rfl]
 have T3:TA (fU d2 3 p 0) p t F:=P.ta.keep (fun j hj z hz=>by
  have h4:=hnew j hj
  obtain ⟨z',hz',hl',_⟩:=P.ta.live j hj
  rw [hz] at hz'; cases hz'
  exact ⟨_,g3 j z hz hl',rfl,rfl,rfl,rfl,rfl,by simp only; rw [if_neg (by omega),er j z hz hl']⟩)
 have slot2:∀ m,6002 ≤ m→bN m d2 3=some 3:=fun m hm=>Bj P.wf (by omega) n3 rfl rfl
 have slot3:∀ m,6002 ≤ m→bN m (fU d2 3 p 0) 3=some 3:=fun m hm=>Bj W3 (by omega) m3 rfl rfl
 have hang:gU 10000 d2 2 p=some (true,fU d2 3 p 0):=by
  unfold gU
  rw [zl P.wf (by omega) n2 rfl (by decide) (by decide) rfl slot2,Option.bind_some,if_pos (by decide),if_pos (by decide),uu P.wf,n3]
  simp only [if_true,Option.bind_some]
  rw [if_pos (by simp),wL P.wf (by omega),hok,if_pos rfl,Option.bind_some,jO hzp hpp]
 have s3:bN 10000 (fU d2 3 p 0) 2=some 3:=by
  rw [zl W3 (by omega) m2 rfl (by decide) (by decide) rfl slot3]; rfl
 have hung:jv 10000 (fU d2 3 p 0) 2=some p:=by
  unfold jv
  rw [s3,Option.bind_some,uu W3,m3]
  simp only [if_true,Option.bind_some]
  rw [if_neg (by simp)]
  rfl
 have lp3:kI (fU d2 3 p 0) p=true:=by rw [dZ mp]; exact hlp
 have W4:=tN W3 lp3
 obtain ⟨b,eb,hb⟩:=wN W3 (n:=10000) (by omega) p
 have hbt:b=true:=hb.2 ⟨_,mp,hlp,by simp⟩
 subst hbt
 simp only [if_true] at eb
 have no3:∀ j z,j ≠ 3→nd (fU d2 3 p 0) j=some z→z.lives=true→p ∉ z.kids:=fun j z hj hz hl hm=>by
  obtain ⟨y,y1,_,y3⟩:=W3.kid j z p hz hl hm
  rw [mp] at y1; cases y1
  simp only at y3; omega
 have g4:∀ j z,j ≠ 3→nd (fU d2 3 p 0) j=some z→z.lives=true→nd (dC (fU d2 3 p 0) p) j=some { z with parent:=if j=p then 0 else z.parent }:=fun j z hj hz hl=>by
  rw [mJ W3 lp3 hz hl,List.erase_of_not_mem (no3 j z hj hz hl)]
 have o1:=g4 1 _ (by decide) m1 rfl
 have o2:=g4 2 _ (by decide) m2 rfl
 rw [if_neg (by omega)] at o1 o2
 have o3:nd (dC (fU d2 3 p 0) p) 3=some (ah.mk true OUT [] [] [] [] 2):=by
  rw [mJ W3 lp3 m3 rfl,if_neg (by omega)]; simp
 have op:=g4 p _ (by omega) mp hlp
 rw [if_pos rfl] at op
 have T4:TA (dC (fU d2 3 p 0) p) p t F:=T3.dC W3 lp3 (fun j hj z hz=>no3 j z (by have:=hnew j hj; omega) hz (by obtain ⟨y,y1,y2,_⟩:=T3.live j hj; rw [hz] at y1; cases y1; exact y2))
 obtain ⟨d5,e5,W5,c5,l5,k5,g5⟩:=GK (n:=9997) (by omega) W4 o2 o3
 have no4:∀ j ∈ F,∀ z,nd (dC (fU d2 3 p 0) p) j=some z→(3:Int) ∉ z.kids:=fun j hj z hz hm=>by
  obtain ⟨y,y1,y2,_⟩:=T4.live j hj
  rw [hz] at y1; cases y1
  obtain ⟨x,x1,_,x3⟩:=W4.kid j z 3 hz y2 hm
  rw [o3] at x1; cases x1
  have:=hnew j hj
  simp only at x3; omega
 have gF:∀ j ∈ F,∀ z,nd (dC (fU d2 3 p 0) p) j=some z→nd d5 j=some z:=fun j hj z hz=>by
  rw [g5 j z (by have:=hnew j hj; omega) hz,List.erase_of_not_mem (no4 j hj z hz)]
  split <;> rfl
 have T5:TA d5 p t F:=T4.CL (fun j hj=>by
  obtain ⟨z,hz,_⟩:=T4.live j hj
  rw [gF j hj z hz,hz])
 have q1:nd d5 1=some nz:=by rw [g5 1 _ (by decide) o1]; rfl
 have q2:nd d5 2=some (ah.mk true MAIN [] [] [] [] 0):=by rw [g5 2 _ (by decide) o2]; rfl
 have turn:il 10000 (fU d2 3 p 0) 2 (Tree.mk MAIN [] [] [] [])=some (true,d5):=by
  unfold il
  rw [s3,Option.bind_some,hung,Option.bind_some,eb,Option.bind_some]
  simp only []
  rw [show eZ 10000 (dC (fU d2 3 p 0) p) 2 (Tree.mk MAIN [] [] [] [])=some (true,d5) from e5,Option.bind_some,if_neg (by simp)]
  unfold gU
  simp only []
  rw [AZ W5 (by omega) q2 rfl (by decide) (by decide) rfl,Option.bind_some,if_neg (by decide)]
  rfl
 have len5:d5.l.length=3 + jZ t:=by rw [l5]; simp; exact fr2.2
 have cnt4:cnt (dC (fU d2 3 p 0) p)=cnt d2:=by unfold cnt; simp
 have fr5:d5.freed=[3]:=by
  have hlen:d5.freed.length=1:=by
   rw [cnt4,c2] at c5
   unfold cnt at c5 cA
   omega
  obtain ⟨z3,hz3⟩:=pM (d:=d5) (i:=3) (by omega) (by omega)
  have h3:(3:Int) ∈ d5.freed:=(W5.dead 3 z3 hz3).1 (by rw [dZ hz3] at k5; exact k5)
  match d5.freed,hlen,h3 with
  | [a],_,h3=>simp at h3; rw [h3]
 exact ⟨p,d2,_,d5,F,e2,hang,turn,W5,T5,q1,q2,k5,⟨_,gF p hpF _ op,hlp,rfl⟩,hp4,hnew,fr5,len5⟩
end Pr
end Go.Ev

namespace Go.Ev
namespace Pr
set_option linter.unusedVariables false
set_option linter.unusedSimpArgs false
theorem TA.node {d:aB} {i:Int} {t:Tree} {F:List Int} (h:TA d i t F) {z:ah} (hz:nd d i=some z):t.Tag=z.tag:=by
 cases h with
 | mk h hl k=>rw [h] at hz; cases hz; rfl
theorem G5 {d:aB} (hW:WF d) (n:Nat) {i:Int} (h:kI d i=false):iN n d i=some []:=by
 rw [uu hW n i]
 unfold kI at h
 cases hq:nd d i with
 | none=>rfl
 | some z=>rw [hq] at h; simp only at h; simp [h]
def bT:Tree:=Tree.mk [98] [] [] [] [Tree.mk [] [] [120] [] []]
structure Last (d:aB) (p:Int):Prop where
 wf:WF d
 par:jD 10000 d p=some 0
 loose:j3 10000 d=some [2,3,p]
 slot:bN 10000 d 3=some 0
 len:d.l.length ≤ 100
theorem Jt {d5:aB} {p:Int} {t:Tree} {F:List Int} (S:KH d5 p t F) (hn:jZ t ≤ 13):∃ d6,eO 10000 d5 bT=some (3,d6)∧Last d6 p:=by
 have hb:jZ bT=2:=rfl
 have l5:=S.len
 obtain ⟨b,d6,G,e6,P⟩:=BS 10000 bT d5 S.wf (by simp [bT,Rt,LH]) (by omega) (by omega)
 have hb3:b=3:=by
  have:=Lv (n:=9999) (t:=bT) S.wf (by omega) (by simp [bT,Tree.Tag]) e6
  simp only at this
  rw [this,nextId,S.freed]; rfl
 subst hb3
 have n1:nd d6 1=some nz:=P.old 1 _ S.root rfl
 have n2:=P.old 2 _ S.two rfl
 obtain ⟨zp,hzp,hlp,hpp⟩:=S.top
 have np:=P.old p _ hzp hlp
 obtain ⟨z3,hz3,hl3,hp3⟩:=P.top
 have T6:TA d6 p t F:=S.ta.CL (fun j hj=>by
  obtain ⟨z,hz,hl,_⟩:=S.ta.live j hj
  rw [P.old j z hz hl,hz])
 have fF:=S.ta.len
 have fG:=P.ta.len
 have len6:=P.len
 have c6:=P.cnt
 have c5:cnt d5=2 + jZ t:=by unfold cnt; rw [S.freed,l5]; simp; omega
 obtain ⟨lp,pathp⟩:=P.wf.path p (by rw [dZ np,hlp])
 obtain ⟨l3,xk⟩:=P.wf.path 3 (by rw [dZ hz3,hl3])
 have FN:=T6.nodup P.wf pathp
 have GN:=P.ta.nodup P.wf xk
 have liveF:∀ j ∈ F,kI d5 j=true:=fun j hj=>by
  obtain ⟨z,hz,hl,_⟩:=S.ta.live j hj
  rw [dZ hz,hl]
 have disj:∀ j ∈ F,j ∉ G:=fun j hj hg=>by have:=P.new j hg; rw [liveF j hj] at this; cases this
 have g1:(1:Int) ∉ G:=fun hg=>by have:=P.new 1 hg; rw [dZ S.root] at this; cases this
 have g2:(2:Int) ∉ G:=fun hg=>by have:=P.new 2 hg; rw [dZ S.two] at this; cases this
 obtain ⟨G',hG'⟩:=P.ta.head
 have h3G:(3:Int) ∈ G:=by rw [hG']; exact List.mem_cons_self
 obtain ⟨F',hF'⟩:=S.ta.head
 have hpF:p ∈ F:=by rw [hF']; exact List.mem_cons_self
 have all:=GV P.wf (G:=1 :: 2 :: (F ++ G)) (by
  refine List.nodup_cons.2 ⟨fun h=>?_,List.nodup_cons.2 ⟨fun h=>?_,List.nodup_append.2 ⟨FN,GN,fun a ha b hb q=>disj a ha (q ▸ hb)⟩⟩⟩
  ·
   rcases List.mem_cons.1 h with q | q
   ·
    cases q
   ·
    rcases List.mem_append.1 q with q | q
    ·
     have:=S.new 1 q; omega
    ·
     exact g1 q
  ·
   rcases List.mem_append.1 h with q | q
   ·
    have:=S.new 2 q; omega
   ·
    exact g2 q) (fun j hj=>by
  rcases List.mem_cons.1 hj with rfl | hj
  ·
   rw [dZ n1]; rfl
  ·
   rcases List.mem_cons.1 hj with rfl | hj
   ·
    rw [dZ n2]
   ·
    rcases List.mem_append.1 hj with hj | hj
    ·
     obtain ⟨z,hz,hl,_⟩:=T6.live j hj
     rw [dZ hz,hl]
    ·
     obtain ⟨z,hz,hl,_⟩:=P.ta.live j hj
     rw [dZ hz,hl]) (by simp only [List.length_cons,List.length_append]; omega)
 have hbig:=S.big
 have hl:uR d6=[2,3,p]:=by
  refine AA (Ai d6) (by simp; omega) fun j=>?_
  rw [EH]
  constructor
  ·
   rintro ⟨y,y1,y2,y3,y4⟩
   rcases List.mem_cons.1 (all j (by rw [dZ y1,y2])) with q | q
   ·
    exact absurd q y4
   ·
    rcases List.mem_cons.1 q with q | q
    ·
     simp [q]
    ·
     rcases List.mem_append.1 q with q | q
     ·
      by_cases e:j=p
      ·
       simp [e]
      ·
       obtain ⟨y',y1',_,y5,y6⟩:=T6.sub P.wf pathp j q e
       rw [y1] at y1'; cases y1'
       exact absurd y3 y6
     ·
      by_cases e:j=3
      ·
       simp [e]
      ·
       obtain ⟨y',y1',_,y5,y6⟩:=P.ta.sub P.wf xk j q e
       rw [y1] at y1'; cases y1'
       exact absurd y3 y6
  ·
   intro h
   simp only [List.mem_cons,List.not_mem_nil,or_false] at h
   rcases h with rfl | rfl | rfl
   ·
    exact ⟨_,n2,rfl,rfl,by decide⟩
   ·
    exact ⟨_,hz3,hl3,hp3,by decide⟩
   ·
    exact ⟨_,np,hlp,hpp,by omega⟩
 have hslot:bN 10000 d6 3=some 0:=by
  have hta:=P.ta
  obtain ⟨Gk,hk⟩:=hta.KU hz3
  have htag:z3.tag=[98]:=(hta.node hz3).symm
  simp only [bT,Tree.Kids] at hk
  match hks:z3.kids,hk with
  | [c],.cons hc _ =>
   obtain ⟨zc,hzc,hlc,hc1⟩:∃ zc,nd d6 c=some zc∧zc.lives=true∧zc.tag=[]∧zc.kids=[]:=by
    obtain ⟨Q,hQ⟩:=hc.head
    obtain ⟨zc,hzc,hlc,_⟩:=hc.live c (by rw [hQ]; exact List.mem_cons_self)
    exact ⟨zc,hzc,hlc,(hc.node hzc).symm,List.length_eq_zero_iff.1 (hc.kl hzc).2⟩
   have hcne:c ≠ 1:=fun q=>by
    obtain ⟨y,y1,_,y3⟩:=P.wf.kid 3 z3 c hz3 hl3 (by rw [hks]; exact List.mem_cons_self)
    rw [q,n1] at y1; cases y1
    cases y3
   rw [zl P.wf (by omega) hz3 hl3 (by rw [htag]; decide) (by decide) hks (fun m hm=>AZ P.wf hm hzc hlc (by rw [hc1.1]; decide) hcne hc1.2)]
   rfl
 refine ⟨d6,e6,P.wf,?_,?_,hslot,by omega⟩
 ·
  rw [G8 P.wf,np]; simp only [hlp,if_true,hpp]
 ·
  rw [Jl P.wf (by omega),hl]
theorem Js (a1:fA) (a2:Int):iD 10000 a1 a2=some true:=by
 obtain ⟨x,hx,gx,cx,_,tx,kx⟩:=W.Ke a1 10000 (by omega)
 have nx:=FW x
 have sx:=W.IZ 13 x cx gx
 obtain ⟨p,d2,d3,d5,F,e2,e3,e5,S⟩:=I8 x (KN x gx) (by omega)
 obtain ⟨d6,e6,L⟩:=Jt S (by omega)
 obtain ⟨r,hr,r0,r9⟩:=mP 10000 a2 0 99 (by omega) (by omega) (by omega)
 have hfar:kI d6 (500 + r)=false:=by
  unfold kI
  cases hq:nd d6 (500 + r) with
  | none=>rfl
  | some z=>have:=bZ hq; have:=L.len; omega
 have h0:kI d6 0=false:=by
  unfold kI
  cases hq:nd d6 0 with
  | none=>rfl
  | some z=>have:=bZ hq; omega
 have sfar:=F3 L.wf (n:=10000) (by omega) hfar
 have hungfar:jv 10000 d6 (500 + r)=some 0:=by
  unfold jv
  rw [sfar,Option.bind_some,G5 L.wf _ h0,Option.bind_some,if_pos (by simp)]
 have turnfar:il 10000 d6 (500 + r) (Tree.mk [98] [] [] [] [])=some (false,d6):=by
  obtain ⟨b,eb,hb⟩:=wN L.wf (n:=10000) (by omega) 0
  have hbf:b=false:=by
   cases b with
   | false=>rfl
   | true=>obtain ⟨z,hz,hl,_⟩:=hb.1 rfl; rw [dZ hz,hl] at h0; cases h0
  subst hbf
  have et:eZ 10000 d6 (500 + r) (Tree.mk [98] [] [] [] [])=some (false,d6):=by
   show eZ (9999 + 1) d6 (500 + r) (Tree.mk [98] [] [] [] [])=some (false,d6)
   rw [eZ,FT L.wf 9999 hfar,Option.bind_some,if_pos (by simp)]
  unfold il
  rw [sfar,Option.bind_some,hungfar,Option.bind_some,eb,Option.bind_some]
  simp only [Bool.false_eq_true,if_false]
  rw [et,Option.bind_some,if_pos (by simp),wL L.wf (by omega),if_neg (by unfold mF; rw [h0]; simp)]
  rfl
 have hang:gU 10000 d6 3 p=some (false,d6):=by
  unfold gU
  rw [L.slot,Option.bind_some,if_neg (by decide)]
 have tb:W.qI (Tree.mk [98] [] [] [] []) (Tree.mk [98] [] [] [] [])=true:=W.wI _
 unfold iD
 rw [KT,Option.bind_some,Jp,CE,Option.bind_some,hx,Option.bind_some]
 simp only []
 rw [e2,Option.bind_some]
 simp only []
 rw [e3,Option.bind_some,if_neg (by simp)]
 simp only []
 rw [show Tree.mk [109,97,105,110] [] [] [] []=Tree.mk MAIN [] [] [] [] from rfl,e5,Option.bind_some,if_neg (by simp)]
 simp only []
 rw [ym S.wf S.ta (by omega),Option.bind_some,show Tree.mk [98] [] [] [] [Tree.mk [] [] [120] [] []]=bT from rfl,e6,Option.bind_some,hr,Option.bind_some,if_pos rfl,Option.bind_some]
 simp only []
 rw [W.ze 26 x x (by omega) (by omega) 10000 (by omega),Option.bind_some,W.wI,if_pos rfl,L.par,Option.bind_some,if_pos (by decide),L.loose,Option.bind_some,J6 10000 _ _ (by simp) (by simp),Option.bind_some,if_pos (by simp),L.slot,Option.bind_some,if_pos (by decide),hang,Option.bind_some,if_pos (by simp)]
 simp only []
 rw [mE (by omega) (by omega),sfar,Option.bind_some,if_pos (by decide),hungfar,Option.bind_some,if_pos (by decide),turnfar,Option.bind_some,if_pos (by simp),EO,Option.bind_some,W.ze 26 _ _ (by simp [W.nI,W.nI.lsz]) (by omega) 10000 (by omega),Option.bind_some,tb,if_pos rfl,Ad]
 rfl
end Pr
end Go.Ev

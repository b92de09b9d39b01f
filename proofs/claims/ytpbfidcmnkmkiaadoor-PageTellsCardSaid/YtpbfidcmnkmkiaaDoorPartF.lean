import Derived.Test.YtpbfidcmnkmkiaaDoorPartE
import Derived.Shelf.Strconv.Itoa3
import Derived.Lib.AppendIntMem
namespace Go.Ev
namespace Pr
set_option linter.unusedVariables false
set_option linter.unusedSimpArgs false
set_option linter.unusedSectionVars false
section
variable {κ ν:Type} [BEq κ] [LawfulBEq κ]
theorem qb (k:κ):∀ (m:List (κ × ν)) (i:Nat),(lX k m i).map (·.2)=(lX k m 0).map (·.2)
 | [],i=>rfl
 | (a,b) :: l,i=>by
  simp only [lX]
  split
  ·
   rfl
  ·
   rw [qb k l (i + 1),qb k l 1]
theorem nV (a:κ) (b:ν) (l:List (κ × ν)) (k:κ):BL ((a,b) :: l) k=if (k == a)=true then some b else BL l k:=by
 unfold BL
 simp only [lX]
 split
 ·
  rfl
 ·
  exact qb k l 1
theorem yc (k:κ):∀ (m:List (κ × ν)) (i:Nat),lX k m (i + 1)=(lX k m i).map fun r=>(r.1 + 1,r.2)
 | [],i=>rfl
 | (c,e) :: m,i=>by
  simp only [lX]
  cases (k == c) with
  | true=>rfl
  | false=>exact yc k m (i + 1)
theorem Eo (a:κ) (b:ν) (l:List (κ × ν)) (k:κ) (v:ν):wM ((a,b) :: l) k v=if (k == a)=true then (k,v) :: l else (a,b) :: wM l k v:=by
 unfold wM
 simp only [lX,yc]
 cases h:(k == a) with
 | true=>have:=eq_of_beq h; subst this; simp
 | false=>cases lX k l 0 <;> simp
theorem yh:∀ (m:List (κ × ν)) (k k':κ) (v:ν),BL (wM m k v) k'=if (k' == k)=true then some v else BL m k'
 | [],k,k',v=>by
  have:wM ([]:List (κ × ν)) k v=[(k,v)]:=rfl
  rw [this,nV]
 | (a,b) :: l,k,k',v=>by
  rw [Eo]
  by_cases h:(k == a)=true
  ·
   rw [if_pos h,nV,nV]
   have:=eq_of_beq h
   subst this
   by_cases h2:(k' == k)=true
   ·
    rw [if_pos h2,if_pos h2]
   ·
    rw [if_neg h2,if_neg h2,if_neg h2]
  ·
   rw [if_neg h,nV,yh l k k' v,nV]
   by_cases h2:(k' == a)=true
   ·
    rw [if_pos h2,if_pos h2]
    have:=eq_of_beq h2
    subst this
    have h3:(k' == k)=false:=by
     cases hq:k' == k with
     | false=>rfl
     | true=>have:=eq_of_beq hq; subst this; simp at h
    rw [h3]; rfl
   ·
    rw [if_neg h2,if_neg h2]
theorem BX (m:List (κ × ν)) (k k':κ) (v z:ν):r9 (wM m k v) k' z=if (k' == k)=true then v else r9 m k' z:=by
 unfold r9
 rw [yh]
 split <;> rfl
end
end Pr
end Go.Ev

namespace Go.Ev
namespace Pr
set_option linter.unusedVariables false
set_option linter.unusedSimpArgs false
def lets:Str:=[97,98,99,100,101,102,103,104,105,106,107,108,109,110,111,112,113,114,115,116,117,118,119,120,121,122,48,49,50,51,52,53,54,55,56,57]
def xB (c:UInt8):Bool:=!(((decide ((c.toNat:Int) < 97)) || (decide (122 < (c.toNat:Int)))) && ((decide ((c.toNat:Int) < 48)) || (decide (57 < (c.toNat:Int)))))
theorem CV (c:UInt8):xB c=lets.contains c:=by
 have key:∀ m ∈ List.range 256,xB (UInt8.ofNat m)=lets.contains (UInt8.ofNat m):=by decide +kernel
 have:=key c.toNat (List.mem_range.2 c.toNat_lt)
 simpa using this
theorem DJ {l:List UInt8} {p:UInt8→Bool}:l.dropWhile p=[]↔∀ c ∈ l,p c=true:=by
 induction l with
 | nil=>simp
 | cons a l ih =>
  rw [List.dropWhile_cons]
  cases ha:p a with
  | true=>simp [ih,ha]
  | false=>simp [ha]
theorem E5 (s:Str):(Lib.trimS s lets == [])=s.all xB:=by
 have e:(Lib.trimS s lets=[])↔∀ c ∈ s,xB c=true:=by
  unfold Lib.trimS Lib.trimLeftS Lib.trimRightS
  rw [DJ]
  constructor
  ·
   intro h c hc
   rw [CV]
   by_cases q:lets.contains c=true
   ·
    exact q
   ·
    have key:∀ r:List UInt8,c ∈ r→c ∈ r.dropWhile fun b=>lets.contains b:=by
     intro r
     induction r with
     | nil=>intro hcr; cases hcr
     | cons a l ih =>
      intro hcr
      rw [List.dropWhile_cons]
      split
      ·
       rename_i ha
       rcases List.mem_cons.1 hcr with rfl | hcr
       ·
        exact absurd ha q
       ·
        exact ih hcr
      ·
       exact hcr
    have:=key s.reverse (by simpa using hc)
    exact h c (by simpa using this)
  ·
   intro h c hc
   have hc:c ∈ (s.reverse.dropWhile fun b=>lets.contains b):=by simpa using hc
   have:=(List.dropWhile_sublist _).subset hc
   rw [← CV]; exact h c (by simpa using this)
 cases hs:s.all xB with
 | true=>rw [List.all_eq_true] at hs; rw [beq_iff_eq]; exact e.2 hs
 | false =>
  rw [beq_eq_false_iff_ne]
  intro q
  have:=e.1 q
  rw [← List.all_eq_true,hs] at this; cases this
theorem Gy {n:Nat} (s:Str) (h:s.length < n) (hl:s.length < 1000000):iw n s=some (s.all xB && (decide (1 ≤ ((s).length:Int)) && decide (((s).length:Int) ≤ 16))):=by
 have key:∀ (rest done:Str) (k:Nat),s=done ++ rest→rest.length < k→dF s k (done.length:Int)=some (rest.all xB && (decide (1 ≤ ((s).length:Int)) && decide (((s).length:Int) ≤ 16))):=by
  intro rest
  induction rest with
  | nil =>
   intro done k e hk
   cases k with
   | zero=>omega
   | succ k=>rw [dF,if_neg (by rw [decide_eq_true_eq,e]; simp)]; simp
  | cons c rest ih =>
   intro done k e hk
   cases k with
   | zero=>omega
   | succ k =>
    have hlen:s.length=done.length + rest.length + 1:=by rw [e]; simp; omega
    have hw:IntKind.wrap .i64 ((done.length:Int) + 1)=(((done ++ [c]).length:Nat):Int):=by rw [kJ (by omega) (by omega)]; simp
    have hi:idx (s:Str) (done.length:Int)=some c:=fH e
    rw [dF,if_pos (by rw [decide_eq_true_eq]; omega),hi,Option.bind_some,hw]
    have:=ih (done ++ [c]) k (by rw [e]; simp) (by simp at hk; omega)
    rw [List.all_cons]
    have hb:xB c = !(((decide ((c.toNat:Int) < 97)) || (decide (122 < (c.toNat:Int)))) && ((decide ((c.toNat:Int) < 48)) || (decide (57 < (c.toNat:Int))))):=rfl
    rw [hb]
    simp only [hi,Option.bind_some,this]
    generalize decide ((c.toNat:Int) < 97)=d1
    generalize decide (122 < (c.toNat:Int))=d2
    generalize decide ((c.toNat:Int) < 48)=d3
    generalize decide (57 < (c.toNat:Int))=d4
    cases d1 <;> cases d2 <;> cases d3 <;> cases d4 <;> simp
 exact key s [] n rfl h
mutual
def Fs:Tree→Nat
 | .mk g _ _ _ ks=>max g.length (wW ks)
def wW:List Tree→Nat
 | []=>0
 | t :: l=>max (Fs t) (wW l)
end
theorem FL (t:Tree):Fs t=max t.Tag.length (wW t.Kids):=by cases t; rw [Fs]; rfl
theorem Du:∀ {l:List Tree} {z:Tree},z ∈ l→Fs z ≤ wW l
 | x :: l,z,h=>by
  rcases List.mem_cons.1 h with rfl | h
  ·
   simp only [wW]; omega
  ·
   have:=Du h; simp only [wW]; omega
theorem Dh (a b:List Tree):wW (a ++ b)=max (wW a) (wW b):=by
 induction a with
 | nil=>simp [wW]
 | cons x a ih=>simp only [List.cons_append,wW,ih]; omega
theorem Es (i:Nat) (l:List Tree):wW (l.map (keyed i))=wW l:=by
 induction l with
 | nil=>rfl
 | cons x l ih =>
  have:Fs (keyed i x)=Fs x:=by unfold keyed; cases x; split <;> simp [Fs,Tree.Tag,Tree.Kids]
  simp only [List.map_cons,wW,ih,this]
def Mx (o:Option (List Tree × Nat)):Prop:=∀ l s',o=some (l,s')→wW l ≤ 16
theorem Da (st:List Int) (ps:List dQ):∀ (l:List aT) (s:Nat),(∀ z ∈ l,∀ s:Nat,Mx (rowP st ps z s))→Mx (dL st ps l s)
 | [],s,_,a,s',h=>by simp only [dL,Option.some.injEq,Prod.mk.injEq] at h; obtain ⟨rfl,rfl⟩:=h; simp [wW]
 | t :: l,s,hz,a,s',h=>by
  rw [dL] at h
  split at h
  ·
   cases h
  ·
   rename_i b s1 h1
   have g1:=hz t List.mem_cons_self s b s1 h1
   split at h
   ·
    cases h
   ·
    rename_i c s2 h2
    have g3:=Da st ps l s1 (fun z hm=>hz z (List.mem_cons_of_mem _ hm)) c s2 h2
    simp only [Option.some.injEq,Prod.mk.injEq] at h
    obtain ⟨rfl,rfl⟩:=h
    rw [Dh]; omega
theorem Dk (k:Nat→Option (List Tree × Nat)) (hk:∀ s:Nat,Mx (k s)):∀ (m i s:Nat),Mx (iN k m i s)
 | 0,i,s,l,s',h=>by simp only [iN,Option.some.injEq,Prod.mk.injEq] at h; obtain ⟨rfl,rfl⟩:=h; simp [wW]
 | m + 1,i,s,l,s',h=>by
  rw [iN] at h
  split at h
  ·
   cases h
  ·
   rename_i a s1 h1
   have g1:=hk s a s1 h1
   split at h
   ·
    cases h
   ·
    rename_i b s2 h2
    have g3:=Dk k hk m (i + 1) s1 b s2 h2
    simp only [Option.some.injEq,Prod.mk.injEq] at h
    obtain ⟨rfl,rfl⟩:=h
    rw [Dh,Es]; omega
theorem ER (st:List Int) (ps:List dQ):∀ (m:Nat) (t:aT),S.gW t ≤ m→S.pg 7 t→∀ s:Nat,Mx (rowP st ps t s)
 | 0,t,hm,_,s=>by have:=S.dH t; omega
 | m + 1,t,hm,hg,s=>by
  have hgi:=(S.wO t).1 hg
  have hz:∀ z ∈ t.Kids,∀ s:Nat,Mx (rowP st ps z s):=fun z hzm s=>ER st ps m z (by have:=S.iB hzm; omega) (hgi.2.2.2.2.2 z hzm) s
  have hk:∀ s:Nat,Mx (dL st ps t.Kids s):=fun s=>Da st ps t.Kids s hz
  have htag:=hgi.2.2.1.2
  intro l s' h
  have one:∀ x:Str,some ([Tree.mk [] [] x [] []],s + 1)=some (l,s')→wW l ≤ 16:=fun x h=>by
   simp only [Option.some.injEq,Prod.mk.injEq] at h; obtain ⟨rfl,rfl⟩:=h; simp [wW,Fs]
  rw [sN] at h
  split at h
  ·
   split at h
   ·
    split at h
    ·
     cases h
    ·
     rename_i a s1 h1
     have:=hk _ a s1 h1
     simp only [Option.some.injEq,Prod.mk.injEq] at h
     obtain ⟨rfl,rfl⟩:=h
     simp only [wW,Fs]; omega
   ·
    split at h
    ·
     exact one _ h
    ·
     split at h
     ·
      split at h
      ·
       cases h
      ·
       exact one _ h
     ·
      split at h
      ·
       split at h
       ·
        cases h
       ·
        exact one _ h
      ·
       split at h
       ·
        split at h
        ·
         cases h
        ·
         split at h
         ·
          simp only [Option.some.injEq,Prod.mk.injEq] at h; obtain ⟨rfl,rfl⟩:=h; simp [wW]
         ·
          exact hk _ l s' h
       ·
        split at h
        ·
         split at h
         ·
          cases h
         ·
          split at h
          ·
           exact Dk _ hk _ 0 _ l s' h
          ·
           cases h
        ·
         split at h
         ·
          simp only [Option.some.injEq,Prod.mk.injEq] at h; obtain ⟨rfl,rfl⟩:=h; simp [wW,Fs,Gw]
         ·
          cases h
  ·
   cases h
end Pr
end Go.Ev

namespace Go.Ev
namespace Pr
set_option linter.unusedVariables false
set_option linter.unusedSimpArgs false
theorem CP (p:Attr→Option Bool) (q:Attr→Bool) (hp:∀ t,p t=some (q t)) (l:List Attr) (hl:l.length < 1000000):∀ (rest done:List Attr) (f:Nat),l=done ++ rest→rest.length < f→∃ r,aL l p f (done.length:Int)=some r∧decide (0 ≤ r)=rest.any q
 | [],done,f + 1,h,hf=>by
  rw [aL,if_neg (by rw [decide_eq_true_eq,h]; simp)]
  exact ⟨_,rfl,rfl⟩
 | x :: rest,done,f + 1,h,hf=>by
  have hlen:l.length=done.length + rest.length + 1:=by rw [h]; simp; omega
  have hw:IntKind.wrap .i64 ((done.length:Int) + 1)=(((done ++ [x]).length:Nat):Int):=by rw [kJ (by omega) (by omega)]; simp
  rw [aL,if_pos (by rw [decide_eq_true_eq]; omega),fH h,Option.bind_some,hp,Option.bind_some,List.any_cons]
  cases hq:q x with
  | true=>rw [if_pos rfl]; exact ⟨_,rfl,by simp⟩
  | false =>
   rw [if_neg (by simp),hw]
   obtain ⟨r,r1,r2⟩:=CP p q hp l hl rest (done ++ [x]) f (by rw [h]; simp) (by simp at hf; omega)
   exact ⟨r,r1,by simpa using r2⟩
theorem zJ {n:Nat} (p:Attr→Option Bool) (q:Attr→Bool) (hp:∀ t,p t=some (q t)) (l:List Attr) (hl:l.length < 1000000) (hn:l.length < n):bg n l p=some (l.any q):=by
 obtain ⟨r,r1,r2⟩:=CP p q hp l hl l [] n rfl hn
 unfold bg dm
 rw [show ([]:List Attr).length=0 from rfl,show ((0:Nat):Int)=0 from rfl] at r1
 rw [r1,Option.bind_some,r2]
theorem Bu (n:Nat) (self:Tree→Option (Int × Int × Bool)) (t:Tree) (hl:t.aH.length < 1000000) (hn:t.aH.length < n):∀ (rest done:List Attr) (k1 k2:Nat) (map:List (Str × Bool)),t.aH=done ++ rest→rest.length < k1→rest.length < k2→(∀ s,r9 map s false=done.any fun a=>a.Name == s) →
  ∃ b,bZ n t k1 (done.length:Int)=some b∧bP n self t k2 map (done.length:Int)=if b=true then bE self t n 1 1 0 else some (0,0,false)
 | [],done,k1 + 1,k2 + 1,map,h,h1,h2,hm=>by
  rw [bZ,bP,if_neg (by rw [decide_eq_true_eq,h]; simp),if_neg (by rw [decide_eq_true_eq,h]; simp)]
  exact ⟨true,rfl,rfl⟩
 | x :: rest,done,k1 + 1,k2 + 1,map,h,h1,h2,hm=>by
  have hlen:t.aH.length=done.length + rest.length + 1:=by rw [h]; simp; omega
  have hw:IntKind.wrap .i64 ((done.length:Int) + 1)=(((done ++ [x]).length:Nat):Int):=by rw [kJ (by omega) (by omega)]; simp
  have hc:cut t.aH 0 (done.length:Int)=some done:=by unfold cut; rw [if_pos ⟨by omega,by omega,by omega⟩,h]; simp
  have hany:bg n done (fun y31=>gI n y31 x)=some (done.any fun a=>a.Name == x.Name):=zJ _ (fun a=>a.Name == x.Name) (fun _=>rfl) done (by omega) (by omega)
  rw [bZ,bP,if_pos (by rw [decide_eq_true_eq]; omega),if_pos (by rw [decide_eq_true_eq]; omega),fH h,Option.bind_some,Option.bind_some,hc,hw,hm x.Name]
  have e0:decide (((x.Name).length:Int) < 1)=(x.Name == []):=by
   cases hx:x.Name with
   | nil=>rfl
   | cons a l=>simp; omega
  rw [e0]
  cases hb:(((x.Name == []) || (decide (64 < ((x.Name).length:Int)))) || (decide (64 < ((x.Value).length:Int)))) with
  | true =>
   rw [if_pos rfl,Option.bind_some,if_pos rfl,if_pos (by simp)]
   exact ⟨false,rfl,rfl⟩
  | false =>
   rw [if_neg (by simp),Option.bind_some,hany,Option.bind_some,Option.bind_some]
   cases hd:(done.any fun a=>a.Name == x.Name) with
   | true =>
    rw [if_pos rfl,if_pos (by simp)]
    exact ⟨false,rfl,rfl⟩
   | false =>
    rw [if_neg (by simp),if_neg (by simp)]
    refine Bu n self t hl hn rest (done ++ [x]) k1 k2 _ (by rw [h]; simp) (by simp at h1; omega) (by simp at h2; omega) (fun s=>?_)
    rw [BX,hm s]
    simp only [List.any_append,List.any_cons,List.any_nil,Bool.or_false]
    by_cases q:s=x.Name
    ·
     subst q; simp
    ·
     have q1:(s == x.Name)=false:=by rw [beq_eq_false_iff_ne]; exact q
     have q2:(x.Name == s)=false:=by rw [beq_eq_false_iff_ne]; exact fun h=>q h.symm
     rw [q1,q2]; simp
theorem Ak (f:Tree→Option Bool) (g:Tree→Option (Int × Int × Bool)) (t:Tree) (hl:T.kF t.Kids < 1000000) (hs:∀ z ∈ t.Kids,∃ b y,f z=some b∧g z=some y∧y.2.2=b∧(b=true→y.1=T.jP z∧y.2.1=T.mJ z)):∀ (rest done:List Tree) (k1 k2 c d:Nat),t.Kids=done ++ rest→rest.length < k1→rest.length < k2→c + T.kF rest < 2000000→d ≤ 1000000 →
  ∃ b y,dM f t k1 (done.length:Int)=some b∧bE g t k2 (c:Int) (d:Int) (done.length:Int)=some y∧y.2.2=b∧(b=true→y.1=((c + T.kF rest:Nat):Int)∧y.2.1=((max d (if rest=[] then 0 else T.oZ rest + 1):Nat):Int))
 | [],done,k1 + 1,k2 + 1,c,d,h,h1,h2,hc,hd=>by
  rw [dM,bE,if_neg (by rw [decide_eq_true_eq,h]; simp),if_neg (by rw [decide_eq_true_eq,h]; simp)]
  exact ⟨_,_,rfl,rfl,rfl,fun _=>⟨by simp [T.kF],by simp⟩⟩
 | x :: rest,done,k1 + 1,k2 + 1,c,d,h,h1,h2,hc,hd=>by
  have hlc:=T.nW t.Kids
  have hlen:t.Kids.length=done.length + rest.length + 1:=by rw [h]; simp; omega
  have hw:IntKind.wrap .i64 ((done.length:Int) + 1)=(((done ++ [x]).length:Nat):Int):=by rw [kJ (by omega) (by omega)]; simp
  have hx:x ∈ t.Kids:=by rw [h]; simp
  obtain ⟨b,y,z1,z2,z3,z4⟩:=hs x hx
  rw [dM,bE,if_pos (by rw [decide_eq_true_eq]; omega),if_pos (by rw [decide_eq_true_eq]; omega),fH h,Option.bind_some,Option.bind_some,z1,z2,Option.bind_some,Option.bind_some,z3,hw]
  cases b with
  | false=>rw [if_pos (by rfl),if_pos (by rfl)]; exact ⟨false,_,rfl,rfl,rfl,fun q=>by cases q⟩
  | true =>
   obtain ⟨y1,y2⟩:=z4 rfl
   rw [if_neg (by simp),if_neg (by simp),y1,y2]
   simp only [T.kF] at hc
   have hdx:T.mJ x ≤ T.jP x:=by have:=(T.rW [x]).1; simpa [T.oZ,T.kF] using this
   have hcx:T.jP x ≤ T.kF t.Kids:=T.wI hx
   have e1:IntKind.wrap .i64 ((c:Int) + (T.jP x:Int))=((c + T.jP x:Nat):Int):=by rw [kJ (by omega) (by omega)]; push_cast; rfl
   have e2:IntKind.wrap .i64 ((T.mJ x:Int) + 1)=((T.mJ x + 1:Nat):Int):=by rw [kJ (by omega) (by omega)]; push_cast; rfl
   have e3:lQ (d:Int) ((T.mJ x + 1:Nat):Int)=((max d (T.mJ x + 1):Nat):Int):=by unfold lQ; split <;> omega
   rw [e1,e2,e3]
   obtain ⟨b,y,r1,r2,r3,r4⟩:=Ak f g t hl hs rest (done ++ [x]) k1 k2 (c + T.jP x) (max d (T.mJ x + 1)) (by rw [h]; simp) (by simp at h1; omega) (by simp at h2; omega) (by omega) (by omega)
   refine ⟨b,y,r1,r2,r3,fun q=>?_⟩
   obtain ⟨q1,q2⟩:=r4 q
   have hl1:T.kF (x :: rest)=T.jP x + T.kF rest:=by rw [T.kF]
   have hl2:T.oZ (x :: rest)=max (T.mJ x) (T.oZ rest):=by rw [T.oZ]
   refine ⟨by rw [q1,hl1]; omega,?_⟩
   rw [q2,hl2,if_neg (List.cons_ne_nil x rest)]
   by_cases hr:rest=[]
   ·
    rw [if_pos hr]
    have:T.oZ rest=0:=by rw [hr]; rw [T.oZ]
    omega
   ·
    rw [if_neg hr]; omega
theorem xM:∀ (m:Nat) (t:Tree),T.iP t ≤ m→m < 900000→Fs t ≤ 16→∀ n,m + 100 < n→∃ b z,fC n t=some b∧bz n t=some z∧z.2.2=b∧(b=true→z.1=T.jP t∧z.2.1=T.mJ t)
 | 0,t,hm,_,_,n,_=>by have:=T.jF t; omega
 | m + 1,t,hm,hm2,hx,n + 1,hn=>by
  have h1:=T.jF t
  have h2:=T.vI t.Kids
  have hk:=FL t
  have hcnt:=T.jS t
  have hdep:=T.yx t
  have hcs:=zy (m + 1) t hm
  rw [fC,bz]
  by_cases c:t.Tag=[]
  ·
   rw [if_pos (by simpa using c),if_pos (by simpa using c)]
   by_cases k1:t.Key=[]
   ·
    rw [if_pos (by simpa using k1)]
    by_cases k2:t.aH=[]
    ·
     rw [if_pos (by simp [k2])]
     by_cases k3:t.Kids=[]
     ·
      rw [if_pos (by simp [k3])]
      refine ⟨_,_,rfl,rfl,by simp [k1,k2,k3],fun _=>⟨?_,?_⟩⟩
      ·
       rw [hcnt,k3]; rfl
      ·
       rw [hdep,k3]; rfl
     ·
      rw [if_neg (by simp [k3])]; exact ⟨false,_,by simp [k3],rfl,rfl,fun q=>by cases q⟩
    ·
     rw [if_neg (by simp [k2])]; exact ⟨false,_,by simp [k2],rfl,rfl,fun q=>by cases q⟩
   ·
    rw [if_neg (by simpa using k1)]; exact ⟨false,_,by simp [k1],rfl,rfl,fun q=>by cases q⟩
  ·
   rw [if_neg (by simpa using c),if_neg (by simpa using c)]
   have htl:t.Tag.length ≤ 16:=by omega
   have ht1:1 ≤ t.Tag.length:=by cases hg:t.Tag with
    | nil=>exact absurd hg c
    | cons a l=>simp
   have hw:iw n t.Tag=some (t.Tag.all xB):=by
    rw [Gy t.Tag (by omega) (by omega)]
    congr 1
    simp; omega
   have htrim:iU n t.Tag [97,98,99,100,101,102,103,104,105,106,107,108,109,110,111,112,113,114,115,116,117,118,119,120,121,122,48,49,50,51,52,53,54,55,56,57]=some (Lib.trimS t.Tag lets):=by
    show iU n t.Tag lets=_
    unfold iU
    rw [if_pos ⟨by rw [bnd]; omega,by decide,by decide⟩]
   unfold iY
   rw [if_neg (by simp; omega),htrim,Option.bind_some,Option.bind_some,E5,hw,Option.bind_some]
   cases hbad:((((!(t.Tag.all xB)) || (!(t.Text == []))) || (decide (24 < ((t.Kids).length:Int)))) || (decide (64 < ((t.Key).length:Int)))) with
   | true=>rw [if_pos rfl,if_pos rfl]; exact ⟨false,_,rfl,rfl,rfl,fun q=>by cases q⟩
   | false =>
    rw [if_neg (by simp),if_neg (by simp)]
    obtain ⟨b,b1,b2⟩:=Bu n (bz n) t (by omega) (by omega) t.aH [] n n [] rfl (by omega) (by omega) (fun s=>rfl)
    rw [show ([]:List Attr).length=0 from rfl,show ((0:Nat):Int)=0 from rfl] at b1 b2
    rw [b1,b2,Option.bind_some]
    cases b with
    | false=>rw [if_pos (by rfl),if_neg (by simp)]; exact ⟨false,_,rfl,rfl,rfl,fun q=>by cases q⟩
    | true =>
     rw [if_neg (by simp),if_pos rfl]
     obtain ⟨b,y,r1,r2,r3,r4⟩:=Ak (fC n) (bz n) t (by omega) (fun z hz=>xM m z (by have:=T.rY hz; omega) (by omega) (by have:=Du hz; omega) n (by omega)) t.Kids [] n n 1 1 rfl (by omega) (by omega) (by omega) (by omega)
     rw [show ([]:List Tree).length=0 from rfl,show ((0:Nat):Int)=0 from rfl,show ((1:Nat):Int)=1 from rfl] at r2
     rw [show ([]:List Tree).length=0 from rfl,show ((0:Nat):Int)=0 from rfl] at r1
     refine ⟨b,y,r1,r2,r3,fun q=>?_⟩
     obtain ⟨q1,q2⟩:=r4 q
     refine ⟨by rw [q1,hcnt],?_⟩
     rw [q2,hdep]
     split
     ·
      rename_i hr; rw [hr]; simp [T.oZ]
     ·
      omega
end Pr
end Go.Ev

namespace Go.Ev
namespace Pr
set_option linter.unusedVariables false
set_option linter.unusedSimpArgs false
theorem BN {st:List Int} {ps:List dQ} (hst:FX st) (hps:ps.length ≤ 1000) {t:aT} (hc:S.gW t ≤ 1000) (hg:S.pg 7 t) {n:Nat} (hn:66000 < n):gM n t st ps=some (Ad n (rowP st ps t 0)):=by
 obtain ⟨y,y1,y2⟩:=DC hst hps 1000 t hc (by omega) hg n (by omega) 0 (by omega)
 have hb:=(vG st ps 1000 t hc hg 0).1
 have hmx:=ER st ps 1000 t hc hg 0
 have htold:=nZ st ps 1000 t hc 0 (by omega)
 rw [show ((0:Nat):Int)=0 from rfl] at y1
 unfold gM
 rw [y1,Option.bind_some]
 cases hr:rowP st ps t 0 with
 | none =>
  rw [hr] at y2
  have y2:y.2.1=false:=y2
  rw [y2,if_pos (by simp),Option.bind_some,if_pos rfl]
  rfl
 | some p =>
  obtain ⟨l,s'⟩:=p
  rw [hr] at y2
  have y2:y=(l,true,(s':Int)):=y2
  subst y2
  have hb:=hb l s' hr
  have ht:=htold l s' hr
  have hx:=hmx l s' hr
  simp only [Ad]
  cases l with
  | nil=>rfl
  | cons z r =>
   cases r with
   | cons y r =>
    have e:((((z :: y :: r):List Tree).length:Int) != 1)=true:=by simp; omega
    simp only [e,Bool.or_true,if_true,Option.bind_some]
    rfl
   | nil =>
    have ei:idx [z] 0=some z:=rfl
    rw [if_neg (by simp)]
    simp only [ei,Option.bind_some]
    by_cases htag:z.Tag=[]
    ·
     rw [if_pos (by simpa using htag),if_neg (by simp [htag])]; rfl
    ·
     rw [if_neg (by simpa using htag)]
     simp only [T.iP.lsz] at hb
     simp only [wW] at hx
     obtain ⟨b,y,r1,r2,r3,r4⟩:=xM 65000 z (by omega) (by omega) (by omega) n (by omega)
     have hcs:=zy 65000 z (by omega)
     have hR:iy n z=some (b && (decide ((T.jP z:Int) ≤ 60) && decide ((T.mJ z:Int) ≤ 12))):=by
      unfold iy
      rw [r1,Option.bind_some]
      cases b with
      | false=>rfl
      | true =>
       rw [if_pos rfl,T.oD 65000 z (by omega) (by omega) n (by omega),Option.bind_some,Option.bind_some,T.zH 65000 z (by omega) (by omega) n (by omega)]
       cases decide ((T.jP z:Int) ≤ 60) <;> rfl
     rw [r2,Option.bind_some,r3,hR]
     cases b with
     | false=>rw [if_pos (by simp),if_neg (by simp)]; rfl
     | true =>
      obtain ⟨q1,q2⟩:=r4 rfl
      rw [q1,q2]
      by_cases c1:(T.jP z:Int) ≤ 60
      ·
       by_cases c2:(T.mJ z:Int) ≤ 12
       ·
        rw [if_neg (by simp; omega),if_pos ⟨htag,by simp; omega⟩]
       ·
        rw [if_pos (by simp; omega),if_neg (by simp; omega)]; rfl
      ·
       rw [if_pos (by simp; omega),if_neg (by simp; omega)]; rfl
theorem FK (self:aT→Int→Bool→Option (Int × Int × Bool)) (pself:aT→Int→Bool→Option Bool) (t:aT) (q:Int) (b:Bool) (hl:S.gW t < 1000000) (hs:∀ z ∈ t.Kids,∃ r y,pself z q ((b || (t.Kind == 5)) || (t.Kind == 6))=some r∧self z q ((b || (t.Kind == 5)) || (t.Kind == 6))=some y∧y.2.2=r∧y.1=(S.gW z:Int)∧y.2.1=(S.lJ z:Int)):∀ (rest done:List aT) (k1 k2 c d:Nat) (ok:Bool),t.Kids=done ++ rest→rest.length < k1→rest.length < k2→c + S.iO rest < 2000000→d ≤ 1000000 →
  ∃ r y,fq pself t q b k1 (done.length:Int)=some r∧bN self t q b k2 ok (c:Int) (d:Int) (done.length:Int)=some y∧y.2.2=(ok && r)∧y.1=((c + S.iO rest:Nat):Int)∧y.2.1=((max d (if rest=[] then 0 else S.jZ rest + 1):Nat):Int)
 | [],done,k1 + 1,k2 + 1,c,d,ok,h,h1,h2,hc,hd=>by
  rw [fq,bN,if_neg (by rw [decide_eq_true_eq,h]; simp),if_neg (by rw [decide_eq_true_eq,h]; simp)]
  exact ⟨_,_,rfl,rfl,by simp,by simp [S.iO],by simp⟩
 | x :: rest,done,k1 + 1,k2 + 1,c,d,ok,h,h1,h2,hc,hd=>by
  have hlc:=S.jv t.Kids
  have hpk:=S.dH t
  have hlen:t.Kids.length=done.length + rest.length + 1:=by rw [h]; simp; omega
  have hw:IntKind.wrap .i64 ((done.length:Int) + 1)=(((done ++ [x]).length:Nat):Int):=by rw [kJ (by omega) (by omega)]; simp
  have hx:x ∈ t.Kids:=by rw [h]; simp
  have hcx:=S.iB hx
  have hdx:=S.zt (S.gW x) x (Nat.le_refl _)
  obtain ⟨r,y,z1,z2,z3,z4,z5⟩:=hs x hx
  have hl1:S.iO (x :: rest)=S.gW x + S.iO rest:=by rw [S.iO]
  have hl2:S.jZ (x :: rest)=max (S.lJ x) (S.jZ rest):=by rw [S.jZ]
  rw [fq,bN,if_pos (by rw [decide_eq_true_eq]; omega),if_pos (by rw [decide_eq_true_eq]; omega),fH h,Option.bind_some,Option.bind_some,z1,z2,Option.bind_some,Option.bind_some,z3,z4,z5,hw]
  rw [hl1] at hc
  have e1:IntKind.wrap .i64 ((c:Int) + (S.gW x:Int))=((c + S.gW x:Nat):Int):=by rw [kJ (by omega) (by omega)]; push_cast; rfl
  have e2:IntKind.wrap .i64 ((S.lJ x:Int) + 1)=((S.lJ x + 1:Nat):Int):=by rw [kJ (by omega) (by omega)]; push_cast; rfl
  have e3:lQ (d:Int) ((S.lJ x + 1:Nat):Int)=((max d (S.lJ x + 1):Nat):Int):=by unfold lQ; split <;> omega
  rw [e1,e2,e3]
  obtain ⟨r',y',r1,r2,r3,r4,r5⟩:=FK self pself t q b hl hs rest (done ++ [x]) k1 k2 (c + S.gW x) (max d (S.lJ x + 1)) (ok && r) (by rw [h]; simp) (by simp at h1; omega) (by simp at h2; omega) (by omega) (by omega)
  have tail:y'.1=((c + S.iO (x :: rest):Nat):Int)∧y'.2.1=((max d (if (x :: rest)=[] then 0 else S.jZ (x :: rest) + 1):Nat):Int):=by
   refine ⟨by rw [r4,hl1]; omega,?_⟩
   rw [r5,hl2,if_neg (List.cons_ne_nil x rest)]
   by_cases hr:rest=[]
   ·
    rw [if_pos hr]
    have:S.jZ rest=0:=by rw [hr]; rw [S.jZ]
    omega
   ·
    rw [if_neg hr]; omega
  cases r with
  | false =>
   rw [if_pos (by rfl)]
   exact ⟨false,y',rfl,r2,by rw [r3]; simp,tail⟩
  | true =>
   rw [if_neg (by simp)]
   exact ⟨r',y',r1,r2,by rw [r3]; simp,tail⟩
theorem CZ (q:Int):∀ (m:Nat) (t:aT),S.gW t ≤ m→m < 900000→∀ (b:Bool) (n:Nat),m < n→∃ r y,eQ n t q b=some r∧cB n t q b=some y∧y.2.2=r∧y.1=(S.gW t:Int)∧y.2.1=(S.lJ t:Int)
 | 0,t,hm,_,b,n,_=>by have:=S.dH t; omega
 | m + 1,t,hm,hm2,b,n + 1,hn=>by
  have h1:=S.dH t
  have h2:=S.jv t.Kids
  have h3:=S.uu t
  have fin:∀ ok:Bool,∃ r y,fq (eQ n) t q b n 0=some r∧bN (cB n) t q b n ok 1 1 0=some y∧y.2.2=(ok && r)∧y.1=(S.gW t:Int)∧y.2.1=(S.lJ t:Int):=fun ok=>by
   obtain ⟨r,y,r1,r2,r3,r4,r5⟩:=FK (cB n) (eQ n) t q b (by omega) (fun z hz=>CZ q m z (by have:=S.iB hz; omega) (by omega) _ n (by omega)) t.Kids [] n n 1 1 ok rfl (by omega) (by omega) (by omega) (by omega)
   refine ⟨r,y,r1,r2,r3,by rw [r4,h1],?_⟩
   rw [r5,h3]
   split
   ·
    rename_i hr; rw [hr]; simp [S.jZ]
   ·
    omega
  rw [eQ,cB]
  generalize hI:((((((decide (1 ≤ t.Kind)) && (decide (t.Kind ≤ 7))) && ((!(((t.Kind == 3) || (t.Kind == 5)) || (t.Kind == 6))) || ((decide (0 ≤ t.N)) && (decide (t.N < q))))) && (!((t.Kind == 7) && b))) && (!(t.Tag == [111,117,116,108,101,116]))) && ((((((t.Kids).length:Int) == 0) || (t.Kind == 1)) || (t.Kind == 5)) || (t.Kind == 6)))=I
  obtain ⟨r,y,r1,r2,r3,r4,r5⟩:=fin I
  have key:(if (((decide (t.Kind < 1)) || (decide (7 < t.Kind))) || ((!(((t.Kind == 1) || (t.Kind == 5)) || (t.Kind == 6))) && (decide (0 < ((t.Kids).length:Int)))))=true then (some false) else (if (t.Tag == [111,117,116,108,101,116])=true then (fE n (eQ n) t q b ((t.Tag == [111,117,116,108,101,116]))) else (fE n (eQ n) t q b (((t.Kind == 7) && b)))))=some (I && r):=by
   by_cases a1:(((decide (t.Kind < 1)) || (decide (7 < t.Kind))) || ((!(((t.Kind == 1) || (t.Kind == 5)) || (t.Kind == 6))) && (decide (0 < ((t.Kids).length:Int)))))=true
   ·
    rw [if_pos a1]
    have:I=false:=by
     rw [← hI]
     simp only [Bool.or_eq_true,decide_eq_true_eq,Bool.and_eq_true,Bool.not_eq_true',Bool.or_eq_false_iff,beq_eq_false_iff_ne] at a1
     rcases a1 with (a1 | a1) | ⟨a1,a2⟩
     ·
      have:decide (1 ≤ t.Kind)=false:=by rw [decide_eq_false_iff_not]; omega
      simp [this]
     ·
      have:decide (t.Kind ≤ 7)=false:=by rw [decide_eq_false_iff_not]; omega
      simp [this]
     ·
      have e0:(((t.Kids).length:Int) == 0)=false:=by rw [beq_eq_false_iff_ne]; omega
      have e1:(t.Kind == 1)=false:=by rw [beq_eq_false_iff_ne]; exact a1.1.1
      have e5:(t.Kind == 5)=false:=by rw [beq_eq_false_iff_ne]; exact a1.1.2
      have e6:(t.Kind == 6)=false:=by rw [beq_eq_false_iff_ne]; exact a1.2
      simp [e0,e1,e5,e6]
    rw [this]; rfl
   ·
    rw [if_neg a1]
    have a1':(1 ≤ t.Kind∧t.Kind ≤ 7)∧((((((t.Kids).length:Int) == 0) || (t.Kind == 1)) || (t.Kind == 5)) || (t.Kind == 6))=true:=by
     simp only [Bool.or_eq_true,decide_eq_true_eq,Bool.and_eq_true,Bool.not_eq_true',Bool.or_eq_false_iff,beq_eq_false_iff_ne,beq_iff_eq] at a1 ⊢
     omega
    have d1:decide (1 ≤ t.Kind)=true:=by rw [decide_eq_true_eq]; exact a1'.1.1
    have d2:decide (t.Kind ≤ 7)=true:=by rw [decide_eq_true_eq]; exact a1'.1.2
    have hI2:I=(((!(((t.Kind == 3) || (t.Kind == 5)) || (t.Kind == 6))) || ((decide (0 ≤ t.N)) && (decide (t.N < q)))) && (!((t.Kind == 7) && b)) && (!(t.Tag == [111,117,116,108,101,116]))):=by
     rw [← hI,a1'.2,d1,d2]; simp
    by_cases a2:(t.Tag == [111,117,116,108,101,116])=true
    ·
     rw [if_pos a2,hI2,a2]
     unfold fE
     rw [if_pos rfl]; simp
    ·
     rw [if_neg a2,hI2]
     simp only [Bool.not_eq_true] at a2
     rw [a2]
     unfold fE
     by_cases a3:((t.Kind == 7) && b)=true
     ·
      rw [if_pos a3,a3]; simp
     ·
      rw [if_neg a3]
      simp only [Bool.not_eq_true] at a3
      rw [a3]
      by_cases a4:((((t.Kind == 3) || (t.Kind == 5)) || (t.Kind == 6)) && (!((decide (0 ≤ t.N)) && (decide (t.N < q)))))=true
      ·
       rw [if_pos a4]
       rw [Bool.and_eq_true,Bool.not_eq_true'] at a4
       rw [a4.1,a4.2]; rfl
      ·
       rw [if_neg a4,r1]
       have:((!(((t.Kind == 3) || (t.Kind == 5)) || (t.Kind == 6))) || ((decide (0 ≤ t.N)) && (decide (t.N < q))))=true:=by
        generalize (((t.Kind == 3) || (t.Kind == 5)) || (t.Kind == 6))=u at a4 ⊢
        generalize ((decide (0 ≤ t.N)) && (decide (t.N < q)))=v at a4 ⊢
        cases u <;> cases v <;> simp_all
       rw [this]; simp
  exact ⟨I && r,y,key,r2,r3,r4,r5⟩
theorem Av (t:aT) (q:Int) {n:Nat} (hc:S.gW t ≤ 1000) (hn:1000 < n):∃ b,jQ n t q=some b∧fV n t q=some b:=by
 obtain ⟨r,y,r1,r2,r3,r4,r5⟩:=CZ q 1000 t hc (by omega) false n hn
 unfold jQ fV
 rw [S.oD 1000 t hc (by omega) n (by omega),Option.bind_some,r1,r2]
 simp only [Option.bind_some,r3,r4,r5]
 cases h1:(t.Kind == 1) <;> cases h2:decide ((S.gW t:Int) ≤ 60) <;> cases h3:decide ((S.lJ t:Int) ≤ 12) <;> cases r <;> exact ⟨_,rfl,rfl⟩
end Pr
end Go.Ev

namespace Go.Ev
namespace Pr
set_option linter.unusedVariables false
set_option linter.unusedSimpArgs false
theorem qj (self:aT→Option Int) (t:aT) (hl:t.Kids.length < 1000000):∀ (rest done:List aT) (k acc:Nat),t.Kids=done ++ rest→rest.length < k→(∀ z ∈ rest,self z=some (vB z:Int))→acc + l6 rest < 1000000000 →
  dx self t k (acc:Int) (done.length:Int)=some ((acc + l6 rest:Nat):Int)
 | [],done,k + 1,acc,h,hk,hs,ha=>by
  rw [dx,if_neg (by rw [decide_eq_true_eq,h]; simp)]
  simp [l6]
 | z :: rest,done,k + 1,acc,h,hk,hs,ha=>by
  have hlen:t.Kids.length=done.length + rest.length + 1:=by rw [h]; simp; omega
  have hw:IntKind.wrap .i64 ((done.length:Int) + 1)=(((done ++ [z]).length:Nat):Int):=by rw [kJ (by omega) (by omega)]; simp
  simp only [l6] at ha
  have hw2:IntKind.wrap .i64 ((acc:Int) + (vB z:Int))=((acc + vB z:Nat):Int):=by rw [kJ (by omega) (by omega)]; push_cast; rfl
  rw [dx,if_pos (by rw [decide_eq_true_eq]; omega),fH h,Option.bind_some,hs z List.mem_cons_self,Option.bind_some,hw,hw2,qj self t hl rest (done ++ [z]) k (acc + vB z) (by rw [h]; simp) (by simp at hk; omega) (fun z hz=>hs z (List.mem_cons_of_mem _ hz)) (by omega),l6,Nat.add_assoc]
theorem xR:∀ (m:Nat) (t:aT),S.gW t ≤ m→m < 1000000→∀ n,m < n→bF n t=some (vB t:Int)
 | 0,t,h,_,n,_=>by have:=S.dH t; omega
 | m + 1,t,h,hm,n + 1,hn=>by
  have h1:=S.dH t
  have h2:=S.jv t.Kids
  have h3:=zm (m + 1) t h
  have h4:=qd t
  have hs:∀ z ∈ t.Kids,bF n z=some (vB z:Int):=fun z hz=>xR m z (by have:=S.iB hz; omega) (by omega) n (by omega)
  rw [bF]
  unfold eY
  by_cases c:t.Kind=7
  ·
   rw [if_pos (by simpa using c),h4,if_pos c]
   rw [if_pos c] at h4
   exact qj (bF n) t (by omega) t.Kids [] n 1 rfl (by omega) hs (by omega)
  ·
   rw [if_neg (by simpa using c),h4,if_neg c]
   rw [if_neg c] at h4
   exact qj (bF n) t (by omega) t.Kids [] n 0 rfl (by omega) hs (by omega)
theorem CS:∀ (m:Nat) (pre:List Int) (k:Nat),m < k→pre.length + m < 1000000→bY 7 k (pre ++ List.replicate m 0) (pre.length:Int)=some (pre ++ List.replicate m 7)
 | 0,pre,k + 1,hk,hl=>by rw [bY,if_neg (by rw [decide_eq_true_eq]; simp)]; rfl
 | m + 1,pre,k + 1,hk,hl=>by
  have hw:IntKind.wrap .i64 ((pre.length:Int) + 1)=(((pre ++ [7]).length:Nat):Int):=by rw [kJ (by omega) (by omega)]; simp
  have hset:CF (pre ++ List.replicate (m + 1) (0:Int)) (pre.length:Int) 7=(pre ++ [7]) ++ List.replicate m 0:=by
   unfold CF; rw [List.replicate_succ]; simp
  rw [bY,if_pos (by rw [decide_eq_true_eq]; simp; omega),List.replicate_succ,fH rfl,Option.bind_some,← List.replicate_succ,hset,hw,CS m (pre ++ [7]) k (by omega) (by simp; omega)]
  rw [List.replicate_succ]; simp
theorem FB {n:Nat} (hn:1000 < n) (s:List Int) (hs:s.length ≤ 100):fZ n s 7=some (s ++ List.replicate 80 7):=by
 have hw:IntKind.wrap .i64 ((s.length:Int) + 80)=((s.length + 80:Nat):Int):=by rw [kJ (by omega) (by omega)]; push_cast; rfl
 unfold fZ
 rw [hw]
 have h1:xQ 1 8 ((s.length + 80:Nat):Int) (0:Int)=some (List.replicate (s.length + 80) 0):=by
  unfold xQ
  rw [if_pos ⟨by omega,by omega,by omega,by omega⟩]; rfl
 have h2:Bp (List.replicate (s.length + 80) (0:Int)) s=some (s ++ List.replicate 80 0):=by
  unfold Bp
  rw [if_pos ⟨by simp,by simp⟩,List.drop_replicate]; simp
 rw [h1,Option.bind_some,h2,Option.bind_some]
 exact CS 80 s n (by omega) (by omega)
theorem Cb {n:Nat} (a:List Int) (h:a.length < n) (h2:a.length ≤ 100000):gz n a a=some true:=by
 have key:∀ (rest done:List Int) (k:Nat),a=done ++ rest→rest.length < k→cz a a k (done.length:Int)=some true:=by
  intro rest
  induction rest with
  | nil =>
   intro done k e hk
   cases k with
   | zero=>omega
   | succ k=>rw [cz,if_neg (by rw [decide_eq_true_eq,e]; simp)]
  | cons q rest ih =>
   intro done k e hk
   cases k with
   | zero=>omega
   | succ k =>
    have hlen:a.length=done.length + rest.length + 1:=by rw [e]; simp; omega
    have hw:IntKind.wrap .i64 ((done.length:Int) + 1)=(((done ++ [q]).length:Nat):Int):=by rw [kJ (by omega) (by omega)]; simp
    rw [cz,if_pos (by rw [decide_eq_true_eq]; omega),fH e,Option.bind_some,Option.bind_some,if_neg (by simp),hw]
    exact ih (done ++ [q]) k (by rw [e]; simp) (by simp at hk; omega)
 unfold gz
 rw [if_neg (by simp)]
 exact key a [] n rfl h
theorem Bq (l:List Int) (hl:l.length < 1000000):∀ (m:Nat) (pre:List Int) (k:Nat),l=pre ++ List.replicate m 7→m < k→bR l 7 k (pre.length:Int)=some true
 | 0,pre,k + 1,h,hk=>by rw [bR,if_neg (by rw [decide_eq_true_eq,h]; simp)]
 | m + 1,pre,k + 1,h,hk=>by
  have hlen:l.length=pre.length + m + 1:=by rw [h]; simp; omega
  have hw:IntKind.wrap .i64 ((pre.length:Int) + 1)=(((pre ++ [7]).length:Nat):Int):=by rw [kJ (by omega) (by omega)]; simp
  have h':l=pre ++ 7 :: List.replicate m 7:=by rw [h,List.replicate_succ]
  rw [bR,if_pos (by rw [decide_eq_true_eq]; omega),fH h',Option.bind_some,if_neg (by simp),hw]
  exact Bq l hl m (pre ++ [7]) k (by rw [h']; simp) (by omega)
theorem DL {n:Nat} (hn:1000 < n) (s:List Int) (hs:s.length ≤ 100):fI n (s ++ List.replicate 80 7) s 7=some true:=by
 have hw:IntKind.wrap .i64 ((s.length:Int) + 80)=((s.length + 80:Nat):Int):=by rw [kJ (by omega) (by omega)]; push_cast; rfl
 have hc:cut (s ++ List.replicate 80 7) 0 (s.length:Int)=some s:=by unfold cut; rw [if_pos ⟨by omega,by omega,by simp; omega⟩]; simp
 unfold fI
 rw [hw,if_neg (by simp),hc,Option.bind_some,Cb s (by omega) (by omega),Option.bind_some,Option.bind_some,if_neg (by simp)]
 exact Bq _ (by simp; omega) 80 s n rfl (by omega)
theorem Gc (k:fw) (st:List Int) (ps:List dQ) (q:Int) (w0:True) (w1:st.length ≤ maxLen∧∀ y ∈ st,(Lit.int .i64 y).wf=true) (w2:ps.length ≤ maxLen∧∀ y ∈ ps,True) (w3:(Lit.int .i64 q).wf=true):gP 100000 k st ps q=some true:=by
 obtain ⟨t,ht,hg,hc,_,_⟩:=S.EW k 100000 (by omega)
 unfold gP
 rw [ht,Option.bind_some,show ((8:Int))=((8:Nat):Int) from rfl,Dj,Option.bind_some,nO (by rw [bnd]; simp; omega),Option.bind_some,show ((5:Int))=((5:Nat):Int) from rfl,Dj,Option.bind_some,nO (by rw [bnd]; simp; omega),Option.bind_some,List.nil_append,List.nil_append]
 have hst:=DU 8 (by omega) w1.2
 have hl8:(st.take 8).length ≤ 8:=by simp; omega
 have hps:(ps.take 5).length ≤ 1000:=by simp; omega
 have hcut:cut (st.take 8 ++ List.replicate 80 7) 0 ((st.take 8).length:Int)=some (st.take 8):=by unfold cut; rw [if_pos ⟨by omega,by omega,by simp; omega⟩]; simp
 rw [FB (by omega) _ (by omega),Option.bind_some,hcut,Option.bind_some,El hst hps (by omega) hg (by omega),Option.bind_some,BN hst hps (by omega) hg (by omega),Option.bind_some]
 have hsame:∀ z:Tree,T.iP z ≤ 65000→df 100000 z z=some true:=fun z hz=>by
  rw [T.zX 65000 z z hz (by omega) _ (by omega),T.xU]
 have hsz:T.iP (Ad 100000 (rowP (st.take 8) (ps.take 5) t 0)).1 ≤ 65000:=by
  rcases BS 100000 (rowP (st.take 8) (ps.take 5) t 0) with e | ⟨z,s',h1,h2,h3,e⟩
  ·
   rw [e]; decide
  ·
   have hbig:=(vG (st.take 8) (ps.take 5) 1000 t (by omega) hg 0).1 _ _ h1
   have htold:=nZ (st.take 8) (ps.take 5) 1000 t (by omega) 0 (by omega) _ _ h1
   simp only [T.iP.lsz] at hbig
   rw [e]; show T.iP z ≤ 65000; omega
 rw [if_neg (by simp),hsame _ hsz,Option.bind_some,Option.bind_some,if_neg (by simp),DL (by omega) _ (by omega),Option.bind_some,Option.bind_some,if_neg (by simp),xP 1000 t (by omega) (by omega) _ (by omega),Option.bind_some,xR 1000 t (by omega) (by omega) _ (by omega),Option.bind_some,if_pos (by simp)]
 obtain ⟨b,b1,b2⟩:=Av t q (n:=100000) (by omega) (by omega)
 rw [b1,Option.bind_some,b2,Option.bind_some,if_pos (by simp),yS]
 rfl
end Pr
end Go.Ev

namespace Go.Ev
noncomputable section
open Go.Shelf Go.RowKit Go.Proofs
set_option linter.unusedVariables false
set_option linter.unusedSimpArgs false
theorem zo:∀ (k u:Nat),u < 10 ^ k→AB k u=if k=0 then [] else Lib.decDigits u
 | 0,u,h=>rfl
 | k + 1,u,h=>by
  rw [AB,Lib.decDigits,if_neg (Nat.succ_ne_zero k)]
  by_cases hu:u < 10
  ·
   rw [if_pos hu,dif_pos hu]
  ·
   rw [if_neg hu,dif_neg hu]
   have hk:k ≠ 0:=fun q=>by subst q; simp at h; omega
   rw [zo k (u / 10) (by rw [Nat.pow_succ] at h; omega),if_neg hk]
theorem FD {n:Int} (h0:-9223372036854775808 ≤ n) (h1:n ≤ 9223372036854775807):qN n=Lib.itoa n:=by
 unfold qN Lib.itoa
 rw [zo 20 _ (by omega),zo 20 _ (by omega),if_neg (show ¬ (20=0) by decide),if_neg (show ¬ (20=0) by decide)]
def pQ:List D→Option AV
 | [.int .i64 x]=>if -9223372036854775808 ≤ x∧x ≤ 9223372036854775807 then some (.d (.str (qN x))) else none
 | _=>none
def HV (g:Nat) (k:IntKind) (zs:List Int) (w:World) (fr:Nat→Nat→Prop):Prop:=(∃ el fz,w.heap[g]? = some (.cells (zs.map fun z=>Value.int k z).toArray el fz))∧∀ o,¬ fr g o
theorem Jb (g:Nat) (k:IntKind) (zs:List Int):FN (HV g k zs):=fun w w' fr fr' h _ hb=>by
 obtain ⟨⟨el,fz,h1⟩,h2⟩:=h
 have hlt:g < w.heap.size:=by
  rcases Nat.lt_or_ge g w.heap.size with q | q
  ·
   exact q
  ·
   rw [Array.getElem?_eq_none q] at h1; cases h1
 obtain ⟨a,b⟩:=hb g hlt h2
 exact ⟨⟨el,fz,a.trans h1⟩,b⟩
theorem Je {P:Program} {name:String} {g:Nat} {k:IntKind} {zs:List Int} {w:World} {fr:Nat→Nat→Prop} (hg:P.globalNamed name=some g) (h:HV g k zs w fr):Lib.TabIs P w name k zs:=by
 obtain ⟨⟨el,fz,h1⟩,_⟩:=h
 unfold Lib.TabIs World.var?
 rw [hg]
 show (match w.heap[g]? with | some (.cells cs _ _)=>some cs | _=>none)=_
 rw [h1]
theorem I9 {P:Program} {name:String} {g:Nat} {k:IntKind} {zs:List Int} {w:World} (hg:P.globalNamed name=some g) (h:Lib.TabIs P w name k zs):HV g k zs w (fun _ _=>False):=by
 unfold Lib.TabIs World.var? at h
 rw [hg] at h
 have h':(match w.heap[g]? with | some (.cells cs _ _)=>some cs | _=>none)=some (zs.map fun z=>Value.int k z).toArray:=h
 refine ⟨?_,fun o q=>q⟩
 cases hh:w.heap[g]? with
 | none=>rw [hh] at h'; cases h'
 | some o =>
  rw [hh] at h'
  cases o with
  | cells cs el fz=>simp only [Option.some.injEq] at h'; subst h'; exact ⟨el,fz,rfl⟩
  | _=>cases h'
theorem G7 {R:bT} (hR:ObjOk R) {P:Program} {ρ:Ren} (L:LaysM.n171 P ρ)
  (hG:∀ w fr,R.G w fr→Lib.TabIs P w "internal/strconv.uint64pow10" .u64 Lib.pow10Tab):wV R P (ρ.f 171) (lG pQ):=by
 refine uM hR (fun ds v h=>?_) ⟨_,L.f171,rfl,by show ¬ ("strconv.Itoa" = "runtime.NumGoroutine"); decide⟩ (fun ds v h w fr us hGw hfr hl hr=>?_)
 ·
  unfold pQ at h
  split at h
  ·
   split at h
   ·
    simp only [Option.some.injEq] at h; subst h; rfl
   ·
    cases h
  ·
   cases h
 ·
  unfold pQ at h
  split at h
  ·
   rename_i x
   split at h
   ·
    rename_i hc
    simp only [Option.some.injEq] at h; subst h
    match us,hl with
    | [u0],_ =>
    have a0:=(hr 0 _ _ rfl rfl).val rfl
    cases a0
    refine (Any.strconv_Itoa L x hc.1 hc.2 w (hG w fr hGw)).mono (fun e w' hp=>?_)
    obtain ⟨rfl,k,os,rfl⟩:=hp
    refine ⟨Lib.below_grow _ w (Nat.le_refl _) k os,_,rfl,fun cx S _=>.d _ _ ?_⟩
    rw [FD hc.1 hc.2]
    exact Dr _ cx.fr (Lib.itoa x)
   ·
    cases h
  ·
   cases h
theorem Im {n:Nat} {x:Int} {r:List UInt8} (h:strconv_Itoa n x=some r):pQ [.int .i64 x]=some (.d (.str r)):=by
 unfold strconv_Itoa at h
 unfold pQ
 split at h
 ·
  rename_i hc; cases h
  simp only [hc,and_self,if_true]
 ·
  cases h
end
end Go.Ev

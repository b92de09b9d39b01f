import Derived.Test.YtpbfidcmnkmkiaaDoorPartB
import Derived.Shelf.Spec.SlicesInsertGrow
import Derived.Shelf.Strings.Builder1
import Derived.Shelf.Strings.OnBuilder
import Derived.Shelf.Strings.SplitShaped
import Derived.Shelf.Strings.SlTrimAscii
import Derived.Shelf.Small.Strs
import Derived.Shelf.Strings.Cut
import Derived.DataReads
import GoSem.ClaimChange
import Derived.WideShapes
import Derived.ChangeShapes
import Derived.Recover
namespace Go.Ev
noncomputable section
set_option linter.unusedVariables false
set_option linter.unusedSimpArgs false
variable {R:bT} {C:gq} {nt:Nat} {B:St}
theorem Gq {ops:Array Oper} (hr:qK ops=true) {Q:Exit→Act→World→Prop} (Inv:Array Bool→Act→World→Prop)
  (hstep:∀ listed a w i o (K:Act→World→Prop),listed.size=ops.size→Closed ops listed→listed.getD i false=false→ops[i]? = some o→(∀ k,k < i→((Region.before ops).getD i 0).testBit k=true→listed.getD k false=true)→Inv listed a w →
   (∀ a' w',Inv (listed.setIfInBounds i true) a' w'→K a' w')→wpOp C.P ops Q i K a w)
  (hend:∀ listed a w,(∀ i,i < ops.size→listed.getD i false=true)→Inv listed a w→Q .normal a w) :
  ∀ (fuel:Nat) (listed:Array Bool) {w:World} {a:Act},listed.size=ops.size→Closed ops listed→((List.range ops.size).filter fun i=>!listed.getD i false).length=fuel→Inv listed a w→wpAny C.P .any ops Q fuel listed a w:=by
 intro fuel
 induction fuel with
 | zero =>
  intro listed w a hsz hcl hlen hI
  have hnil:=List.eq_nil_of_length_eq_zero hlen
  have hall:∀ i,i < ops.size→listed.getD i false=true:=fun i hi=>by
   cases hc:listed.getD i false with
   | true=>rfl
   | false =>
    have:i ∈ (List.range ops.size).filter fun i=>!listed.getD i false:=by
     rw [List.mem_filter]; exact ⟨List.mem_range.2 hi,by rw [hc]; rfl⟩
    rw [hnil] at this; cases this
  refine ⟨?_,hend listed a w hall hI⟩
  cases hq:Region.ready .any ops listed with
  | nil=>rfl
  | cons i l =>
   have hi:i ∈ Region.ready .any ops listed:=by rw [hq]; simp
   obtain ⟨h1,o,h2,_⟩:=mem_ready.1 hi
   have hlt:i < ops.size:=(Array.getElem?_eq_some_iff.1 h2).1
   have:=hall i hlt
   have hlt':i < listed.size:=by omega
   simp [hlt'] at h1 this
   rw [h1] at this; cases this
 | succ fuel ih =>
  intro listed w a hsz hcl hlen hI
  refine ⟨fun hnone=>?_,fun i hi=>?_⟩
  ·
   exfalso
   cases hq:(List.range ops.size).filter fun i=>!listed.getD i false with
   | nil=>rw [hq] at hlen; simp at hlen
   | cons m l =>
    have hm:m ∈ (List.range ops.size).filter fun i=>!listed.getD i false:=by rw [hq]; simp
    obtain ⟨hm1,hm2⟩:=List.mem_filter.1 hm
    exact Ck hr hsz (List.mem_range.1 hm1) (by simpa using hm2) hnone
  ·
   obtain ⟨h1,o,h2,h3⟩:=mem_ready.1 hi
   have hlt:i < ops.size:=(Array.getElem?_eq_some_iff.1 h2).1
   have hlt':i < listed.size:=by omega
   have h1':listed.getD i false=false:=by simp [hlt'] at h1 ⊢; exact h1
   have hclo:=Ig hr hcl h2 h3
   refine hstep listed a w i o _ hsz hcl h1' h2 hclo hI (fun a' w' hI'=>ih _ (by simpa using hsz) (Cz hcl hclo) ?_ hI')
   have hsp:=hlen
   have hmem:i ∈ (List.range ops.size).filter fun i=>!listed.getD i false:=by
    rw [List.mem_filter]; exact ⟨List.mem_range.2 hlt,by rw [h1']; rfl⟩
   obtain ⟨l1,l2,hq⟩:=List.append_of_mem hmem
   have hnd:((List.range ops.size).filter fun i=>!listed.getD i false).Nodup:=List.Pairwise.filter _ List.nodup_range
   rw [hq] at hnd
   have hn2:=(List.nodup_append.1 hnd)
   have hne1:∀ k ∈ l1,k ≠ i:=fun k hk=>hn2.2.2 k hk i (by simp)
   have hne2:∀ k ∈ l2,k ≠ i:=fun k hk q=>by
    subst q
    exact (List.nodup_cons.1 hn2.2.1).1 hk
   rw [Gn hlt' hq hne1 hne2]
   rw [hq] at hsp
   simp at hsp ⊢; omega
def GY (cx:Cx) (S:St) (w:World) (a:Act) (t:Nat) (x:AV):Prop:=∃ v,a.tmps[t]? = some v∧aM cx S w x v
structure rV (nt:Nat) (ops:Array Oper) (e0:Env) (listed:Array Bool) (ws:List (Option AV)) (cx:Cx) (S:St) (w:World) (a:Act):Prop where
 size:nt ≤ a.tmps.size
 new:∀ k o t,ops[k]? = some o→o.dst=some t→listed.getD k false=true→(∀ j o',j ≠ k→ops[j]? = some o'→o'.dst=some t→listed.getD j false=true→j < k)→∃ x,ws[k]? = some (some x)∧GY cx S w a t x
 old:∀ t x,AL.get e0 t=some x→(∀ j o',ops[j]? = some o'→o'.dst=some t→listed.getD j false=false)→GY cx S w a t x
abbrev Src:=List (Nat × Option Nat)
def oh (ws:List (Option AV)) (e0:Env):Src→Option Env
 | []=>some []
 | (t,some k) :: l=>match ws[k]? with
  | some (some x)=>(oh ws e0 l).map ((t,x) :: ·)
  | _=>none
 | (t,none) :: l=>match AL.get e0 t with
  | some x=>(oh ws e0 l).map ((t,x) :: ·)
  | none=>none
def uJ (ops:Array Oper) (k t:Nat):Bool:=match ops[k]? with
 | some o=>(match o.dst with | some d=>Nat.beq d t | none=>false)
 | none=>false
theorem l9 {ops:Array Oper} {k t:Nat}:uJ ops k t=true↔∃ o,ops[k]? = some o∧o.dst=some t:=by
 unfold uJ
 cases h:ops[k]? with
 | none=>simp
 | some o =>
  cases hd:o.dst with
  | none=>simp [hd]
  | some d=>simp [hd]
def Cg (ops:Array Oper) (Bi:Nat) (i:Nat):Src→Bool
 | []=>true
 | (t,some k) :: l=>uJ ops k t && Nat.testBit Bi k && ((List.range ops.size).all fun j=>!(uJ ops j t) || Nat.beq j k || Nat.blt j k || Nat.beq j i || Nat.testBit ((Region.before ops).getD j 0) i) && Cg ops Bi i l
 | (t,none) :: l=>((List.range ops.size).all fun j=>!(uJ ops j t) || Nat.beq j i || Nat.testBit ((Region.before ops).getD j 0) i) && Cg ops Bi i l
def DK (ops:Array Oper):Src→Bool
 | []=>true
 | (t,some k) :: l=>uJ ops k t && ((List.range ops.size).all fun j=>!(uJ ops j t) || Nat.beq j k || Nat.blt j k) && DK ops l
 | (t,none) :: l=>((List.range ops.size).all fun j=>!(uJ ops j t)) && DK ops l
theorem qB {ops:Array Oper} {e0:Env} {listed:Array Bool} {ws:List (Option AV)} {cx:Cx} {S:St} {w:World} {a:Act} (h:rV nt ops e0 listed ws cx S w a):∀ {L:Src} {e:Env},oh ws e0 L=some e →
  (∀ t k,(t,some k) ∈ L→∃ o,ops[k]? = some o∧o.dst=some t∧listed.getD k false=true∧∀ j o',j ≠ k→ops[j]? = some o'→o'.dst=some t→listed.getD j false=true→j < k) →
  (∀ t,(t,none) ∈ L→∀ j o',ops[j]? = some o'→o'.dst=some t→listed.getD j false=false)→gD cx S w nt e a
 | [],e,he,_,_=>by
  simp only [oh,Option.some.injEq] at he
  subst he
  exact ⟨h.size,fun t x hx=>by simp [AL.get] at hx⟩
 | (t,some k) :: L,e,he,hA,hB=>by
  simp only [oh] at he
  split at he
  ·
   rename_i x hx
   obtain ⟨e',he',rfl⟩:=Option.map_eq_some_iff.1 he
   have ih:=qB h he' (fun t k hm=>hA t k (List.mem_cons_of_mem _ hm)) (fun t hm=>hB t (List.mem_cons_of_mem _ hm))
   refine ⟨h.size,fun u y hy=>?_⟩
   rw [AL.gm] at hy
   by_cases hu:t=u
   ·
    subst hu
    rw [if_pos rfl] at hy; cases hy
    obtain ⟨o,h1,h2,h3,h4⟩:=hA t k List.mem_cons_self
    obtain ⟨x',hx',hs⟩:=h.new k o t h1 h2 h3 h4
    rw [hx] at hx'; cases hx'
    exact hs
   ·
    rw [if_neg hu] at hy; exact ih.rel u y hy
  ·
   cases he
 | (t,none) :: L,e,he,hA,hB=>by
  simp only [oh] at he
  split at he
  ·
   rename_i x hx
   obtain ⟨e',he',rfl⟩:=Option.map_eq_some_iff.1 he
   have ih:=qB h he' (fun t k hm=>hA t k (List.mem_cons_of_mem _ hm)) (fun t hm=>hB t (List.mem_cons_of_mem _ hm))
   refine ⟨h.size,fun u y hy=>?_⟩
   rw [AL.gm] at hy
   by_cases hu:t=u
   ·
    subst hu
    rw [if_pos rfl] at hy; cases hy
    exact h.old t x hx (hB t List.mem_cons_self)
   ·
    rw [if_neg hu] at hy; exact ih.rel u y hy
  ·
   cases he
theorem qF {ops:Array Oper} (hr:qK ops=true) {i k:Nat} (hi:i < ops.size) (h:((Region.before ops).getD i 0).testBit k=true):k < i:=by
 rcases Nat.lt_or_ge k i with q | q
 ·
  exact q
 ·
  have:=(mo hr (show ops[i]? = some ops[i] by simp [hi])).2.2 k q
  rw [this] at h; cases h
theorem BD {ops:Array Oper} (hr:qK ops=true) {e0:Env} {listed:Array Bool} (hcl:Closed ops listed) {ws:List (Option AV)} {cx:Cx} {S:St} {w:World} {a:Act} (h:rV nt ops e0 listed ws cx S w a) {i:Nat} (hi:i < ops.size) (hun:listed.getD i false=false)
  (hclo:∀ k,k < i→((Region.before ops).getD i 0).testBit k=true→listed.getD k false=true) {L:Src} {e:Env} (he:oh ws e0 L=some e) (hb:Cg ops ((Region.before ops).getD i 0) i L=true):gD cx S w nt e a:=by
 have late:∀ j,j < ops.size→((Region.before ops).getD j 0).testBit i=true→listed.getD j false=true→False:=fun j hj hb hl=>by
  have:=hcl j hl i (qF hr hj hb) hb
  rw [this] at hun; cases hun
 have key:(∀ t k,(t,some k) ∈ L→∃ o,ops[k]? = some o∧o.dst=some t∧listed.getD k false=true∧∀ j o',j ≠ k→ops[j]? = some o'→o'.dst=some t→listed.getD j false=true→j < k) ∧
   (∀ t,(t,none) ∈ L→∀ j o',ops[j]? = some o'→o'.dst=some t→listed.getD j false=false):=by
  clear he
  induction L with
  | nil=>exact ⟨fun t k hm=>(by cases hm),fun t hm=>(by cases hm)⟩
  | cons p L ih =>
   obtain ⟨t,s⟩:=p
   cases s with
   | some k =>
    simp only [Cg,Bool.and_eq_true] at hb
    obtain ⟨⟨⟨b1,b2⟩,b3⟩,b4⟩:=hb
    obtain ⟨ih1,ih2⟩:=ih b4
    refine ⟨fun u q hm=>?_,fun u hm=>?_⟩
    ·
     rcases List.mem_cons.1 hm with hm | hm
     ·
      cases hm
      obtain ⟨o,h1,h2⟩:=l9.1 b1
      refine ⟨o,h1,h2,hclo k (qF hr hi b2) b2,fun j o' hjk hj hd hl=>?_⟩
      have hjl:j < ops.size:=(Array.getElem?_eq_some_iff.1 hj).1
      have:=List.all_eq_true.1 b3 j (List.mem_range.2 hjl)
      simp only [l9.2 ⟨o',hj,hd⟩,Bool.not_true,Bool.false_or,Bool.or_eq_true] at this
      rcases this with ((q | q) | q) | q
      ·
       exact absurd (Nat.eq_of_beq_eq_true q) hjk
      ·
       exact Nat.le_of_ble_eq_true q
      ·
       rw [Nat.eq_of_beq_eq_true q,hun] at hl; cases hl
      ·
       exact (late j hjl q hl).elim
     ·
      exact ih1 u q hm
    ·
     rcases List.mem_cons.1 hm with hm | hm
     ·
      cases hm
     ·
      exact ih2 u hm
   | none =>
    simp only [Cg,Bool.and_eq_true] at hb
    obtain ⟨b3,b4⟩:=hb
    obtain ⟨ih1,ih2⟩:=ih b4
    refine ⟨fun u q hm=>?_,fun u hm=>?_⟩
    ·
     rcases List.mem_cons.1 hm with hm | hm
     ·
      cases hm
     ·
      exact ih1 u q hm
    ·
     rcases List.mem_cons.1 hm with hm | hm
     ·
      cases hm
      intro j o' hj hd
      have hjl:j < ops.size:=(Array.getElem?_eq_some_iff.1 hj).1
      have:=List.all_eq_true.1 b3 j (List.mem_range.2 hjl)
      simp only [l9.2 ⟨o',hj,hd⟩,Bool.not_true,Bool.false_or,Bool.or_eq_true] at this
      rcases this with q | q
      ·
       rw [Nat.eq_of_beq_eq_true q]; exact hun
      ·
       cases hl:listed.getD j false with
       | false=>rfl
       | true=>exact (late j hjl q hl).elim
     ·
      exact ih2 u hm
 exact qB h he key.1 key.2
theorem EC {ops:Array Oper} {e0:Env} {listed:Array Bool} (hall:∀ i,i < ops.size→listed.getD i false=true) {ws:List (Option AV)} {cx:Cx} {S:St} {w:World} {a:Act} (h:rV nt ops e0 listed ws cx S w a) {L:Src} {e:Env} (he:oh ws e0 L=some e) (hb:DK ops L=true):gD cx S w nt e a:=by
 have key:(∀ t k,(t,some k) ∈ L→∃ o,ops[k]? = some o∧o.dst=some t∧listed.getD k false=true∧∀ j o',j ≠ k→ops[j]? = some o'→o'.dst=some t→listed.getD j false=true→j < k) ∧
   (∀ t,(t,none) ∈ L→∀ j o',ops[j]? = some o'→o'.dst=some t→listed.getD j false=false):=by
  clear he
  induction L with
  | nil=>exact ⟨fun t k hm=>(by cases hm),fun t hm=>(by cases hm)⟩
  | cons p L ih =>
   obtain ⟨t,s⟩:=p
   cases s with
   | some k =>
    simp only [DK,Bool.and_eq_true] at hb
    obtain ⟨⟨b1,b3⟩,b4⟩:=hb
    obtain ⟨ih1,ih2⟩:=ih b4
    refine ⟨fun u q hm=>?_,fun u hm=>?_⟩
    ·
     rcases List.mem_cons.1 hm with hm | hm
     ·
      cases hm
      obtain ⟨o,h1,h2⟩:=l9.1 b1
      refine ⟨o,h1,h2,hall k (Array.getElem?_eq_some_iff.1 h1).1,fun j o' hjk hj hd hl=>?_⟩
      have hjl:j < ops.size:=(Array.getElem?_eq_some_iff.1 hj).1
      have:=List.all_eq_true.1 b3 j (List.mem_range.2 hjl)
      simp only [l9.2 ⟨o',hj,hd⟩,Bool.not_true,Bool.false_or,Bool.or_eq_true] at this
      rcases this with q | q
      ·
       exact absurd (Nat.eq_of_beq_eq_true q) hjk
      ·
       exact Nat.le_of_ble_eq_true q
     ·
      exact ih1 u q hm
    ·
     rcases List.mem_cons.1 hm with hm | hm
     ·
      cases hm
     ·
      exact ih2 u hm
   | none =>
    simp only [DK,Bool.and_eq_true] at hb
    obtain ⟨b3,b4⟩:=hb
    obtain ⟨ih1,ih2⟩:=ih b4
    refine ⟨fun u q hm=>?_,fun u hm=>?_⟩
    ·
     rcases List.mem_cons.1 hm with hm | hm
     ·
      cases hm
     ·
      exact ih1 u q hm
    ·
     rcases List.mem_cons.1 hm with hm | hm
     ·
      cases hm
      intro j o' hj hd
      have hjl:j < ops.size:=(Array.getElem?_eq_some_iff.1 hj).1
      have:=List.all_eq_true.1 b3 j (List.mem_range.2 hjl)
      simp only [l9.2 ⟨o',hj,hd⟩,Bool.not_true,Bool.or_self] at this
      cases this
     ·
      exact ih2 u hm
 exact qB h he key.1 key.2
inductive JA (R:bT) (C:gq) (nt:Nat) (ops:Array Oper) (S:St) (e:Env) (o:Oper) (x:AV):Prop
 | val {v:AV} (hw:dn ops e o=some true) (ho:oper C (dX e) S o.op=some (.val v S)) (hl:Less x v)
 | call {f:Nat} {args:List AV} {v:AV} (hw:dn ops e o=some true) (ho:oper C (dX e) S o.op=some (.call f args)) (hs:fT R C.P f args S (fun r=>r=(none,v,S))) (hl:Less x v)
 | no (hw:dn ops e o=some false) (hl:Less x (.tup []))
 | step (h:ah R C nt ops [o] e S (fun r=>∃ e' v,r=.go e' S∧(∀ t,o.dst=some t→AL.get e' t=some v∧Less x v)))
inductive KI (R:bT) (C:gq) (nt:Nat) (ops:Array Oper) (S:St) (e:Env) (o:Oper) (PQ:AV→St→Prop) (Q:AV→St→Prop):Prop
 | val {v:AV} {S':St} (hw:dn ops e o=some true) (ho:oper C (dX e) S o.op=some (.val v S')) (hq:Q v S')
 | skip {S':St} (hw:dn ops e o=some true) (ho:oper C (dX e) S o.op=some (.skip S')) (hd:o.dst=none) (hq:Q .any S')
 | call {f:Nat} {args:List AV} (hw:dn ops e o=some true) (ho:oper C (dX e) S o.op=some (.call f args)) (hs:fT R C.P f args S (fun r=>r.1=none∧Q r.2.1 r.2.2))
 | no (hw:dn ops e o=some false) (hq:Q (.tup []) S)
 | step (h:ah R C nt ops [o] e S (fun r=>∃ e' v S',r=.go e' S'∧(∀ t,o.dst=some t→AL.get e' t=some v)∧Q v S'))
 | stepX (h:ah R C nt ops [o] e S (fun r=>match r with | .go e' S'=>∃ v,(∀ t,o.dst=some t→AL.get e' t=some v)∧Q v S' | .stop v S'=>PQ v S'))
theorem qX (hR:mE R C) {ops:Array Oper} {o:Oper} {e:Env} {S:St} {Q:Stp→Prop} (h:tV R C nt ops o e S Q) {cx:Cx} {w:World} {a:Act} (hS:bf R cx S w) (he:gD cx S w nt e a)
  {K:Act→World→Prop} {Kx:Exit→Act→World→Prop} (hno:∀ v S',Q (.stop v S')→∀ cx' w' u,bf R cx' S' w'→Ext cx S w cx' S' w'→aM cx' S' w' v u→Kx (.panic [{ v:=u,recovered:=false }]) a w') (hk:∀ e' S' cx' w' u,Q (.go e' S')→bf R cx' S' w'→Ext cx S w cx' S' w'→gD cx' S' w' nt e' (a.put o.dst u)→K (a.put o.dst u) w') (hnx:∀ t,o.op ≠ .next (.tmp t) false) {i:Nat} (hi:ops[i]? = some o):wpOp C.P ops Kx i K a w:=by
 have hrefl:=Ext.refl (cx:=cx) w hS.wf
 rcases h with ⟨t,rs,h1,h2,h3⟩ | ⟨e2,hw,h1,h2⟩ | ⟨e2,e',hw,h1,h2,h3⟩ | ⟨e2,hw,h1,h2⟩
 ·
  exact absurd h1 (hnx t)
 rotate_left 2
 ·
  have he2:=he.weak hw
  unfold wpOp
  rw [hi]
  simp only
  rw [if_pos (eH he2 h1)]
  left
  unfold Oper.wp
  rcases h2 cx w a hS he2 with ⟨cx',w',u,v,S',e',q1,q2,q3,q4,q5,q6⟩ | ⟨u,v,q1,q2,q3⟩
  ·
   rw [q1]
   exact hk _ _ cx' w' u q6 q2 q3 ((he2.mono q3).put q5 q4)
  ·
   rw [q1]
   exact hno _ _ q3 cx w u hS hrefl q2
 ·
  have he2:=he.weak hw
  unfold wpOp
  rw [hi]
  simp only
  rw [if_pos (eH he h1)]
  left
  rcases h2 with ⟨v,S',e',h1,h2,h3⟩ | ⟨S',h1,h2,h3⟩ | ⟨f,args,h1,h2⟩ | ⟨t,x,y,ty,xs,b,el,hop,hx,hy,hu,hq⟩
  rotate_left 3
  ·
   have rx:=he2.eval x _ hx
   have ry:=he2.eval y _ hy
   obtain ⟨a0,n,c,ex,hnil⟩:=Bf rx.dd
   have ey:a.eval y=.slice none 0 0:=by
    have:=ry.dd.val rfl
    generalize a.eval y=z at this
    cases this
    rfl
   have hrun:(execOp a.eval o).run C.P w=.ok (.value (.bool a0.isNone)) w:=by
    obtain ⟨dst,op,ty',pos,after,guard⟩:=o
    simp only at hop
    subst hop
    exact pq (by
     rw [ex,ey]
     have hg:(eqGuard .eql t x y (.slice a0 n c) (.slice none 0 0)).run C.P w=.ok () w:=gy rfl
     simp only [Sem.run_bind,hg,Result.andThen_ok]
     exact Lib.run_eql_slice_nil w t el a0 n c 0 0 hu)
   obtain ⟨e',hp,hk'⟩:=hq a0.isNone (fun h=>hnil (by cases a0 with | none=>rfl | some a=>cases h))
   unfold Oper.wp
   rw [hrun]
   exact hk _ _ cx w _ hk' hS hrefl (he2.put hp (.of_bool _))
  ·
   obtain ⟨cx',w',u,k1,k2,k3,k4⟩:=fO hR hS he2.eval o h1
   unfold Oper.wp
   rw [k1]
   exact hk _ _ cx' w' u h3 k2 k3 ((he2.mono k3).put h2 k4)
  ·
   obtain ⟨cx',w',k1,k2,k3⟩:=fO hR hS he2.eval o h1
   unfold Oper.wp
   rw [k1]
   refine hk _ _ cx' w' undef h3 k2 k3 ?_
   rw [h2]
   exact he2.mono k3
  ·
   obtain ⟨us,k1,k2,k3⟩:=fO hR hS he2.eval o h1
   obtain ⟨⟨fn,f1,f2,f3⟩,hcalls⟩:=h2
   unfold Oper.wp
   rw [k3 fn f1 f2 f3]
   refine (hcalls cx w us hS k1 k2).mono (fun en w' hen=>?_)
   obtain ⟨⟨p,v,S'⟩,hq,cx',m1,m2,m3⟩:=hen
   cases p with
   | none =>
    obtain ⟨u,rfl,m3⟩:=m3
    obtain ⟨e',hp,hq⟩:=hq
    exact hk _ _ cx' _ _ hq m1 m2 ((he2.mono m2).put hp m3)
   | some p =>
    obtain ⟨u,rfl,m3⟩:=m3
    exact hno _ _ hq cx' w' u m1 m2 m3
 ·
  have he2:=he.weak hw
  unfold wpOp
  rw [hi]
  simp only
  rw [if_neg (by rw [eH he h1]; simp)]
  split at h2
  ·
   rename_i hd
   subst h2
   refine hk _ _ cx w _ h3 hS hrefl ?_
   rw [hd]
   exact he2
  ·
   rename_i t hd
   refine hk _ _ cx w _ h3 hS hrefl ?_
   rw [hd]
   exact he2.put h2 (.tup [] [] rfl (fun i x v hx=>by simp at hx))
theorem vZ {cx:Cx} {S:St} {w:World} {a:Act} {e:Env} {t:Nat} {u:Value} {v:AV} (he:gD cx S w nt e (a.put (some t) u)) (hv:AL.get e t=some v):aM cx S w v u:=by
 obtain ⟨u',h1,h2⟩:=he.rel t v hv
 simp only [Act.put] at h1
 have hlt:t < a.tmps.size:=by
  have:=(Array.getElem?_eq_some_iff.1 h1).1
  simpa using this
 rw [Array.getElem?_setIfInBounds_self_of_lt hlt] at h1
 cases h1
 exact h2
theorem DT (hR:mE R C) {ops:Array Oper} {o:Oper} {e:Env} {S:St} {x:AV} (h:JA R C nt ops S e o x) {cx:Cx} {w:World} {a:Act} (hS:bf R cx S w) (he:gD cx S w nt e a)
  {K:Act→World→Prop} {Kx:Exit→Act→World→Prop} (hk:∀ cx' w' u,bf R cx' S w'→Ext cx S w cx' S w'→(∀ t,o.dst=some t→aM cx' S w' x u)→K (a.put o.dst u) w') (hnx:∀ t,o.op ≠ .next (.tmp t) false) {i:Nat} (hi:ops[i]? = some o):wpOp C.P ops Kx i K a w:=by
 have hrefl:=Ext.refl (cx:=cx) w hS.wf
 unfold wpOp
 rw [hi]
 simp only
 cases h with
 | val hw ho hl =>
  rw [if_pos (eH he hw)]
  left
  obtain ⟨cx',w',u,k1,k2,k3,k4⟩:=fO hR hS he.eval o ho
  unfold Oper.wp
  rw [k1]
  exact hk cx' w' u k2 k3 (fun _ _=>hl _ _ _ _ k4)
 | call hw ho hs hl =>
  rw [if_pos (eH he hw)]
  left
  obtain ⟨us,k1,k2,k3⟩:=fO hR hS he.eval o ho
  obtain ⟨⟨fn,f1,f2,f3⟩,hcalls⟩:=hs
  unfold Oper.wp
  rw [k3 fn f1 f2 f3]
  refine (hcalls cx w us hS k1 k2).mono (fun en w' hen=>?_)
  obtain ⟨r,rfl,cx',m1,m2,m3⟩:=hen
  obtain ⟨u,rfl,m3⟩:=m3
  exact hk cx' w' u m1 m2 (fun _ _=>hl _ _ _ _ m3)
 | no hw hl =>
  rw [if_neg (by rw [eH he hw]; simp)]
  have hv:aM cx S w x (.tuple #[]):=hl _ _ _ _ (.tup [] [] rfl (fun i x v hx=>by simp at hx))
  exact hk cx w _ hS hrefl (fun _ _=>hv)
 | step h =>
  obtain ⟨e2,S2,hw,h⟩:=h
  obtain ⟨cx2,gS,gx,ge⟩:=hw cx w a hS he
  have:=qX hR h gS ge (K:=K) (Kx:=Kx) (fun v S' hq=>by obtain ⟨_,_,hc,_⟩:=hq; cases hc) (fun e' S' cx' w' u hq q1 q2 q3=>?_) hnx hi
  ·
   unfold wpOp at this
   rw [hi] at this
   exact this
  ·
   obtain ⟨e3,hw3,e4,v,hq1,hq2⟩:=hq
   cases hq1
   refine hk cx' w' u q1 (gx.trans q2) (fun t ht=>?_)
   obtain ⟨g1,g2⟩:=hq2 t ht
   rw [ht] at q3
   exact g2 _ _ _ _ (vZ (q3.weak hw3) g1)
theorem Er (hR:mE R C) {ops:Array Oper} {o:Oper} {e:Env} {S:St} {PQ Q:AV→St→Prop} (h:KI R C nt ops S e o PQ Q) {cx:Cx} {w:World} {a:Act} (hS:bf R cx S w) (he:gD cx S w nt e a)
  {K:Act→World→Prop} {Kx:Exit→Act→World→Prop} (hx:∀ v S' cx' w' u,PQ v S'→bf R cx' S' w'→Ext cx S w cx' S' w'→aM cx' S' w' v u→Kx (.panic [{ v:=u,recovered:=false }]) a w') (hk:∀ v S' cx' w' u,Q v S'→bf R cx' S' w'→Ext cx S w cx' S' w'→(∀ t,o.dst=some t→aM cx' S' w' v u)→K (a.put o.dst u) w') (hnx:∀ t,o.op ≠ .next (.tmp t) false) {i:Nat} (hi:ops[i]? = some o):wpOp C.P ops Kx i K a w:=by
 have hrefl:=Ext.refl (cx:=cx) w hS.wf
 unfold wpOp
 rw [hi]
 simp only
 cases h with
 | val hw ho hq =>
  rw [if_pos (eH he hw)]
  left
  obtain ⟨cx',w',u,k1,k2,k3,k4⟩:=fO hR hS he.eval o ho
  unfold Oper.wp
  rw [k1]
  exact hk _ _ cx' w' u hq k2 k3 (fun _ _=>k4)
 | skip hw ho hd hq =>
  rw [if_pos (eH he hw)]
  left
  obtain ⟨cx',w',k1,k2,k3⟩:=fO hR hS he.eval o ho
  unfold Oper.wp
  rw [k1]
  exact hk _ _ cx' w' undef hq k2 k3 (fun _ _=>.any _)
 | call hw ho hs =>
  rw [if_pos (eH he hw)]
  left
  obtain ⟨us,k1,k2,k3⟩:=fO hR hS he.eval o ho
  obtain ⟨⟨fn,f1,f2,f3⟩,hcalls⟩:=hs
  unfold Oper.wp
  rw [k3 fn f1 f2 f3]
  refine (hcalls cx w us hS k1 k2).mono (fun en w' hen=>?_)
  obtain ⟨⟨p,v,S'⟩,⟨hp,hq⟩,cx',m1,m2,m3⟩:=hen
  simp only at hp
  subst hp
  obtain ⟨u,rfl,m3⟩:=m3
  exact hk _ _ cx' w' u hq m1 m2 (fun _ _=>m3)
 | no hw hq =>
  rw [if_neg (by rw [eH he hw]; simp)]
  exact hk _ _ cx w _ hq hS hrefl (fun _ _=>.tup [] [] rfl (fun i x v hx=>by simp at hx))
 | step h =>
  obtain ⟨e2,S2,hw,h⟩:=h
  obtain ⟨cx2,gS,gx,ge⟩:=hw cx w a hS he
  have:=qX hR h gS ge (K:=K) (Kx:=Kx) (fun v S' hq=>by obtain ⟨_,_,_,hc,_⟩:=hq; cases hc) (fun e' S' cx' w' u hq q1 q2 q3=>?_) hnx hi
  ·
   unfold wpOp at this
   rw [hi] at this
   exact this
  ·
   obtain ⟨e3,hw3,e4,v,S4,hq1,hq2,hq3⟩:=hq
   cases hq1
   refine hk v S' cx' w' u hq3 q1 (gx.trans q2) (fun t ht=>?_)
   have g1:=hq2 t ht
   rw [ht] at q3
   exact vZ (q3.weak hw3) g1
 | stepX h =>
  obtain ⟨e2,S2,hw,h⟩:=h
  obtain ⟨cx2,gS,gx,ge⟩:=hw cx w a hS he
  have:=qX hR h gS ge (K:=K) (Kx:=Kx) (fun v S' hq cx' w' u q1 q2 q3=>hx v S' cx' w' u hq q1 (gx.trans q2) q3) (fun e' S' cx' w' u hq q1 q2 q3=>?_) hnx hi
  ·
   unfold wpOp at this
   rw [hi] at this
   exact this
  ·
   obtain ⟨e3,hw3,v,hq2,hq3⟩:=hq
   refine hk v S' cx' w' u hq3 q1 (gx.trans q2) (fun t ht=>?_)
   have g1:=hq2 t ht
   rw [ht] at q3
   exact vZ (q3.weak hw3) g1
inductive kZ:List (Option AV)→List (Option AV)→Prop
 | nil:kZ [] []
 | new {x:Option AV} {a b:List (Option AV)} (k:kZ a b):kZ (x :: a) (none :: b)
 | old {x y:AV} {a b:List (Option AV)} (h:Less y x) (k:kZ a b):kZ (some y :: a) (some x :: b)
theorem kZ.get {a b:List (Option AV)} (h:kZ a b):∀ {k:Nat} {x:AV},b[k]? = some (some x)→∃ y,a[k]? = some (some y)∧Less y x:=by
 induction h with
 | nil=>intro k x h; simp at h
 | new k ih =>
  intro k x h
  cases k with
  | zero=>simp at h
  | succ k=>simpa using ih (by simpa using h)
 | old h k ih =>
  intro k x hx
  cases k with
  | zero=>simp at hx; subst hx; exact ⟨_,rfl,h⟩
  | succ k=>simpa using ih (by simpa using hx)
theorem rV.step {ops:Array Oper} (hr:qK ops=true) (hnt:∀ (k:Nat) (o:Oper) (t:Nat),ops[k]? = some o→o.dst=some t→t < nt) {e0:Env} {listed:Array Bool} (hsz:listed.size=ops.size) (hcl:Closed ops listed) {ws ws':List (Option AV)} {i:Nat} (hle:∀ k x,k ≠ i→ws[k]? = some (some x)→∃ y,ws'[k]? = some (some y)∧Less y x) {cx cx':Cx} {S S':St} {w w':World} {a:Act} (h:rV nt ops e0 listed ws cx S w a)
  {o:Oper} (hi:ops[i]? = some o) (hun:listed.getD i false=false) (ex:Ext cx S w cx' S' w') {u:Value} (hu:∀ t,o.dst=some t→∃ x,ws'[i]? = some (some x)∧aM cx' S' w' x u):rV nt ops e0 (listed.setIfInBounds i true) ws' cx' S' w' (a.put o.dst u):=by
 have hlt:i < ops.size:=(Array.getElem?_eq_some_iff.1 hi).1
 have size:nt ≤ (a.put o.dst u).tmps.size:=by
  cases hd:o.dst with
  | none=>exact h.size
  | some t=>simp only [Act.put,Array.size_setIfInBounds]; exact h.size
 have keep:∀ t,o.dst ≠ some t→(a.put o.dst u).tmps[t]? = a.tmps[t]?:=fun t ht=>by
  cases hd:o.dst with
  | none=>rfl
  | some d =>
   have:d ≠ t:=fun q=>ht (by rw [hd,q])
   simp only [Act.put]
   rw [Array.getElem?_setIfInBounds_ne this]
 refine ⟨size,fun k ok t hk hd hlk hlast=>?_,fun t x hx hno=>?_⟩
 ·
  by_cases hki:k=i
  ·
   subst hki
   rw [hi] at hk; cases hk
   obtain ⟨x,hx,hr⟩:=hu t hd
   refine ⟨x,hx,u,?_,hr⟩
   have htn:=hnt k o t hi hd
   have:=h.size
   rw [hd]
   simp only [Act.put]
   rw [Array.getElem?_setIfInBounds_self_of_lt (by omega)]
  ·
   have hlk':listed.getD k false=true:=by rwa [getD_set_ne false (fun q=>hki q.symm)] at hlk
   have hklt:k < ops.size:=(Array.getElem?_eq_some_iff.1 hk).1
   have hdi:o.dst ≠ some t:=fun hdi=>by
    have hik:=hlast i o (fun q=>hki q.symm) hi hdi (by have hlt':i < listed.size:=(by omega); simp [hlt'])
    obtain ⟨r1,r2,_⟩:=mo hr hk
    have:=r2 i o hik hi
    split at this
    ·
     rename_i hb
     have:=hcl k hlk' i hik hb
     rw [hun] at this; cases this
    ·
     simp only [Oper.apart,hdi,hd,Bool.and_eq_true] at this
     simp at this
   obtain ⟨x,hx,v,v1,v2⟩:=h.new k ok t hk hd hlk' (fun j o' hjk hj hdj hlj=>hlast j o' hjk hj hdj (by
    by_cases hji:i=j
    ·
     subst hji; rw [hun] at hlj; cases hlj
    ·
     rw [getD_set_ne false hji]; exact hlj))
   obtain ⟨y,hy,hyx⟩:=hle k x hki hx
   exact ⟨y,hy,v,by rw [keep t hdi]; exact v1,hyx _ _ _ _ (v2.mono ex)⟩
 ·
  have hdi:o.dst ≠ some t:=fun hdi=>by
   have:=hno i o hi hdi
   have hlt':i < listed.size:=by omega
   simp [hlt'] at this
  obtain ⟨v,v1,v2⟩:=h.old t x hx (fun j o' hj hdj=>by
   have:=hno j o' hj hdj
   by_cases hji:i=j
   ·
    subst hji; exact hun
   ·
    rwa [getD_set_ne false hji] at this)
  exact ⟨v,by rw [keep t hdi]; exact v1,v2.mono ex⟩
inductive RL (R:bT) (C:gq) (nt:Nat) (ops:Array Oper) (srcs:List Src) (e0:Env) (ws:List (Option AV)) (S:St):List Nat→Prop
 | nil:RL R C nt ops srcs e0 ws S []
 | cons {i:Nat} {o:Oper} {x:AV} {e:Env} {os:List Nat} (ho:ops[i]? = some o) (hx:ws[i]? = some (some x)) (he:oh ws e0 (srcs.getD i [])=some e) (h:JA R C nt ops S e o x) (k:RL R C nt ops srcs e0 ws S os):RL R C nt ops srcs e0 ws S (i :: os)
theorem RL.get {ops:Array Oper} {srcs:List Src} {e0:Env} {ws:List (Option AV)} {S:St} {os:List Nat} (h:RL R C nt ops srcs e0 ws S os):∀ {i:Nat},i ∈ os→∃ o x e,ops[i]? = some o∧ws[i]? = some (some x)∧oh ws e0 (srcs.getD i [])=some e∧JA R C nt ops S e o x:=by
 induction h with
 | nil=>intro i h; cases h
 | cons ho hx he h k ih =>
  intro i hi
  rcases List.mem_cons.1 hi with rfl | hi
  ·
   exact ⟨_,_,_,ho,hx,he,h⟩
  ·
   exact ih hi
def EG (i:Nat) (l:List Nat):Bool:=l.any fun j=>Nat.beq j i
theorem xu {i:Nat} {l:List Nat}:EG i l=true↔i ∈ l:=by
 simp only [EG,List.any_eq_true]
 constructor
 ·
  rintro ⟨j,hj,hb⟩; rw [← Nat.eq_of_beq_eq_true hb]; exact hj
 ·
  intro h; exact ⟨i,h,Nat.beq_refl i⟩
def y9 (ops:Array Oper) (os done:List Nat) (w:Option Nat) (W:List Nat):Bool :=
 (os.all fun j=>!EG j W) &&   (List.range ops.size).all fun i=>EG i os || EG i done || (done.any fun d=>Nat.testBit ((Region.before ops).getD d 0) i) || (match w with | some w=>Nat.beq i w || Nat.testBit ((Region.before ops).getD i 0) w | none=>false)
def EO (R:bT) (C:gq) (nt:Nat) (ops:Array Oper) (srcs:List Src) (fin:Src) (e0:Env) (PQ:AV→St→Prop) (Q:Env→St→Prop):List Nat→List Nat→List (Option AV)→St→Prop
 | [],done,ws,S=>∃ os,y9 ops os done none []=true∧RL R C nt ops srcs e0 ws S os∧∃ E,oh ws e0 fin=some E∧Q E S
 | i :: W,done,ws,S=>∃ os,y9 ops os done (some i) (i :: W)=true∧RL R C nt ops srcs e0 ws S os∧∃ o e,ops[i]? = some o∧oh ws e0 (srcs.getD i [])=some e ∧
   KI R C nt ops S e o PQ (fun v S'=>∃ ws',kZ ws' ws∧(∀ t,o.dst=some t→∃ x,ws'[i]? = some (some x)∧Less x v)∧EO R C nt ops srcs fin e0 PQ Q W (i :: done) ws' S')
def GM (ops:Array Oper) (nt:Nat) (srcs:List Src) (fin:Src):Bool :=
 qK ops && DK ops fin && (List.range ops.size).all fun i=>Cg ops ((Region.before ops).getD i 0) i (srcs.getD i []) && (match ops[i]? with | some o=>(match o.dst with | some t=>Nat.blt t nt | none=>true) && (match o.op with | .next _ _=>false | _=>true) | none=>true)
theorem ax.jH (hR:mE R C) (hm:C.P.follows .mixedOrders=true) {id:Nat} {ops:Array Oper} (srcs:List Src) (fin:Src) (ht:GM ops nt srcs fin=true) (W:List Nat) (hWn:W.Nodup) {e0:Env} {S:St} (ws:List (Option AV)) {Q:rq→Prop}
  (h:EO R C nt ops srcs fin e0 (fun v S'=>Q (.panic v,e0,S')) (fun e' S'=>Q (.normal,e',S')) W [] ws S):ax R C.P nt (.region id ops true) e0 S Q:=by
 simp only [GM,Bool.and_eq_true] at ht
 obtain ⟨⟨hr,hfin⟩,hall⟩:=ht
 have hsrc:∀ i,i < ops.size→Cg ops ((Region.before ops).getD i 0) i (srcs.getD i [])=true:=fun i hi=>by
  have:=List.all_eq_true.1 hall i (List.mem_range.2 hi)
  simp only [Bool.and_eq_true] at this
  exact this.1
 have hnt:∀ (k:Nat) (o:Oper) (t:Nat),ops[k]? = some o→o.dst=some t→t < nt:=fun k o t hk hd=>by
  have:=List.all_eq_true.1 hall k (List.mem_range.2 (Array.getElem?_eq_some_iff.1 hk).1)
  simp only [Bool.and_eq_true,hk,hd] at this
  exact Nat.le_of_ble_eq_true this.2.1
 have hnx:∀ (k:Nat) (o:Oper),ops[k]? = some o→∀ t,o.op ≠ .next (.tmp t) false:=fun k o hk t ho=>by
  have:=List.all_eq_true.1 hall k (List.mem_range.2 (Array.getElem?_eq_some_iff.1 hk).1)
  simp only [Bool.and_eq_true,hk,ho] at this
  cases this.2.2
 intro cx w a Kx hS he hk
 refine wp_region_any hm ?_
 obtain ⟨d1,d2⟩:=oN hR.toObjOk hS
 let Inv:Array Bool→Act→World→Prop:=fun listed a' w'=>a'.defers=a.defers∧∃ W' done ws' S' cx',EO R C nt ops srcs fin e0 (fun v S'=>Q (.panic v,e0,S')) (fun e' S'=>Q (.normal,e',S')) W' done ws' S'∧(∀ i ∈ done,listed.getD i false=true)∧(∀ i ∈ W',listed.getD i false=false)∧W'.Nodup ∧
  bf R cx' S' w'∧Ext cx S w cx' S' w'∧rV nt ops e0 listed ws' cx' S' w' a'
 have repf:∀ i,(Array.replicate ops.size false).getD i false=false:=fun i=>DF _ _
 refine Gq hr Inv ?_ ?_ ops.size (Array.replicate ops.size false) (by simp) (fun j hj=>by rw [repf] at hj; cases hj) ?_ ?_
 ·
  intro listed a' w' i o K hsz hcl hun hi hclo ⟨hd,W',done,ws',S',cx',hD,hdone,hW',hnd,s1,x1,env⟩ hK
  have hlt:i < ops.size:=(Array.getElem?_eq_some_iff.1 hi).1
  have rstep:∀ os,RL R C nt ops srcs e0 ws' S' os→i ∈ os→i ∉ W'→wpOp C.P ops Kx i K a' w':=fun os hrl hio hiw=>by
   obtain ⟨o2,x,e,h1,h2,h3,h4⟩:=hrl.get hio
   rw [hi] at h1; cases h1
   have hrel:=BD hr hcl env hlt hun hclo h3 (hsrc i hlt)
   refine DT hR h4 s1 hrel (fun cx2 w2 u q1 q2 q3=>hK _ _ ⟨by rw [put_defers]; exact hd,W',done,ws',S',cx2,hD,fun j hj=>?_,fun j hj=>?_,hnd,q1,x1.trans q2,?_⟩) (hnx i o hi) hi
   ·
    by_cases hij:i=j
    ·
     subst hij; exact getD_set_true (hdone i hj)
    ·
     rw [getD_set_ne false hij]; exact hdone j hj
   ·
    have hij:i ≠ j:=fun q=>hiw (q ▸ hj)
    rw [getD_set_ne false hij]; exact hW' j hj
   ·
    exact rV.step hr hnt hsz hcl (fun k y _ hy=>⟨y,hy,.refl y⟩) env hi hun q2 (fun t ht=>⟨x,h2,q3 t ht⟩)
  have cov:∀ os w0,y9 ops os done w0 W'=true→(i ∈ os∧i ∉ W')∨∃ w1,w0=some w1∧(i=w1∨listed.getD w1 false=true):=fun os w0 hc=>by
   simp only [y9,Bool.and_eq_true] at hc
   obtain ⟨c1,c2⟩:=hc
   have:=List.all_eq_true.1 c2 i (List.mem_range.2 hlt)
   simp only [Bool.or_eq_true] at this
   rcases this with ((q | q) | q) | q
   ·
    left
    have hio:=xu.1 q
    refine ⟨hio,fun hiw=>?_⟩
    have:=List.all_eq_true.1 c1 i hio
    rw [xu.2 hiw] at this; cases this
   ·
    have:=hdone i (xu.1 q)
    rw [hun] at this; cases this
   ·
    obtain ⟨d,hd1,hd2⟩:=List.any_eq_true.1 q
    have hl:=hdone d hd1
    have hdlt:d < ops.size:=by
     rcases Nat.lt_or_ge d ops.size with q | q
     ·
      exact q
     ·
      have:listed.getD d false=false:=by simp [show listed.size ≤ d by omega]
      rw [hl] at this; cases this
    have:=hcl d hl i (qF hr hdlt hd2) hd2
    rw [hun] at this; cases this
   ·
    right
    cases w0 with
    | none=>cases q
    | some w1 =>
     simp only [Bool.or_eq_true] at q
     refine ⟨w1,rfl,q.imp Nat.eq_of_beq_eq_true (fun q=>hclo w1 (qF hr hlt q) q)⟩
  cases W' with
  | nil =>
   obtain ⟨os,hc,hrl,_⟩:=_root_.id hD
   rcases cov os none hc with h | ⟨w1,h,_⟩
   ·
    exact rstep os hrl h.1 h.2
   ·
    cases h
  | cons w0 W2 =>
   obtain ⟨os,hc,hrl,o2,e,h1,h2,h3⟩:=_root_.id hD
   rcases cov os (some w0) hc with h | ⟨w1,h,hq⟩
   ·
    exact rstep os hrl h.1 h.2
   ·
    cases h
    rcases hq with rfl | hq
    ·
     rw [hi] at h1; cases h1
     have hrel:=BD hr hcl env hlt hun hclo h2 (hsrc i hlt)
     refine Er hR h3 s1 hrel (fun v S2 cx2 w2 u hqv q1 q2 q3=>hk (.panic v,e0,S2) hqv cx2 a' w2 u q1 (x1.trans q2) q3 hd) (fun v S2 cx2 w2 u hqv q1 q2 q3=>?_) (hnx i o hi) hi
     obtain ⟨ws2,l1,l2,l3⟩:=hqv
     refine hK _ _ ⟨by rw [put_defers]; exact hd,W2,i :: done,ws2,S2,cx2,l3,fun j hj=>?_,fun j hj=>?_,(List.nodup_cons.1 hnd).2,q1,x1.trans q2,?_⟩
     ·
      by_cases hij:i=j
      ·
       subst hij
       have hlt':i < listed.size:=by omega
       simp [hlt']
      ·
       rw [getD_set_ne false hij]
       rcases List.mem_cons.1 hj with q | q
       ·
        exact absurd q.symm hij
       ·
        exact hdone j q
     ·
      have hij:i ≠ j:=fun q=>(List.nodup_cons.1 hnd).1 (q ▸ hj)
      rw [getD_set_ne false hij]; exact hW' j (List.mem_cons_of_mem _ hj)
     ·
      exact rV.step hr hnt hsz hcl (fun k y _ hy=>l1.get hy) env hi hun q2 (fun t ht=>by
       obtain ⟨x,k1,k2⟩:=l2 t ht
       exact ⟨x,k1,k2 _ _ _ _ (q3 t ht)⟩)
    ·
     have:=hW' w0 List.mem_cons_self
     rw [hq] at this; cases this
 ·
  intro listed a' w' hall' ⟨hd,W',done,ws',S',cx',hD,hdone,hW',hnd,s1,x1,env⟩
  cases W' with
  | nil =>
   obtain ⟨os,hc,hrl,E,hE,hQ⟩:=hD
   exact hk (.normal,E,S') hQ cx' a' w' s1 x1 (EC hall' env hE hfin) hd
  | cons w0 W2 =>
   obtain ⟨os,hc,hrl,o2,e,h1,h2,h3⟩:=hD
   have:=hall' w0 (Array.getElem?_eq_some_iff.1 h1).1
   rw [hW' w0 List.mem_cons_self] at this; cases this
 ·
  have:((List.range ops.size).filter fun i=>!(Array.replicate ops.size false).getD i false)=List.range ops.size:=by
   rw [List.filter_eq_self]; intro i hi; rw [repf]; rfl
  rw [this]; simp
 ·
  refine ⟨rfl,W,[],ws,S,cx,h,fun i hi=>(by cases hi),fun i hi=>repf i,hWn,d1,d2,he.size,fun k o t _ _ hl _=>?_,fun t x hx _=>?_⟩
  ·
   rw [repf] at hl; cases hl
  ·
   obtain ⟨v,v1,v2⟩:=he.rel t x hx
   exact ⟨v,v1,v2.mono d2⟩
end
end Go.Ev
namespace Go.Ev
end Go.Ev

namespace Go.Ev
noncomputable section
open Go.Shelf Go.RowKit Go.Proofs
set_option linter.unusedVariables false
set_option linter.unusedSimpArgs false
end
end Go.Ev

namespace Go.Ev
noncomputable section
open Go.Shelf Go.RowKit Go.Proofs
set_option linter.unusedVariables false
set_option linter.unusedSimpArgs false
structure IY (T e:Nat) (b:Nat) (p v:Value) (xs:List Value) (w:World):Prop where
 hp:p=.pointer none∨p=.pointer (some ⟨b,0,none⟩)
 blk:w.heap[b]? = some (.cells #[p,v] T (0,0))
 own:w.ownsRow 0 e 1 v xs.length xs
 ne:v.ownBlock ≠ some b
end
end Go.Ev

namespace Go.Ev
noncomputable section
open Go.Shelf Go.RowKit Go.Proofs
set_option linter.unusedVariables false
set_option linter.unusedSimpArgs false
def Ho (T e:Nat) (k:Nat) (x:D) (w:World) (b:Nat) (F:Nat→Prop):Prop :=
 k=1∧∃ l p v,x=.str l∧IY T e b p v (Lib.byteCells l) w∧∀ c,F c↔(c=b∨v.ownBlock=some c)
def IZ (k:Nat) (w:World) (b:Nat) (F:Nat→Prop):Prop:=k=3∧b < w.heap.size∧∀ c,F c↔c=b
def JV (T e:Nat) (G:World→(Nat→Nat→Prop)→Prop):bT:={ rel:=fun k x w b F=>Ho T e k x w b F∨IZ k w b F,G:=G }
def FN (G:World→(Nat→Nat→Prop)→Prop):Prop :=
 ∀ (w w':World) (fr fr':Nat→Nat→Prop),G w fr→(∀ (b o:Nat) (v:Value),¬ fr b o→w.cell? ⟨b,o,none⟩=some v→w'.cell? ⟨b,o,none⟩=some v∧¬ fr' b o)→(∀ b,b < w.heap.size→(∀ o,¬ fr b o)→w'.heap[b]? = w.heap[b]?∧∀ o,¬ fr' b o)→G w' fr'
theorem Eg {e:Nat} {v:Value} {n:Nat} {xs:List Value} {w w':World} (h:w.ownsRow 0 e 1 v n xs) (hk:∀ c,v.ownBlock=some c→w'.heap[c]? = w.heap[c]?):w'.ownsRow 0 e 1 v n xs:=by
 refine ⟨h.1,?_⟩
 rcases h.2 with q | ⟨g,cap,cur,rfl,q1,q2,q3⟩
 ·
  exact .inl q
 ·
  exact .inr ⟨g,cap,cur,rfl,q1,by rw [hk g rfl]; exact q2,q3⟩
theorem Ja {T e:Nat} {G:World→(Nat→Nat→Prop)→Prop} (hG:FN G):ObjOk (JV T e G) where
 frame:=fun k x w w' b F h hF=>by
  rcases h with h | ⟨h1,h2,h3⟩
  ·
   obtain ⟨hk,l,p,v,hx,⟨h1,h2,h3,h4⟩,hf⟩:=h
   exact .inl ⟨hk,l,p,v,hx,⟨h1,by rw [hF b ((hf b).2 (.inl rfl))]; exact h2,Eg h3 (fun c hc=>hF c ((hf c).2 (.inr hc))),h4⟩,hf⟩
  ·
   refine .inr ⟨h1,?_,h3⟩
   have:=hF b ((h3 b).2 rfl)
   rcases Nat.lt_or_ge b w'.heap.size with q | q
   ·
    exact q
   ·
    rw [Array.getElem?_eq_none q,Array.getElem?_eq_getElem h2] at this; cases this
 lt:=fun k x w b F h=>by
  rcases h with h | ⟨h1,h2,h3⟩
  ·
   obtain ⟨hk,l,p,v,hx,⟨h1,h2,h3,h4⟩,hf⟩:=h
   refine ⟨fun c hc=>?_,(hf b).2 (.inl rfl)⟩
   rcases (hf c).1 hc with rfl | hc
   ·
    rcases Nat.lt_or_ge c w.heap.size with q | q
    ·
     exact q
    ·
     rw [Array.getElem?_eq_none q] at h2; cases h2
   ·
    exact (h3.lt c hc).2
  ·
   exact ⟨fun c hc=>by rw [(h3 c).1 hc]; exact h2,(h3 b).2 rfl⟩
 it:=fun x w b F=>by
  constructor
  ·
   rintro (⟨h,_⟩ | ⟨_,h1,h2⟩)
   ·
    cases h
   ·
    exact ⟨h1,h2⟩
  ·
   rintro ⟨h1,h2⟩
   exact .inr ⟨rfl,h1,h2⟩
 stat:=hG
end
end Go.Ev

namespace Go.Ev
noncomputable section
open Go.Shelf Go.RowKit Go.Proofs
set_option linter.unusedVariables false
set_option linter.unusedSimpArgs false
abbrev Prim:=List AV→St→Option (AV × St)
structure wV (R:bT) (P:Program) (f:Nat) (p:Prim):Prop where
 pure:∀ args S v S',p args S=some (v,S')→(lK args).isSome=true→(xJ v).isSome=true→∀ S2,p args S2=some (v,S2)
 calls:∀ args S v S',p args S=some (v,S')→(∃ fn,P.funcs[f]? = some fn∧fn.body.isSome=true∧fn.name ≠ "runtime.NumGoroutine") ∧
  ∀ cx w (us:List Value),bf R cx S w→us.length=args.length→(∀ (i:Nat) (x:AV) (u:Value),args[i]? = some x→us[i]? = some u→aM cx S w x u) →
  Calls P f us.toArray w (fun e w'=>∃ cx',bf R cx' S' w'∧Ext cx S w cx' S' w'∧∃ u,e=.returned u∧aM cx' S' w' v u)
end
end Go.Ev

namespace Go.Ev
noncomputable section
open Go.Shelf Go.RowKit Go.Proofs
set_option linter.unusedVariables false
set_option linter.unusedSimpArgs false
def Leaves (w:World) (fr:Nat→Nat→Prop) (v:AV) (e:Ending) (w':World):Prop :=
 Below w.heap.size w w'∧∃ u,e=.returned u∧∀ cx S,cx.fr=fr→aM cx S w' v u
def lG (spec:List D→Option AV):Prim:=fun args S=>match lK args with
 | some ds=>(spec ds).map fun v=>(v,S)
 | none=>none
theorem uM {R:bT} (hR:ObjOk R) {P:Program} {f:Nat} {spec:List D→Option AV} (hd:∀ ds v,spec ds=some v→(xJ v).isSome=true)
  (hb:∃ fn,P.funcs[f]? = some fn∧fn.body.isSome=true∧fn.name ≠ "runtime.NumGoroutine")
  (hc:∀ ds v,spec ds=some v→∀ (w:World) (fr:Nat→Nat→Prop) (us:List Value),R.G w fr→(∀ b o,fr b o→b < w.heap.size)→us.length=ds.length→(∀ (i:Nat) (y:D) (u:Value),ds[i]? = some y→us[i]? = some u→bH w fr y u) →
   Calls P f us.toArray w (Leaves w fr v)):wV R P f (lG spec) where
 pure:=fun args S v S' h _ _ S2=>by
  unfold lG at h ⊢
  split at h
  ·
   rename_i ds hds
   simp only [Option.map_eq_some_iff,Prod.mk.injEq] at h
   obtain ⟨a,h1,rfl,_⟩:=h
   simp [hds,h1]
  ·
   cases h
 calls:=fun args S v S' h=>⟨hb,fun cx w us hS hl hr=>by
  unfold lG at h
  split at h
  ·
   rename_i ds hds
   simp only [Option.map_eq_some_iff,Prod.mk.injEq] at h
   obtain ⟨a,h1,rfl,rfl⟩:=h
   obtain ⟨d1,d2⟩:=tO hds
   refine (hc ds a h1 w cx.fr us hS.stat hS.lt (by rw [hl,d1]) (fun i y u hy hu=>?_)).mono (fun e w' hp=>?_)
   ·
    have hlt:i < args.length:=by rw [← d1]; exact (List.getElem?_eq_some_iff.1 hy).1
    have ha:=List.getElem?_eq_getElem hlt
    exact kQ (d2 i _ y ha hy) (hr i _ u ha hu)
   ·
    obtain ⟨hbl,u,rfl,hv⟩:=hp
    have e:Ext cx S w cx S w':=Ext.old hS hbl.size (fun b hb=>hbl.block b hb) hbl.os hbl.tape hbl.output
    exact ⟨cx,bf.old hR hS hbl.size (fun b hb=>hbl.block b hb) e,e,u,rfl,hv cx S rfl⟩
  ·
   cases h⟩
theorem Dr (w:World) (fr:Nat→Nat→Prop) (l:List UInt8):bH w fr (.str l) (.string ⟨l.toArray⟩):=by
 have:=gX.str (w:=w) (fr:=fr) ⟨l.toArray⟩
 exact bH.of_cell (by simpa using this) rfl
theorem CY {w:World} {fr:Nat→Nat→Prop} {l:List UInt8} {u:Value} (h:bH w fr (.str l) u):u=.string ⟨l.toArray⟩:=by
 have a:=h.val rfl
 cases a
 simp
def wh:List D→Option AV
 | [.str s,.str c]=>if s.length ≤ bound∧c.length ≤ 1000∧(c.all fun b=>decide (b.toNat < 128))=true then some (.d (.str (Lib.trimS s c))) else none
 | _=>none
theorem GQ {R:bT} (hR:ObjOk R) {P:Program} {ρ:Ren} (L:Lays.n160 P ρ) (h116:(P.info? (ρ.t 116)).map (fun i=>(i.zero,i.size))=some (some (.agg (Array.replicate 256 (.bool false))),256)) :
  wV R P (ρ.f 160) (lG wh):=by
 refine uM hR (fun ds v h=>?_) ⟨_,L.f160,rfl,by show ¬ ("strings.Trim" = "runtime.NumGoroutine"); decide⟩ (fun ds v h w fr us hG hfr hl hr=>?_)
 ·
  unfold wh at h
  split at h
  ·
   split at h
   ·
    simp only [Option.some.injEq] at h; subst h; rfl
   ·
    cases h
  ·
   cases h
 ·
  unfold wh at h
  split at h
  ·
   rename_i s c
   split at h
   ·
    rename_i hc
    obtain ⟨h1,h2,h3⟩:=hc
    simp only [Option.some.injEq] at h; subst h
    match us,hl with
    | [u0,u1],_ =>
    obtain rfl:=CY (hr 0 _ _ rfl rfl)
    obtain rfl:=CY (hr 1 _ _ rfl rfl)
    refine (Any.strings_Trim_laid L h116 ⟨s.toArray⟩ ⟨c.toArray⟩ w (by simp [ByteArray.size]; unfold bound at h1; omega) (by simp [ByteArray.size]; omega) (by simpa using ascii_of_all h3)).mono (fun e w' hp=>?_)
    obtain ⟨rfl,hb⟩:=hp
    exact ⟨hb,_,rfl,fun cx S _=>.d _ _ (by simpa using Dr w' cx.fr (Lib.trimS s c))⟩
   ·
    cases h
  ·
   cases h
end
end Go.Ev

namespace Go.Ev
noncomputable section
set_option linter.unusedVariables false
end
end Go.Ev

namespace Go.Ev
noncomputable section
set_option linter.unusedVariables false
set_option linter.unusedSimpArgs false
def Ea:Nat→Nat→Prop:=fun _ _=>False
structure mP (w:World) (ds:List D) (cs:List Value):Prop where
 len:cs.length=ds.length
 one:∀ v ∈ cs,v.oneCell'=true
 flat:∀ d ∈ ds,d.isAgg=false
 rel:∀ (i:Nat) (d:D) (v:Value),ds[i]? = some d→cs[i]? = some v→gX w Ea d [v]
theorem mP.nil {w:World}:mP w [] []:=⟨rfl,by simp,by simp,by simp⟩
theorem mP.append {w:World} {a b:List D} {x y:List Value} (h:mP w a x) (k:mP w b y):mP w (a ++ b) (x ++ y) where
 len:=by simp [h.len,k.len]
 one:=fun v hv=>by rcases List.mem_append.1 hv with q | q; exact h.one v q; exact k.one v q
 flat:=fun v hv=>by rcases List.mem_append.1 hv with q | q; exact h.flat v q; exact k.flat v q
 rel:=fun i d v hd hv=>by
  by_cases hi:i < a.length
  ·
   rw [List.getElem?_append_left hi] at hd
   rw [List.getElem?_append_left (by rw [h.len]; exact hi)] at hv
   exact h.rel i d v hd hv
  ·
   rw [List.getElem?_append_right (by omega)] at hd
   rw [List.getElem?_append_right (by rw [h.len]; omega),h.len] at hv
   exact k.rel _ d v hd hv
theorem mP.single {w:World} {d:D} {v:Value} (h:gX w Ea d [v]) (ho:v.oneCell'=true) (hd:d.isAgg=false):mP w [d] [v] where
 len:=rfl
 one:=by simpa using ho
 flat:=by simpa using hd
 rel:=fun i d' v' h1 h2=>by
  cases i with
  | zero=>simp at h1 h2; subst h1; subst h2; exact h
  | succ i=>simp at h1
theorem mP.Hf {w:World} {x:D} {cs:List Value} (h:mP w x.cells cs):gX w Ea x cs:=by
 cases hx:x.isAgg with
 | true =>
  cases x <;> simp [D.isAgg] at hx
  rename_i xs
  exact .agg xs cs h.len h.one h.flat h.rel
 | false =>
  have hc:x.cells=[x]:=by cases x <;> simp_all [D.isAgg,D.cells]
  rw [hc] at h
  have hl:=h.len
  match cs,hl with
  | [v],_=>exact h.rel 0 x v rfl rfl
def o7 (P:Program) (t:Nat) {α:Type} (enc:α→D) (wf:α→Prop):Prop :=
 ∀ {H:Type} (en:TypeId × Value→H) (w:World) (base:Nat) (sp:Nat→Bool) (held:Bool) (fuel:Nat) (cs:List Value) (d:DataW H) (p:List MemPlace),
  DataW.trod en P w base sp held fuel t cs=some (d,p)→∃ x,wf x∧mP w (enc x).cells cs
theorem o7.int {P:Program} {t:Nat} {k:IntKind} (hu:P.underlying t=some (.int k)):o7 P t (D.int k) (fun n=>(Lit.int k n).wf=true):=by
 intro H en w base sp held fuel cs d p h
 cases fuel with
 | zero=>cases h
 | succ fuel =>
  simp only [DataW.trod,hu] at h
  split at h <;> first | (simp_all; done) | skip
  rename_i k' k2 n heq
  simp only [Option.some.injEq,TypeDesc.int.injEq] at heq
  subst heq
  split at h
  ·
   rename_i hc
   obtain ⟨rfl,hw⟩:=hc
   exact ⟨n,hw,.single (.int _ _) rfl rfl⟩
  ·
   cases h
theorem o7.str {P:Program} {t:Nat} (hu:P.underlying t=some .string):o7 P t D.str (fun s=>s.length ≤ maxLen):=by
 intro H en w base sp held fuel cs d p h
 cases fuel with
 | zero=>cases h
 | succ fuel =>
  simp only [DataW.trod,hu] at h
  split at h <;> first | (simp_all; done) | skip
  rename_i s heq
  split at h
  ·
   rename_i hc
   exact ⟨s.data.toList,by simpa using hc,.single (.str _) rfl rfl⟩
  ·
   cases h
theorem um {w:World} {base:Nat} {a:Addr} {n:Nat} {cs:List Value} (h:w.cells? base a n=some cs):cs.length=n∧∀ j v,cs[j]? = some v→w.cell? (a.add j)=some v:=by
 unfold World.cells? at h
 split at h
 ·
  have hl:=mapM_some_length h
  refine ⟨by simpa using hl,fun j v hj=>?_⟩
  have hlt:j < n:=by have:=(List.getElem?_eq_some_iff.1 hj).1; rw [hl] at this; simpa using this
  have:=mapM_some_get h j j (by simp [hlt])
  rw [this,hj]
 ·
  cases h
theorem o7.slice {P:Program} {t e:Nat} {α:Type} {enc:α→D} {wf:α→Prop} (hu:P.underlying t=some (.slice e)) (he:o7 P e enc wf) (hsz:∀ x,(enc x).cells.length=P.cellsOf e) (h0:0 < P.cellsOf e) :
  o7 P t (KC enc) (fun l=>l.length ≤ maxLen∧∀ x ∈ l,wf x):=by
 intro H en w base sp held fuel cs d p h
 cases fuel with
 | zero=>cases h
 | succ fuel =>
  simp only [DataW.trod,hu] at h
  split at h <;> first | (simp_all; done) | skip
  ·
   exact ⟨[],⟨by simp,by simp⟩,.single (.sl0 none 0 false (fun h=>by cases h)) rfl rfl⟩
  ·
   rename_i e' a len cap heq
   simp only [Option.some.injEq,TypeDesc.slice.injEq] at heq
   subst heq
   split at h
   ·
    rename_i hc
    simp only [Option.bind_eq_some_iff] at h
    obtain ⟨els,hels,h⟩:=h
    have hl:=mapM_some_length hels
    have each:∀ i,i < len→∃ x ci,wf x∧w.cells? base (a.add (i * P.cellsOf e)) (P.cellsOf e)=some ci∧mP w (enc x).cells ci:=fun i hi=>by
     have hg:=mapM_some_get hels i i (by simp [hi])
     have hlt:i < els.length:=by rw [hl]; simpa using hi
     rw [List.getElem?_eq_getElem hlt,Option.bind_eq_some_iff] at hg
     obtain ⟨ci,h1,h2⟩:=hg
     obtain ⟨x,hx,hr⟩:=he en w base sp held fuel ci _ _ h2
     exact ⟨x,ci,hx,h1,hr⟩
    by_cases hz:len=0
    ·
     subst hz
     exact ⟨[],⟨by simp,by simp⟩,.single (.sl0 (some a) cap false (fun h=>by cases h)) rfl rfl⟩
    ·
     have hpos:0 < len:=by omega
     have hspot:a.spot=none:=by
      obtain ⟨x,ci,_,h1,_⟩:=each 0 hpos
      obtain ⟨l1,l2⟩:=um h1
      have hne:0 < ci.length:=by omega
      have:=l2 0 ci[0] (List.getElem?_eq_getElem hne)
      unfold World.cell? at this
      split at this
      ·
       split at this
       ·
        cases this
       ·
        rename_i hs; cases hsp:a.spot with
        | none=>rfl
        | some q=>simp [Addr.add,hsp] at hs
      ·
       cases this
     have:Inhabited α:=⟨(each 0 hpos).choose⟩
     let f:Nat→α:=fun i=>if hi:i < len then (each i hi).choose else default
     let g:Nat→List Value:=fun i=>if hi:i < len then (each i hi).choose_spec.choose else []
     have hfg:∀ i,i < len→wf (f i)∧w.cells? base (a.add (i * P.cellsOf e)) (P.cellsOf e)=some (g i)∧mP w (enc (f i)).cells (g i):=fun i hi=>by
      have:=(each i hi).choose_spec.choose_spec
      simp only [f,g,hi,dif_pos]
      exact this
     let l:=(List.range len).map f
     have hll:l.length=len:=by simp [l]
     have hli:∀ i x,l[i]? = some x→i < len∧x=f i:=fun i x hx=>by
      simp only [l,List.getElem?_map,Option.map_eq_some_iff] at hx
      obtain ⟨j,hj,rfl⟩:=hx
      have:=List.getElem?_eq_some_iff.1 hj
      obtain ⟨h1,h2⟩:=this
      simp at h1 h2
      subst h2
      exact ⟨h1,rfl⟩
     refine ⟨l,⟨by rw [hll]; omega,fun x hx=>?_⟩,?_⟩
     ·
      obtain ⟨i,hi,rfl⟩:=List.getElem_of_mem hx
      obtain ⟨h1,h2⟩:=hli i _ (List.getElem?_eq_getElem hi)
      rw [h2]; exact (hfg i h1).1
     ·
      have ha:a=⟨a.block,a.off,none⟩:=by rw [← hspot]
      refine .single ?_ rfl rfl
      rw [ha]
      have hlm:(l.map enc).length=len:=by simp [hll]
      have key:gX w Ea (.sl (l.map enc) false) [.slice (some ⟨a.block,a.off,none⟩) (l.map enc).length cap]:=by
       refine .sl (l.map enc) false a.block a.off cap (P.cellsOf e) g ?_ (by rw [hlm]; exact hc.2.1) (fun h=>by cases h) (fun i x hi=>?_) (fun i hi=>?_) (fun i x hi=>?_) (fun i j v hi hv=>?_)
       ·
        intro q; rw [q] at hlm; simp at hlm; omega
       ·
        rw [List.getElem?_map,Option.map_eq_some_iff] at hi
        obtain ⟨y,_,rfl⟩:=hi
        exact hsz y
       ·
        exact (um (hfg i (by rw [hlm] at hi; exact hi)).2.1).1
       ·
        rw [List.getElem?_map,Option.map_eq_some_iff] at hi
        obtain ⟨y,hy,rfl⟩:=hi
        obtain ⟨h1,rfl⟩:=hli i y hy
        exact (hfg i h1).2.2.Hf
       ·
        rw [hlm] at hi
        have:=(um (hfg i hi).2.1).2 j v hv
        refine ⟨?_,fun q=>q⟩
        rw [← this]
        congr 1
        have hz:∀ (b:Addr) (m:Nat),b.spot=none→b.add m=⟨b.block,b.off + m,none⟩:=fun b m hb=>by
         obtain ⟨b1,b2,b3⟩:=b
         cases hb
         cases m <;> simp [Addr.add]
        rw [hz a _ hspot,hz _ j rfl]
      rw [hlm] at key
      exact key
   ·
    cases h
def yO (P:Program) (fs:List Field) (off tot:Nat) {β:Type} (enc:β→List D) (wf:β→Prop):Prop :=
 ∀ {H:Type} (en:TypeId × Value→H) (w:World) (base:Nat) (sp:Nat→Bool) (held:Bool) (fuel:Nat) (cs:List Value) (xs:List (DataW H × List MemPlace)),
  (fs.mapM fun f=>DataW.trod en P w base sp held fuel f.type ((cs.drop f.offset).take (P.cellsOf f.type)))=some xs→∃ y,wf y∧mP w (enc y) ((cs.drop off).take tot)
theorem yO.nil {P:Program} {off:Nat}:yO P [] off 0 (fun _:Unit=>[]) (fun _=>True) :=
 fun en w base sp held fuel cs xs h=>⟨(),trivial,by simpa using mP.nil⟩
theorem yO.cons {P:Program} {f:Field} {fs:List Field} {off sz tot:Nat} {α β:Type} {enc:α→D} {wf:α→Prop} {enc2:β→List D} {wf2:β→Prop}
  (ho:f.offset=off) (hz:P.cellsOf f.type=sz) (h:o7 P f.type enc wf) (k:yO P fs (off + sz) tot enc2 wf2) :
  yO P (f :: fs) off (sz + tot) (fun p:α × β=>(enc p.1).cells ++ enc2 p.2) (fun p=>wf p.1∧wf2 p.2):=by
 intro H en w base sp held fuel cs xs hx
 simp only [List.mapM_cons,Option.pure_def,Option.bind_eq_bind,Option.bind_eq_some_iff] at hx
 obtain ⟨x,hx,ys,hys,_⟩:=hx
 rw [ho,hz] at hx
 obtain ⟨a,a1,a2⟩:=h en w base sp held fuel _ x.1 x.2 hx
 obtain ⟨b,b1,b2⟩:=k en w base sp held fuel cs ys hys
 refine ⟨(a,b),⟨a1,b1⟩,?_⟩
 rw [List.take_add,List.drop_drop]
 exact a2.append b2
theorem o7.struct {P:Program} {t tot:Nat} {fs:Array Field} {α β:Type} {enc:α→D} {wf:α→Prop} {enc2:β→List D} {wf2:β→Prop} (hu:P.underlying t=some (.struct fs)) (hz:P.cellsOf t=tot)
  (h:yO P fs.toList 0 tot enc2 wf2) (g:β→α) (hg:∀ y,(enc (g y)).cells=enc2 y) (hw:∀ y,wf2 y→wf (g y)):o7 P t enc wf:=by
 intro H en w base sp held fuel cs d p hd
 cases fuel with
 | zero=>cases hd
 | succ fuel =>
  simp only [DataW.trod,hu] at hd
  split at hd
  ·
   rename_i hc
   simp only [Option.map_eq_some_iff] at hd
   obtain ⟨xs,hxs,_⟩:=hd
   obtain ⟨y,y1,y2⟩:=h en w base sp held fuel cs xs hxs
   refine ⟨g y,hw y y1,?_⟩
   rw [hg y]
   rw [hz] at hc
   simpa [← hc] using y2
  ·
   cases hd
theorem Hl {P:Program} {t:Nat} {fs:Array Field} {α:Type} {enc:α→D} {wf:α→Prop} (hu:P.underlying t=some (.struct fs)) (O:o7 P t enc wf) (ha:∀ x,(enc x).isAgg=true)
  {H:Type} {en:TypeId × Value→H} {w:World} {base b0:Nat} {sp:Nat→Bool} {held:Bool} {v:Value} {d:DataW H} {p:List MemPlace} {r:Reach} (hval:Value.okWide P w r b0 t v) (hd:DataW.Trod en P w base sp held t v d p) :
  ∃ x,wf x∧bH w Ea (enc x) v:=by
 unfold Value.okWide at hval
 rw [hu] at hval
 obtain ⟨cs,rfl,_,_⟩:=hval
 obtain ⟨fuel,hf⟩:=hd
 obtain ⟨x,x1,x2⟩:=O en w base sp held fuel _ d p hf
 exact ⟨x,x1,x2.Hf,ha x⟩
theorem I6 {P:Program} {t:Nat} {α:Type} {enc:α→D} {wf:α→Prop} (O:o7 P t enc wf) (ha:∀ x,(enc x).isAgg=false)
  {H:Type} {en:TypeId × Value→H} {w:World} {base b0:Nat} {sp:Nat→Bool} {held:Bool} {v:Value} {d:DataW H} {p:List MemPlace} (hval:rF v=false) (hd:DataW.Trod en P w base sp held t v d p) :
  ∃ x,wf x∧bH w Ea (enc x) v:=by
 obtain ⟨fuel,hf⟩:=hd
 obtain ⟨x,x1,x2⟩:=O en w base sp held fuel _ d p hf
 exact ⟨x,x1,x2.Hf,by rw [hval]; exact ha x⟩
end
end Go.Ev

namespace Go.Ev
noncomputable section
set_option linter.unusedVariables false
set_option linter.unusedSimpArgs false
variable {R:bT} {C:gq} {P:Program}
theorem fT.GH {f:Nat} {p:Prim} (h:wV R P f p) {args:List AV} {S S':St} {v:AV} (hp:p args S=some (v,S')):fT R P f args S (fun r=>r=(none,v,S')):=by
 obtain ⟨h1,h2⟩:=h.calls args S v S' hp
 refine ⟨h1,fun cx w us q1 q2 q3=>(h2 cx w us q1 q2 q3).mono (fun e w' ⟨cx',k1,k2,u,k3,k4⟩=>⟨_,rfl,cx',k1,k2,u,k3,k4⟩)⟩
theorem di.Jd {f:Nat} {spec:List D→Option AV} (h:wV R P f (lG spec)) {ds:List D} {v:AV} (hv:spec ds=some v):di R P f ds v:=fun args S ha=>by
 have hp:lG spec (ds.map .d) S=some (v,S):=by
  unfold lG
  rw [Cq]
  simp [hv]
 exact (fT.GH h hp).xZ ha.G5
theorem Ga (hR:ObjOk R) {f:Nat} {ds:List D} {x:D} (h:di R P f ds (.d x)) (w:World) (hG:R.G w (fun _ _=>False)) (us:List Value) (hl:us.length=ds.length)
  (hr:∀ (i:Nat) (y:D) (u:Value),ds[i]? = some y→us[i]? = some u→bH w (fun _ _=>False) y u) :
  Calls P f us.toArray w (fun e w'=>∃ u,e=.returned u∧bH w' (fun _ _=>False) x u∧RowKit.Below w.heap.size w w'):=by
 let cx:Cx:={ bm:=fun _=>0,fp:=fun _ _=>False,iP:=fun _=>0,tot:=fun _=>0,fr:=fun _ _=>False }
 have hS:bf R cx aI w:=⟨fun id hl=>absurd rfl hl,fun id b hb=>by simp [aI,AL.get] at hb,fun id g cs hb=>by simp [aI,AL.get] at hb,fun id es hb=>by simp [aI,AL.get] at hb,
  fun id k x hb=>by simp [aI,AL.get] at hb,fun id en hb=>by simp [aI,AL.get] at hb,fun id id' b hl=>absurd rfl hl,fun b o q=>q.elim,hG⟩
 have h2:=(h (ds.map .d) aI ⟨ds,Cq ds,.refl ds⟩).2
 refine (h2 cx w us hS (by simp [hl]) (fun i y u hy hu=>?_)).mono (fun e w' he=>?_)
 ·
  simp only [List.getElem?_map,Option.map_eq_some_iff] at hy
  obtain ⟨z,hz,rfl⟩:=hy
  exact .d z u (hr i z u hz hu)
 ·
  obtain ⟨r,rfl,cx',k1,k2,k3⟩:=he
  obtain ⟨u,rfl,k3⟩:=k3
  obtain ⟨m1,m2,m3⟩:=yL hR hS k2
  exact ⟨u,rfl,m3 _ _ k3.dd,⟨m2.os,m2.tape,m2.output,m2.size,fun b hb=>(k2.other b hb (fun id hl=>absurd rfl hl)).1⟩⟩
end
end Go.Ev

namespace Go.Ev
noncomputable section
set_option linter.unusedVariables false
set_option linter.unusedSimpArgs false
variable {R:bT} {P:Program} {B:St}
theorem Az {S:St} {id:Nat}:live S id↔S.H.get id ≠ none∨S.T.get id ≠ none:=by
 unfold live cur
 cases hH:S.H.get id with
 | none=>simp
 | some b=>cases b <;> simp
def without (S:St) (ids:List Nat):St:=ids.foldl (fun S id=>{ S with H:=S.H.del id,T:=S.T.del id }) S
theorem oW:∀ (ids:List Nat) (S:St),(without S ids).nx=S.nx
 | [],S=>rfl
 | id :: l,S=>oW l { S with H:=S.H.del id,T:=S.T.del id }
theorem kN:∀ (ids:List Nat) (S:St) (k:Nat),(without S ids).H.get k=if k ∈ ids then none else S.H.get k
 | [],S,k=>by simp [without]
 | id :: l,S,k=>by
  show (without { S with H:=S.H.del id,T:=S.T.del id } l).H.get k=_
  rw [kN l]
  simp only [AL.vH]
  by_cases h1:k ∈ l
  ·
   simp [h1]
  ·
   by_cases h2:id=k
   ·
    subst h2; simp
   ·
    simp [h1,h2,Ne.symm h2]
theorem kK:∀ (ids:List Nat) (S:St) (k:Nat),(without S ids).T.get k=if k ∈ ids then none else S.T.get k
 | [],S,k=>by simp [without]
 | id :: l,S,k=>by
  show (without { S with H:=S.H.del id,T:=S.T.del id } l).T.get k=_
  rw [kK l]
  simp only [AL.vH]
  by_cases h1:k ∈ l
  ·
   simp [h1]
  ·
   by_cases h2:id=k
   ·
    subst h2; simp
   ·
    simp [h1,h2,Ne.symm h2]
theorem bU.there {S:St} {a:bU} (h:a.ok S):∀ id ∈ a.fp,S.H.get id ≠ none∨S.T.get id ≠ none:=fun id hid=>by
 cases a with
 | box i cs=>simp only [bU.fp,List.mem_singleton] at hid; subst hid; left; rw [show S.H.get id=_ from h]; simp
 | obj i k x=>simp only [bU.fp,List.mem_singleton] at hid; subst hid; left; rw [show S.H.get id=_ from h]; simp
 | map i m=>simp only [bU.fp,List.mem_singleton] at hid; subst hid; left; rw [show S.H.get id=_ from h]; simp
 | grow v xs =>
  cases v <;> simp only [bU.fp,List.not_mem_nil,List.mem_singleton] at hid
  subst hid
  right; rw [h.2.2.1]; simp
 | row sz v xs =>
  cases v <;> simp only [bU.fp,List.not_mem_nil,List.mem_singleton] at hid
  subst hid
  obtain ⟨cs,_,h8⟩:=h.2.2.2.2.2.2
  left; rw [h8]; simp
 | abs ids p=>obtain ⟨b,hb⟩:=h.1 id hid; left; rw [hb]; simp
theorem Has.frame {S:St} {l1 l2:List bU} (H:Has B S (l1 ++ l2)):∃ B',Has B' S l1∧∀ S' l1',Has B' S' l1'→(∀ id b,S'.H.get id=some b→S'.T.get id=none)→Has B S' (l1' ++ l2):=by
 let ids:=(l1.map bU.fp).flatten
 let B':=without S ids
 have hmem:∀ a ∈ l1,∀ id ∈ a.fp,id ∈ ids:=fun a ha id hid=>List.mem_flatten.2 ⟨_,List.mem_map.2 ⟨a,ha,rfl⟩,hid⟩
 have hnd:=H.nd
 rw [List.map_append,List.flatten_append,List.nodup_append] at hnd
 have hnot:∀ a ∈ l2,∀ id ∈ a.fp,id ∉ ids:=fun a ha id hid hq =>
  hnd.2.2 id hq id (List.mem_flatten.2 ⟨_,List.mem_map.2 ⟨a,ha,rfl⟩,hid⟩) rfl
 have hBids:∀ id ∈ ids,B.H.get id=none∧B.T.get id=none:=fun id hid=>by
  obtain ⟨GR,h1,h2⟩:=List.mem_flatten.1 hid
  obtain ⟨a,ha,rfl⟩:=List.mem_map.1 h1
  exact H.out a (List.mem_append_left _ ha) id h2
 have hwf:B'.Wf:=fun id hl=>by
  show id < B'.nx
  rw [oW]
  refine H.wf id (Az.2 ?_)
  rcases Az.1 hl with h | h
  ·
   rw [kN] at h
   split at h
   ·
    exact absurd rfl h
   ·
    exact .inl h
  ·
   rw [kK] at h
   split at h
   ·
    exact absurd rfl h
   ·
    exact .inr h
 refine ⟨B',⟨H.wf,fun a ha=>H.ok a (List.mem_append_left _ ha),hnd.1,hwf,⟨by rw [oW]; exact Nat.le_refl _,fun id b hb=>?_,fun id n hn=>?_⟩,fun a ha id hid=>?_⟩,fun S' l1' K hdis=>?_⟩
 ·
  rw [kN] at hb
  split at hb
  ·
   cases hb
  ·
   exact hb
 ·
  rw [kK] at hn
  split at hn
  ·
   cases hn
  ·
   exact hn
 ·
  have:=hmem a ha id hid
  rw [kN,kK,if_pos this,if_pos this]; exact ⟨rfl,rfl⟩
 ·
  have keepH:∀ id b,id ∉ ids→S.H.get id=some b→S'.H.get id=some b:=fun id b hn hb=>K.keeps.H id b (by rw [kN,if_neg hn]; exact hb)
  have keepT:∀ id n,id ∉ ids→S.T.get id=some n→S'.T.get id=some n:=fun id b hn hb=>K.keeps.T id b (by rw [kK,if_neg hn]; exact hb)
  have hok2:∀ a ∈ l2,a.ok S':=fun a ha=>by
   have hok:=H.ok a (List.mem_append_right _ ha)
   have hn:=hnot a ha
   cases a with
   | box id cs=>exact keepH _ _ (hn _ (by simp [bU.fp])) hok
   | obj id k x=>exact keepH _ _ (hn _ (by simp [bU.fp])) hok
   | map id m=>exact keepH _ _ (hn _ (by simp [bU.fp])) hok
   | grow v xs =>
    cases v with
    | tsl ys tok =>
     obtain ⟨h1,h2,h3,h4⟩:=hok
     have h3':=keepT _ _ (hn tok (by simp [bU.fp])) h3
     refine ⟨h1,h2,h3',?_⟩
     cases hb:S'.H.get tok with
     | none=>rfl
     | some b=>have:=hdis _ _ hb; rw [h3'] at this; cases this
    | d x=>cases x with
     | sl ys t=>cases t <;> exact hok
     | _=>exact hok
    | _=>exact hok
   | row sz v xs =>
    cases v with
    | msl id g off len lim sz' =>
     obtain ⟨h1,h2,h3,h4,h5,h6,cs,h7,h8⟩:=hok
     exact ⟨h1,h2,h3,h4,h5,h6,cs,h7,keepH _ _ (hn id (by simp [bU.fp])) h8⟩
    | d x=>cases x with
     | sl ys t=>cases ys <;> cases t <;> exact hok
     | _=>exact hok
    | _=>exact hok
   | abs ids' p=>exact bU.Jg hok (fun id b hid hb=>keepH _ _ (hn id hid) hb)
  refine ⟨K.wf,fun a ha=>?_,?_,H.bwf,⟨?_,fun id b hb=>?_,fun id n hn=>?_⟩,fun a ha id hid=>?_⟩
  ·
   rcases List.mem_append.1 ha with ha | ha
   ·
    exact K.ok a ha
   ·
    exact hok2 a ha
  ·
   rw [List.map_append,List.flatten_append,List.nodup_append]
   refine ⟨K.nd,hnd.2.1,fun a ha b hb hab=>?_⟩
   subst hab
   obtain ⟨GR,h1,h2⟩:=List.mem_flatten.1 ha
   obtain ⟨x,hx,rfl⟩:=List.mem_map.1 h1
   obtain ⟨GR,h3,h4⟩:=List.mem_flatten.1 hb
   obtain ⟨y,hy,rfl⟩:=List.mem_map.1 h3
   obtain ⟨o1,o2⟩:=K.out x hx a h2
   have hn:=hnot y hy a h4
   rw [kN,if_neg hn] at o1
   rw [kK,if_neg hn] at o2
   rcases bU.there (H.ok y (List.mem_append_right _ hy)) a h4 with q | q
   ·
    exact q o1
   ·
    exact q o2
  ·
   have:=K.keeps.nx
   rw [oW] at this
   exact Nat.le_trans H.keeps.nx this
  ·
   exact keepH id b (fun q=>by rw [(hBids id q).1] at hb; cases hb) (H.keeps.H id b hb)
  ·
   exact keepT id n (fun q=>by rw [(hBids id q).2] at hn; cases hn) (H.keeps.T id n hn)
  ·
   rcases List.mem_append.1 ha with ha | ha
   ·
    obtain ⟨o1,o2⟩:=K.out a ha id hid
    by_cases hq:id ∈ ids
    ·
     exact hBids id hq
    ·
     rw [kN,if_neg hq] at o1
     rw [kK,if_neg hq] at o2
     refine ⟨?_,?_⟩
     ·
      cases hb:B.H.get id with
      | none=>rfl
      | some b=>have:=H.keeps.H _ _ hb; rw [o1] at this; cases this
     ·
      cases hb:B.T.get id with
      | none=>rfl
      | some b=>have:=H.keeps.T _ _ hb; rw [o2] at this; cases this
   ·
    exact H.out a (List.mem_append_right _ ha) id hid
theorem Di.gK {cx:Cx} {S2 S:St} {w:World} {p:Option AV} {v:AV} {e:Ending} (k:jg S2 S) (h:Di cx S w p v e):Di cx S2 w p v e:=by
 cases p with
 | none=>obtain ⟨u,h1,h2⟩:=h; exact ⟨u,h1,h2.gK k⟩
 | some p=>obtain ⟨u,h1,h2⟩:=h; exact ⟨u,h1,h2.gK k⟩
theorem Ext.vJ {cx cx':Cx} {S S' S2:St} {w w':World} (k:jg S2 S') (e:Ext cx S w cx' S' w'):Ext cx S w cx' S2 w' where
 size:=e.size
 os:=e.os
 tape:=e.tape
 output:=e.output
 nx:=by rw [k.nx]; exact e.nx
 prot:=e.prot
 other:=fun b hb hn=>e.other b hb (fun id hl hf=>by
  obtain ⟨h1,g,h2,h3⟩:=hn id hl hf
  exact ⟨h1,g,h2,k.isIt.1 h3⟩)
 own:=fun id b hl hf=>e.own id b (k.live.1 hl) hf
 back:=fun id g hid h=>e.back id g hid (k.isIt.1 h)
 keep:=fun id g b hid h0 h hf=>e.keep id g b hid h0 (k.isIt.1 h) hf
 curs:=fun id g hid hc=>e.curs id g hid (by rw [← k.cur]; exact hc)
theorem fT.vJ {f:Nat} {args:List AV} {S:St} {Q:Out→Prop} (h:fT R P f args S (fun o=>∃ S2,jg S2 o.2.2∧Q (o.1,o.2.1,S2))):fT R P f args S Q :=
 ⟨h.1,fun cx w us h1 h2 h3=>(h.2 cx w us h1 h2 h3).mono fun e w' ⟨r,⟨S2,k,q⟩,cx',m1,m2,m3⟩=>⟨_,q,cx',m1.gK k,m2.vJ k,m3.gK k⟩⟩
def rZ (R:bT) (P:Program) (f:Nat) (args:List AV) (ins:List bU) (res:AV→List bU→Prop):Prop :=
 ∀ B S,Has B S ins→fT R P f args S (fun o=>o.1=none∧∃ v l,Less v o.2.1∧res v l∧Has B o.2.2 l)
section
variable {C:gq} {nt:Nat}
theorem rZ.of_wp {f:Nat} {fn:Func} {c:Code} (hf:C.P.funcs[f]? = some fn) (hc:fn.body=some c) (hn:(fn.name == "runtime.NumGoroutine")=false) {args:List AV} (hle:Nat.ble args.length fn.ntmps=true) {ins:List bU} {res:AV→List bU→Prop}
  (h:∀ B S,Has B S ins→ax R C.P fn.ntmps c (mR 0 args) S (EX C fn (fun o=>o.1=none∧∃ v l S2,jg S2 o.2.2∧Less v o.2.1∧res v l∧Has B S2 l))):rZ R C.P f args ins res:=fun B S hB=>by
 refine fT.vJ ((fT.of_wp hf hc hn (Nat.le_of_ble_eq_true hle) (h B S hB)).mono fun o ho=>?_)
 obtain ⟨h1,v,l,S2,h2,h3,h4,h5⟩:=ho
 exact ⟨S2,h2,h1,v,l,h3,h4,h5⟩
section steps
variable {ops:Array Oper} {rest:List Oper} {e:Env} {S S':St} {Q:Stp→Prop} {l l':List bU} {t ty:Nat} {p:String} {af:Array Edge} {g:Option (Nat × Bool)} {x y:Operand} {v:AV}
theorem ah.Ei {op:Op} {f:Nat} {args args':List AV} {ins more:List bU} {res:AV→List bU→Prop} (H:Has B S (ins ++ more)) (hw:dn ops e { dst:=some t,op:=op,type:=ty,pos:=p,after:=af,guard:=g }=some true) (ho:oper C (dX e) S op=some (.call f args)) (hs:rZ R C.P f args' ins res) (ha:dZ args' args) (ht:Nat.blt t nt=true)
  (k:∀ v S' l',res v l'→Has B S' (l' ++ more)→ah R C nt ops rest ((t,v) :: e) S' Q) :
  ah R C nt ops ({ dst:=some t,op:=op,type:=ty,pos:=p,after:=af,guard:=g } :: rest) e S Q:=by
 obtain ⟨B',h1,h2⟩:=H.frame
 refine ah.one hw (.inr (.inr (.inl ⟨f,args,ho,((hs B' S h1).xZ ha).pJ.mono fun r hr=>?_⟩)))
 obtain ⟨p,w,S'⟩:=r
 obtain ⟨⟨q1,v,l',q2,q3,q4⟩,hd⟩:=hr
 simp only at q1 q2 q3 q4 hd
 subst q1
 exact ⟨_,by simp only [Env.put,ht,cond_true],ah.weak (aa.top q2) (k v S' l' q3 (h2 S' l' q4 hd))⟩
end steps
end
theorem eF {C:gq} {ρ:Operand→Option AV} {S:St} {x:Operand} {i g o:Nat} (hx:ρ x=some (.ptr i g o)):oper C ρ S (.nilCheck x)=some (.val (.ptr i g o) S):=by simp only [oper,hx]
def FJ {α β:Type} (z:Option α) (a:Option β) (f:α→Option β):Option β:=match z with | none=>a | some x=>f x
theorem J6 {α β:Type} {a:Option β} {f:α→Option β} {r:β} (h:FJ none a f=some r):a=some r:=h
theorem Jq {α β:Type} {x:α} {a:Option β} {f:α→Option β} {r:β} (h:FJ (some x) a f=some r):f x=some r:=h
end
end Go.Ev

namespace Go.Ev
noncomputable section
set_option linter.unusedVariables false
set_option linter.unusedSimpArgs false
variable {R:bT} {C:gq} {nt:Nat} {B:St}
end
end Go.Ev

namespace Go.Ev
noncomputable section
set_option linter.unusedVariables false
set_option linter.unusedSimpArgs false
variable {R:bT} {P:Program} {B:St}
def tH (note:Str) (n:Int):D:=.agg [.int .i64 6,.str note,.int .i64 n]
def vX (FT:Nat) (note:Str) (n:Int):D:=.iface FT (tH note n)
def uK {α β:Type} (z:Option α) (f:α→Option (Option β)):Option (Option β):=match z with | none=>some none | some x=>f x
theorem pE {α β:Type} {f:α→Option (Option β)} {r:Option β} (h:uK none f=some r):r=none:=(Option.some.inj h).symm
theorem pK {α β:Type} {x:α} {f:α→Option (Option β)} {r:Option β} (h:uK (some x) f=some r):f x=some r:=h
def Kj {α:Type} (FT:Nat) (B:St) (z:Option α) (res:α→AV→List bU→Prop) (o:Out):Prop:=match z with
 | some x=>o.1=none∧∃ v l,Less v o.2.1∧res x v l∧Has B o.2.2 l
 | none=>∃ note n,o.1=some (.d (vX FT note n))∧Has B o.2.2 []
def IW {α:Type} (FT:Nat) (B:St) (z:Option α) (res:α→AV→List bU→Prop) (o:Out):Prop:=match z with
 | some x=>o.1=none∧∃ v l S2,jg S2 o.2.2∧Less v o.2.1∧res x v l∧Has B S2 l
 | none=>∃ note n,o.1=some (.d (vX FT note n))∧Has B o.2.2 []
def iW {α:Type} (R:bT) (P:Program) (FT f:Nat) (args:List AV) (ins:List bU) (z:Option α) (res:α→AV→List bU→Prop):Prop :=
 ∀ B S,Has B S ins→fT R P f args S (Kj FT B z res)
section
variable {C:gq} {nt:Nat} {α:Type} {FT:Nat}
theorem iW.of_wp {f:Nat} {fn:Func} {c:Code} (hf:C.P.funcs[f]? = some fn) (hc:fn.body=some c) (hn:(fn.name == "runtime.NumGoroutine")=false) {args:List AV} (hle:Nat.ble args.length fn.ntmps=true) {ins:List bU} {z:Option α} {res:α→AV→List bU→Prop}
  (h:∀ B S,Has B S ins→ax R C.P fn.ntmps c (mR 0 args) S (EX C fn (IW FT B z res))):iW R C.P FT f args ins z res:=fun B S hB=>by
 refine fT.vJ ((fT.of_wp hf hc hn (Nat.le_of_ble_eq_true hle) (h B S hB)).mono fun o ho=>?_)
 cases z with
 | none =>
  obtain ⟨note,n,h1,h2⟩:=ho
  exact ⟨o.2.2,.refl _,note,n,h1,h2⟩
 | some x =>
  obtain ⟨h1,v,l,S2,h2,h3,h4,h5⟩:=ho
  exact ⟨S2,h2,h1,v,l,h3,h4,h5⟩
section steps
variable {ops:Array Oper} {rest:List Oper} {e:Env} {S S':St} {Q:Stp→Prop} {l l':List bU} {t ty:Nat} {p:String} {af:Array Edge} {g:Option (Nat × Bool)} {x y:Operand} {v:AV}
theorem ah.pI {op:Op} {f:Nat} {args args':List AV} {ins more:List bU} {z:α} {res:α→AV→List bU→Prop} (H:Has B S (ins ++ more)) (hw:dn ops e { dst:=some t,op:=op,type:=ty,pos:=p,after:=af,guard:=g }=some true) (ho:oper C (dX e) S op=some (.call f args)) (hs:iW R C.P FT f args' ins (some z) res) (ha:dZ args' args) (ht:Nat.blt t nt=true)
  (k:∀ v S' l',res z v l'→Has B S' (l' ++ more)→ah R C nt ops rest ((t,v) :: e) S' Q) :
  ah R C nt ops ({ dst:=some t,op:=op,type:=ty,pos:=p,after:=af,guard:=g } :: rest) e S Q:=by
 obtain ⟨B',h1,h2⟩:=H.frame
 refine ah.one hw (.inr (.inr (.inl ⟨f,args,ho,((hs B' S h1).xZ ha).pJ.mono fun r hr=>?_⟩)))
 obtain ⟨p,w,S'⟩:=r
 obtain ⟨⟨q1,v,l',q2,q3,q4⟩,hd⟩:=hr
 simp only at q1 q2 q3 q4 hd
 subst q1
 exact ⟨_,by simp only [Env.put,ht,cond_true],ah.weak (aa.top q2) (k v S' l' q3 (h2 S' l' q4 hd))⟩
theorem ah.thrown {dst:Option Nat} {op:Op} {f:Nat} {args args':List AV} {ins more:List bU} {z:Option α} {res:α→AV→List bU→Prop} (hz:z=none) (H:Has B S (ins ++ more)) (hw:dn ops e { dst:=dst,op:=op,type:=ty,pos:=p,after:=af,guard:=g }=some true) (ho:oper C (dX e) S op=some (.call f args)) (hs:iW R C.P FT f args' ins z res) (ha:dZ args' args)
  (k:∀ note n S',Has B S' more→Q (.stop (.d (vX FT note n)) S')) :
  ah R C nt ops ({ dst:=dst,op:=op,type:=ty,pos:=p,after:=af,guard:=g } :: rest) e S Q:=by
 subst hz
 obtain ⟨B',h1,h2⟩:=H.frame
 refine ah.one hw (.inr (.inr (.inl ⟨f,args,ho,((hs B' S h1).xZ ha).pJ.mono fun r hr=>?_⟩)))
 obtain ⟨p,w,S'⟩:=r
 obtain ⟨⟨note,n,q1,q2⟩,hd⟩:=hr
 simp only at q1 q2 hd
 subst q1
 exact k note n S' (h2 S' [] q2 hd)
end steps
end
def AB:Nat→Nat→List UInt8
 | 0,_=>[]
 | k + 1,u=>if u < 10 then [UInt8.ofNat (48 + u)] else AB k (u / 10) ++ [UInt8.ofNat (48 + u % 10)]
def qN (n:Int):List UInt8:=if n < 0 then 45 :: AB 20 n.natAbs else AB 20 n.toNat
def strconv_Itoa (n:Nat) (x:Int):Option (List UInt8):=if -9223372036854775808 ≤ x∧x ≤ 9223372036854775807 then some (qN x) else none
end
end Go.Ev

namespace Go.Ev
noncomputable section
set_option linter.unusedVariables false
set_option linter.unusedSimpArgs false
variable {R:bT} {C:gq} {nt:Nat} {B:St}
section steps
variable {ops:Array Oper} {rest:List Oper} {e:Env} {S S':St} {Q:Stp→Prop} {l l':List bU} {t ty:Nat} {p:String} {af:Array Edge} {g:Option (Nat × Bool)} {x y:Operand} {v:AV}
theorem ah.raw {o:Oper} (h:GU R C nt ops o e S (fun r=>match r with | .go e' S'=>ah R C nt ops rest e' S' Q | .stop v S'=>Q (.stop v S'))):ah R C nt ops (o :: rest) e S Q :=
 ⟨e,S,.refl e S,.inr (.inr (.inr ⟨e,.refl e,h⟩))⟩
theorem ah.Ht {op:Op} (hw:dn ops e { dst:=some t,op:=op,type:=ty,pos:=p,after:=af,guard:=g }=some true) {v:AV}
  (h:∀ cx w a,bf R cx S w→gD cx S w nt e a→∃ u,(execOp a.eval { dst:=some t,op:=op,type:=ty,pos:=p,after:=af,guard:=g }).run C.P w=.ok (.value u) w∧aM cx S w v u) (ht:Nat.blt t nt=true)
  (k:ah R C nt ops rest ((t,v) :: e) S Q):ah R C nt ops ({ dst:=some t,op:=op,type:=ty,pos:=p,after:=af,guard:=g } :: rest) e S Q :=
 ah.raw ⟨hw,fun cx w a hS he=>by
  obtain ⟨u,h1,h2⟩:=h cx w a hS he
  exact .inl ⟨cx,w,u,v,S,_,h1,hS,Ext.refl w hS.wf,h2,by simp only [Env.put,ht,cond_true],k⟩⟩
theorem ah.Ef {T:Nat} {d:D} (hw:dn ops e { dst:=some t,op:=.makeInterface T x,type:=ty,pos:=p,after:=af,guard:=g }=some true) (hx:dX e x=some (.d d)) (hm:∀ v w,(Instr.makeInterface T v).run C.P w=.ok (.iface T v) w) (ht:Nat.blt t nt=true)
  (k:ah R C nt ops rest ((t,.d (.iface T d)) :: e) S Q):ah R C nt ops ({ dst:=some t,op:=.makeInterface T x,type:=ty,pos:=p,after:=af,guard:=g } :: rest) e S Q :=
 ah.Ht hw (fun cx w a hS he=>by
  have r:=(he.eval x _ hx).dd
  refine ⟨_,pq (hm _ w),.d _ _ ⟨.iface T d _ r.2 r.1,rfl⟩⟩) ht k
theorem xO {cx:Cx} {S:St} {w:World} {T:Nat} {d:D} {u:Value} (h:aM cx S w (.d (.iface T d)) u):∃ v,u=.iface T v∧aM cx S w (.d d) v:=by
 obtain ⟨r1,r2⟩:=h.dd
 have:u.cells.toList=[u]:=by cases u <;> first | rfl | (simp [rF,D.isAgg] at r2)
 rw [this] at r1
 clear this r2 h
 cases r1
 rename_i v hs hc
 exact ⟨v,rfl,.d _ _ ⟨hc,hs⟩⟩
theorem ah.panic {dst:Option Nat} {T:Nat} {d:D} (hw:dn ops e { dst:=dst,op:=.panic x,type:=ty,pos:=p,after:=af,guard:=g }=some true) (hx:dX e x=some (.d (.iface T d)))
  (k:Q (.stop (.d (.iface T d)) S)):ah R C nt ops ({ dst:=dst,op:=.panic x,type:=ty,pos:=p,after:=af,guard:=g } :: rest) e S Q :=
 ah.raw ⟨hw,fun cx w a hS he=>by
  have hr:=he.eval x _ hx
  obtain ⟨v,h1,_⟩:=xO hr
  refine .inr ⟨a.eval x,_,?_,hr,k⟩
  show (do pure (Next.value (← Instr.panic (a.eval x))):Sem Next).run C.P w=.halt (.panic (a.eval x)) w
  rw [h1]; rfl⟩
theorem ah.EM {T xT:Nat} {d:D} (hw:dn ops e { dst:=some t,op:=.typeAssert x xT T true,type:=ty,pos:=p,after:=af,guard:=g }=some true) (hx:dX e x=some (.d (.iface T d))) (hm:∀ v w,(Instr.typeAssert (.iface T v) xT T true).run C.P w=.ok (.tuple #[v,.bool true]) w) (ht:Nat.blt t nt=true)
  (k:ah R C nt ops rest ((t,.tup [.d d,.d (.bool true)]) :: e) S Q):ah R C nt ops ({ dst:=some t,op:=.typeAssert x xT T true,type:=ty,pos:=p,after:=af,guard:=g } :: rest) e S Q :=
 ah.Ht hw (fun cx w a hS he=>by
  obtain ⟨v,h1,h2⟩:=xO (he.eval x _ hx)
  refine ⟨.tuple #[v,.bool true],pq (by rw [h1]; exact hm v w),.tup _ [v,.bool true] rfl (fun i x y hx hy=>?_)⟩
  match i,hx,hy with
  | 0,hx,hy=>cases hx; cases hy; exact h2
  | 1,hx,hy=>cases hx; cases hy; exact .d _ _ ⟨.bool true,rfl⟩) ht k
theorem ah.IX {f:Nat} {caps:List AV} {T:Nat} {y:Operand} {ty1:Nat} (hw:dn ops e { dst:=some t,op:=.binOp .eql T x y ty1,type:=ty,pos:=p,after:=af,guard:=g }=some true) (hx:dX e x=some (.fn f caps)) (hy:∀ a:Act,a.eval y=.nilFunc)
  (hm:∀ vs w,(do eqGuard .eql T x y (.func (.func f) #[] vs) .nilFunc; binOp .eql T (.func (.func f) #[] vs) .nilFunc:Sem Value).run C.P w=.ok (.bool false) w) (ht:Nat.blt t nt=true)
  (k:ah R C nt ops rest ((t,.d (.bool false)) :: e) S Q):ah R C nt ops ({ dst:=some t,op:=.binOp .eql T x y ty1,type:=ty,pos:=p,after:=af,guard:=g } :: rest) e S Q :=
 ah.Ht hw (fun cx w a hS he=>by
  have h:=he.eval x _ hx
  generalize hu:a.eval x=u at h
  cases h with
  | fn _ _ vs hl h =>
   refine ⟨.bool false,pq ?_,.d _ _ ⟨.bool false,rfl⟩⟩
   rw [hu,hy]
   exact hm _ w) ht k
end steps
theorem uD {cx:Cx} {S:St} {w:World} {args:List AV} {us:List Value} {n:Nat} (hl:us.length=args.length) (hle:args.length ≤ n) (hr:∀ (i:Nat) (x:AV) (u:Value),args[i]? = some x→us[i]? = some u→aM cx S w x u) :
  gD cx S w n (mR 0 args) { tmps:=us.toArray ++ Array.replicate (n - us.toArray.size) undef,defers:=[] }:=by
 refine ⟨by simp; omega,fun t x hx=>?_⟩
 rw [rM] at hx
 simp only [Nat.zero_le,if_true,Nat.sub_zero] at hx
 have hlt:t < us.length:=by rw [hl]; exact (List.getElem?_eq_some_iff.1 hx).1
 have hu:=List.getElem?_eq_getElem hlt
 exact ⟨us[t],by rw [Array.getElem?_append_left (by simpa using hlt)]; simp,hr t x _ hx hu⟩
theorem ax.run {P:Program} {c:Code} {e:Env} {S:St} {Q:rq→Prop} (h:ax R P nt c e S Q) {cx:Cx} {w:World} {a:Act} {K:Exit→Act→World→Prop} (hS:bf R cx S w) (he:gD cx S w nt e a) (hk:∀ r,Q r→Fin R cx S w nt a K r):c.wp P K a w:=h cx w a K hS he hk
section raw
variable {P:Program} {ops:Array Oper} {a:Act} {w:World} {o1 o2:Oper}
theorem yo {Kx:Exit→Act→World→Prop} (h:ops = #[o1,o2]) (g1:o1.guard=none) (g2:o2.guard=none) {u:Value} {w1:World} (e1:(execOp a.eval o1).run P w=.ok (.value u) w1) (k:o2.upon P (a.put o1.dst u) (Kx .normal) Kx ((execOp (a.put o1.dst u).eval o2).run P w1)):wpOps P ops Kx (List.range ops.size) a w:=by
 subst h
 show wpOps P #[o1,o2] Kx [0,1] a w
 simp only [wpOps,List.getElem?_toArray,List.getElem?_cons_zero,List.getElem?_cons_succ,Region.wanted,g1,g2,if_true]
 left
 unfold Oper.wp
 rw [e1]
 left
 exact k
theorem wC {Q:Exit→Act→List Frame→World→Prop} {cs cs':List Frame} (h:ops = #[o1,o2]) (g1:o1.guard=none) (g2:o2.guard=none) {u u2:Value} (e1:(execOp a.eval o1).run P w=.ok .recover w) (hr:recoverD cs=some (u,cs')) (e2:(execOp (a.put o1.dst u).eval o2).run P w=.ok (.value u2) w)
  (k:Q .normal ((a.put o1.dst u).put o2.dst u2) cs' w):wpOpsS P ops Q (List.range ops.size) a cs w:=by
 subst h
 show wpOpsS P #[o1,o2] Q [0,1] a cs w
 simp only [wpOpsS,List.getElem?_toArray,List.getElem?_cons_zero,List.getElem?_cons_succ,Region.wanted,g1,g2,if_true,e1,hr,e2,Oper.upon]
 exact k
end raw
theorem Has.perm {B S:St} {l l':List bU} (h:Has B S l) (p:l.Perm l'):Has B S l' :=
 ⟨h.wf,fun a ha=>h.ok a (p.symm.subset ha),((p.map bU.fp).flatten.nodup_iff).1 h.nd,h.bwf,h.keeps,fun a ha=>h.out a (p.symm.subset ha)⟩
theorem uV {C:gq} {fn:Func} {e:Env} {S:St} {B:St} {l:List bU} (H:Has B S l) {a t i id a2 t2 i2 id2:Nat} {cs cs2:List AV} {v v2:AV} (hf:fn.results = #[.cell a t,.cell a2 t2]) (ha:AL.get e a=some (.ptr id 0 0)) (hi:l[i]? = some (.box id cs)) (hp:part C.P t cs 0=some v)
  (ha2:AL.get e a2=some (.ptr id2 0 0)) (hi2:l[i2]? = some (.box id2 cs2)) (hp2:part C.P t2 cs2 0=some v2):jD C fn e S=some (.tup [v,v2]):=by
 have hb:S.H.get id=some (.cells 0 cs):=H.at hi
 have hb2:S.H.get id2=some (.cells 0 cs2):=H.at hi2
 simp only [jD,hf,iM,uX,ha,ha2,mg,St.look,hb,hb2,Nat.beq_refl,cond_true,hp,hp2,Option.map_some]
theorem Act.A8 {a:Act} {t:Nat} {v:Value} (h:a.tmps[t]? = some v):a.eval (.tmp t)=v:=by
 simp [Act.eval,Array.getD_eq_getD_getElem?,h]
theorem results_none {fn:Func} (h:fn.results = #[]) (tmps:Array Value) (P:Program) (w:World):(results fn tmps).run P w=.ok (.tuple #[]) w:=by
 simp [results,h]
def He {α:Type} (z:Option α) (res:α→AV→List bU→Prop) (v:AV) (l:List bU):Prop:=match z with
 | some x=>∃ v',res x v' l∧v=.tup [.d (.agg [.int .i64 0,.str [],.int .i64 0]),.d (.bool true)]
 | none=>l=[]∧∃ note n,v=.tup [.d (tH note n),.d (.bool false)]
end
end Go.Ev

namespace Go.Ev
noncomputable section
set_option linter.unusedVariables false
set_option linter.unusedSimpArgs false
variable {R:bT} {B:St}
def Bp {α:Type} (xs ys:List α):Option (List α):=if ys.length ≤ xs.length∧0 < xs.length then some (ys ++ xs.drop ys.length) else none
theorem yA {sz:Nat}:∀ (n:Nat) (xs:List D),(∀ x ∈ xs,x.cells.length=sz)→((xs.map D.cells).flatten).drop (n * sz)=((xs.drop n).map D.cells).flatten
 | 0,xs,h=>by simp
 | n + 1,[],h=>by simp
 | n + 1,x :: xs,h=>by
  have hx:=h x List.mem_cons_self
  rw [List.map_cons,List.flatten_cons,List.drop_succ_cons,Nat.succ_mul,Nat.add_comm,← List.drop_drop,List.drop_left' hx]
  exact yA n xs (fun y hy=>h y (List.mem_cons_of_mem _ hy))
section
variable {C:gq} {ρ:Operand→Option AV} {S:St} {l:List bU} {x y:Operand} {t:Nat} {v:AV}
theorem yZ {i u:Nat} {vy:AV} {xs ys:List D} {el:Nat} (H:Has B S l) (hx:ρ x=some v) (hy:ρ y=some vy) (hi:l[i]? = some (.row (aK C.P el) v xs)) (hd:iH vy=some ys) (he:bL C.P t=some el) (hle:ys.length ≤ xs.length) (hp0:0 < xs.length) (hsy:sizes (aK C.P el) ys=true) (hfy:∀ z ∈ ys,lF z.cells=true) :
  ∃ S',oper C ρ S (.call { callee:=.builtin .copy,args:=#[x,y],argTypes:=#[t,u] })=some (.val (.d (.int .i64 (ys.length:Int))) S')∧Has B S' (l.set i (.row (aK C.P el) v (ys ++ xs.drop ys.length))):=by
 have hm:iM ρ [x,y]=some [v,vy]:=by simp only [iM,hx,hy,Option.map_some]
 obtain ⟨id,g,cs,rfl,hpos,hsz,hcs,hid⟩:=vK (H.at hi) (List.getElem?_eq_getElem hp0)
 have hlen:cs.length=xs.length * aK C.P el:=by
  have:=hcs.len
  rw [List.length_map,vO (fun x hx=>(hsz x hx).1)] at this; exact this.symm
 have hysz:=mf hsy
 have hylen:((ys.map D.cells).flatten.map AV.d).length=ys.length * aK C.P el:=by rw [List.length_map,vO (fun x hx=>hysz x hx)]
 have hmul:ys.length * aK C.P el ≤ xs.length * aK C.P el:=Nat.mul_le_mul_right _ hle
 have hsrc:=Cm (C:=C) (S:=S) hd hsy
 have hrow:nk vy=none:=by
  cases vy with
  | msl=>simp only [iH] at hd; cases hd
  | _=>first | rfl | (simp only [iH] at hd; cases hd)
 have hset:setAt cs 0 ((ys.map D.cells).flatten.map AV.d)=(ys.map D.cells).flatten.map AV.d ++ cs.drop (ys.length * aK C.P el):=by
  have:=tT ((ys.map D.cells).flatten.map AV.d) [] (cs.take (ys.length * aK C.P el)) (cs.drop (ys.length * aK C.P el)) (by rw [hylen,List.length_take]; omega)
  rw [List.nil_append,List.take_append_drop,List.length_nil,List.nil_append] at this
  exact this
 refine ⟨{ S with H:=S.H.set id (.cells g (setAt cs 0 ((ys.map D.cells).flatten.map AV.d))) },?_,?_⟩
 ·
  have ha:nk (AV.msl id g 0 xs.length xs.length (aK C.P el))=some (id,g,0,xs.length,aK C.P el):=rfl
  simp only [oper,hm,jR,List.getElem?_toArray,List.getElem?_cons_zero,he,zh,ha,hrow,hsrc,St.look,hid,Nat.beq_refl,cond_true]
  rw [if_pos ⟨trivial,hpos,by omega⟩,if_pos hle]
 ·
  refine H.set hi rfl ⟨rfl,by simp; omega,by simp; omega,rfl,hpos,fun z hz=>?_,setAt cs 0 ((ys.map D.cells).flatten.map AV.d),?_,by simp only [AL.aX,if_true]⟩ (fun j hl=>?_) (fun j hj=>?_) (fun j hj=>rfl) rfl
  ·
   rcases List.mem_append.1 hz with hz | hz
   ·
    exact ⟨hysz z hz,hfy z hz⟩
   ·
    exact hsz z (List.mem_of_mem_drop hz)
  ·
   rw [hset,List.map_append,List.flatten_append,List.map_append,← yA ys.length xs (fun x hx=>(hsz x hx).1),List.map_drop]
   exact (dZ.refl _).append (hcs.drop _)
  ·
   refine H.wf j ?_
   unfold live cur at hl ⊢
   simp only [AL.aX] at hl
   by_cases hij:id=j
   ·
    subst hij; rw [hid]; simp
   ·
    rw [if_neg hij] at hl; exact hl
  ·
   simp only [bU.fp,List.mem_singleton] at hj
   simp only [AL.aX]
   rw [if_neg (fun q=>hj q.symm)]
end
section
variable {C:gq} {nt:Nat} {ops:Array Oper} {rest:List Oper} {e:Env} {S S':St} {Q:Stp→Prop} {l l':List bU} {t ty:Nat} {p:String} {af:Array Edge} {g:Option (Nat × Bool)} {x y:Operand} {v:AV}
theorem ah.Gg {α:Type} {enc:α→D} {i u t1:Nat} {vy:AV} {xs ys zs:List α} {el sz:Nat} (H:Has B S l) (hw:dn ops e { dst:=some t,op:=.call { callee:=.builtin .copy,args:=#[x,y],argTypes:=#[t1,u] },type:=ty,pos:=p,after:=af,guard:=g }=some true)
  (hx:dX e x=some v) (hy:dX e y=some vy) (hi:l[i]? = some (.row sz v (xs.map enc))) (hsz:aK C.P el=sz) (hd:iH vy=some (ys.map enc)) (he:bL C.P t1=some el)
  (h:Bp xs ys=some zs) (hsy:sizes (aK C.P el) (ys.map enc)=true) (hfy:∀ z ∈ ys.map enc,lF z.cells=true) (ht:Nat.blt t nt=true)
  (k:∀ S',Has B S' (l.set i (.row sz v (zs.map enc)))→ah R C nt ops rest ((t,.d (.int .i64 (ys.length:Int))) :: e) S' Q) :
  ah R C nt ops ({ dst:=some t,op:=.call { callee:=.builtin .copy,args:=#[x,y],argTypes:=#[t1,u] },type:=ty,pos:=p,after:=af,guard:=g } :: rest) e S Q:=by
 subst hsz
 unfold Bp at h
 split at h
 ·
  rename_i hc
  obtain ⟨S',h1,h2⟩:=yZ (C:=C) (ρ:=dX e) (u:=u) H hx hy hi hd he (by simpa using hc.1) (by simpa using hc.2) hsy hfy
  rw [List.length_map] at h1 h2
  refine ah.val hw h1 ht (k S' ?_)
  rw [← Option.some.inj h,List.map_append,List.map_drop]
  exact h2
 ·
  cases h
end
end
end Go.Ev

namespace Go.Ev
noncomputable section
set_option linter.unusedVariables false
set_option linter.unusedSimpArgs false
variable {R:bT} {P:Program} {B:St}
def GR (l:List bU):List Nat:=(l.map bU.fp).flatten
section
variable {α:Type} (enc:α→D) (kid:α→List Int) (sz k:Nat)
end
section
variable {α:Type} {enc:α→D} {kid:α→List Int} {sz k:Nat} {v:AV} {wss:List (List AV)} {xs:List α} {hole:Option Nat} {S S':St}
end
end
end Go.Ev

namespace Go.Ev
noncomputable section
set_option linter.unusedVariables false
set_option linter.unusedSimpArgs false
variable {R:bT} {P:Program} {B:St}
section
variable {α:Type} {enc:α→D} {kid:α→List Int} {sz k:Nat} {v:AV} {wss:List (List AV)} {xs:List α} {hole:Option Nat} {S S':St}
section
variable {C:gq} {ρ:Operand→Option AV} {l:List bU} {x y:Operand} {t:Nat} {n:Int} {z:α}
end
end
end
end Go.Ev

namespace Go.Ev
noncomputable section
set_option linter.unusedVariables false
set_option linter.unusedSimpArgs false
variable {R:bT} {P:Program} {B:St}
section
variable {α:Type} {enc:α→D} {kid:α→List Int} {sz k:Nat} {v:AV} {wss:List (List AV)} {xs:List α} {hole:Option Nat} {S S':St}
section
variable {l:List bU} {n:Nat} {z z':α} {ws ws':List AV} {id g:Nat}
section
variable {C:gq} {ρ:Operand→Option AV} {x y:Operand} {t:Nat} {i:Int}
end
section
variable {C:gq} {nt:Nat} {ops:Array Oper} {rest:List Oper} {e:Env} {Q:Stp→Prop} {t ty:Nat} {p:String} {af:Array Edge} {gg:Option (Nat × Bool)} {x y:Operand} {i:Int}
end
end
end
end
end Go.Ev

namespace Go.Ev
noncomputable section
set_option linter.unusedVariables false
set_option linter.unusedSimpArgs false
variable {R:bT} {P:Program} {B:St}
section
variable {S:St} {l:List bU}
section
variable {C:gq} {ρ:Operand→Option AV} {x y:Operand} {t:Nat}
section
variable {α:Type} {enc:α→D} {kid:α→List Int} {sz k:Nat} {v rv:AV} {wss:List (List AV)} {xs:List α} {z:α} {c:List AV}
end
section
variable {w rv:AV} {ys r:List Int} {n:Int}
end
end
end
end
end Go.Ev

namespace Go.Ev
noncomputable section
set_option linter.unusedVariables false
set_option linter.unusedSimpArgs false
variable {R:bT} {P:Program} {B:St}
section steps
variable {C:gq} {nt:Nat} {ops:Array Oper} {rest:List Oper} {e:Env} {S:St} {Q:Stp→Prop} {l:List bU} {t ty:Nat} {p:String} {af:Array Edge} {g:Option (Nat × Bool)} {x y:Operand}
section
variable {α:Type} {enc:α→D} {kid:α→List Int} {sz k:Nat} {v:AV} {wss:List (List AV)} {xs:List α} {hole:Option Nat} {z:α} {n:Int} {tt:Nat}
end
section
variable {w:AV} {ys r:List Int} {n:Int} {tt:Nat}
end
end steps
section
variable {C:gq} {ρ:Operand→Option AV} {S:St} {l:List bU} {x lo hi mx:Operand} {t el q:Nat} {w:AV} {ys:List Int} {i j:Int} {k1 k2 k3:IntKind}
end
section
variable {C:gq} {nt:Nat} {ops:Array Oper} {rest:List Oper} {e:Env} {S:St} {Q:Stp→Prop} {l:List bU} {t ty:Nat} {p:String} {af:Array Edge} {g:Option (Nat × Bool)} {x y:Operand} {w:AV} {ys r:List Int} {i j:Int}
end
end
end Go.Ev

namespace Go.Ev
noncomputable section
set_option linter.unusedVariables false
set_option linter.unusedSimpArgs false
variable {R:bT} {P:Program} {B:St}
section
variable {α:Type} {enc:α→D} {kid:α→List Int} {sz k:Nat} {v:AV} {wss:List (List AV)} {xs:List α} {hole:Option Nat} {z:α} {n:Int} {S:St}
variable {C:gq} {ρ:Operand→Option AV} {l:List bU} {x y:Operand} {t ty q off:Nat}
end
section
variable {C:gq} {nt:Nat} {ops:Array Oper} {rest:List Oper} {e:Env} {S:St} {Q:Stp→Prop} {l:List bU} {t ty:Nat} {p:String} {af:Array Edge} {g:Option (Nat × Bool)} {x y:Operand} {w:AV} {ys r:List Int}
end
end
end Go.Ev
namespace Go.Ev
end Go.Ev
namespace Go.Ev
theorem lh {B S:St} {C:gq} {fn:Func} {e:Env} {l:List bU} (H:Has B S l) {a t i id u:Nat} {cs:List AV} {v y:AV} (hf:fn.results = #[.cell a t,.tmp u]) (ha:AL.get e a=some (.ptr id 0 0)) (hi:l[i]? = some (.box id cs)) (hp:part C.P t cs 0=some v) (hu:AL.get e u=some y):jD C fn e S=some (.tup [v,y]):=by
 have hb:S.H.get id=some (.cells 0 cs):=H.at hi
 simp only [jD,hf,iM,uX,ha,mg,St.look,hb,Nat.beq_refl,cond_true,hp,hu,Option.map_some]
theorem Less.sJ {a a' b b':AV} (h:Less a a') (k:Less b b'):Less (.tup [a,b]) (.tup [a',b']):=fun cx S w v hr=>by
 cases hr with
 | tup _ vs hl hh =>
  refine .tup _ vs hl (fun i x u hx hu=>?_)
  match i with
  | 0=>simp at hx; subst hx; exact h _ _ _ _ (hh 0 _ u rfl hu)
  | 1=>simp at hx; subst hx; exact k _ _ _ _ (hh 1 _ u rfl hu)
  | n + 2=>simp at hx
end Go.Ev
namespace Go.Ev
end Go.Ev

namespace Go.Ev
namespace Pr
set_option linter.unusedVariables false
set_option linter.unusedSimpArgs false
structure Attr where
 Name:Str
 Value:Str
 deriving DecidableEq
def aB (x:Attr):D:=.agg [(.str x.Name),(.str x.Value)]
theorem Attr.eq (x:Attr):aB x=.agg [(.str x.Name),(.str x.Value)]:=rfl
theorem Attr.cells (x:Attr):(aB x).cells=[(.str x.Name),(.str x.Value)]:=by rw [Attr.eq]; rfl
theorem Attr.bD (x:Attr):(AV.d (aB x)).cells=[.d (.str x.Name),.d (.str x.Value)]:=by rw [Attr.eq]; rfl
theorem Attr.agg (x:Attr):(aB x).isAgg=true:=by rw [Attr.eq]; rfl
theorem Attr.len (x:Attr):(aB x).cells.length=2:=by rw [Attr.cells]; rfl
theorem Attr.cn (x:Attr):(aB x).cn=aB x:=by
 rw [Attr.eq]
 exact Co (by
  intro d hd
  simp only [List.mem_cons,List.not_mem_nil,or_false] at hd
  rcases hd with rfl | rfl
  ·
   exact rfl
  ·
   exact rfl)
theorem Attr.ib {P:Program} {t:Nat} {x:Attr} (ha:eZ P t=some true) (hz:aK P t=2):iF P t (aB x).cells 0=some (aB x):=by
 rw [Attr.cells,oz ha hz rfl,Attr.eq]; rfl
def Attr.beq (x y:Attr):Bool:=((x.Name == y.Name) && ((x.Value == y.Value) && true))
structure bM where
 Kind:Int
 N:Int
 Tag:Str
 Text:Str
 aH:(List Attr)
def dI (x:bM):D:=.agg [(.int .i64 x.Kind),(.int .i64 x.N),(.str x.Tag),(.str x.Text),(.sl ((x.aH).map aB) false),.aY]
theorem bM.eq (x:bM):dI x=.agg [(.int .i64 x.Kind),(.int .i64 x.N),(.str x.Tag),(.str x.Text),(.sl ((x.aH).map aB) false),.aY]:=rfl
theorem bM.cells (x:bM):(dI x).cells=[(.int .i64 x.Kind),(.int .i64 x.N),(.str x.Tag),(.str x.Text),(.sl ((x.aH).map aB) false),.aY]:=by rw [bM.eq]; rfl
theorem bM.bD (x:bM):(AV.d (dI x)).cells=[.d (.int .i64 x.Kind),.d (.int .i64 x.N),.d (.str x.Tag),.d (.str x.Text),.d (.sl ((x.aH).map aB) false),.d .aY]:=by rw [bM.eq]; rfl
theorem bM.agg (x:bM):(dI x).isAgg=true:=by rw [bM.eq]; rfl
theorem bM.len (x:bM):(dI x).cells.length=6:=by rw [bM.cells]; rfl
theorem bM.ib {P:Program} {t:Nat} {x:bM} (ha:eZ P t=some true) (hz:aK P t=6):iF P t (dI x).cells 0=some (dI x):=by
 rw [bM.cells,oz ha hz rfl,bM.eq]; rfl
inductive Tree where
 | mk (Tag:Str) (Key:Str) (Text:Str) (aH:(List Attr)) (Kids:(List Tree))
def Tree.Tag:Tree→Str | .mk x _ _ _ _=>x
def Tree.Key:Tree→Str | .mk _ x _ _ _=>x
def Tree.Text:Tree→Str | .mk _ _ x _ _=>x
def Tree.aH:Tree→(List Attr) | .mk _ _ _ x _=>x
def Tree.Kids:Tree→(List Tree) | .mk _ _ _ _ x=>x
mutual
def az:Tree→D
 | .mk x0 x1 x2 x3 x4=>.agg [(.str x0),(.str x1),(.str x2),(.sl ((x3).map aB) false),.sl (mK x4) false]
def mK:List Tree→List D
 | []=>[]
 | x :: l=>az x :: mK l
end
theorem sG:∀ (l:List Tree),mK l=l.map az
 | []=>rfl
 | x :: l=>by rw [mK,sG l]; rfl
theorem Tree.eq (x:Tree):az x=.agg [(.str x.Tag),(.str x.Key),(.str x.Text),(.sl ((x.aH).map aB) false),(.sl ((x.Kids).map az) false)]:=by
 cases x
 rw [az,sG]
 rfl
theorem Tree.cells (x:Tree):(az x).cells=[(.str x.Tag),(.str x.Key),(.str x.Text),(.sl ((x.aH).map aB) false),(.sl ((x.Kids).map az) false)]:=by rw [Tree.eq]; rfl
theorem Tree.bD (x:Tree):(AV.d (az x)).cells=[.d (.str x.Tag),.d (.str x.Key),.d (.str x.Text),.d (.sl ((x.aH).map aB) false),.d (.sl ((x.Kids).map az) false)]:=by rw [Tree.eq]; rfl
theorem Tree.agg (x:Tree):(az x).isAgg=true:=by rw [Tree.eq]; rfl
theorem Tree.len (x:Tree):(az x).cells.length=5:=by rw [Tree.cells]; rfl
mutual
theorem Tree.cn:∀ (x:Tree),(az x).cn=az x
 | .mk x0 x1 x2 x3 x4=>by
  rw [az]
  exact Co (by
   intro d hd
   simp only [List.mem_cons,List.not_mem_nil,or_false] at hd
   rcases hd with rfl | rfl | rfl | rfl | rfl
   ·
    exact rfl
   ·
    exact rfl
   ·
    exact rfl
   ·
    exact GZ Attr.cn _ _
   ·
    exact congrArg (D.sl · false) (Tree.zT x4))
theorem Tree.zT:∀ (l:List Tree),D.zT (mK l)=mK l
 | []=>rfl
 | x :: l=>by rw [mK,D.zT,Tree.cn x,Tree.zT l]
end
theorem Tree.ib {P:Program} {t:Nat} {x:Tree} (ha:eZ P t=some true) (hz:aK P t=5):iF P t (az x).cells 0=some (az x):=by
 rw [Tree.cells,oz ha hz rfl,Tree.eq]; rfl
structure dQ where
 Name:Str
 Value:Str
 deriving DecidableEq
def aJ (x:dQ):D:=.agg [(.str x.Name),(.str x.Value)]
theorem dQ.eq (x:dQ):aJ x=.agg [(.str x.Name),(.str x.Value)]:=rfl
theorem dQ.cells (x:dQ):(aJ x).cells=[(.str x.Name),(.str x.Value)]:=by rw [dQ.eq]; rfl
theorem dQ.bD (x:dQ):(AV.d (aJ x)).cells=[.d (.str x.Name),.d (.str x.Value)]:=by rw [dQ.eq]; rfl
theorem dQ.agg (x:dQ):(aJ x).isAgg=true:=by rw [dQ.eq]; rfl
theorem dQ.len (x:dQ):(aJ x).cells.length=2:=by rw [dQ.cells]; rfl
theorem dQ.ib {P:Program} {t:Nat} {x:dQ} (ha:eZ P t=some true) (hz:aK P t=2):iF P t (aJ x).cells 0=some (aJ x):=by
 rw [dQ.cells,oz ha hz rfl,dQ.eq]; rfl
structure aG where
 state:(List Int)
 params:(List dQ)
 steps:Int
def kY (x:aG):D:=.agg [(.sl ((x.state).map (D.int .i64)) false),(.sl ((x.params).map aJ) false),(.int .i64 x.steps)]
theorem aG.eq (x:aG):kY x=.agg [(.sl ((x.state).map (D.int .i64)) false),(.sl ((x.params).map aJ) false),(.int .i64 x.steps)]:=rfl
theorem aG.cells (x:aG):(kY x).cells=[(.sl ((x.state).map (D.int .i64)) false),(.sl ((x.params).map aJ) false),(.int .i64 x.steps)]:=by rw [aG.eq]; rfl
theorem aG.bD (x:aG):(AV.d (kY x)).cells=[.d (.sl ((x.state).map (D.int .i64)) false),.d (.sl ((x.params).map aJ) false),.d (.int .i64 x.steps)]:=by rw [aG.eq]; rfl
theorem aG.agg (x:aG):(kY x).isAgg=true:=by rw [aG.eq]; rfl
inductive aT where
 | mk (Kind:Int) (N:Int) (Tag:Str) (Text:Str) (aH:(List Attr)) (Kids:(List aT))
def aT.Kind:aT→Int | .mk x _ _ _ _ _=>x
def aT.N:aT→Int | .mk _ x _ _ _ _=>x
def aT.Tag:aT→Str | .mk _ _ x _ _ _=>x
def aT.Text:aT→Str | .mk _ _ _ x _ _=>x
def aT.aH:aT→(List Attr) | .mk _ _ _ _ x _=>x
def aT.Kids:aT→(List aT) | .mk _ _ _ _ _ x=>x
mutual
def aD:aT→D
 | .mk x0 x1 x2 x3 x4 x5=>.agg [(.int .i64 x0),(.int .i64 x1),(.str x2),(.str x3),(.sl ((x4).map aB) false),.sl (oO x5) false]
def oO:List aT→List D
 | []=>[]
 | x :: l=>aD x :: oO l
end
theorem uY:∀ (l:List aT),oO l=l.map aD
 | []=>rfl
 | x :: l=>by rw [oO,uY l]; rfl
theorem aT.eq (x:aT):aD x=.agg [(.int .i64 x.Kind),(.int .i64 x.N),(.str x.Tag),(.str x.Text),(.sl ((x.aH).map aB) false),(.sl ((x.Kids).map aD) false)]:=by
 cases x
 rw [aD,uY]
 rfl
theorem aT.cells (x:aT):(aD x).cells=[(.int .i64 x.Kind),(.int .i64 x.N),(.str x.Tag),(.str x.Text),(.sl ((x.aH).map aB) false),(.sl ((x.Kids).map aD) false)]:=by rw [aT.eq]; rfl
theorem aT.bD (x:aT):(AV.d (aD x)).cells=[.d (.int .i64 x.Kind),.d (.int .i64 x.N),.d (.str x.Tag),.d (.str x.Text),.d (.sl ((x.aH).map aB) false),.d (.sl ((x.Kids).map aD) false)]:=by rw [aT.eq]; rfl
theorem aT.agg (x:aT):(aD x).isAgg=true:=by rw [aT.eq]; rfl
theorem aT.len (x:aT):(aD x).cells.length=6:=by rw [aT.cells]; rfl
mutual
theorem aT.cn:∀ (x:aT),(aD x).cn=aD x
 | .mk x0 x1 x2 x3 x4 x5=>by
  rw [aD]
  exact Co (by
   intro d hd
   simp only [List.mem_cons,List.not_mem_nil,or_false] at hd
   rcases hd with rfl | rfl | rfl | rfl | rfl | rfl
   ·
    exact rfl
   ·
    exact rfl
   ·
    exact rfl
   ·
    exact rfl
   ·
    exact GZ Attr.cn _ _
   ·
    exact congrArg (D.sl · false) (aT.zT x5))
theorem aT.zT:∀ (l:List aT),D.zT (oO l)=oO l
 | []=>rfl
 | x :: l=>by rw [oO,D.zT,aT.cn x,aT.zT l]
end
theorem aT.ib {P:Program} {t:Nat} {x:aT} (ha:eZ P t=some true) (hz:aK P t=6):iF P t (aD x).cells 0=some (aD x):=by
 rw [aT.cells,oz ha hz rfl,aT.eq]; rfl
structure eT where
 Err:Int
 Note:Str
 At:Int
 deriving DecidableEq
def jb (x:eT):D:=.agg [(.int .i64 x.Err),(.str x.Note),(.int .i64 x.At)]
theorem eT.eq (x:eT):jb x=.agg [(.int .i64 x.Err),(.str x.Note),(.int .i64 x.At)]:=rfl
theorem eT.cells (x:eT):(jb x).cells=[(.int .i64 x.Err),(.str x.Note),(.int .i64 x.At)]:=by rw [eT.eq]; rfl
theorem eT.bD (x:eT):(AV.d (jb x)).cells=[.d (.int .i64 x.Err),.d (.str x.Note),.d (.int .i64 x.At)]:=by rw [eT.eq]; rfl
theorem eT.agg (x:eT):(jb x).isAgg=true:=by rw [eT.eq]; rfl
structure fw where
 Under:(List Int)
 Kinds:(List Int)
 Ns:(List Int)
 Texts:(List Int)
def jM (x:fw):D:=.agg [(.sl ((x.Under).map (D.int .i64)) false),(.sl ((x.Kinds).map (D.int .i64)) false),(.sl ((x.Ns).map (D.int .i64)) false),(.sl ((x.Texts).map (D.int .i64)) false)]
theorem fw.eq (x:fw):jM x=.agg [(.sl ((x.Under).map (D.int .i64)) false),(.sl ((x.Kinds).map (D.int .i64)) false),(.sl ((x.Ns).map (D.int .i64)) false),(.sl ((x.Texts).map (D.int .i64)) false)]:=rfl
theorem fw.cells (x:fw):(jM x).cells=[(.sl ((x.Under).map (D.int .i64)) false),(.sl ((x.Kinds).map (D.int .i64)) false),(.sl ((x.Ns).map (D.int .i64)) false),(.sl ((x.Texts).map (D.int .i64)) false)]:=by rw [fw.eq]; rfl
theorem fw.bD (x:fw):(AV.d (jM x)).cells=[.d (.sl ((x.Under).map (D.int .i64)) false),.d (.sl ((x.Kinds).map (D.int .i64)) false),.d (.sl ((x.Ns).map (D.int .i64)) false),.d (.sl ((x.Texts).map (D.int .i64)) false)]:=by rw [fw.eq]; rfl
theorem fw.agg (x:fw):(jM x).isAgg=true:=by rw [fw.eq]; rfl
def gI (n:Nat) (a1:Attr) (a2:Attr):Option Bool :=
 (some (a1.Name == a2.Name))
def aL (a1:(List Attr)) (p2:Attr→Option Bool):Nat→Int→Option Int
 | 0,_=>none
 | k13 + 1,x12 =>
  (if (decide (x12 < ((a1).length:Int)))=true then ((idx a1 x12).bind fun z15=>((p2 z15).bind fun z16=>(if z16=true then (some x12) else ((aL a1 p2 k13) ((IntKind.wrap .i64 (x12 + 1))))))) else (some (-1)))
def dm (n:Nat) (a1:(List Attr)) (p2:Attr→Option Bool):Option Int :=
 (aL a1 p2 n (0))
def bg (n:Nat) (a1:(List Attr)) (p2:Attr→Option Bool):Option Bool :=
 ((dm n a1 p2).bind fun z6=>(some (decide (0 ≤ z6))))
def bZ (n:Nat) (a1:Tree):Nat→Int→Option Bool
 | 0,_=>none
 | k20 + 1,x19 =>
  (if (decide (x19 < ((a1.aH).length:Int)))=true then ((idx a1.aH x19).bind fun z22=>((if (((z22.Name == []) || (decide (64 < ((z22.Name).length:Int)))) || (decide (64 < ((z22.Value).length:Int))))=true then some true else ((cut a1.aH 0 x19).bind fun z30=>((bg n z30 (fun y31=>gI n y31 z22)).bind fun z32=>(some z32)))).bind fun z31=>(if z31=true then (some false) else ((bZ n a1 k20) ((IntKind.wrap .i64 (x19 + 1))))))) else (some true))
def iY (n:Nat) (a1:Tree):Option Bool :=
 ((if (decide (16 < ((a1.Tag).length:Int)))=true then some true else ((iU n a1.Tag [97,98,99,100,101,102,103,104,105,106,107,108,109,110,111,112,113,114,115,116,117,118,119,120,121,122,48,49,50,51,52,53,54,55,56,57]).bind fun z5=>(some (!(z5 == []))))).bind fun z6=>(if (((z6 || (!(a1.Text == []))) || (decide (24 < ((a1.Kids).length:Int)))) || (decide (64 < ((a1.Key).length:Int))))=true then (some false) else (bZ n a1 n (0))))
def dM (self:Tree→Option Bool) (a1:Tree):Nat→Int→Option Bool
 | 0,_=>none
 | k19 + 1,x18 =>
  (if (decide (x18 < ((a1.Kids).length:Int)))=true then ((idx a1.Kids x18).bind fun z21=>((self z21).bind fun z27=>(if (!z27)=true then (some false) else ((dM self a1 k19) ((IntKind.wrap .i64 (x18 + 1))))))) else (some true))
def fC:Nat→Tree→Option Bool
 | 0,_=>none
 | n + 1,a1 =>
  (if (a1.Tag == [])=true then (some ((((a1.Key == []) && (((a1.aH).length:Int) == 0)) && (((a1.Kids).length:Int) == 0)) && (decide (((a1.Text).length:Int) ≤ 64)))) else ((iY n a1).bind fun z9=>(if (!z9)=true then (some false) else (dM (fC n) a1 n (0)))))
def fA (self:Tree→Option Int) (a1:Tree):Nat→Int→Int→Option Int
 | 0,_,_=>none
 | k15 + 1,x13,x14 =>
  (if (decide (x14 < ((a1.Kids).length:Int)))=true then ((idx a1.Kids x14).bind fun z17=>((self z17).bind fun z23=>((fA self a1 k15) ((IntKind.wrap .i64 (x13 + z23))) ((IntKind.wrap .i64 (x14 + 1)))))) else (some x13))
def gB:Nat→Tree→Option Int
 | 0,_=>none
 | n + 1,a1 =>
  (fA (gB n) a1 n (1) (0))
def fG (self:Tree→Option Int) (a1:Tree):Nat→Int→Int→Option Int
 | 0,_,_=>none
 | k15 + 1,x13,x14 =>
  (if (decide (x14 < ((a1.Kids).length:Int)))=true then ((idx a1.Kids x14).bind fun z17=>((self z17).bind fun z23=>((fG self a1 k15) ((lQ x13 z23)) ((IntKind.wrap .i64 (x14 + 1)))))) else (some (IntKind.wrap .i64 (x13 + 1))))
def ic:Nat→Tree→Option Int
 | 0,_=>none
 | n + 1,a1 =>
  (fG (ic n) a1 n (0) (0))
def iy (n:Nat) (a1:Tree):Option Bool :=
 ((fC n a1).bind fun z5=>((if z5=true then ((gB n a1).bind fun z6=>(some (decide (z6 ≤ 60)))) else some false).bind fun z7=>((if z7=true then ((ic n a1).bind fun z9=>(some (decide (z9 ≤ 12)))) else some false).bind fun z10=>(some z10))))
def q9 (n:Nat) (a1:Int) (a2:Str) (a3:Int):Option (Option Unit):=if a1=6 then some none else none
def uq (n:Nat) (a1:Bool) (a2:Int) (a3:Str) (a4:Int):Option (Option Unit) :=
 (if (!a1)=true then ((q9 n a2 a3 a4).bind fun z6=>(uK z6 (fun x7=>(some (some ()))))) else (some (some ())))
def jw (n:Nat) (a1:Bool) (a2:Str) (a3:Int):Option (Option Unit) :=
 ((uq n a1 6 a2 a3).bind fun z4=>(uK z4 (fun x5=>(some (some ())))))
def dP (prow:aG→aT→Option (Option ((List Tree) × aG))) (a3:(List aT)):Nat→(List Int)→(List dQ)→Int→(List Tree)→Int→Option (Option ((List Tree) × aG))
 | 0,_,_,_,_,_=>none
 | k22 + 1,x16,x17,x18,x19,x21 =>
  (if (decide (x21 < ((a3).length:Int)))=true then ((idx a3 x21).bind fun z24=>((prow (aG.mk x16 x17 x18) z24).bind fun z30=>(uK z30 (fun x31=>((app 96 x19 x31.1).bind fun z36=>((dP prow a3 k22) (x31.2.state) (x31.2.params) (x31.2.steps) (z36) ((IntKind.wrap .i64 (x21 + 1))))))))) else (some (some (x19,(aG.mk x16 x17 x18)))))
def fD (prow:aG→aT→Option (Option ((List Tree) × aG))) (n:Nat) (a2:aG) (a3:(List aT)):Option (Option ((List Tree) × aG)) :=
 (dP prow a3 n (a2.state) (a2.params) (a2.steps) ([]) (0))
def gH (n:Nat) (a2:aG) (a3:Int):Option (Option Int) :=
 ((jw n ((decide (0 ≤ a3)) && (decide (a3 < ((a2.state).length:Int)))) [110,117,109,98,101,114] a3).bind fun z5=>(uK z5 (fun x6=>((idx a2.state a3).bind fun z11=>(some (some z11))))))
def dS (n:Nat) (a2:aG) (a3:Str):Nat→Int→Option (Option Str)
 | 0,_=>none
 | k12 + 1,x11 =>
  (if (decide (x11 < ((a2.params).length:Int)))=true then ((idx a2.params x11).bind fun z14=>(if (z14.Name == a3)=true then (some (some z14.Value)) else ((dS n a2 a3 k12) ((IntKind.wrap .i64 (x11 + 1)))))) else ((jw n false a3 0).bind fun z21=>(uK z21 (fun x22=>(some (some []))))))
def jo (n:Nat) (a2:aG) (a3:Str):Option (Option Str) :=
 (dS n a2 a3 n (0))
def fM (x54:(List Tree)) (x56:Int) (again57:(List Tree)→Int→Option (Option ((List Tree) × aG))) (z59:Tree) (x67:Str):Option (Option ((List Tree) × aG)) :=
 ((app 96 x54 [(Tree.mk z59.Tag x67 z59.Text z59.aH z59.Kids)]).bind fun z69=>(again57 (z69) ((IntKind.wrap .i64 (x56 + 1)))))
def cu (n:Nat) (x36:Int) (again37:(List Int)→(List dQ)→Int→(List Tree)→Int→Option (Option ((List Tree) × aG))) (x40:((List Tree) × aG)):Nat→(List Tree)→Int→Option (Option ((List Tree) × aG))
 | 0,_,_=>none
 | k57 + 1,x54,x56 =>
  (if (decide (x56 < ((x40.1).length:Int)))=true then ((idx x40.1 x56).bind fun z59=>(if (!(z59.Tag == []))=true then ((strconv_Itoa n x36).bind fun z74=>(fM x54 x56 (cu n x36 again37 x40 k57) z59 (z74))) else (fM x54 x56 (cu n x36 again37 x40 k57) z59 (z59.Key)))) else (again37 (x40.2.state) (x40.2.params) (x40.2.steps) (x54) ((IntKind.wrap .i64 (x36 + 1)))))
def bG (n:Nat) (prow:aG→aT→Option (Option ((List Tree) × aG))) (a3:aT) (x8:Int):Nat→(List Int)→(List dQ)→Int→(List Tree)→Int→Option (Option ((List Tree) × aG))
 | 0,_,_,_,_,_=>none
 | k37 + 1,x31,x32,x33,x34,x36 =>
  (if (decide (x36 < (lQ x8 0)))=true then ((fD prow n (aG.mk x31 x32 x33) a3.Kids).bind fun z39=>(uK z39 (fun x40=>(cu n x36 (bG n prow a3 x8 k37) x40 n (x34) (0))))) else (some (some (x34,(aG.mk x31 x32 x33)))))
def jJ (prow:aG→aT→Option (Option ((List Tree) × aG))) (n:Nat) (a2:aG) (a3:aT):Option (Option ((List Tree) × aG)) :=
 ((gH n a2 a3.N).bind fun z7=>(uK z7 (fun x8=>((jw n (decide (x8 ≤ 24)) [116,105,109,101,115] x8).bind fun z13=>(uK z13 (fun x14=>(bG n prow a3 x8 n (a2.state) (a2.params) (a2.steps) ([]) (0))))))))
def dw:Nat→aG→aT→Option (Option ((List Tree) × aG))
 | 0,_,_=>none
 | n + 1,a2,a3 =>
  ((jw n (decide ((IntKind.wrap .i64 (a2.steps + 1)) ≤ 1000)) [115,116,101,112,115] (IntKind.wrap .i64 (a2.steps + 1))).bind fun z9=>(uK z9 (fun x10=>(if (a3.Kind == 1)=true then ((app 32 [] a3.aH).bind fun z19=>((fD (dw n) n (aG.mk a2.state a2.params (IntKind.wrap .i64 (a2.steps + 1))) a3.Kids).bind fun z23=>(uK z23 (fun x24=>(some (some ([(Tree.mk a3.Tag [] [] z19 x24.1)],x24.2))))))) else (if (a3.Kind == 2)=true then (some (some ([(Tree.mk [] [] a3.Text [] [])],(aG.mk a2.state a2.params (IntKind.wrap .i64 (a2.steps + 1)))))) else (if (a3.Kind == 3)=true then ((gH n (aG.mk a2.state a2.params (IntKind.wrap .i64 (a2.steps + 1))) a3.N).bind fun z41=>(uK z41 (fun x42=>((strconv_Itoa n x42).bind fun z47=>(some (some ([(Tree.mk [] [] z47 [] [])],(aG.mk a2.state a2.params (IntKind.wrap .i64 (a2.steps + 1)))))))))) else (if (a3.Kind == 4)=true then ((jo n (aG.mk a2.state a2.params (IntKind.wrap .i64 (a2.steps + 1))) a3.Text).bind fun z49=>(uK z49 (fun x50=>(some (some ([(Tree.mk [] [] x50 [] [])],(aG.mk a2.state a2.params (IntKind.wrap .i64 (a2.steps + 1))))))))) else (if (a3.Kind == 5)=true then ((gH n (aG.mk a2.state a2.params (IntKind.wrap .i64 (a2.steps + 1))) a3.N).bind fun z56=>(uK z56 (fun x57=>(if (x57 == 0)=true then (some (some ([],(aG.mk a2.state a2.params (IntKind.wrap .i64 (a2.steps + 1)))))) else ((fD (dw n) n (aG.mk a2.state a2.params (IntKind.wrap .i64 (a2.steps + 1))) a3.Kids).bind fun z63=>(uK z63 (fun x64=>(some (some (x64.1,x64.2)))))))))) else (if (a3.Kind == 6)=true then ((jJ (dw n) n (aG.mk a2.state a2.params (IntKind.wrap .i64 (a2.steps + 1))) a3).bind fun z70=>(uK z70 (fun x71=>(some (some (x71.1,x71.2)))))) else ((jw n (a3.Kind == 7) [107,105,110,100] a3.Kind).bind fun z76=>(uK z76 (fun x77=>(some (some ([(Tree.mk [111,117,116,108,101,116] [] [] [] [])],(aG.mk a2.state a2.params (IntKind.wrap .i64 (a2.steps + 1))))))))))))))))))
def kU (n:Nat) (a2:aG) (a5:aT) (a7:Tree):Option (Option (aG × Tree)) :=
 ((dw n a2 a5).bind fun z8=>(uK z8 (fun x9=>((if (((x9.1).length:Int) == 1)=true then ((idx x9.1 0).bind fun z14=>(some (!(z14.Tag == [])))) else some false).bind fun z15=>((if z15=true then ((idx x9.1 0).bind fun z17=>((iy n z17).bind fun z18=>(some z18))) else some false).bind fun z18=>((jw n z18 [115,104,97,112,101] ((x9.1).length:Int)).bind fun z21=>(uK z21 (fun x22=>((idx x9.1 0).bind fun z27=>(some (some (x9.2,z27))))))))))))
def jm (n:Nat) (a1:aT) (a2:(List Int)) (a3:(List dQ)):Option (Tree × Int) :=
 ((kU n (aG.mk a2 a3 0) a1 (Tree.mk [] [] [] [] [])).bind fun z21=>(FJ z21 (some ((Tree.mk [] [] [] [] []),6)) (fun x28=>(some (x28.2,0)))))
def bC (a1:(List Attr)) (a2:(List Attr)):Nat→Int→Option Bool
 | 0,_=>none
 | k12 + 1,x11 =>
  (if (decide (x11 < ((a1).length:Int)))=true then ((idx a1 x11).bind fun z14=>((idx a2 x11).bind fun z15=>(if (!(Attr.beq z14 z15))=true then (some false) else ((bC a1 a2 k12) ((IntKind.wrap .i64 (x11 + 1))))))) else (some true))
def eP (n:Nat) (a1:(List Attr)) (a2:(List Attr)):Option Bool :=
 (if (((a1).length:Int) != ((a2).length:Int))=true then (some false) else (bC a1 a2 n (0)))
def dG (self:Tree→Tree→Option Bool) (a1:Tree) (a2:Tree):Nat→Int→Option Bool
 | 0,_=>none
 | k24 + 1,x23 =>
  (if (decide (x23 < ((a1.Kids).length:Int)))=true then ((idx a1.Kids x23).bind fun z26=>((idx a2.Kids x23).bind fun z27=>((self z26 z27).bind fun z28=>(if (!z28)=true then (some false) else ((dG self a1 a2 k24) ((IntKind.wrap .i64 (x23 + 1)))))))) else (some true))
def df:Nat→Tree→Tree→Option Bool
 | 0,_,_=>none
 | n + 1,a1,a2 =>
  ((if (((!(a1.Tag == a2.Tag)) || (!(a1.Key == a2.Key))) || (!(a1.Text == a2.Text)))=true then some true else ((eP n a1.aH a2.aH).bind fun z11=>(some (!z11)))).bind fun z12=>(if (z12 || (((a1.Kids).length:Int) != ((a2.Kids).length:Int)))=true then (some false) else (dG (df n) a1 a2 n (0))))
def fF (self:aT→Option (Int × Int)) (a1:aT):Nat→Int→Int→Int→Option (Int × Int)
 | 0,_,_,_=>none
 | k17 + 1,x14,x15,x16 =>
  (if (decide (x16 < ((a1.Kids).length:Int)))=true then ((idx a1.Kids x16).bind fun z19=>((self z19).bind fun z25=>((fF self a1 k17) ((IntKind.wrap .i64 (x14 + z25.1))) ((lQ x15 z25.2)) ((IntKind.wrap .i64 (x16 + 1)))))) else (some (x14,(IntKind.wrap .i64 (x15 + 1)))))
def iC:Nat→aT→Option (Int × Int)
 | 0,_=>none
 | n + 1,a1 =>
  (fF (iC n) a1 n (1) (0) (0))
def fq (self:aT→Int→Bool→Option Bool) (a1:aT) (a2:Int) (a3:Bool):Nat→Int→Option Bool
 | 0,_=>none
 | k33 + 1,x32 =>
  (if (decide (x32 < ((a1.Kids).length:Int)))=true then ((idx a1.Kids x32).bind fun z35=>((self z35 a2 ((a3 || (a1.Kind == 5)) || (a1.Kind == 6))).bind fun z41=>(if (!z41)=true then (some false) else ((fq self a1 a2 a3 k33) ((IntKind.wrap .i64 (x32 + 1))))))) else (some true))
def fE (n:Nat) (self:aT→Int→Bool→Option Bool) (a1:aT) (a2:Int) (a3:Bool) (x16:Bool):Option Bool :=
 (if x16=true then (some false) else (if ((((a1.Kind == 3) || (a1.Kind == 5)) || (a1.Kind == 6)) && (!((decide (0 ≤ a1.N)) && (decide (a1.N < a2)))))=true then (some false) else (fq self a1 a2 a3 n (0))))
def eQ:Nat→aT→Int→Bool→Option Bool
 | 0,_,_,_=>none
 | n + 1,a1,a2,a3 =>
  (if (((decide (a1.Kind < 1)) || (decide (7 < a1.Kind))) || ((!(((a1.Kind == 1) || (a1.Kind == 5)) || (a1.Kind == 6))) && (decide (0 < ((a1.Kids).length:Int)))))=true then (some false) else (if (a1.Tag == [111,117,116,108,101,116])=true then (fE n (eQ n) a1 a2 a3 ((a1.Tag == [111,117,116,108,101,116]))) else (fE n (eQ n) a1 a2 a3 (((a1.Kind == 7) && a3)))))
def jQ (n:Nat) (a1:aT) (a2:Int):Option Bool :=
 ((iC n a1).bind fun z6=>((if (((a1.Kind == 1) && (decide (z6.1 ≤ 60))) && (decide (z6.2 ≤ 12)))=true then ((eQ n a1 a2 false).bind fun z9=>(some z9)) else some false).bind fun z10=>(some z10)))
def il (n:Nat)  : Option Bool :=
 ((jm n (aT.mk 1 0 [117,108] [] [] [(aT.mk 6 0 [] [] [] [(aT.mk 1 0 [108,105] [] [] [(aT.mk 3 1 [] [] [] [])])])]) [2,7] []).bind fun z6=>((jm n (aT.mk 1 0 [117,108] [] [] [(aT.mk 6 0 [] [] [] [(aT.mk 1 0 [108,105] [] [] [(aT.mk 3 1 [] [] [] [])])])]) [99,7] []).bind fun z12=>((if (z6.2 == 0)=true then ((df n z6.1 (Tree.mk [117,108] [] [] [] [(Tree.mk [108,105] [48] [] [] [(Tree.mk [] [] [55] [] [])]),(Tree.mk [108,105] [49] [] [] [(Tree.mk [] [] [55] [] [])])])).bind fun z18=>(some z18)) else some false).bind fun z19=>((if (z19 && (z12.2 == 6))=true then ((jQ n (aT.mk 1 0 [117,108] [] [] [(aT.mk 6 0 [] [] [] [(aT.mk 1 0 [108,105] [] [] [(aT.mk 3 1 [] [] [] [])])])]) 2).bind fun z22=>(some z22)) else some false).bind fun z23=>((if z23=true then ((jQ n (aT.mk 1 0 [117,108] [] [] [(aT.mk 6 0 [] [] [] [(aT.mk 1 0 [108,105] [] [] [(aT.mk 3 1 [] [] [] [])])])]) 1).bind fun z25=>(some (!z25))) else some false).bind fun z26=>(some z26))))))
def eX (a2:Int) (x7:Int):Option Int :=
 (some (IntKind.wrap .i64 (a2 + x7)))
def dC (n:Nat) (a1:Int) (a2:Int) (a3:Int):Option Int :=
 ((zM .i64 a1 (IntKind.wrap .i64 ((IntKind.wrap .i64 (a3 - a2)) + 1))).bind fun z4=>(if (decide (z4 < 0))=true then (eX a2 ((IntKind.wrap .i64 ((IntKind.wrap .i64 ((IntKind.wrap .i64 (z4 + a3)) - a2)) + 1)))) else (eX a2 (z4))))
def je (n:Nat)  : Option (List Str) :=
 (some ([[97],[98],[105,116,101,109],[120,32,121],[37],[97,47,98],[46,46],[122],[49],[108,105,115,116],[255],[63,61,38]]:List Str))
def dA (a1:(List Int)):Nat→Int→Int→Option Int
 | 0,_,_=>none
 | k13 + 1,x11,x12 =>
  (if ((decide (0 ≤ x11)) && (decide (x12 < 99)))=true then ((idx a1 x11).bind fun z16=>((dA a1 k13) (z16) ((IntKind.wrap .i64 (x12 + 1))))) else (some x12))
def iI (n:Nat) (a1:(List Int)) (a2:Int):Option Int :=
 (dA a1 n (a2) (0))
def gu (n:Nat) (a1:(List Int)) (a2:Int):Option Int :=
 (if (((a1).length:Int) == 0)=true then (some 0) else ((zM .i64 a2 ((a1).length:Int)).bind fun z4=>((idx a1 z4).bind fun z5=>(some z5))))
def eD (x24:Int) (again25:(List aT)→Int→Option aT) (x29:(List aT)):Option aT :=
 (again25 (x29) ((IntKind.wrap .i64 (x24 + 1))))
def bV (self:(List bM)→(List Int)→Int→Option aT) (a1:(List bM)) (a2:(List Int)) (a3:Int) (z7:bM):Nat→(List aT)→Int→Option aT
 | 0,_,_=>none
 | k25 + 1,x22,x24 =>
  (if (decide (x24 < ((a1).length:Int)))=true then ((idx a2 x24).bind fun z32=>(if (z32 == a3)=true then ((self a1 a2 x24).bind fun z34=>((app 96 x22 [z34]).bind fun z35=>(eD x24 (bV self a1 a2 a3 z7 k25) (z35)))) else (eD x24 (bV self a1 a2 a3 z7 k25) (x22)))) else (some (aT.mk z7.Kind z7.N z7.Tag z7.Text z7.aH x22)))
def bS:Nat→(List bM)→(List Int)→Int→Option aT
 | 0,_,_,_=>none
 | n + 1,a1,a2,a3 =>
  ((idx a1 a3).bind fun z7=>(bV (bS n) a1 a2 a3 z7 n ([]) (0)))
def bI (x20:(List bM)) (x22:(List Int)) (x24:Int) (again25:(List bM)→(List Int)→Int→Option aT) (x32:Int) (z35:Int) (z37:Int) (x51:Str) (x52:Str) (x53:(List Attr)):Option aT :=
 ((app 96 x20 [(bM.mk ((bM.mk z35 z37 [] [] []).Kind) ((bM.mk z35 z37 [] [] []).N) x51 x52 x53)]).bind fun z55=>((app 8 x22 [x32]).bind fun z59=>(again25 (z55) (z59) ((IntKind.wrap .i64 (x24 + 1))))))
def bX (n:Nat) (a1:fw) (z8:(List Str)) (x20:(List bM)) (x22:(List Int)) (x24:Int) (again25:(List bM)→(List Int)→Int→Option aT) (x32:Int):Option aT :=
 ((gu n a1.Kinds x24).bind fun z34=>((dC n z34 1 7).bind fun z35=>((gu n a1.Ns x24).bind fun z36=>((dC n z36 0 4).bind fun z37=>((gu n a1.Texts x24).bind fun z48=>(if (((bM.mk z35 z37 [] [] []).Kind) == 1)=true then ((dC n z48 0 (IntKind.wrap .i64 (((([[100,105,118],[112],[108,105],[98]]:List Str)).length:Int) - 1))).bind fun z64=>((idx ([[100,105,118],[112],[108,105],[98]]:List Str) z64).bind fun z65=>(if ((Hz .i64 z48 3) == 3)=true then ((Am .i64 z48 4).bind fun z69=>((dC n z69 0 (IntKind.wrap .i64 (((z8).length:Int) - 1))).bind fun z70=>((idx z8 z70).bind fun z71=>(bI x20 x22 x24 again25 x32 z35 z37 (z65) ((bM.mk z35 z37 [] [] []).Text) ([(Attr.mk [120] z71)]))))) else (bI x20 x22 x24 again25 x32 z35 z37 (z65) ((bM.mk z35 z37 [] [] []).Text) ((bM.mk z35 z37 [] [] []).aH))))) else (if (((bM.mk z35 z37 [] [] []).Kind) == 2)=true then ((dC n z48 0 (IntKind.wrap .i64 (((z8).length:Int) - 1))).bind fun z78=>((idx z8 z78).bind fun z79=>(bI x20 x22 x24 again25 x32 z35 z37 ((bM.mk z35 z37 [] [] []).Tag) (z79) ((bM.mk z35 z37 [] [] []).aH)))) else (if (((bM.mk z35 z37 [] [] []).Kind) == 4)=true then ((dC n z48 0 (IntKind.wrap .i64 (((([[105,100],[112,97],[112,98],[108,97,115,116]]:List Str)).length:Int) - 1))).bind fun z83=>((idx ([[105,100],[112,97],[112,98],[108,97,115,116]]:List Str) z83).bind fun z84=>(bI x20 x22 x24 again25 x32 z35 z37 ((bM.mk z35 z37 [] [] []).Tag) (z84) ((bM.mk z35 z37 [] [] []).aH)))) else (bI x20 x22 x24 again25 x32 z35 z37 ((bM.mk z35 z37 [] [] []).Tag) ((bM.mk z35 z37 [] [] []).Text) ((bM.mk z35 z37 [] [] []).aH))))))))))
def aQ (n:Nat) (a1:fw) (z8:(List Str)):Nat→(List bM)→(List Int)→Int→Option aT
 | 0,_,_,_=>none
 | k25 + 1,x20,x22,x24 =>
  (if ((decide (x24 < ((a1.Under).length:Int))) && (decide (x24 < 11)))=true then ((idx a1.Under x24).bind fun z28=>((dC n z28 0 (IntKind.wrap .i64 (((x20).length:Int) - 1))).bind fun z29=>((idx x20 z29).bind fun z87=>((if (((z87.Kind != 1) && (z87.Kind != 5)) && (z87.Kind != 6))=true then some true else ((iI n x22 z29).bind fun z90=>(some (decide (5 < z90))))).bind fun z91=>(if z91=true then (bX n a1 z8 x20 x22 x24 (aQ n a1 z8 k25) (0)) else (bX n a1 z8 x20 x22 x24 (aQ n a1 z8 k25) (z29))))))) else ((bS n x20 x22 0).bind fun z94=>(some z94)))
def fU (n:Nat) (a1:fw):Option aT :=
 ((je n).bind fun z8=>(aQ n a1 z8 n ([(bM.mk 1 0 [109,97,105,110] [] [])]) ([(-1)]) (0)))
def bY (a2:Int):Nat→(List Int)→Int→Option (List Int)
 | 0,_,_=>none
 | k20 + 1,x18,x19 =>
  (if (decide (x19 < ((x18).length:Int)))=true then ((idx x18 x19).bind fun z22=>((bY a2 k20) ((CF x18 x19 a2)) ((IntKind.wrap .i64 (x19 + 1))))) else (some x18))
def fZ (n:Nat) (a1:(List Int)) (a2:Int):Option (List Int) :=
 ((xQ 1 8 (IntKind.wrap .i64 (((a1).length:Int) + 80)) 0).bind fun z3=>((Bp z3 a1).bind fun z7=>(bY a2 n (z7) (((a1).length:Int)))))
def dD (prow:aT→(List Int)→(List dQ)→Int→Option ((List Tree) × Bool × Int)) (a1:(List aT)) (a2:(List Int)) (a3:(List dQ)):Nat→Int→(List Tree)→Int→Option ((List Tree) × Bool × Int)
 | 0,_,_,_=>none
 | k20 + 1,x16,x17,x19 =>
  (if (decide (x19 < ((a1).length:Int)))=true then ((idx a1 x19).bind fun z22=>((prow z22 a2 a3 x16).bind fun z28=>(if (!z28.2.1)=true then (some ([],false,z28.2.2)) else ((app 96 x17 z28.1).bind fun z32=>((dD prow a1 a2 a3 k20) (z28.2.2) (z32) ((IntKind.wrap .i64 (x19 + 1)))))))) else (some (x17,true,x16)))
def eU (prow:aT→(List Int)→(List dQ)→Int→Option ((List Tree) × Bool × Int)) (n:Nat) (a1:(List aT)) (a2:(List Int)) (a3:(List dQ)) (a5:Int):Option ((List Tree) × Bool × Int) :=
 (dD prow a1 a2 a3 n (a5) ([]) (0))
def bK (n:Nat) (a1:Int):Nat→Int→Str→Option Str
 | 0,_,_=>none
 | k16 + 1,x14,x15 =>
  (if ((decide (0 < x14)) || (x15 == []))=true then ((zM .u64 x14 10).bind fun z19=>((cat (([(IntKind.wrap .u8 (IntKind.wrap .u64 (48 + z19)))]).map fun (n:Int)=>UInt8.ofNat n.toNat) x15).bind fun z20=>((Am .u64 x14 10).bind fun z21=>((bK n a1 k16) (z21) (z20))))) else (if (decide (a1 < 0))=true then ((cat [45] x15).bind fun z23=>(some z23)) else (some x15)))
def fP (n:Nat) (a1:Int) (x4:Int):Option Str :=
 (bK n a1 n (x4) ([]))
def gZ (n:Nat) (a1:Int):Option Str :=
 (if (decide (a1 < 0))=true then (fP n a1 ((IntKind.wrap .u64 (0 - (IntKind.wrap .u64 a1))))) else (fP n a1 ((IntKind.wrap .u64 a1))))
def dz (a1:aT) (a3:(List dQ)) (a5:Int):Nat→Int→Option ((List Tree) × Bool × Int)
 | 0,_=>none
 | k37 + 1,x36 =>
  (if (decide (x36 < ((a3).length:Int)))=true then ((idx a3 x36).bind fun z39=>(if (z39.Name == a1.Text)=true then (some ([(Tree.mk [] [] z39.Value [] [])],true,(IntKind.wrap .i64 (a5 + 1)))) else ((dz a1 a3 a5 k37) ((IntKind.wrap .i64 (x36 + 1)))))) else (some ([],false,(IntKind.wrap .i64 (a5 + 1)))))
def eB (x84:(List Tree)) (x86:Int) (again87:(List Tree)→Int→Option ((List Tree) × Bool × Int)) (z89:Tree) (x97:Str):Option ((List Tree) × Bool × Int) :=
 ((app 96 x84 [(Tree.mk z89.Tag x97 z89.Text z89.aH z89.Kids)]).bind fun z99=>(again87 (z99) ((IntKind.wrap .i64 (x86 + 1)))))
def bB (n:Nat) (x68:Int) (again69:Int→(List Tree)→Int→Option ((List Tree) × Bool × Int)) (z71:((List Tree) × Bool × Int)):Nat→(List Tree)→Int→Option ((List Tree) × Bool × Int)
 | 0,_,_=>none
 | k87 + 1,x84,x86 =>
  (if (decide (x86 < ((z71.1).length:Int)))=true then ((idx z71.1 x86).bind fun z89=>(if (!(z89.Tag == []))=true then ((gZ n x68).bind fun z104=>(eB x84 x86 (bB n x68 again69 z71 k87) z89 (z104))) else (eB x84 x86 (bB n x68 again69 z71 k87) z89 (z89.Key)))) else (again69 (z71.2.2) (x84) ((IntKind.wrap .i64 (x68 + 1)))))
def bu (n:Nat) (self:aT→(List Int)→(List dQ)→Int→Option ((List Tree) × Bool × Int)) (a1:aT) (a2:(List Int)) (a3:(List dQ)) (x19:Int):Nat→Int→(List Tree)→Int→Option ((List Tree) × Bool × Int)
 | 0,_,_,_=>none
 | k69 + 1,x65,x66,x68 =>
  (if (decide (x68 < x19))=true then ((eU self n a1.Kids a2 a3 x65).bind fun z71=>(if (!z71.2.1)=true then (some ([],false,z71.2.2)) else (bB n x68 (bu n self a1 a2 a3 x19 k69) z71 n (x66) (0)))) else (some (x66,true,x65)))
def eu (n:Nat) (self:aT→(List Int)→(List dQ)→Int→Option ((List Tree) × Bool × Int)) (a1:aT) (a2:(List Int)) (a3:(List dQ)) (a5:Int) (x15:Bool) (x19:Int):Option ((List Tree) × Bool × Int) :=
 (if (a1.Kind == 1)=true then ((eU self n a1.Kids a2 a3 (IntKind.wrap .i64 (a5 + 1))).bind fun z22=>(some ([(Tree.mk a1.Tag [] [] a1.aH z22.1)],z22.2.1,z22.2.2))) else (if (a1.Kind == 2)=true then (some ([(Tree.mk [] [] a1.Text [] [])],true,(IntKind.wrap .i64 (a5 + 1)))) else (if (a1.Kind == 3)=true then ((gZ n x19).bind fun z27=>(some ([(Tree.mk [] [] z27 [] [])],x15,(IntKind.wrap .i64 (a5 + 1))))) else (if (a1.Kind == 4)=true then (dz a1 a3 a5 n (0)) else (if (a1.Kind == 5)=true then (if ((!x15) || (x19 == 0))=true then (some ([],x15,(IntKind.wrap .i64 (a5 + 1)))) else ((eU self n a1.Kids a2 a3 (IntKind.wrap .i64 (a5 + 1))).bind fun z49=>(some (z49.1,z49.2.1,z49.2.2)))) else (if (a1.Kind == 6)=true then (if ((!x15) || (decide (24 < x19)))=true then (some ([],false,(IntKind.wrap .i64 (a5 + 1)))) else (bu n self a1 a2 a3 x19 n ((IntKind.wrap .i64 (a5 + 1))) ([]) (0))) else (if (a1.Kind == 7)=true then (some ([(Tree.mk [111,117,116,108,101,116] [] [] [] [])],true,(IntKind.wrap .i64 (a5 + 1)))) else (some ([],false,(IntKind.wrap .i64 (a5 + 1)))))))))))
def dJ (n:Nat) (self:aT→(List Int)→(List dQ)→Int→Option ((List Tree) × Bool × Int)) (a1:aT) (a2:(List Int)) (a3:(List dQ)) (a5:Int) (x14:Int) (x15:Bool):Option ((List Tree) × Bool × Int) :=
 (if x15=true then ((idx a2 a1.N).bind fun z110=>(eu n self a1 a2 a3 a5 x15 (z110))) else (eu n self a1 a2 a3 a5 x15 (x14)))
def aP:Nat→aT→(List Int)→(List dQ)→Int→Option ((List Tree) × Bool × Int)
 | 0,_,_,_,_=>none
 | n + 1,a1,a2,a3,a5 =>
  (if (decide (1000 < (IntKind.wrap .i64 (a5 + 1))))=true then (some ([],false,(IntKind.wrap .i64 (a5 + 1)))) else (if (decide (0 ≤ a1.N))=true then (dJ n (aP n) a1 a2 a3 a5 (0) ((decide (a1.N < ((a2).length:Int))))) else (dJ n (aP n) a1 a2 a3 a5 (0) (false))))
def dF (a1:Str):Nat→Int→Option Bool
 | 0,_=>none
 | k10 + 1,x9 =>
  (if (decide (x9 < ((a1).length:Int)))=true then ((idx (a1:Str) x9).bind fun z12=>((if (decide ((z12.toNat:Int) < 97))=true then some true else ((idx (a1:Str) x9).bind fun z13=>(some (decide (122 < (z13.toNat:Int)))))).bind fun z14=>((if z14=true then ((idx (a1:Str) x9).bind fun z16=>((if (decide ((z16.toNat:Int) < 48))=true then some true else ((idx (a1:Str) x9).bind fun z17=>(some (decide (57 < (z17.toNat:Int)))))).bind fun z18=>(some z18))) else some false).bind fun z17=>(if z17=true then (some false) else ((dF a1 k10) ((IntKind.wrap .i64 (x9 + 1)))))))) else (some ((decide (1 ≤ ((a1).length:Int))) && (decide (((a1).length:Int) ≤ 16)))))
def iw (n:Nat) (a1:Str):Option Bool :=
 (dF a1 n (0))
def dB (x8:Int) (x9:Int) (x10:Bool):Option (Int × Int × Bool) :=
 (some (x8,x9,x10))
def bE (self:Tree→Option (Int × Int × Bool)) (a1:Tree):Nat→Int→Int→Int→Option (Int × Int × Bool)
 | 0,_,_,_=>none
 | k59 + 1,x56,x57,x58 =>
  (if (decide (x58 < ((a1.Kids).length:Int)))=true then ((idx a1.Kids x58).bind fun z61=>((self z61).bind fun z67=>(if (!z67.2.2)=true then (some (0,0,false)) else ((bE self a1 k59) ((IntKind.wrap .i64 (x56 + z67.1))) ((lQ x57 (IntKind.wrap .i64 (z67.2.1 + 1)))) ((IntKind.wrap .i64 (x58 + 1))))))) else (some (x56,x57,true)))
def bP (n:Nat) (self:Tree→Option (Int × Int × Bool)) (a1:Tree):Nat→(List (Str × Bool))→Int→Option (Int × Int × Bool)
 | 0,_,_=>none
 | k33 + 1,x31,x32 =>
  (if (decide (x32 < ((a1.aH).length:Int)))=true then ((idx a1.aH x32).bind fun z35=>(if ((((decide (((z35.Name).length:Int) < 1)) || (decide (64 < ((z35.Name).length:Int)))) || (decide (64 < ((z35.Value).length:Int)))) || (r9 x31 z35.Name false))=true then (some (0,0,false)) else ((bP n self a1 k33) ((wM x31 z35.Name true)) ((IntKind.wrap .i64 (x32 + 1)))))) else (bE self a1 n (1) (1) (0)))
def bz:Nat→Tree→Option (Int × Int × Bool)
 | 0,_=>none
 | n + 1,a1 =>
  (if (a1.Tag == [])=true then (if (a1.Key == [])=true then (if (((a1.aH).length:Int) == 0)=true then (if (((a1.Kids).length:Int) == 0)=true then (dB (1) (1) ((decide (((a1.Text).length:Int) ≤ 64)))) else (dB (1) (1) (false))) else (dB (1) (1) (false))) else (dB (1) (1) (false))) else ((iw n a1.Tag).bind fun z15=>(if ((((!z15) || (!(a1.Text == []))) || (decide (24 < ((a1.Kids).length:Int)))) || (decide (64 < ((a1.Key).length:Int))))=true then (some (0,0,false)) else (bP n (bz n) a1 n ([]) (0)))))
def gM (n:Nat) (a1:aT) (a2:(List Int)) (a3:(List dQ)):Option (Tree × Int) :=
 ((aP n a1 a2 a3 0).bind fun z15=>((if ((!z15.2.1) || (((z15.1).length:Int) != 1))=true then some true else ((idx z15.1 0).bind fun z19=>(some (z19.Tag == [])))).bind fun z20=>(if z20=true then (some ((Tree.mk [] [] [] [] []),6)) else ((idx z15.1 0).bind fun z25=>((bz n z25).bind fun z26=>(if (((!z26.2.2) || (decide (60 < z26.1))) || (decide (12 < z26.2.1)))=true then (some ((Tree.mk [] [] [] [] []),6)) else ((idx z15.1 0).bind fun z32=>(some (z32,0)))))))))
def cz (a1:(List Int)) (a2:(List Int)):Nat→Int→Option Bool
 | 0,_=>none
 | k12 + 1,x11 =>
  (if (decide (x11 < ((a1).length:Int)))=true then ((idx a1 x11).bind fun z14=>((idx a2 x11).bind fun z15=>(if (z14 != z15)=true then (some false) else ((cz a1 a2 k12) ((IntKind.wrap .i64 (x11 + 1))))))) else (some true))
def gz (n:Nat) (a1:(List Int)) (a2:(List Int)):Option Bool :=
 (if (((a1).length:Int) != ((a2).length:Int))=true then (some false) else (cz a1 a2 n (0)))
def bR (a1:(List Int)) (a3:Int):Nat→Int→Option Bool
 | 0,_=>none
 | k17 + 1,x16 =>
  (if (decide (x16 < ((a1).length:Int)))=true then ((idx a1 x16).bind fun z19=>(if (z19 != a3)=true then (some false) else ((bR a1 a3 k17) ((IntKind.wrap .i64 (x16 + 1)))))) else (some true))
def fI (n:Nat) (a1:(List Int)) (a2:(List Int)) (a3:Int):Option Bool :=
 ((if (((a1).length:Int) != (IntKind.wrap .i64 (((a2).length:Int) + 80)))=true then some true else ((cut a1 0 ((a2).length:Int)).bind fun z4=>((gz n z4 a2).bind fun z5=>(some (!z5))))).bind fun z5=>(if z5=true then (some false) else (bR a1 a3 n (((a2).length:Int)))))
def fK (self:aT→Option Int) (a1:aT):Nat→Int→Int→Option Int
 | 0,_,_=>none
 | k19 + 1,x17,x18 =>
  (if (decide (x18 < ((a1.Kids).length:Int)))=true then ((idx a1.Kids x18).bind fun z21=>((self z21).bind fun z27=>((fK self a1 k19) ((IntKind.wrap .i64 (x17 + z27))) ((IntKind.wrap .i64 (x18 + 1)))))) else (some x17))
def iZ (n:Nat) (self:aT→Option Int) (a1:aT) (x7:Int):Option Int :=
 (fK self a1 n (x7) (0))
def fB:Nat→aT→Option Int
 | 0,_=>none
 | n + 1,a1 =>
  (if (a1.Kind == 7)=true then (iZ n (fB n) a1 (1)) else (iZ n (fB n) a1 (0)))
def dx (self:aT→Option Int) (a1:aT):Nat→Int→Int→Option Int
 | 0,_,_=>none
 | k19 + 1,x17,x18 =>
  (if (decide (x18 < ((a1.Kids).length:Int)))=true then ((idx a1.Kids x18).bind fun z21=>((self z21).bind fun z27=>((dx self a1 k19) ((IntKind.wrap .i64 (x17 + z27))) ((IntKind.wrap .i64 (x18 + 1)))))) else (some x17))
def eY (n:Nat) (self:aT→Option Int) (a1:aT) (x7:Int):Option Int :=
 (dx self a1 n (x7) (0))
def bF:Nat→aT→Option Int
 | 0,_=>none
 | n + 1,a1 =>
  (if (a1.Kind == 7)=true then (eY n (bF n) a1 (1)) else (eY n (bF n) a1 (0)))
def bN (self:aT→Int→Bool→Option (Int × Int × Bool)) (a1:aT) (a2:Int) (a3:Bool):Nat→Bool→Int→Int→Int→Option (Int × Int × Bool)
 | 0,_,_,_,_=>none
 | k34 + 1,x30,x31,x32,x33 =>
  (if (decide (x33 < ((a1.Kids).length:Int)))=true then ((idx a1.Kids x33).bind fun z36=>((self z36 a2 ((a3 || (a1.Kind == 5)) || (a1.Kind == 6))).bind fun z44=>((bN self a1 a2 a3 k34) ((x30 && z44.2.2)) ((IntKind.wrap .i64 (x31 + z44.1))) ((lQ x32 (IntKind.wrap .i64 (z44.2.1 + 1)))) ((IntKind.wrap .i64 (x33 + 1)))))) else (some (x31,x32,x30)))
def cB:Nat→aT→Int→Bool→Option (Int × Int × Bool)
 | 0,_,_,_=>none
 | n + 1,a1,a2,a3 =>
  (bN (cB n) a1 a2 a3 n (((((((decide (1 ≤ a1.Kind)) && (decide (a1.Kind ≤ 7))) && ((!(((a1.Kind == 3) || (a1.Kind == 5)) || (a1.Kind == 6))) || ((decide (0 ≤ a1.N)) && (decide (a1.N < a2))))) && (!((a1.Kind == 7) && a3))) && (!(a1.Tag == [111,117,116,108,101,116]))) && ((((((a1.Kids).length:Int) == 0) || (a1.Kind == 1)) || (a1.Kind == 5)) || (a1.Kind == 6)))) (1) (1) (0))
def fV (n:Nat) (a1:aT) (a2:Int):Option Bool :=
 ((cB n a1 a2 false).bind fun z6=>(some (((z6.2.2 && (a1.Kind == 1)) && (decide (z6.1 ≤ 60))) && (decide (z6.2.1 ≤ 12)))))
def dN (x54:Bool):Option Bool :=
 (some x54)
def gP (n:Nat) (a1:fw) (a2:(List Int)) (a3:(List dQ)) (a4:Int):Option Bool :=
 ((fU n a1).bind fun z8=>((cut a2 0 (Eh ((a2).length:Int) 8)).bind fun z14=>((app 8 [] z14).bind fun z16=>((cut a3 0 (Eh ((a3).length:Int) 5)).bind fun z20=>((app 32 [] z20).bind fun z22=>((fZ n z16 7).bind fun z26=>((cut z26 0 ((z16).length:Int)).bind fun z27=>((jm n z8 z27 z22).bind fun z28=>((gM n z8 z16 z22).bind fun z39=>((if (z28.2 != z39.2)=true then some true else ((df n z28.1 z39.1).bind fun z45=>(some (!z45)))).bind fun z46=>((if z46=true then some true else ((fI n z26 z16 7).bind fun z48=>(some (!z48)))).bind fun z49=>(if z49=true then (some false) else ((fB n z8).bind fun z56=>((bF n z8).bind fun z57=>(if (z56 == z57)=true then ((jQ n z8 a4).bind fun z59=>((fV n z8 a4).bind fun z60=>(if (z59 == z60)=true then ((il n).bind fun z62=>(dN (z62))) else (dN (false))))) else (dN (false)))))))))))))))))
end Pr
end Go.Ev

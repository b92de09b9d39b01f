import Derived.Test.YtdcagjnahedliaaDoorPartB
import Derived.Shelf.Spec.SlicesInsertGrow
import Derived.Shelf.Strings.Builder1
import Derived.Shelf.Strings.OnBuilder
import Derived.Shelf.Strings.SplitShaped
import Derived.Shelf.Strings.SlTrimAscii
import Derived.Shelf.Small.Strs
import Derived.Shelf.Strings.Cut
import Derived.DataReads
import GoSem.ClaimChange
import Derived.WideShapes
import Derived.ChangeShapes
import Derived.Recover
import Derived.Test.YtdcagjnahedliaaDoorProg
import Derived.WalkKit
import Derived.ProofKit
namespace Go.Ev
noncomputable section
set_option linter.unusedVariables false
set_option linter.unusedSimpArgs false
variable {R:cZ} {C:gZ} {nt:Nat} {B:St}
theorem Eu {ops:Array Oper} (hr:sI ops=true) {Q:Exit→Act→World→Prop} (Inv:Array Bool→Act→World→Prop)
  (hstep:∀ listed a w i o (K:Act→World→Prop),listed.size=ops.size→Closed ops listed→listed.getD i false=false→ops[i]? = some o→(∀ k,k < i→((Region.before ops).getD i 0).testBit k=true→listed.getD k false=true)→Inv listed a w →
   (∀ a' w',Inv (listed.setIfInBounds i true) a' w'→K a' w')→wpOp C.P ops Q i K a w)
  (hend:∀ listed a w,(∀ i,i < ops.size→listed.getD i false=true)→Inv listed a w→Q .normal a w) :
  ∀ (fuel:Nat) (listed:Array Bool) {w:World} {a:Act},listed.size=ops.size→Closed ops listed→((List.range ops.size).filter fun i=>!listed.getD i false).length=fuel→Inv listed a w→wpAny C.P .any ops Q fuel listed a w:=by
 intro fuel
 induction fuel with
 | zero =>
  intro listed w a hsz hcl hlen hI
  have hnil:=List.eq_nil_of_length_eq_zero hlen
  have hall:∀ i,i < ops.size→listed.getD i false=true:=fun i hi=>by
   cases hc:listed.getD i false with
   | true=>rfl
   | false =>
    have:i ∈ (List.range ops.size).filter fun i=>!listed.getD i false:=by
     rw [List.mem_filter]; exact ⟨List.mem_range.2 hi,by rw [hc]; rfl⟩
    rw [hnil] at this; cases this
  refine ⟨?_,hend listed a w hall hI⟩
  cases hq:Region.ready .any ops listed with
  | nil=>rfl
  | cons i l =>
   have hi:i ∈ Region.ready .any ops listed:=by rw [hq]; simp
   obtain ⟨h1,o,h2,_⟩:=mem_ready.1 hi
   have hlt:i < ops.size:=(Array.getElem?_eq_some_iff.1 h2).1
   have:=hall i hlt
   have hlt':i < listed.size:=by omega
   simp [hlt'] at h1 this
   rw [h1] at this; cases this
 | succ fuel ih =>
  intro listed w a hsz hcl hlen hI
  refine ⟨fun hnone=>?_,fun i hi=>?_⟩
  ·
   exfalso
   cases hq:(List.range ops.size).filter fun i=>!listed.getD i false with
   | nil=>rw [hq] at hlen; simp at hlen
   | cons m l =>
    have hm:m ∈ (List.range ops.size).filter fun i=>!listed.getD i false:=by rw [hq]; simp
    obtain ⟨hm1,hm2⟩:=List.mem_filter.1 hm
    exact D7 hr hsz (List.mem_range.1 hm1) (by simpa using hm2) hnone
  ·
   obtain ⟨h1,o,h2,h3⟩:=mem_ready.1 hi
   have hlt:i < ops.size:=(Array.getElem?_eq_some_iff.1 h2).1
   have hlt':i < listed.size:=by omega
   have h1':listed.getD i false=false:=by simp [hlt'] at h1 ⊢; exact h1
   have hclo:=JO hr hcl h2 h3
   refine hstep listed a w i o _ hsz hcl h1' h2 hclo hI (fun a' w' hI'=>ih _ (by simpa using hsz) (DZ hcl hclo) ?_ hI')
   have hsp:=hlen
   have hmem:i ∈ (List.range ops.size).filter fun i=>!listed.getD i false:=by
    rw [List.mem_filter]; exact ⟨List.mem_range.2 hlt,by rw [h1']; rfl⟩
   obtain ⟨l1,l2,hq⟩:=List.append_of_mem hmem
   have hnd:((List.range ops.size).filter fun i=>!listed.getD i false).Nodup:=List.Pairwise.filter _ List.nodup_range
   rw [hq] at hnd
   have hn2:=(List.nodup_append.1 hnd)
   have hne1:∀ k ∈ l1,k ≠ i:=fun k hk=>hn2.2.2 k hk i (by simp)
   have hne2:∀ k ∈ l2,k ≠ i:=fun k hk q=>by
    subst q
    exact (List.nodup_cons.1 hn2.2.1).1 hk
   rw [IU hlt' hq hne1 hne2]
   rw [hq] at hsp
   simp at hsp ⊢; omega
def IY (cx:Cx) (S:St) (w:World) (a:Act) (t:Nat) (x:AV):Prop:=∃ v,a.tmps[t]? = some v∧aP cx S w x v
structure qK (nt:Nat) (ops:Array Oper) (e0:Env) (listed:Array Bool) (ws:List (Option AV)) (cx:Cx) (S:St) (w:World) (a:Act):Prop where
 size:nt ≤ a.tmps.size
 new:∀ k o t,ops[k]? = some o→o.dst=some t→listed.getD k false=true→(∀ j o',j ≠ k→ops[j]? = some o'→o'.dst=some t→listed.getD j false=true→j < k)→∃ x,ws[k]? = some (some x)∧IY cx S w a t x
 old:∀ t x,AL.get e0 t=some x→(∀ j o',ops[j]? = some o'→o'.dst=some t→listed.getD j false=false)→IY cx S w a t x
abbrev Src:=List (Nat × Option Nat)
def ow (ws:List (Option AV)) (e0:Env):Src→Option Env
 | []=>some []
 | (t,some k) :: l=>match ws[k]? with
  | some (some x)=>(ow ws e0 l).map ((t,x) :: ·)
  | _=>none
 | (t,none) :: l=>match AL.get e0 t with
  | some x=>(ow ws e0 l).map ((t,x) :: ·)
  | none=>none
def wy (ops:Array Oper) (k t:Nat):Bool:=match ops[k]? with
 | some o=>(match o.dst with | some d=>Nat.beq d t | none=>false)
 | none=>false
theorem nS {ops:Array Oper} {k t:Nat}:wy ops k t=true↔∃ o,ops[k]? = some o∧o.dst=some t:=by
 unfold wy
 cases h:ops[k]? with
 | none=>simp
 | some o =>
  cases hd:o.dst with
  | none=>simp [hd]
  | some d=>simp [hd]
def CQ (ops:Array Oper) (Bi:Nat) (i:Nat):Src→Bool
 | []=>true
 | (t,some k) :: l=>wy ops k t && Nat.testBit Bi k && ((List.range ops.size).all fun j=>!(wy ops j t) || Nat.beq j k || Nat.blt j k || Nat.beq j i || Nat.testBit ((Region.before ops).getD j 0) i) && CQ ops Bi i l
 | (t,none) :: l=>((List.range ops.size).all fun j=>!(wy ops j t) || Nat.beq j i || Nat.testBit ((Region.before ops).getD j 0) i) && CQ ops Bi i l
def FD (ops:Array Oper):Src→Bool
 | []=>true
 | (t,some k) :: l=>wy ops k t && ((List.range ops.size).all fun j=>!(wy ops j t) || Nat.beq j k || Nat.blt j k) && FD ops l
 | (t,none) :: l=>((List.range ops.size).all fun j=>!(wy ops j t)) && FD ops l
theorem rU {ops:Array Oper} {e0:Env} {listed:Array Bool} {ws:List (Option AV)} {cx:Cx} {S:St} {w:World} {a:Act} (h:qK nt ops e0 listed ws cx S w a):∀ {L:Src} {e:Env},ow ws e0 L=some e →
  (∀ t k,(t,some k) ∈ L→∃ o,ops[k]? = some o∧o.dst=some t∧listed.getD k false=true∧∀ j o',j ≠ k→ops[j]? = some o'→o'.dst=some t→listed.getD j false=true→j < k) →
  (∀ t,(t,none) ∈ L→∀ j o',ops[j]? = some o'→o'.dst=some t→listed.getD j false=false)→iX cx S w nt e a
 | [],e,he,_,_=>by
  simp only [ow,Option.some.injEq] at he
  subst he
  exact ⟨h.size,fun t x hx=>by simp [AL.get] at hx⟩
 | (t,some k) :: L,e,he,hA,hB=>by
  simp only [ow] at he
  split at he
  ·
   rename_i x hx
   obtain ⟨e',he',rfl⟩:=Option.map_eq_some_iff.1 he
   have ih:=rU h he' (fun t k hm=>hA t k (List.mem_cons_of_mem _ hm)) (fun t hm=>hB t (List.mem_cons_of_mem _ hm))
   refine ⟨h.size,fun u y hy=>?_⟩
   rw [AL.gU] at hy
   by_cases hu:t=u
   ·
    subst hu
    rw [if_pos rfl] at hy; cases hy
    obtain ⟨o,h1,h2,h3,h4⟩:=hA t k List.mem_cons_self
    obtain ⟨x',hx',hs⟩:=h.new k o t h1 h2 h3 h4
    rw [hx] at hx'; cases hx'
    exact hs
   ·
    rw [if_neg hu] at hy; exact ih.rel u y hy
  ·
   cases he
 | (t,none) :: L,e,he,hA,hB=>by
  simp only [ow] at he
  split at he
  ·
   rename_i x hx
   obtain ⟨e',he',rfl⟩:=Option.map_eq_some_iff.1 he
   have ih:=rU h he' (fun t k hm=>hA t k (List.mem_cons_of_mem _ hm)) (fun t hm=>hB t (List.mem_cons_of_mem _ hm))
   refine ⟨h.size,fun u y hy=>?_⟩
   rw [AL.gU] at hy
   by_cases hu:t=u
   ·
    subst hu
    rw [if_pos rfl] at hy; cases hy
    exact h.old t x hx (hB t List.mem_cons_self)
   ·
    rw [if_neg hu] at hy; exact ih.rel u y hy
  ·
   cases he
theorem nQ {ops:Array Oper} (hr:sI ops=true) {i k:Nat} (hi:i < ops.size) (h:((Region.before ops).getD i 0).testBit k=true):k < i:=by
 rcases Nat.lt_or_ge k i with q | q
 ·
  exact q
 ·
  have:=(om hr (show ops[i]? = some ops[i] by simp [hi])).2.2 k q
  rw [this] at h; cases h
theorem uR {ops:Array Oper} (hr:sI ops=true) {e0:Env} {listed:Array Bool} (hcl:Closed ops listed) {ws:List (Option AV)} {cx:Cx} {S:St} {w:World} {a:Act} (h:qK nt ops e0 listed ws cx S w a) {i:Nat} (hi:i < ops.size) (hun:listed.getD i false=false)
  (hclo:∀ k,k < i→((Region.before ops).getD i 0).testBit k=true→listed.getD k false=true) {L:Src} {e:Env} (he:ow ws e0 L=some e) (hb:CQ ops ((Region.before ops).getD i 0) i L=true):iX cx S w nt e a:=by
 have late:∀ j,j < ops.size→((Region.before ops).getD j 0).testBit i=true→listed.getD j false=true→False:=fun j hj hb hl=>by
  have:=hcl j hl i (nQ hr hj hb) hb
  rw [this] at hun; cases hun
 have key:(∀ t k,(t,some k) ∈ L→∃ o,ops[k]? = some o∧o.dst=some t∧listed.getD k false=true∧∀ j o',j ≠ k→ops[j]? = some o'→o'.dst=some t→listed.getD j false=true→j < k) ∧
   (∀ t,(t,none) ∈ L→∀ j o',ops[j]? = some o'→o'.dst=some t→listed.getD j false=false):=by
  clear he
  induction L with
  | nil=>exact ⟨fun t k hm=>(by cases hm),fun t hm=>(by cases hm)⟩
  | cons p L ih =>
   obtain ⟨t,s⟩:=p
   cases s with
   | some k =>
    simp only [CQ,Bool.and_eq_true] at hb
    obtain ⟨⟨⟨b1,b2⟩,b3⟩,b4⟩:=hb
    obtain ⟨ih1,ih2⟩:=ih b4
    refine ⟨fun u q hm=>?_,fun u hm=>?_⟩
    ·
     rcases List.mem_cons.1 hm with hm | hm
     ·
      cases hm
      obtain ⟨o,h1,h2⟩:=nS.1 b1
      refine ⟨o,h1,h2,hclo k (nQ hr hi b2) b2,fun j o' hjk hj hd hl=>?_⟩
      have hjl:j < ops.size:=(Array.getElem?_eq_some_iff.1 hj).1
      have:=List.all_eq_true.1 b3 j (List.mem_range.2 hjl)
      simp only [nS.2 ⟨o',hj,hd⟩,Bool.not_true,Bool.false_or,Bool.or_eq_true] at this
      rcases this with ((q | q) | q) | q
      ·
       exact absurd (Nat.eq_of_beq_eq_true q) hjk
      ·
       exact Nat.le_of_ble_eq_true q
      ·
       rw [Nat.eq_of_beq_eq_true q,hun] at hl; cases hl
      ·
       exact (late j hjl q hl).elim
     ·
      exact ih1 u q hm
    ·
     rcases List.mem_cons.1 hm with hm | hm
     ·
      cases hm
     ·
      exact ih2 u hm
   | none =>
    simp only [CQ,Bool.and_eq_true] at hb
    obtain ⟨b3,b4⟩:=hb
    obtain ⟨ih1,ih2⟩:=ih b4
    refine ⟨fun u q hm=>?_,fun u hm=>?_⟩
    ·
     rcases List.mem_cons.1 hm with hm | hm
     ·
      cases hm
     ·
      exact ih1 u q hm
    ·
     rcases List.mem_cons.1 hm with hm | hm
     ·
      cases hm
      intro j o' hj hd
      have hjl:j < ops.size:=(Array.getElem?_eq_some_iff.1 hj).1
      have:=List.all_eq_true.1 b3 j (List.mem_range.2 hjl)
      simp only [nS.2 ⟨o',hj,hd⟩,Bool.not_true,Bool.false_or,Bool.or_eq_true] at this
      rcases this with q | q
      ·
       rw [Nat.eq_of_beq_eq_true q]; exact hun
      ·
       cases hl:listed.getD j false with
       | false=>rfl
       | true=>exact (late j hjl q hl).elim
     ·
      exact ih2 u hm
 exact rU h he key.1 key.2
theorem Cv {ops:Array Oper} {e0:Env} {listed:Array Bool} (hall:∀ i,i < ops.size→listed.getD i false=true) {ws:List (Option AV)} {cx:Cx} {S:St} {w:World} {a:Act} (h:qK nt ops e0 listed ws cx S w a) {L:Src} {e:Env} (he:ow ws e0 L=some e) (hb:FD ops L=true):iX cx S w nt e a:=by
 have key:(∀ t k,(t,some k) ∈ L→∃ o,ops[k]? = some o∧o.dst=some t∧listed.getD k false=true∧∀ j o',j ≠ k→ops[j]? = some o'→o'.dst=some t→listed.getD j false=true→j < k) ∧
   (∀ t,(t,none) ∈ L→∀ j o',ops[j]? = some o'→o'.dst=some t→listed.getD j false=false):=by
  clear he
  induction L with
  | nil=>exact ⟨fun t k hm=>(by cases hm),fun t hm=>(by cases hm)⟩
  | cons p L ih =>
   obtain ⟨t,s⟩:=p
   cases s with
   | some k =>
    simp only [FD,Bool.and_eq_true] at hb
    obtain ⟨⟨b1,b3⟩,b4⟩:=hb
    obtain ⟨ih1,ih2⟩:=ih b4
    refine ⟨fun u q hm=>?_,fun u hm=>?_⟩
    ·
     rcases List.mem_cons.1 hm with hm | hm
     ·
      cases hm
      obtain ⟨o,h1,h2⟩:=nS.1 b1
      refine ⟨o,h1,h2,hall k (Array.getElem?_eq_some_iff.1 h1).1,fun j o' hjk hj hd hl=>?_⟩
      have hjl:j < ops.size:=(Array.getElem?_eq_some_iff.1 hj).1
      have:=List.all_eq_true.1 b3 j (List.mem_range.2 hjl)
      simp only [nS.2 ⟨o',hj,hd⟩,Bool.not_true,Bool.false_or,Bool.or_eq_true] at this
      rcases this with q | q
      ·
       exact absurd (Nat.eq_of_beq_eq_true q) hjk
      ·
       exact Nat.le_of_ble_eq_true q
     ·
      exact ih1 u q hm
    ·
     rcases List.mem_cons.1 hm with hm | hm
     ·
      cases hm
     ·
      exact ih2 u hm
   | none =>
    simp only [FD,Bool.and_eq_true] at hb
    obtain ⟨b3,b4⟩:=hb
    obtain ⟨ih1,ih2⟩:=ih b4
    refine ⟨fun u q hm=>?_,fun u hm=>?_⟩
    ·
     rcases List.mem_cons.1 hm with hm | hm
     ·
      cases hm
     ·
      exact ih1 u q hm
    ·
     rcases List.mem_cons.1 hm with hm | hm
     ·
      cases hm
      intro j o' hj hd
      have hjl:j < ops.size:=(Array.getElem?_eq_some_iff.1 hj).1
      have:=List.all_eq_true.1 b3 j (List.mem_range.2 hjl)
      simp only [nS.2 ⟨o',hj,hd⟩,Bool.not_true,Bool.or_self] at this
      cases this
     ·
      exact ih2 u hm
 exact rU h he key.1 key.2
inductive Me (R:cZ) (C:gZ) (nt:Nat) (ops:Array Oper) (S:St) (e:Env) (o:Oper) (x:AV):Prop
 | val {v:AV} (hw:dD ops e o=some true) (ho:oper C (dX e) S o.op=some (.val v S)) (hl:Less x v)
 | call {f:Nat} {args:List AV} {v:AV} (hw:dD ops e o=some true) (ho:oper C (dX e) S o.op=some (.call f args)) (hs:dZ R C.P f args S (fun r=>r=(none,v,S))) (hl:Less x v)
 | no (hw:dD ops e o=some false) (hl:Less x (.tup []))
 | step (h:ae R C nt ops [o] e S (fun r=>∃ e' v,r=.go e' S∧(∀ t,o.dst=some t→AL.get e' t=some v∧Less x v)))
inductive Ms (R:cZ) (C:gZ) (nt:Nat) (ops:Array Oper) (S:St) (e:Env) (o:Oper) (PQ:AV→St→Prop) (Q:AV→St→Prop):Prop
 | val {v:AV} {S':St} (hw:dD ops e o=some true) (ho:oper C (dX e) S o.op=some (.val v S')) (hq:Q v S')
 | skip {S':St} (hw:dD ops e o=some true) (ho:oper C (dX e) S o.op=some (.skip S')) (hd:o.dst=none) (hq:Q .any S')
 | call {f:Nat} {args:List AV} (hw:dD ops e o=some true) (ho:oper C (dX e) S o.op=some (.call f args)) (hs:dZ R C.P f args S (fun r=>r.1=none∧Q r.2.1 r.2.2))
 | no (hw:dD ops e o=some false) (hq:Q (.tup []) S)
 | step (h:ae R C nt ops [o] e S (fun r=>∃ e' v S',r=.go e' S'∧(∀ t,o.dst=some t→AL.get e' t=some v)∧Q v S'))
 | stepX (h:ae R C nt ops [o] e S (fun r=>match r with | .go e' S'=>∃ v,(∀ t,o.dst=some t→AL.get e' t=some v)∧Q v S' | .stop v S'=>PQ v S'))
theorem uf (hR:kR R C) {ops:Array Oper} {o:Oper} {e:Env} {S:St} {Q:Stp→Prop} (h:ve R C nt ops o e S Q) {cx:Cx} {w:World} {a:Act} (hS:bq R cx S w) (he:iX cx S w nt e a)
  {K:Act→World→Prop} {Kx:Exit→Act→World→Prop} (hno:∀ v S',Q (.stop v S')→∀ cx' w' u,bq R cx' S' w'→Ext cx S w cx' S' w'→aP cx' S' w' v u→Kx (.panic [{ v:=u,recovered:=false }]) a w') (hk:∀ e' S' cx' w' u,Q (.go e' S')→bq R cx' S' w'→Ext cx S w cx' S' w'→iX cx' S' w' nt e' (a.put o.dst u)→K (a.put o.dst u) w') (hnx:∀ t,o.op ≠ .next (.tmp t) false) {i:Nat} (hi:ops[i]? = some o):wpOp C.P ops Kx i K a w:=by
 have hrefl:=Ext.refl (cx:=cx) w hS.wf
 rcases h with ⟨t,rs,h1,h2,h3⟩ | ⟨e2,hw,h1,h2⟩ | ⟨e2,e',hw,h1,h2,h3⟩ | ⟨e2,hw,h1,h2⟩
 ·
  exact absurd h1 (hnx t)
 rotate_left 2
 ·
  have he2:=he.weak hw
  unfold wpOp
  rw [hi]
  simp only
  rw [if_pos (fG he2 h1)]
  left
  unfold Oper.wp
  rcases h2 cx w a hS he2 with ⟨cx',w',u,v,S',e',q1,q2,q3,q4,q5,q6⟩ | ⟨u,v,q1,q2,q3⟩
  ·
   rw [q1]
   exact hk _ _ cx' w' u q6 q2 q3 ((he2.mono q3).put q5 q4)
  ·
   rw [q1]
   exact hno _ _ q3 cx w u hS hrefl q2
 ·
  have he2:=he.weak hw
  unfold wpOp
  rw [hi]
  simp only
  rw [if_pos (fG he h1)]
  left
  rcases h2 with ⟨v,S',e',h1,h2,h3⟩ | ⟨S',h1,h2,h3⟩ | ⟨f,args,h1,h2⟩ | ⟨t,x,y,ty,xs,b,el,hop,hx,hy,hu,hq⟩
  rotate_left 3
  ·
   have rx:=he2.eval x _ hx
   have ry:=he2.eval y _ hy
   obtain ⟨a0,n,c,ex,hnil⟩:=BO rx.dd
   have ey:a.eval y=.slice none 0 0:=by
    have:=ry.dd.val rfl
    generalize a.eval y=z at this
    cases this
    rfl
   have hrun:(execOp a.eval o).run C.P w=.ok (.value (.bool a0.isNone)) w:=by
    obtain ⟨dst,op,ty',pos,after,guard⟩:=o
    simp only at hop
    subst hop
    exact rA (by
     rw [ex,ey]
     have hg:(eqGuard .eql t x y (.slice a0 n c) (.slice none 0 0)).run C.P w=.ok () w:=gT rfl
     simp only [Sem.run_bind,hg,Result.andThen_ok]
     exact Lib.run_eql_slice_nil w t el a0 n c 0 0 hu)
   obtain ⟨e',hp,hk'⟩:=hq a0.isNone (fun h=>hnil (by cases a0 with | none=>rfl | some a=>cases h))
   unfold Oper.wp
   rw [hrun]
   exact hk _ _ cx w _ hk' hS hrefl (he2.put hp (.of_bool _))
  ·
   obtain ⟨cx',w',u,k1,k2,k3,k4⟩:=iF hR hS he2.eval o h1
   unfold Oper.wp
   rw [k1]
   exact hk _ _ cx' w' u h3 k2 k3 ((he2.mono k3).put h2 k4)
  ·
   obtain ⟨cx',w',k1,k2,k3⟩:=iF hR hS he2.eval o h1
   unfold Oper.wp
   rw [k1]
   refine hk _ _ cx' w' undef h3 k2 k3 ?_
   rw [h2]
   exact he2.mono k3
  ·
   obtain ⟨us,k1,k2,k3⟩:=iF hR hS he2.eval o h1
   obtain ⟨⟨fn,f1,f2,f3⟩,hcalls⟩:=h2
   unfold Oper.wp
   rw [k3 fn f1 f2 f3]
   refine (hcalls cx w us hS k1 k2).mono (fun en w' hen=>?_)
   obtain ⟨⟨p,v,S'⟩,hq,cx',m1,m2,m3⟩:=hen
   cases p with
   | none =>
    obtain ⟨u,rfl,m3⟩:=m3
    obtain ⟨e',hp,hq⟩:=hq
    exact hk _ _ cx' _ _ hq m1 m2 ((he2.mono m2).put hp m3)
   | some p =>
    obtain ⟨u,rfl,m3⟩:=m3
    exact hno _ _ hq cx' w' u m1 m2 m3
 ·
  have he2:=he.weak hw
  unfold wpOp
  rw [hi]
  simp only
  rw [if_neg (by rw [fG he h1]; simp)]
  split at h2
  ·
   rename_i hd
   subst h2
   refine hk _ _ cx w _ h3 hS hrefl ?_
   rw [hd]
   exact he2
  ·
   rename_i t hd
   refine hk _ _ cx w _ h3 hS hrefl ?_
   rw [hd]
   exact he2.put h2 (.tup [] [] rfl (fun i x v hx=>by simp at hx))
theorem yG {cx:Cx} {S:St} {w:World} {a:Act} {e:Env} {t:Nat} {u:Value} {v:AV} (he:iX cx S w nt e (a.put (some t) u)) (hv:AL.get e t=some v):aP cx S w v u:=by
 obtain ⟨u',h1,h2⟩:=he.rel t v hv
 simp only [Act.put] at h1
 have hlt:t < a.tmps.size:=by
  have:=(Array.getElem?_eq_some_iff.1 h1).1
  simpa using this
 rw [Array.getElem?_setIfInBounds_self_of_lt hlt] at h1
 cases h1
 exact h2
theorem Al (hR:kR R C) {ops:Array Oper} {o:Oper} {e:Env} {S:St} {x:AV} (h:Me R C nt ops S e o x) {cx:Cx} {w:World} {a:Act} (hS:bq R cx S w) (he:iX cx S w nt e a)
  {K:Act→World→Prop} {Kx:Exit→Act→World→Prop} (hk:∀ cx' w' u,bq R cx' S w'→Ext cx S w cx' S w'→(∀ t,o.dst=some t→aP cx' S w' x u)→K (a.put o.dst u) w') (hnx:∀ t,o.op ≠ .next (.tmp t) false) {i:Nat} (hi:ops[i]? = some o):wpOp C.P ops Kx i K a w:=by
 have hrefl:=Ext.refl (cx:=cx) w hS.wf
 unfold wpOp
 rw [hi]
 simp only
 cases h with
 | val hw ho hl =>
  rw [if_pos (fG he hw)]
  left
  obtain ⟨cx',w',u,k1,k2,k3,k4⟩:=iF hR hS he.eval o ho
  unfold Oper.wp
  rw [k1]
  exact hk cx' w' u k2 k3 (fun _ _=>hl _ _ _ _ k4)
 | call hw ho hs hl =>
  rw [if_pos (fG he hw)]
  left
  obtain ⟨us,k1,k2,k3⟩:=iF hR hS he.eval o ho
  obtain ⟨⟨fn,f1,f2,f3⟩,hcalls⟩:=hs
  unfold Oper.wp
  rw [k3 fn f1 f2 f3]
  refine (hcalls cx w us hS k1 k2).mono (fun en w' hen=>?_)
  obtain ⟨r,rfl,cx',m1,m2,m3⟩:=hen
  obtain ⟨u,rfl,m3⟩:=m3
  exact hk cx' w' u m1 m2 (fun _ _=>hl _ _ _ _ m3)
 | no hw hl =>
  rw [if_neg (by rw [fG he hw]; simp)]
  have hv:aP cx S w x (.tuple #[]):=hl _ _ _ _ (.tup [] [] rfl (fun i x v hx=>by simp at hx))
  exact hk cx w _ hS hrefl (fun _ _=>hv)
 | step h =>
  obtain ⟨e2,S2,hw,h⟩:=h
  obtain ⟨cx2,gS,gx,ge⟩:=hw cx w a hS he
  have:=uf hR h gS ge (K:=K) (Kx:=Kx) (fun v S' hq=>by obtain ⟨_,_,hc,_⟩:=hq; cases hc) (fun e' S' cx' w' u hq q1 q2 q3=>?_) hnx hi
  ·
   unfold wpOp at this
   rw [hi] at this
   exact this
  ·
   obtain ⟨e3,hw3,e4,v,hq1,hq2⟩:=hq
   cases hq1
   refine hk cx' w' u q1 (gx.trans q2) (fun t ht=>?_)
   obtain ⟨g1,g2⟩:=hq2 t ht
   rw [ht] at q3
   exact g2 _ _ _ _ (yG (q3.weak hw3) g1)
theorem zK (hR:kR R C) {ops:Array Oper} {o:Oper} {e:Env} {S:St} {PQ Q:AV→St→Prop} (h:Ms R C nt ops S e o PQ Q) {cx:Cx} {w:World} {a:Act} (hS:bq R cx S w) (he:iX cx S w nt e a)
  {K:Act→World→Prop} {Kx:Exit→Act→World→Prop} (hx:∀ v S' cx' w' u,PQ v S'→bq R cx' S' w'→Ext cx S w cx' S' w'→aP cx' S' w' v u→Kx (.panic [{ v:=u,recovered:=false }]) a w') (hk:∀ v S' cx' w' u,Q v S'→bq R cx' S' w'→Ext cx S w cx' S' w'→(∀ t,o.dst=some t→aP cx' S' w' v u)→K (a.put o.dst u) w') (hnx:∀ t,o.op ≠ .next (.tmp t) false) {i:Nat} (hi:ops[i]? = some o):wpOp C.P ops Kx i K a w:=by
 have hrefl:=Ext.refl (cx:=cx) w hS.wf
 unfold wpOp
 rw [hi]
 simp only
 cases h with
 | val hw ho hq =>
  rw [if_pos (fG he hw)]
  left
  obtain ⟨cx',w',u,k1,k2,k3,k4⟩:=iF hR hS he.eval o ho
  unfold Oper.wp
  rw [k1]
  exact hk _ _ cx' w' u hq k2 k3 (fun _ _=>k4)
 | skip hw ho hd hq =>
  rw [if_pos (fG he hw)]
  left
  obtain ⟨cx',w',k1,k2,k3⟩:=iF hR hS he.eval o ho
  unfold Oper.wp
  rw [k1]
  exact hk _ _ cx' w' undef hq k2 k3 (fun _ _=>.any _)
 | call hw ho hs =>
  rw [if_pos (fG he hw)]
  left
  obtain ⟨us,k1,k2,k3⟩:=iF hR hS he.eval o ho
  obtain ⟨⟨fn,f1,f2,f3⟩,hcalls⟩:=hs
  unfold Oper.wp
  rw [k3 fn f1 f2 f3]
  refine (hcalls cx w us hS k1 k2).mono (fun en w' hen=>?_)
  obtain ⟨⟨p,v,S'⟩,⟨hp,hq⟩,cx',m1,m2,m3⟩:=hen
  simp only at hp
  subst hp
  obtain ⟨u,rfl,m3⟩:=m3
  exact hk _ _ cx' w' u hq m1 m2 (fun _ _=>m3)
 | no hw hq =>
  rw [if_neg (by rw [fG he hw]; simp)]
  exact hk _ _ cx w _ hq hS hrefl (fun _ _=>.tup [] [] rfl (fun i x v hx=>by simp at hx))
 | step h =>
  obtain ⟨e2,S2,hw,h⟩:=h
  obtain ⟨cx2,gS,gx,ge⟩:=hw cx w a hS he
  have:=uf hR h gS ge (K:=K) (Kx:=Kx) (fun v S' hq=>by obtain ⟨_,_,_,hc,_⟩:=hq; cases hc) (fun e' S' cx' w' u hq q1 q2 q3=>?_) hnx hi
  ·
   unfold wpOp at this
   rw [hi] at this
   exact this
  ·
   obtain ⟨e3,hw3,e4,v,S4,hq1,hq2,hq3⟩:=hq
   cases hq1
   refine hk v S' cx' w' u hq3 q1 (gx.trans q2) (fun t ht=>?_)
   have g1:=hq2 t ht
   rw [ht] at q3
   exact yG (q3.weak hw3) g1
 | stepX h =>
  obtain ⟨e2,S2,hw,h⟩:=h
  obtain ⟨cx2,gS,gx,ge⟩:=hw cx w a hS he
  have:=uf hR h gS ge (K:=K) (Kx:=Kx) (fun v S' hq cx' w' u q1 q2 q3=>hx v S' cx' w' u hq q1 (gx.trans q2) q3) (fun e' S' cx' w' u hq q1 q2 q3=>?_) hnx hi
  ·
   unfold wpOp at this
   rw [hi] at this
   exact this
  ·
   obtain ⟨e3,hw3,v,hq2,hq3⟩:=hq
   refine hk v S' cx' w' u hq3 q1 (gx.trans q2) (fun t ht=>?_)
   have g1:=hq2 t ht
   rw [ht] at q3
   exact yG (q3.weak hw3) g1
inductive pJ:List (Option AV)→List (Option AV)→Prop
 | nil:pJ [] []
 | new {x:Option AV} {a b:List (Option AV)} (k:pJ a b):pJ (x :: a) (none :: b)
 | old {x y:AV} {a b:List (Option AV)} (h:Less y x) (k:pJ a b):pJ (some y :: a) (some x :: b)
theorem pJ.get {a b:List (Option AV)} (h:pJ a b):∀ {k:Nat} {x:AV},b[k]? = some (some x)→∃ y,a[k]? = some (some y)∧Less y x:=by
 induction h with
 | nil=>intro k x h; simp at h
 | new k ih =>
  intro k x h
  cases k with
  | zero=>simp at h
  | succ k=>simpa using ih (by simpa using h)
 | old h k ih =>
  intro k x hx
  cases k with
  | zero=>simp at hx; subst hx; exact ⟨_,rfl,h⟩
  | succ k=>simpa using ih (by simpa using hx)
theorem qK.step {ops:Array Oper} (hr:sI ops=true) (hnt:∀ (k:Nat) (o:Oper) (t:Nat),ops[k]? = some o→o.dst=some t→t < nt) {e0:Env} {listed:Array Bool} (hsz:listed.size=ops.size) (hcl:Closed ops listed) {ws ws':List (Option AV)} {i:Nat} (hle:∀ k x,k ≠ i→ws[k]? = some (some x)→∃ y,ws'[k]? = some (some y)∧Less y x) {cx cx':Cx} {S S':St} {w w':World} {a:Act} (h:qK nt ops e0 listed ws cx S w a)
  {o:Oper} (hi:ops[i]? = some o) (hun:listed.getD i false=false) (ex:Ext cx S w cx' S' w') {u:Value} (hu:∀ t,o.dst=some t→∃ x,ws'[i]? = some (some x)∧aP cx' S' w' x u):qK nt ops e0 (listed.setIfInBounds i true) ws' cx' S' w' (a.put o.dst u):=by
 have hlt:i < ops.size:=(Array.getElem?_eq_some_iff.1 hi).1
 have size:nt ≤ (a.put o.dst u).tmps.size:=by
  cases hd:o.dst with
  | none=>exact h.size
  | some t=>simp only [Act.put,Array.size_setIfInBounds]; exact h.size
 have keep:∀ t,o.dst ≠ some t→(a.put o.dst u).tmps[t]? = a.tmps[t]?:=fun t ht=>by
  cases hd:o.dst with
  | none=>rfl
  | some d =>
   have:d ≠ t:=fun q=>ht (by rw [hd,q])
   simp only [Act.put]
   rw [Array.getElem?_setIfInBounds_ne this]
 refine ⟨size,fun k ok t hk hd hlk hlast=>?_,fun t x hx hno=>?_⟩
 ·
  by_cases hki:k=i
  ·
   subst hki
   rw [hi] at hk; cases hk
   obtain ⟨x,hx,hr⟩:=hu t hd
   refine ⟨x,hx,u,?_,hr⟩
   have htn:=hnt k o t hi hd
   have:=h.size
   rw [hd]
   simp only [Act.put]
   rw [Array.getElem?_setIfInBounds_self_of_lt (by omega)]
  ·
   have hlk':listed.getD k false=true:=by rwa [getD_set_ne false (fun q=>hki q.symm)] at hlk
   have hklt:k < ops.size:=(Array.getElem?_eq_some_iff.1 hk).1
   have hdi:o.dst ≠ some t:=fun hdi=>by
    have hik:=hlast i o (fun q=>hki q.symm) hi hdi (by have hlt':i < listed.size:=(by omega); simp [hlt'])
    obtain ⟨r1,r2,_⟩:=om hr hk
    have:=r2 i o hik hi
    split at this
    ·
     rename_i hb
     have:=hcl k hlk' i hik hb
     rw [hun] at this; cases this
    ·
     simp only [Oper.apart,hdi,hd,Bool.and_eq_true] at this
     simp at this
   obtain ⟨x,hx,v,v1,v2⟩:=h.new k ok t hk hd hlk' (fun j o' hjk hj hdj hlj=>hlast j o' hjk hj hdj (by
    by_cases hji:i=j
    ·
     subst hji; rw [hun] at hlj; cases hlj
    ·
     rw [getD_set_ne false hji]; exact hlj))
   obtain ⟨y,hy,hyx⟩:=hle k x hki hx
   exact ⟨y,hy,v,by rw [keep t hdi]; exact v1,hyx _ _ _ _ (v2.mono ex)⟩
 ·
  have hdi:o.dst ≠ some t:=fun hdi=>by
   have:=hno i o hi hdi
   have hlt':i < listed.size:=by omega
   simp [hlt'] at this
  obtain ⟨v,v1,v2⟩:=h.old t x hx (fun j o' hj hdj=>by
   have:=hno j o' hj hdj
   by_cases hji:i=j
   ·
    subst hji; exact hun
   ·
    rwa [getD_set_ne false hji] at this)
  exact ⟨v,by rw [keep t hdi]; exact v1,v2.mono ex⟩
inductive RL (R:cZ) (C:gZ) (nt:Nat) (ops:Array Oper) (srcs:List Src) (e0:Env) (ws:List (Option AV)) (S:St):List Nat→Prop
 | nil:RL R C nt ops srcs e0 ws S []
 | cons {i:Nat} {o:Oper} {x:AV} {e:Env} {os:List Nat} (ho:ops[i]? = some o) (hx:ws[i]? = some (some x)) (he:ow ws e0 (srcs.getD i [])=some e) (h:Me R C nt ops S e o x) (k:RL R C nt ops srcs e0 ws S os):RL R C nt ops srcs e0 ws S (i :: os)
theorem RL.get {ops:Array Oper} {srcs:List Src} {e0:Env} {ws:List (Option AV)} {S:St} {os:List Nat} (h:RL R C nt ops srcs e0 ws S os):∀ {i:Nat},i ∈ os→∃ o x e,ops[i]? = some o∧ws[i]? = some (some x)∧ow ws e0 (srcs.getD i [])=some e∧Me R C nt ops S e o x:=by
 induction h with
 | nil=>intro i h; cases h
 | cons ho hx he h k ih =>
  intro i hi
  rcases List.mem_cons.1 hi with rfl | hi
  ·
   exact ⟨_,_,_,ho,hx,he,h⟩
  ·
   exact ih hi
def BA (i:Nat) (l:List Nat):Bool:=l.any fun j=>Nat.beq j i
theorem ql {i:Nat} {l:List Nat}:BA i l=true↔i ∈ l:=by
 simp only [BA,List.any_eq_true]
 constructor
 ·
  rintro ⟨j,hj,hb⟩; rw [← Nat.eq_of_beq_eq_true hb]; exact hj
 ·
  intro h; exact ⟨i,h,Nat.beq_refl i⟩
def Bg (ops:Array Oper) (os done:List Nat) (w:Option Nat) (W:List Nat):Bool :=
 (os.all fun j=>!BA j W) &&   (List.range ops.size).all fun i=>BA i os || BA i done || (done.any fun d=>Nat.testBit ((Region.before ops).getD d 0) i) || (match w with | some w=>Nat.beq i w || Nat.testBit ((Region.before ops).getD i 0) w | none=>false)
def Gv (R:cZ) (C:gZ) (nt:Nat) (ops:Array Oper) (srcs:List Src) (fin:Src) (e0:Env) (PQ:AV→St→Prop) (Q:Env→St→Prop):List Nat→List Nat→List (Option AV)→St→Prop
 | [],done,ws,S=>∃ os,Bg ops os done none []=true∧RL R C nt ops srcs e0 ws S os∧∃ E,ow ws e0 fin=some E∧Q E S
 | i :: W,done,ws,S=>∃ os,Bg ops os done (some i) (i :: W)=true∧RL R C nt ops srcs e0 ws S os∧∃ o e,ops[i]? = some o∧ow ws e0 (srcs.getD i [])=some e ∧
   Ms R C nt ops S e o PQ (fun v S'=>∃ ws',pJ ws' ws∧(∀ t,o.dst=some t→∃ x,ws'[i]? = some (some x)∧Less x v)∧Gv R C nt ops srcs fin e0 PQ Q W (i :: done) ws' S')
def Et (ops:Array Oper) (nt:Nat) (srcs:List Src) (fin:Src):Bool :=
 sI ops && FD ops fin && (List.range ops.size).all fun i=>CQ ops ((Region.before ops).getD i 0) i (srcs.getD i []) && (match ops[i]? with | some o=>(match o.dst with | some t=>Nat.blt t nt | none=>true) && (match o.op with | .next _ _=>false | _=>true) | none=>true)
theorem ax.qL (hR:kR R C) (hm:C.P.follows .mixedOrders=true) {id:Nat} {ops:Array Oper} (srcs:List Src) (fin:Src) (ht:Et ops nt srcs fin=true) (W:List Nat) (hWn:W.Nodup) {e0:Env} {S:St} (ws:List (Option AV)) {Q:uo→Prop}
  (h:Gv R C nt ops srcs fin e0 (fun v S'=>Q (.panic v,e0,S')) (fun e' S'=>Q (.normal,e',S')) W [] ws S):ax R C.P nt (.region id ops true) e0 S Q:=by
 simp only [Et,Bool.and_eq_true] at ht
 obtain ⟨⟨hr,hfin⟩,hall⟩:=ht
 have hsrc:∀ i,i < ops.size→CQ ops ((Region.before ops).getD i 0) i (srcs.getD i [])=true:=fun i hi=>by
  have:=List.all_eq_true.1 hall i (List.mem_range.2 hi)
  simp only [Bool.and_eq_true] at this
  exact this.1
 have hnt:∀ (k:Nat) (o:Oper) (t:Nat),ops[k]? = some o→o.dst=some t→t < nt:=fun k o t hk hd=>by
  have:=List.all_eq_true.1 hall k (List.mem_range.2 (Array.getElem?_eq_some_iff.1 hk).1)
  simp only [Bool.and_eq_true,hk,hd] at this
  exact Nat.le_of_ble_eq_true this.2.1
 have hnx:∀ (k:Nat) (o:Oper),ops[k]? = some o→∀ t,o.op ≠ .next (.tmp t) false:=fun k o hk t ho=>by
  have:=List.all_eq_true.1 hall k (List.mem_range.2 (Array.getElem?_eq_some_iff.1 hk).1)
  simp only [Bool.and_eq_true,hk,ho] at this
  cases this.2.2
 intro cx w a Kx hS he hk
 refine wp_region_any hm ?_
 obtain ⟨d1,d2⟩:=nW hR.toObjOk hS
 let Inv:Array Bool→Act→World→Prop:=fun listed a' w'=>a'.defers=a.defers∧∃ W' done ws' S' cx',Gv R C nt ops srcs fin e0 (fun v S'=>Q (.panic v,e0,S')) (fun e' S'=>Q (.normal,e',S')) W' done ws' S'∧(∀ i ∈ done,listed.getD i false=true)∧(∀ i ∈ W',listed.getD i false=false)∧W'.Nodup ∧
  bq R cx' S' w'∧Ext cx S w cx' S' w'∧qK nt ops e0 listed ws' cx' S' w' a'
 have repf:∀ i,(Array.replicate ops.size false).getD i false=false:=fun i=>Aj _ _
 refine Eu hr Inv ?_ ?_ ops.size (Array.replicate ops.size false) (by simp) (fun j hj=>by rw [repf] at hj; cases hj) ?_ ?_
 ·
  intro listed a' w' i o K hsz hcl hun hi hclo ⟨hd,W',done,ws',S',cx',hD,hdone,hW',hnd,s1,x1,env⟩ hK
  have hlt:i < ops.size:=(Array.getElem?_eq_some_iff.1 hi).1
  have rstep:∀ os,RL R C nt ops srcs e0 ws' S' os→i ∈ os→i ∉ W'→wpOp C.P ops Kx i K a' w':=fun os hrl hio hiw=>by
   obtain ⟨o2,x,e,h1,h2,h3,h4⟩:=hrl.get hio
   rw [hi] at h1; cases h1
   have hrel:=uR hr hcl env hlt hun hclo h3 (hsrc i hlt)
   refine Al hR h4 s1 hrel (fun cx2 w2 u q1 q2 q3=>hK _ _ ⟨by rw [put_defers]; exact hd,W',done,ws',S',cx2,hD,fun j hj=>?_,fun j hj=>?_,hnd,q1,x1.trans q2,?_⟩) (hnx i o hi) hi
   ·
    by_cases hij:i=j
    ·
     subst hij; exact getD_set_true (hdone i hj)
    ·
     rw [getD_set_ne false hij]; exact hdone j hj
   ·
    have hij:i ≠ j:=fun q=>hiw (q ▸ hj)
    rw [getD_set_ne false hij]; exact hW' j hj
   ·
    exact qK.step hr hnt hsz hcl (fun k y _ hy=>⟨y,hy,.refl y⟩) env hi hun q2 (fun t ht=>⟨x,h2,q3 t ht⟩)
  have cov:∀ os w0,Bg ops os done w0 W'=true→(i ∈ os∧i ∉ W')∨∃ w1,w0=some w1∧(i=w1∨listed.getD w1 false=true):=fun os w0 hc=>by
   simp only [Bg,Bool.and_eq_true] at hc
   obtain ⟨c1,c2⟩:=hc
   have:=List.all_eq_true.1 c2 i (List.mem_range.2 hlt)
   simp only [Bool.or_eq_true] at this
   rcases this with ((q | q) | q) | q
   ·
    left
    have hio:=ql.1 q
    refine ⟨hio,fun hiw=>?_⟩
    have:=List.all_eq_true.1 c1 i hio
    rw [ql.2 hiw] at this; cases this
   ·
    have:=hdone i (ql.1 q)
    rw [hun] at this; cases this
   ·
    obtain ⟨d,hd1,hd2⟩:=List.any_eq_true.1 q
    have hl:=hdone d hd1
    have hdlt:d < ops.size:=by
     rcases Nat.lt_or_ge d ops.size with q | q
     ·
      exact q
     ·
      have:listed.getD d false=false:=by simp [show listed.size ≤ d by omega]
      rw [hl] at this; cases this
    have:=hcl d hl i (nQ hr hdlt hd2) hd2
    rw [hun] at this; cases this
   ·
    right
    cases w0 with
    | none=>cases q
    | some w1 =>
     simp only [Bool.or_eq_true] at q
     refine ⟨w1,rfl,q.imp Nat.eq_of_beq_eq_true (fun q=>hclo w1 (nQ hr hlt q) q)⟩
  cases W' with
  | nil =>
   obtain ⟨os,hc,hrl,_⟩:=_root_.id hD
   rcases cov os none hc with h | ⟨w1,h,_⟩
   ·
    exact rstep os hrl h.1 h.2
   ·
    cases h
  | cons w0 W2 =>
   obtain ⟨os,hc,hrl,o2,e,h1,h2,h3⟩:=_root_.id hD
   rcases cov os (some w0) hc with h | ⟨w1,h,hq⟩
   ·
    exact rstep os hrl h.1 h.2
   ·
    cases h
    rcases hq with rfl | hq
    ·
     rw [hi] at h1; cases h1
     have hrel:=uR hr hcl env hlt hun hclo h2 (hsrc i hlt)
     refine zK hR h3 s1 hrel (fun v S2 cx2 w2 u hqv q1 q2 q3=>hk (.panic v,e0,S2) hqv cx2 a' w2 u q1 (x1.trans q2) q3 hd) (fun v S2 cx2 w2 u hqv q1 q2 q3=>?_) (hnx i o hi) hi
     obtain ⟨ws2,l1,l2,l3⟩:=hqv
     refine hK _ _ ⟨by rw [put_defers]; exact hd,W2,i :: done,ws2,S2,cx2,l3,fun j hj=>?_,fun j hj=>?_,(List.nodup_cons.1 hnd).2,q1,x1.trans q2,?_⟩
     ·
      by_cases hij:i=j
      ·
       subst hij
       have hlt':i < listed.size:=by omega
       simp [hlt']
      ·
       rw [getD_set_ne false hij]
       rcases List.mem_cons.1 hj with q | q
       ·
        exact absurd q.symm hij
       ·
        exact hdone j q
     ·
      have hij:i ≠ j:=fun q=>(List.nodup_cons.1 hnd).1 (q ▸ hj)
      rw [getD_set_ne false hij]; exact hW' j (List.mem_cons_of_mem _ hj)
     ·
      exact qK.step hr hnt hsz hcl (fun k y _ hy=>l1.get hy) env hi hun q2 (fun t ht=>by
       obtain ⟨x,k1,k2⟩:=l2 t ht
       exact ⟨x,k1,k2 _ _ _ _ (q3 t ht)⟩)
    ·
     have:=hW' w0 List.mem_cons_self
     rw [hq] at this; cases this
 ·
  intro listed a' w' hall' ⟨hd,W',done,ws',S',cx',hD,hdone,hW',hnd,s1,x1,env⟩
  cases W' with
  | nil =>
   obtain ⟨os,hc,hrl,E,hE,hQ⟩:=hD
   exact hk (.normal,E,S') hQ cx' a' w' s1 x1 (Cv hall' env hE hfin) hd
  | cons w0 W2 =>
   obtain ⟨os,hc,hrl,o2,e,h1,h2,h3⟩:=hD
   have:=hall' w0 (Array.getElem?_eq_some_iff.1 h1).1
   rw [hW' w0 List.mem_cons_self] at this; cases this
 ·
  have:((List.range ops.size).filter fun i=>!(Array.replicate ops.size false).getD i false)=List.range ops.size:=by
   rw [List.filter_eq_self]; intro i hi; rw [repf]; rfl
  rw [this]; simp
 ·
  refine ⟨rfl,W,[],ws,S,cx,h,fun i hi=>(by cases hi),fun i hi=>repf i,hWn,d1,d2,he.size,fun k o t _ _ hl _=>?_,fun t x hx _=>?_⟩
  ·
   rw [repf] at hl; cases hl
  ·
   obtain ⟨v,v1,v2⟩:=he.rel t x hx
   exact ⟨v,v1,v2.mono d2⟩
end
end Go.Ev
namespace Go.Ev
end Go.Ev

namespace Go.Ev
noncomputable section
open Go.Shelf Go.RowKit Go.Proofs
set_option linter.unusedVariables false
set_option linter.unusedSimpArgs false
end
end Go.Ev

namespace Go.Ev
noncomputable section
open Go.Shelf Go.RowKit Go.Proofs
set_option linter.unusedVariables false
set_option linter.unusedSimpArgs false
structure KD (T e:Nat) (b:Nat) (p v:Value) (xs:List Value) (w:World):Prop where
 hp:p=.pointer none∨p=.pointer (some ⟨b,0,none⟩)
 blk:w.heap[b]? = some (.cells #[p,v] T (0,0))
 own:w.ownsRow 0 e 1 v xs.length xs
 ne:v.ownBlock ≠ some b
end
end Go.Ev

namespace Go.Ev
noncomputable section
open Go.Shelf Go.RowKit Go.Proofs
set_option linter.unusedVariables false
set_option linter.unusedSimpArgs false
def Jd (T e:Nat) (k:Nat) (x:D) (w:World) (b:Nat) (F:Nat→Prop):Prop :=
 k=1∧∃ l p v,x=.str l∧KD T e b p v (Lib.byteCells l) w∧∀ c,F c↔(c=b∨v.ownBlock=some c)
def Kc (k:Nat) (w:World) (b:Nat) (F:Nat→Prop):Prop:=k=3∧b < w.heap.size∧∀ c,F c↔c=b
def MJ (T e:Nat) (G:World→(Nat→Nat→Prop)→Prop):cZ:={ rel:=fun k x w b F=>Jd T e k x w b F∨Kc k w b F,G:=G }
def FX (G:World→(Nat→Nat→Prop)→Prop):Prop :=
 ∀ (w w':World) (fr fr':Nat→Nat→Prop),G w fr→(∀ (b o:Nat) (v:Value),¬ fr b o→w.cell? ⟨b,o,none⟩=some v→w'.cell? ⟨b,o,none⟩=some v∧¬ fr' b o)→(∀ b,b < w.heap.size→(∀ o,¬ fr b o)→w'.heap[b]? = w.heap[b]?∧∀ o,¬ fr' b o)→G w' fr'
theorem Fe {e:Nat} {v:Value} {n:Nat} {xs:List Value} {w w':World} (h:w.ownsRow 0 e 1 v n xs) (hk:∀ c,v.ownBlock=some c→w'.heap[c]? = w.heap[c]?):w'.ownsRow 0 e 1 v n xs:=by
 refine ⟨h.1,?_⟩
 rcases h.2 with q | ⟨g,cap,cur,rfl,q1,q2,q3⟩
 ·
  exact .inl q
 ·
  exact .inr ⟨g,cap,cur,rfl,q1,by rw [hk g rfl]; exact q2,q3⟩
theorem K5 {T e:Nat} {G:World→(Nat→Nat→Prop)→Prop} (hG:FX G):ObjOk (MJ T e G) where
 frame:=fun k x w w' b F h hF=>by
  rcases h with h | ⟨h1,h2,h3⟩
  ·
   obtain ⟨hk,l,p,v,hx,⟨h1,h2,h3,h4⟩,hf⟩:=h
   exact .inl ⟨hk,l,p,v,hx,⟨h1,by rw [hF b ((hf b).2 (.inl rfl))]; exact h2,Fe h3 (fun c hc=>hF c ((hf c).2 (.inr hc))),h4⟩,hf⟩
  ·
   refine .inr ⟨h1,?_,h3⟩
   have:=hF b ((h3 b).2 rfl)
   rcases Nat.lt_or_ge b w'.heap.size with q | q
   ·
    exact q
   ·
    rw [Array.getElem?_eq_none q,Array.getElem?_eq_getElem h2] at this; cases this
 lt:=fun k x w b F h=>by
  rcases h with h | ⟨h1,h2,h3⟩
  ·
   obtain ⟨hk,l,p,v,hx,⟨h1,h2,h3,h4⟩,hf⟩:=h
   refine ⟨fun c hc=>?_,(hf b).2 (.inl rfl)⟩
   rcases (hf c).1 hc with rfl | hc
   ·
    rcases Nat.lt_or_ge c w.heap.size with q | q
    ·
     exact q
    ·
     rw [Array.getElem?_eq_none q] at h2; cases h2
   ·
    exact (h3.lt c hc).2
  ·
   exact ⟨fun c hc=>by rw [(h3 c).1 hc]; exact h2,(h3 b).2 rfl⟩
 it:=fun x w b F=>by
  constructor
  ·
   rintro (⟨h,_⟩ | ⟨_,h1,h2⟩)
   ·
    cases h
   ·
    exact ⟨h1,h2⟩
  ·
   rintro ⟨h1,h2⟩
   exact .inr ⟨rfl,h1,h2⟩
 stat:=hG
end
end Go.Ev

namespace Go.Ev
noncomputable section
open Go.Shelf Go.RowKit Go.Proofs
set_option linter.unusedVariables false
set_option linter.unusedSimpArgs false
abbrev Prim:=List AV→St→Option (AV × St)
structure Bb (R:cZ) (P:Program) (f:Nat) (p:Prim):Prop where
 pure:∀ args S v S',p args S=some (v,S')→(ny args).isSome=true→(zf v).isSome=true→∀ S2,p args S2=some (v,S2)
 calls:∀ args S v S',p args S=some (v,S')→(∃ fn,P.funcs[f]? = some fn∧fn.body.isSome=true∧fn.name ≠ "runtime.NumGoroutine") ∧
  ∀ cx w (us:List Value),bq R cx S w→us.length=args.length→(∀ (i:Nat) (x:AV) (u:Value),args[i]? = some x→us[i]? = some u→aP cx S w x u) →
  Calls P f us.toArray w (fun e w'=>∃ cx',bq R cx' S' w'∧Ext cx S w cx' S' w'∧∃ u,e=.returned u∧aP cx' S' w' v u)
end
end Go.Ev

namespace Go.Ev
noncomputable section
open Go.Shelf Go.RowKit Go.Proofs
set_option linter.unusedVariables false
set_option linter.unusedSimpArgs false
def Leaves (w:World) (fr:Nat→Nat→Prop) (v:AV) (e:Ending) (w':World):Prop :=
 Below w.heap.size w w'∧∃ u,e=.returned u∧∀ cx S,cx.fr=fr→aP cx S w' v u
def oz (spec:List D→Option AV):Prim:=fun args S=>match ny args with
 | some ds=>(spec ds).map fun v=>(v,S)
 | none=>none
theorem BJ {R:cZ} (hR:ObjOk R) {P:Program} {f:Nat} {spec:List D→Option AV} (hd:∀ ds v,spec ds=some v→(zf v).isSome=true)
  (hb:∃ fn,P.funcs[f]? = some fn∧fn.body.isSome=true∧fn.name ≠ "runtime.NumGoroutine")
  (hc:∀ ds v,spec ds=some v→∀ (w:World) (fr:Nat→Nat→Prop) (us:List Value),R.G w fr→(∀ b o,fr b o→b < w.heap.size)→us.length=ds.length→(∀ (i:Nat) (y:D) (u:Value),ds[i]? = some y→us[i]? = some u→bN w fr y u) →
   Calls P f us.toArray w (Leaves w fr v)):Bb R P f (oz spec) where
 pure:=fun args S v S' h _ _ S2=>by
  unfold oz at h ⊢
  split at h
  ·
   rename_i ds hds
   simp only [Option.map_eq_some_iff,Prod.mk.injEq] at h
   obtain ⟨a,h1,rfl,_⟩:=h
   simp [hds,h1]
  ·
   cases h
 calls:=fun args S v S' h=>⟨hb,fun cx w us hS hl hr=>by
  unfold oz at h
  split at h
  ·
   rename_i ds hds
   simp only [Option.map_eq_some_iff,Prod.mk.injEq] at h
   obtain ⟨a,h1,rfl,rfl⟩:=h
   obtain ⟨d1,d2⟩:=vw hds
   refine (hc ds a h1 w cx.fr us hS.stat hS.lt (by rw [hl,d1]) (fun i y u hy hu=>?_)).mono (fun e w' hp=>?_)
   ·
    have hlt:i < args.length:=by rw [← d1]; exact (List.getElem?_eq_some_iff.1 hy).1
    have ha:=List.getElem?_eq_getElem hlt
    exact mH (d2 i _ y ha hy) (hr i _ u ha hu)
   ·
    obtain ⟨hbl,u,rfl,hv⟩:=hp
    have e:Ext cx S w cx S w':=Ext.old hS hbl.size (fun b hb=>hbl.block b hb) hbl.os hbl.tape hbl.output
    exact ⟨cx,bq.old hR hS hbl.size (fun b hb=>hbl.block b hb) e,e,u,rfl,hv cx S rfl⟩
  ·
   cases h⟩
theorem HZ (w:World) (fr:Nat→Nat→Prop) (l:List UInt8):bN w fr (.str l) (.string ⟨l.toArray⟩):=by
 have:=ic.str (w:=w) (fr:=fr) ⟨l.toArray⟩
 exact bN.of_cell (by simpa using this) rfl
theorem Eh {w:World} {fr:Nat→Nat→Prop} {l:List UInt8} {u:Value} (h:bN w fr (.str l) u):u=.string ⟨l.toArray⟩:=by
 have a:=h.val rfl
 cases a
 simp
def xQ:List D→Option AV
 | [.str s,.str c]=>if s.length ≤ bound∧c.length ≤ 1000∧(c.all fun b=>decide (b.toNat < 128))=true then some (.d (.str (Lib.trimS s c))) else none
 | _=>none
theorem I4 {R:cZ} (hR:ObjOk R) {P:Program} {ρ:Ren} (L:Lays.n160 P ρ) (h116:(P.info? (ρ.t 116)).map (fun i=>(i.zero,i.size))=some (some (.agg (Array.replicate 256 (.bool false))),256)) :
  Bb R P (ρ.f 160) (oz xQ):=by
 refine BJ hR (fun ds v h=>?_) ⟨_,L.f160,rfl,by show ¬ ("strings.Trim" = "runtime.NumGoroutine"); decide⟩ (fun ds v h w fr us hG hfr hl hr=>?_)
 ·
  unfold xQ at h
  split at h
  ·
   split at h
   ·
    simp only [Option.some.injEq] at h; subst h; rfl
   ·
    cases h
  ·
   cases h
 ·
  unfold xQ at h
  split at h
  ·
   rename_i s c
   split at h
   ·
    rename_i hc
    obtain ⟨h1,h2,h3⟩:=hc
    simp only [Option.some.injEq] at h; subst h
    match us,hl with
    | [u0,u1],_ =>
    obtain rfl:=Eh (hr 0 _ _ rfl rfl)
    obtain rfl:=Eh (hr 1 _ _ rfl rfl)
    refine (Any.strings_Trim_laid L h116 ⟨s.toArray⟩ ⟨c.toArray⟩ w (by simp [ByteArray.size]; unfold bound at h1; omega) (by simp [ByteArray.size]; omega) (by simpa using ascii_of_all h3)).mono (fun e w' hp=>?_)
    obtain ⟨rfl,hb⟩:=hp
    exact ⟨hb,_,rfl,fun cx S _=>.d _ _ (by simpa using HZ w' cx.fr (Lib.trimS s c))⟩
   ·
    cases h
  ·
   cases h
end
end Go.Ev

namespace Go.Ev
noncomputable section
set_option linter.unusedVariables false
def M8:World→(Nat→Nat→Prop)→Prop:=fun _ _=>True
theorem MU:FX M8:=fun _ _ _ _ _ _ _=>trivial
end
end Go.Ev

namespace Go.Ev
noncomputable section
set_option linter.unusedVariables false
set_option linter.unusedSimpArgs false
def FE:Nat→Nat→Prop:=fun _ _=>False
structure oJ (w:World) (ds:List D) (cs:List Value):Prop where
 len:cs.length=ds.length
 one:∀ v ∈ cs,v.oneCell'=true
 flat:∀ d ∈ ds,d.isAgg=false
 rel:∀ (i:Nat) (d:D) (v:Value),ds[i]? = some d→cs[i]? = some v→ic w FE d [v]
theorem oJ.nil {w:World}:oJ w [] []:=⟨rfl,by simp,by simp,by simp⟩
theorem oJ.append {w:World} {a b:List D} {x y:List Value} (h:oJ w a x) (k:oJ w b y):oJ w (a ++ b) (x ++ y) where
 len:=by simp [h.len,k.len]
 one:=fun v hv=>by rcases List.mem_append.1 hv with q | q; exact h.one v q; exact k.one v q
 flat:=fun v hv=>by rcases List.mem_append.1 hv with q | q; exact h.flat v q; exact k.flat v q
 rel:=fun i d v hd hv=>by
  by_cases hi:i < a.length
  ·
   rw [List.getElem?_append_left hi] at hd
   rw [List.getElem?_append_left (by rw [h.len]; exact hi)] at hv
   exact h.rel i d v hd hv
  ·
   rw [List.getElem?_append_right (by omega)] at hd
   rw [List.getElem?_append_right (by rw [h.len]; omega),h.len] at hv
   exact k.rel _ d v hd hv
theorem oJ.single {w:World} {d:D} {v:Value} (h:ic w FE d [v]) (ho:v.oneCell'=true) (hd:d.isAgg=false):oJ w [d] [v] where
 len:=rfl
 one:=by simpa using ho
 flat:=by simpa using hd
 rel:=fun i d' v' h1 h2=>by
  cases i with
  | zero=>simp at h1 h2; subst h1; subst h2; exact h
  | succ i=>simp at h1
theorem oJ.JD {w:World} {x:D} {cs:List Value} (h:oJ w x.cells cs):ic w FE x cs:=by
 cases hx:x.isAgg with
 | true =>
  cases x <;> simp [D.isAgg] at hx
  rename_i xs
  exact .agg xs cs h.len h.one h.flat h.rel
 | false =>
  have hc:x.cells=[x]:=by cases x <;> simp_all [D.isAgg,D.cells]
  rw [hc] at h
  have hl:=h.len
  match cs,hl with
  | [v],_=>exact h.rel 0 x v rfl rfl
def oW (P:Program) (t:Nat) {α:Type} (enc:α→D) (wf:α→Prop):Prop :=
 ∀ {H:Type} (en:TypeId × Value→H) (w:World) (base:Nat) (sp:Nat→Bool) (held:Bool) (fuel:Nat) (cs:List Value) (d:DataW H) (p:List MemPlace),
  DataW.trod en P w base sp held fuel t cs=some (d,p)→∃ x,wf x∧oJ w (enc x).cells cs
theorem oW.int {P:Program} {t:Nat} {k:IntKind} (hu:P.underlying t=some (.int k)):oW P t (D.int k) (fun n=>(Lit.int k n).wf=true):=by
 intro H en w base sp held fuel cs d p h
 cases fuel with
 | zero=>cases h
 | succ fuel =>
  simp only [DataW.trod,hu] at h
  split at h <;> first | (simp_all; done) | skip
  rename_i k' k2 n heq
  simp only [Option.some.injEq,TypeDesc.int.injEq] at heq
  subst heq
  split at h
  ·
   rename_i hc
   obtain ⟨rfl,hw⟩:=hc
   exact ⟨n,hw,.single (.int _ _) rfl rfl⟩
  ·
   cases h
theorem oW.bool {P:Program} {t:Nat} (hu:P.underlying t=some .bool):oW P t D.bool (fun _=>True):=by
 intro H en w base sp held fuel cs d p h
 cases fuel with
 | zero=>cases h
 | succ fuel =>
  simp only [DataW.trod,hu] at h
  split at h <;> first | (simp_all; done) | skip
  rename_i b heq
  exact ⟨b,trivial,.single (.bool _) rfl rfl⟩
theorem oW.str {P:Program} {t:Nat} (hu:P.underlying t=some .string):oW P t D.str (fun s=>s.length ≤ maxLen):=by
 intro H en w base sp held fuel cs d p h
 cases fuel with
 | zero=>cases h
 | succ fuel =>
  simp only [DataW.trod,hu] at h
  split at h <;> first | (simp_all; done) | skip
  rename_i s heq
  split at h
  ·
   rename_i hc
   exact ⟨s.data.toList,by simpa using hc,.single (.str _) rfl rfl⟩
  ·
   cases h
theorem uX {w:World} {base:Nat} {a:Addr} {n:Nat} {cs:List Value} (h:w.cells? base a n=some cs):cs.length=n∧∀ j v,cs[j]? = some v→w.cell? (a.add j)=some v:=by
 unfold World.cells? at h
 split at h
 ·
  have hl:=mapM_some_length h
  refine ⟨by simpa using hl,fun j v hj=>?_⟩
  have hlt:j < n:=by have:=(List.getElem?_eq_some_iff.1 hj).1; rw [hl] at this; simpa using this
  have:=mapM_some_get h j j (by simp [hlt])
  rw [this,hj]
 ·
  cases h
theorem oW.slice {P:Program} {t e:Nat} {α:Type} {enc:α→D} {wf:α→Prop} (hu:P.underlying t=some (.slice e)) (he:oW P e enc wf) (hsz:∀ x,(enc x).cells.length=P.cellsOf e) (h0:0 < P.cellsOf e) :
  oW P t (MR enc) (fun l=>l.length ≤ maxLen∧∀ x ∈ l,wf x):=by
 intro H en w base sp held fuel cs d p h
 cases fuel with
 | zero=>cases h
 | succ fuel =>
  simp only [DataW.trod,hu] at h
  split at h <;> first | (simp_all; done) | skip
  ·
   exact ⟨[],⟨by simp,by simp⟩,.single (.sl0 none 0 false (fun h=>by cases h)) rfl rfl⟩
  ·
   rename_i e' a len cap heq
   simp only [Option.some.injEq,TypeDesc.slice.injEq] at heq
   subst heq
   split at h
   ·
    rename_i hc
    simp only [Option.bind_eq_some_iff] at h
    obtain ⟨els,hels,h⟩:=h
    have hl:=mapM_some_length hels
    have each:∀ i,i < len→∃ x ci,wf x∧w.cells? base (a.add (i * P.cellsOf e)) (P.cellsOf e)=some ci∧oJ w (enc x).cells ci:=fun i hi=>by
     have hg:=mapM_some_get hels i i (by simp [hi])
     have hlt:i < els.length:=by rw [hl]; simpa using hi
     rw [List.getElem?_eq_getElem hlt,Option.bind_eq_some_iff] at hg
     obtain ⟨ci,h1,h2⟩:=hg
     obtain ⟨x,hx,hr⟩:=he en w base sp held fuel ci _ _ h2
     exact ⟨x,ci,hx,h1,hr⟩
    by_cases hz:len=0
    ·
     subst hz
     exact ⟨[],⟨by simp,by simp⟩,.single (.sl0 (some a) cap false (fun h=>by cases h)) rfl rfl⟩
    ·
     have hpos:0 < len:=by omega
     have hspot:a.spot=none:=by
      obtain ⟨x,ci,_,h1,_⟩:=each 0 hpos
      obtain ⟨l1,l2⟩:=uX h1
      have hne:0 < ci.length:=by omega
      have:=l2 0 ci[0] (List.getElem?_eq_getElem hne)
      unfold World.cell? at this
      split at this
      ·
       split at this
       ·
        cases this
       ·
        rename_i hs; cases hsp:a.spot with
        | none=>rfl
        | some q=>simp [Addr.add,hsp] at hs
      ·
       cases this
     have:Inhabited α:=⟨(each 0 hpos).choose⟩
     let f:Nat→α:=fun i=>if hi:i < len then (each i hi).choose else default
     let g:Nat→List Value:=fun i=>if hi:i < len then (each i hi).choose_spec.choose else []
     have hfg:∀ i,i < len→wf (f i)∧w.cells? base (a.add (i * P.cellsOf e)) (P.cellsOf e)=some (g i)∧oJ w (enc (f i)).cells (g i):=fun i hi=>by
      have:=(each i hi).choose_spec.choose_spec
      simp only [f,g,hi,dif_pos]
      exact this
     let l:=(List.range len).map f
     have hll:l.length=len:=by simp [l]
     have hli:∀ i x,l[i]? = some x→i < len∧x=f i:=fun i x hx=>by
      simp only [l,List.getElem?_map,Option.map_eq_some_iff] at hx
      obtain ⟨j,hj,rfl⟩:=hx
      have:=List.getElem?_eq_some_iff.1 hj
      obtain ⟨h1,h2⟩:=this
      simp at h1 h2
      subst h2
      exact ⟨h1,rfl⟩
     refine ⟨l,⟨by rw [hll]; omega,fun x hx=>?_⟩,?_⟩
     ·
      obtain ⟨i,hi,rfl⟩:=List.getElem_of_mem hx
      obtain ⟨h1,h2⟩:=hli i _ (List.getElem?_eq_getElem hi)
      rw [h2]; exact (hfg i h1).1
     ·
      have ha:a=⟨a.block,a.off,none⟩:=by rw [← hspot]
      refine .single ?_ rfl rfl
      rw [ha]
      have hlm:(l.map enc).length=len:=by simp [hll]
      have key:ic w FE (.sl (l.map enc) false) [.slice (some ⟨a.block,a.off,none⟩) (l.map enc).length cap]:=by
       refine .sl (l.map enc) false a.block a.off cap (P.cellsOf e) g ?_ (by rw [hlm]; exact hc.2.1) (fun h=>by cases h) (fun i x hi=>?_) (fun i hi=>?_) (fun i x hi=>?_) (fun i j v hi hv=>?_)
       ·
        intro q; rw [q] at hlm; simp at hlm; omega
       ·
        rw [List.getElem?_map,Option.map_eq_some_iff] at hi
        obtain ⟨y,_,rfl⟩:=hi
        exact hsz y
       ·
        exact (uX (hfg i (by rw [hlm] at hi; exact hi)).2.1).1
       ·
        rw [List.getElem?_map,Option.map_eq_some_iff] at hi
        obtain ⟨y,hy,rfl⟩:=hi
        obtain ⟨h1,rfl⟩:=hli i y hy
        exact (hfg i h1).2.2.JD
       ·
        rw [hlm] at hi
        have:=(uX (hfg i hi).2.1).2 j v hv
        refine ⟨?_,fun q=>q⟩
        rw [← this]
        congr 1
        have hz:∀ (b:Addr) (m:Nat),b.spot=none→b.add m=⟨b.block,b.off + m,none⟩:=fun b m hb=>by
         obtain ⟨b1,b2,b3⟩:=b
         cases hb
         cases m <;> simp [Addr.add]
        rw [hz a _ hspot,hz _ j rfl]
      rw [hlm] at key
      exact key
   ·
    cases h
def zW (P:Program) (fs:List Field) (off tot:Nat) {β:Type} (enc:β→List D) (wf:β→Prop):Prop :=
 ∀ {H:Type} (en:TypeId × Value→H) (w:World) (base:Nat) (sp:Nat→Bool) (held:Bool) (fuel:Nat) (cs:List Value) (xs:List (DataW H × List MemPlace)),
  (fs.mapM fun f=>DataW.trod en P w base sp held fuel f.type ((cs.drop f.offset).take (P.cellsOf f.type)))=some xs→∃ y,wf y∧oJ w (enc y) ((cs.drop off).take tot)
theorem zW.nil {P:Program} {off:Nat}:zW P [] off 0 (fun _:Unit=>[]) (fun _=>True) :=
 fun en w base sp held fuel cs xs h=>⟨(),trivial,by simpa using oJ.nil⟩
theorem zW.cons {P:Program} {f:Field} {fs:List Field} {off sz tot:Nat} {α β:Type} {enc:α→D} {wf:α→Prop} {enc2:β→List D} {wf2:β→Prop}
  (ho:f.offset=off) (hz:P.cellsOf f.type=sz) (h:oW P f.type enc wf) (k:zW P fs (off + sz) tot enc2 wf2) :
  zW P (f :: fs) off (sz + tot) (fun p:α × β=>(enc p.1).cells ++ enc2 p.2) (fun p=>wf p.1∧wf2 p.2):=by
 intro H en w base sp held fuel cs xs hx
 simp only [List.mapM_cons,Option.pure_def,Option.bind_eq_bind,Option.bind_eq_some_iff] at hx
 obtain ⟨x,hx,ys,hys,_⟩:=hx
 rw [ho,hz] at hx
 obtain ⟨a,a1,a2⟩:=h en w base sp held fuel _ x.1 x.2 hx
 obtain ⟨b,b1,b2⟩:=k en w base sp held fuel cs ys hys
 refine ⟨(a,b),⟨a1,b1⟩,?_⟩
 rw [List.take_add,List.drop_drop]
 exact a2.append b2
theorem oW.struct {P:Program} {t tot:Nat} {fs:Array Field} {α β:Type} {enc:α→D} {wf:α→Prop} {enc2:β→List D} {wf2:β→Prop} (hu:P.underlying t=some (.struct fs)) (hz:P.cellsOf t=tot)
  (h:zW P fs.toList 0 tot enc2 wf2) (g:β→α) (hg:∀ y,(enc (g y)).cells=enc2 y) (hw:∀ y,wf2 y→wf (g y)):oW P t enc wf:=by
 intro H en w base sp held fuel cs d p hd
 cases fuel with
 | zero=>cases hd
 | succ fuel =>
  simp only [DataW.trod,hu] at hd
  split at hd
  ·
   rename_i hc
   simp only [Option.map_eq_some_iff] at hd
   obtain ⟨xs,hxs,_⟩:=hd
   obtain ⟨y,y1,y2⟩:=h en w base sp held fuel cs xs hxs
   refine ⟨g y,hw y y1,?_⟩
   rw [hg y]
   rw [hz] at hc
   simpa [← hc] using y2
  ·
   cases hd
theorem I9 {P:Program} {t:Nat} {fs:Array Field} {α:Type} {enc:α→D} {wf:α→Prop} (hu:P.underlying t=some (.struct fs)) (O:oW P t enc wf) (ha:∀ x,(enc x).isAgg=true)
  {H:Type} {en:TypeId × Value→H} {w:World} {base b0:Nat} {sp:Nat→Bool} {held:Bool} {v:Value} {d:DataW H} {p:List MemPlace} {r:Reach} (hval:Value.okWide P w r b0 t v) (hd:DataW.Trod en P w base sp held t v d p) :
  ∃ x,wf x∧bN w FE (enc x) v:=by
 unfold Value.okWide at hval
 rw [hu] at hval
 obtain ⟨cs,rfl,_,_⟩:=hval
 obtain ⟨fuel,hf⟩:=hd
 obtain ⟨x,x1,x2⟩:=O en w base sp held fuel _ d p hf
 exact ⟨x,x1,x2.JD,ha x⟩
theorem K6 {P:Program} {t:Nat} {α:Type} {enc:α→D} {wf:α→Prop} (O:oW P t enc wf) (ha:∀ x,(enc x).isAgg=false)
  {H:Type} {en:TypeId × Value→H} {w:World} {base b0:Nat} {sp:Nat→Bool} {held:Bool} {v:Value} {d:DataW H} {p:List MemPlace} (hval:uQ v=false) (hd:DataW.Trod en P w base sp held t v d p) :
  ∃ x,wf x∧bN w FE (enc x) v:=by
 obtain ⟨fuel,hf⟩:=hd
 obtain ⟨x,x1,x2⟩:=O en w base sp held fuel _ d p hf
 exact ⟨x,x1,x2.JD,by rw [hval]; exact ha x⟩
end
end Go.Ev

namespace Go.Ev
noncomputable section
set_option linter.unusedVariables false
set_option linter.unusedSimpArgs false
variable {R:cZ} {C:gZ} {P:Program}
theorem dZ.Ik {f:Nat} {p:Prim} (h:Bb R P f p) {args:List AV} {S S':St} {v:AV} (hp:p args S=some (v,S')):dZ R P f args S (fun r=>r=(none,v,S')):=by
 obtain ⟨h1,h2⟩:=h.calls args S v S' hp
 refine ⟨h1,fun cx w us q1 q2 q3=>(h2 cx w us q1 q2 q3).mono (fun e w' ⟨cx',k1,k2,u,k3,k4⟩=>⟨_,rfl,cx',k1,k2,u,k3,k4⟩)⟩
theorem bU.K4 {f:Nat} {spec:List D→Option AV} (h:Bb R P f (oz spec)) {ds:List D} {v:AV} (hv:spec ds=some v):bU R P f ds v:=fun args S ha=>by
 have hp:oz spec (ds.map .d) S=some (v,S):=by
  unfold oz
  rw [Bj]
  simp [hv]
 exact (dZ.Ik h hp).sP ha.Gw
theorem HV (hR:ObjOk R) {f:Nat} {ds:List D} {x:D} (h:bU R P f ds (.d x)) (w:World) (hG:R.G w (fun _ _=>False)) (us:List Value) (hl:us.length=ds.length)
  (hr:∀ (i:Nat) (y:D) (u:Value),ds[i]? = some y→us[i]? = some u→bN w (fun _ _=>False) y u) :
  Calls P f us.toArray w (fun e w'=>∃ u,e=.returned u∧bN w' (fun _ _=>False) x u∧RowKit.Below w.heap.size w w'):=by
 let cx:Cx:={ bm:=fun _=>0,fp:=fun _ _=>False,tsz:=fun _=>0,tot:=fun _=>0,fr:=fun _ _=>False }
 have hS:bq R cx aI w:=⟨fun id hl=>absurd rfl hl,fun id b hb=>by simp [aI,AL.get] at hb,fun id g cs hb=>by simp [aI,AL.get] at hb,fun id es hb=>by simp [aI,AL.get] at hb,
  fun id k x hb=>by simp [aI,AL.get] at hb,fun id en hb=>by simp [aI,AL.get] at hb,fun id id' b hl=>absurd rfl hl,fun b o q=>q.elim,hG⟩
 have h2:=(h (ds.map .d) aI ⟨ds,Bj ds,.refl ds⟩).2
 refine (h2 cx w us hS (by simp [hl]) (fun i y u hy hu=>?_)).mono (fun e w' he=>?_)
 ·
  simp only [List.getElem?_map,Option.map_eq_some_iff] at hy
  obtain ⟨z,hz,rfl⟩:=hy
  exact .d z u (hr i z u hz hu)
 ·
  obtain ⟨r,rfl,cx',k1,k2,k3⟩:=he
  obtain ⟨u,rfl,k3⟩:=k3
  obtain ⟨m1,m2,m3⟩:=zH hR hS k2
  exact ⟨u,rfl,m3 _ _ k3.dd,⟨m2.os,m2.tape,m2.output,m2.size,fun b hb=>(k2.other b hb (fun id hl=>absurd rfl hl)).1⟩⟩
end
end Go.Ev

namespace Go.Ev
noncomputable section
set_option linter.unusedVariables false
set_option linter.unusedSimpArgs false
variable {R:cZ} {P:Program} {B:St}
theorem BP {S:St} {id:Nat}:live S id↔S.H.get id ≠ none∨S.T.get id ≠ none:=by
 unfold live cur
 cases hH:S.H.get id with
 | none=>simp
 | some b=>cases b <;> simp
def without (S:St) (ids:List Nat):St:=ids.foldl (fun S id=>{ S with H:=S.H.del id,T:=S.T.del id }) S
theorem qH:∀ (ids:List Nat) (S:St),(without S ids).nx=S.nx
 | [],S=>rfl
 | id :: l,S=>qH l { S with H:=S.H.del id,T:=S.T.del id }
theorem mK:∀ (ids:List Nat) (S:St) (k:Nat),(without S ids).H.get k=if k ∈ ids then none else S.H.get k
 | [],S,k=>by simp [without]
 | id :: l,S,k=>by
  show (without { S with H:=S.H.del id,T:=S.T.del id } l).H.get k=_
  rw [mK l]
  simp only [AL.wY]
  by_cases h1:k ∈ l
  ·
   simp [h1]
  ·
   by_cases h2:id=k
   ·
    subst h2; simp
   ·
    simp [h1,h2,Ne.symm h2]
theorem mM:∀ (ids:List Nat) (S:St) (k:Nat),(without S ids).T.get k=if k ∈ ids then none else S.T.get k
 | [],S,k=>by simp [without]
 | id :: l,S,k=>by
  show (without { S with H:=S.H.del id,T:=S.T.del id } l).T.get k=_
  rw [mM l]
  simp only [AL.wY]
  by_cases h1:k ∈ l
  ·
   simp [h1]
  ·
   by_cases h2:id=k
   ·
    subst h2; simp
   ·
    simp [h1,h2,Ne.symm h2]
theorem dh.there {S:St} {a:dh} (h:a.ok S):∀ id ∈ a.fp,S.H.get id ≠ none∨S.T.get id ≠ none:=fun id hid=>by
 cases a with
 | box i cs=>simp only [dh.fp,List.mem_singleton] at hid; subst hid; left; rw [show S.H.get id=_ from h]; simp
 | obj i k x=>simp only [dh.fp,List.mem_singleton] at hid; subst hid; left; rw [show S.H.get id=_ from h]; simp
 | map i m=>simp only [dh.fp,List.mem_singleton] at hid; subst hid; left; rw [show S.H.get id=_ from h]; simp
 | grow v xs =>
  cases v <;> simp only [dh.fp,List.not_mem_nil,List.mem_singleton] at hid
  subst hid
  right; rw [h.2.2.1]; simp
 | row sz v xs =>
  cases v <;> simp only [dh.fp,List.not_mem_nil,List.mem_singleton] at hid
  subst hid
  obtain ⟨cs,_,h8⟩:=h.2.2.2.2.2.2
  left; rw [h8]; simp
 | abs ids p=>obtain ⟨b,hb⟩:=h.1 id hid; left; rw [hb]; simp
theorem Has.frame {S:St} {l1 l2:List dh} (H:Has B S (l1 ++ l2)):∃ B',Has B' S l1∧∀ S' l1',Has B' S' l1'→(∀ id b,S'.H.get id=some b→S'.T.get id=none)→Has B S' (l1' ++ l2):=by
 let ids:=(l1.map dh.fp).flatten
 let B':=without S ids
 have hmem:∀ a ∈ l1,∀ id ∈ a.fp,id ∈ ids:=fun a ha id hid=>List.mem_flatten.2 ⟨_,List.mem_map.2 ⟨a,ha,rfl⟩,hid⟩
 have hnd:=H.nd
 rw [List.map_append,List.flatten_append,List.nodup_append] at hnd
 have hnot:∀ a ∈ l2,∀ id ∈ a.fp,id ∉ ids:=fun a ha id hid hq =>
  hnd.2.2 id hq id (List.mem_flatten.2 ⟨_,List.mem_map.2 ⟨a,ha,rfl⟩,hid⟩) rfl
 have hBids:∀ id ∈ ids,B.H.get id=none∧B.T.get id=none:=fun id hid=>by
  obtain ⟨IQ,h1,h2⟩:=List.mem_flatten.1 hid
  obtain ⟨a,ha,rfl⟩:=List.mem_map.1 h1
  exact H.out a (List.mem_append_left _ ha) id h2
 have hwf:B'.Wf:=fun id hl=>by
  show id < B'.nx
  rw [qH]
  refine H.wf id (BP.2 ?_)
  rcases BP.1 hl with h | h
  ·
   rw [mK] at h
   split at h
   ·
    exact absurd rfl h
   ·
    exact .inl h
  ·
   rw [mM] at h
   split at h
   ·
    exact absurd rfl h
   ·
    exact .inr h
 refine ⟨B',⟨H.wf,fun a ha=>H.ok a (List.mem_append_left _ ha),hnd.1,hwf,⟨by rw [qH]; exact Nat.le_refl _,fun id b hb=>?_,fun id n hn=>?_⟩,fun a ha id hid=>?_⟩,fun S' l1' K hdis=>?_⟩
 ·
  rw [mK] at hb
  split at hb
  ·
   cases hb
  ·
   exact hb
 ·
  rw [mM] at hn
  split at hn
  ·
   cases hn
  ·
   exact hn
 ·
  have:=hmem a ha id hid
  rw [mK,mM,if_pos this,if_pos this]; exact ⟨rfl,rfl⟩
 ·
  have keepH:∀ id b,id ∉ ids→S.H.get id=some b→S'.H.get id=some b:=fun id b hn hb=>K.keeps.H id b (by rw [mK,if_neg hn]; exact hb)
  have keepT:∀ id n,id ∉ ids→S.T.get id=some n→S'.T.get id=some n:=fun id b hn hb=>K.keeps.T id b (by rw [mM,if_neg hn]; exact hb)
  have hok2:∀ a ∈ l2,a.ok S':=fun a ha=>by
   have hok:=H.ok a (List.mem_append_right _ ha)
   have hn:=hnot a ha
   cases a with
   | box id cs=>exact keepH _ _ (hn _ (by simp [dh.fp])) hok
   | obj id k x=>exact keepH _ _ (hn _ (by simp [dh.fp])) hok
   | map id m=>exact keepH _ _ (hn _ (by simp [dh.fp])) hok
   | grow v xs =>
    cases v with
    | tsl ys tok =>
     obtain ⟨h1,h2,h3,h4⟩:=hok
     have h3':=keepT _ _ (hn tok (by simp [dh.fp])) h3
     refine ⟨h1,h2,h3',?_⟩
     cases hb:S'.H.get tok with
     | none=>rfl
     | some b=>have:=hdis _ _ hb; rw [h3'] at this; cases this
    | d x=>cases x with
     | sl ys t=>cases t <;> exact hok
     | _=>exact hok
    | _=>exact hok
   | row sz v xs =>
    cases v with
    | msl id g off len lim sz' =>
     obtain ⟨h1,h2,h3,h4,h5,h6,cs,h7,h8⟩:=hok
     exact ⟨h1,h2,h3,h4,h5,h6,cs,h7,keepH _ _ (hn id (by simp [dh.fp])) h8⟩
    | d x=>cases x with
     | sl ys t=>cases ys <;> cases t <;> exact hok
     | _=>exact hok
    | _=>exact hok
   | abs ids' p=>exact dh.Kl hok (fun id b hid hb=>keepH _ _ (hn id hid) hb)
  refine ⟨K.wf,fun a ha=>?_,?_,H.bwf,⟨?_,fun id b hb=>?_,fun id n hn=>?_⟩,fun a ha id hid=>?_⟩
  ·
   rcases List.mem_append.1 ha with ha | ha
   ·
    exact K.ok a ha
   ·
    exact hok2 a ha
  ·
   rw [List.map_append,List.flatten_append,List.nodup_append]
   refine ⟨K.nd,hnd.2.1,fun a ha b hb hab=>?_⟩
   subst hab
   obtain ⟨IQ,h1,h2⟩:=List.mem_flatten.1 ha
   obtain ⟨x,hx,rfl⟩:=List.mem_map.1 h1
   obtain ⟨IQ,h3,h4⟩:=List.mem_flatten.1 hb
   obtain ⟨y,hy,rfl⟩:=List.mem_map.1 h3
   obtain ⟨o1,o2⟩:=K.out x hx a h2
   have hn:=hnot y hy a h4
   rw [mK,if_neg hn] at o1
   rw [mM,if_neg hn] at o2
   rcases dh.there (H.ok y (List.mem_append_right _ hy)) a h4 with q | q
   ·
    exact q o1
   ·
    exact q o2
  ·
   have:=K.keeps.nx
   rw [qH] at this
   exact Nat.le_trans H.keeps.nx this
  ·
   exact keepH id b (fun q=>by rw [(hBids id q).1] at hb; cases hb) (H.keeps.H id b hb)
  ·
   exact keepT id n (fun q=>by rw [(hBids id q).2] at hn; cases hn) (H.keeps.T id n hn)
  ·
   rcases List.mem_append.1 ha with ha | ha
   ·
    obtain ⟨o1,o2⟩:=K.out a ha id hid
    by_cases hq:id ∈ ids
    ·
     exact hBids id hq
    ·
     rw [mK,if_neg hq] at o1
     rw [mM,if_neg hq] at o2
     refine ⟨?_,?_⟩
     ·
      cases hb:B.H.get id with
      | none=>rfl
      | some b=>have:=H.keeps.H _ _ hb; rw [o1] at this; cases this
     ·
      cases hb:B.T.get id with
      | none=>rfl
      | some b=>have:=H.keeps.T _ _ hb; rw [o2] at this; cases this
   ·
    exact H.out a (List.mem_append_right _ ha) id hid
theorem EA.iD {cx:Cx} {S2 S:St} {w:World} {p:Option AV} {v:AV} {e:Ending} (k:kJ S2 S) (h:EA cx S w p v e):EA cx S2 w p v e:=by
 cases p with
 | none=>obtain ⟨u,h1,h2⟩:=h; exact ⟨u,h1,h2.iD k⟩
 | some p=>obtain ⟨u,h1,h2⟩:=h; exact ⟨u,h1,h2.iD k⟩
theorem Ext.Bo {cx cx':Cx} {S S' S2:St} {w w':World} (k:kJ S2 S') (e:Ext cx S w cx' S' w'):Ext cx S w cx' S2 w' where
 size:=e.size
 os:=e.os
 tape:=e.tape
 output:=e.output
 nx:=by rw [k.nx]; exact e.nx
 prot:=e.prot
 other:=fun b hb hn=>e.other b hb (fun id hl hf=>by
  obtain ⟨h1,g,h2,h3⟩:=hn id hl hf
  exact ⟨h1,g,h2,k.isIt.1 h3⟩)
 own:=fun id b hl hf=>e.own id b (k.live.1 hl) hf
 back:=fun id g hid h=>e.back id g hid (k.isIt.1 h)
 keep:=fun id g b hid h0 h hf=>e.keep id g b hid h0 (k.isIt.1 h) hf
 curs:=fun id g hid hc=>e.curs id g hid (by rw [← k.cur]; exact hc)
theorem dZ.Bo {f:Nat} {args:List AV} {S:St} {Q:Out→Prop} (h:dZ R P f args S (fun o=>∃ S2,kJ S2 o.2.2∧Q (o.1,o.2.1,S2))):dZ R P f args S Q :=
 ⟨h.1,fun cx w us h1 h2 h3=>(h.2 cx w us h1 h2 h3).mono fun e w' ⟨r,⟨S2,k,q⟩,cx',m1,m2,m3⟩=>⟨_,q,cx',m1.iD k,m2.Bo k,m3.iD k⟩⟩
def CW (R:cZ) (P:Program) (f:Nat) (args:List AV) (ins:List dh) (res:AV→List dh→Prop):Prop :=
 ∀ B S,Has B S ins→dZ R P f args S (fun o=>o.1=none∧∃ v l,Less v o.2.1∧res v l∧Has B o.2.2 l)
section
variable {C:gZ} {nt:Nat}
theorem CW.of_wp {f:Nat} {fn:Func} {c:Code} (hf:C.P.funcs[f]? = some fn) (hc:fn.body=some c) (hn:(fn.name == "runtime.NumGoroutine")=false) {args:List AV} (hle:Nat.ble args.length fn.ntmps=true) {ins:List dh} {res:AV→List dh→Prop}
  (h:∀ B S,Has B S ins→ax R C.P fn.ntmps c (pU 0 args) S (FZ C fn (fun o=>o.1=none∧∃ v l S2,kJ S2 o.2.2∧Less v o.2.1∧res v l∧Has B S2 l))):CW R C.P f args ins res:=fun B S hB=>by
 refine dZ.Bo ((dZ.of_wp hf hc hn (Nat.le_of_ble_eq_true hle) (h B S hB)).mono fun o ho=>?_)
 obtain ⟨h1,v,l,S2,h2,h3,h4,h5⟩:=ho
 exact ⟨S2,h2,h1,v,l,h3,h4,h5⟩
section steps
variable {ops:Array Oper} {rest:List Oper} {e:Env} {S S':St} {Q:Stp→Prop} {l l':List dh} {t ty:Nat} {p:String} {af:Array Edge} {g:Option (Nat × Bool)} {x y:Operand} {v:AV}
theorem ae.Mj {op:Op} {f:Nat} {args args':List AV} {ins more:List dh} {res:AV→List dh→Prop} (H:Has B S (ins ++ more)) (hw:dD ops e { dst:=some t,op:=op,type:=ty,pos:=p,after:=af,guard:=g }=some true) (ho:oper C (dX e) S op=some (.call f args)) (hs:CW R C.P f args' ins res) (ha:eZ args' args) (ht:Nat.blt t nt=true)
  (k:∀ v S' l',res v l'→Has B S' (l' ++ more)→ae R C nt ops rest ((t,v) :: e) S' Q) :
  ae R C nt ops ({ dst:=some t,op:=op,type:=ty,pos:=p,after:=af,guard:=g } :: rest) e S Q:=by
 obtain ⟨B',h1,h2⟩:=H.frame
 refine ae.one hw (.inr (.inr (.inl ⟨f,args,ho,((hs B' S h1).sP ha).qQ.mono fun r hr=>?_⟩)))
 obtain ⟨p,w,S'⟩:=r
 obtain ⟨⟨q1,v,l',q2,q3,q4⟩,hd⟩:=hr
 simp only at q1 q2 q3 q4 hd
 subst q1
 exact ⟨_,by simp only [Env.put,ht,cond_true],ae.weak (aa.top q2) (k v S' l' q3 (h2 S' l' q4 hd))⟩
end steps
end
end
end Go.Ev

namespace Go.Ev
noncomputable section
set_option linter.unusedVariables false
set_option linter.unusedSimpArgs false
variable {R:cZ} {C:gZ} {nt:Nat} {B:St}
def Bd (ops:Array Oper) (os done hs W:List Nat):Bool :=
 (os.all fun j=>!BA j W) && (List.range ops.size).all fun i=>BA i os || BA i done || (done.any fun d=>Nat.testBit ((Region.before ops).getD d 0) i) || (hs.any fun w=>Nat.beq i w || Nat.testBit ((Region.before ops).getD i 0) w)
def Gy (R:cZ) (C:gZ) (nt:Nat) (ops:Array Oper) (srcs:List Src) (fin:Src) (e0:Env) (PQ:AV→St→Prop) (Q:Env→St→Prop):Nat→List Nat→List Nat→List (Option AV)→St→Prop
 | 0,W,done,ws,S=>W=[]∧∃ os,Bd ops os done [] W=true∧RL R C nt ops srcs e0 ws S os∧∃ E,ow ws e0 fin=some E∧Q E S
 | n + 1,W,done,ws,S=>∃ hs os,(hs ≠ []∧∀ h ∈ hs,h ∈ W)∧Bd ops os done hs W=true∧RL R C nt ops srcs e0 ws S os∧∀ i ∈ hs,∃ o e,ops[i]? = some o∧ow ws e0 (srcs.getD i [])=some e ∧
   Ms R C nt ops S e o PQ (fun v S'=>∃ ws',pJ ws' ws∧(∀ t,o.dst=some t→∃ x,ws'[i]? = some (some x)∧Less x v)∧Gy R C nt ops srcs fin e0 PQ Q n (W.erase i) (i :: done) ws' S')
theorem ax.Ct (hR:kR R C) (hm:C.P.follows .mixedOrders=true) {id:Nat} {ops:Array Oper} (srcs:List Src) (fin:Src) (ht:Et ops nt srcs fin=true) (n0:Nat) (W:List Nat) (hWn:W.Nodup) {e0:Env} {S:St} (ws:List (Option AV)) {Q:uo→Prop}
  (h:Gy R C nt ops srcs fin e0 (fun v S'=>Q (.panic v,e0,S')) (fun e' S'=>Q (.normal,e',S')) n0 W [] ws S):ax R C.P nt (.region id ops true) e0 S Q:=by
 simp only [Et,Bool.and_eq_true] at ht
 obtain ⟨⟨hr,hfin⟩,hall⟩:=ht
 have hsrc:∀ i,i < ops.size→CQ ops ((Region.before ops).getD i 0) i (srcs.getD i [])=true:=fun i hi=>by
  have:=List.all_eq_true.1 hall i (List.mem_range.2 hi)
  simp only [Bool.and_eq_true] at this
  exact this.1
 have hnt:∀ (k:Nat) (o:Oper) (t:Nat),ops[k]? = some o→o.dst=some t→t < nt:=fun k o t hk hd=>by
  have:=List.all_eq_true.1 hall k (List.mem_range.2 (Array.getElem?_eq_some_iff.1 hk).1)
  simp only [Bool.and_eq_true,hk,hd] at this
  exact Nat.le_of_ble_eq_true this.2.1
 have hnx:∀ (k:Nat) (o:Oper),ops[k]? = some o→∀ t,o.op ≠ .next (.tmp t) false:=fun k o hk t ho=>by
  have:=List.all_eq_true.1 hall k (List.mem_range.2 (Array.getElem?_eq_some_iff.1 hk).1)
  simp only [Bool.and_eq_true,hk,ho] at this
  cases this.2.2
 intro cx w a Kx hS he hk
 refine wp_region_any hm ?_
 obtain ⟨d1,d2⟩:=nW hR.toObjOk hS
 let Inv:Array Bool→Act→World→Prop:=fun listed a' w'=>a'.defers=a.defers∧∃ n' W' done ws' S' cx',Gy R C nt ops srcs fin e0 (fun v S'=>Q (.panic v,e0,S')) (fun e' S'=>Q (.normal,e',S')) n' W' done ws' S'∧(∀ i ∈ done,listed.getD i false=true)∧(∀ i ∈ W',listed.getD i false=false)∧W'.Nodup ∧
  bq R cx' S' w'∧Ext cx S w cx' S' w'∧qK nt ops e0 listed ws' cx' S' w' a'
 have repf:∀ i,(Array.replicate ops.size false).getD i false=false:=fun i=>Aj _ _
 refine Eu hr Inv ?_ ?_ ops.size (Array.replicate ops.size false) (by simp) (fun j hj=>by rw [repf] at hj; cases hj) ?_ ?_
 ·
  intro listed a' w' i o K hsz hcl hun hi hclo ⟨hd,n',W',done,ws',S',cx',hD,hdone,hW',hnd,s1,x1,env⟩ hK
  have hlt:i < ops.size:=(Array.getElem?_eq_some_iff.1 hi).1
  have rstep:∀ os,RL R C nt ops srcs e0 ws' S' os→i ∈ os→i ∉ W'→wpOp C.P ops Kx i K a' w':=fun os hrl hio hiw=>by
   obtain ⟨o2,x,e,h1,h2,h3,h4⟩:=hrl.get hio
   rw [hi] at h1; cases h1
   have hrel:=uR hr hcl env hlt hun hclo h3 (hsrc i hlt)
   refine Al hR h4 s1 hrel (fun cx2 w2 u q1 q2 q3=>hK _ _ ⟨by rw [put_defers]; exact hd,n',W',done,ws',S',cx2,hD,fun j hj=>?_,fun j hj=>?_,hnd,q1,x1.trans q2,?_⟩) (hnx i o hi) hi
   ·
    by_cases hij:i=j
    ·
     subst hij; exact getD_set_true (hdone i hj)
    ·
     rw [getD_set_ne false hij]; exact hdone j hj
   ·
    have hij:i ≠ j:=fun q=>hiw (q ▸ hj)
    rw [getD_set_ne false hij]; exact hW' j hj
   ·
    exact qK.step hr hnt hsz hcl (fun k y _ hy=>⟨y,hy,.refl y⟩) env hi hun q2 (fun t ht=>⟨x,h2,q3 t ht⟩)
  have cov:∀ os hs,Bd ops os done hs W'=true→(i ∈ os∧i ∉ W')∨∃ w1 ∈ hs,(i=w1∨listed.getD w1 false=true):=fun os hs hc=>by
   simp only [Bd,Bool.and_eq_true] at hc
   obtain ⟨c1,c2⟩:=hc
   have:=List.all_eq_true.1 c2 i (List.mem_range.2 hlt)
   simp only [Bool.or_eq_true] at this
   rcases this with ((q | q) | q) | q
   ·
    left
    have hio:=ql.1 q
    refine ⟨hio,fun hiw=>?_⟩
    have:=List.all_eq_true.1 c1 i hio
    rw [ql.2 hiw] at this; cases this
   ·
    have:=hdone i (ql.1 q)
    rw [hun] at this; cases this
   ·
    obtain ⟨d,hd1,hd2⟩:=List.any_eq_true.1 q
    have hl:=hdone d hd1
    have hdlt:d < ops.size:=by
     rcases Nat.lt_or_ge d ops.size with q | q
     ·
      exact q
     ·
      have:listed.getD d false=false:=by simp [show listed.size ≤ d by omega]
      rw [hl] at this; cases this
    have:=hcl d hl i (nQ hr hdlt hd2) hd2
    rw [hun] at this; cases this
   ·
    right
    obtain ⟨w1,hw1,q⟩:=List.any_eq_true.1 q
    simp only [Bool.or_eq_true] at q
    exact ⟨w1,hw1,q.imp Nat.eq_of_beq_eq_true (fun q=>hclo w1 (nQ hr hlt q) q)⟩
  cases n' with
  | zero =>
   obtain ⟨_,os,hc,hrl,_⟩:=_root_.id hD
   rcases cov os [] hc with h | ⟨w1,h,_⟩
   ·
    exact rstep os hrl h.1 h.2
   ·
    cases h
  | succ n' =>
   obtain ⟨hs,os,hhs,hc,hrl,hall⟩:=_root_.id hD
   rcases cov os hs hc with h | ⟨w0,h,hq⟩
   ·
    exact rstep os hrl h.1 h.2
   ·
    have hw0:=hhs.2 w0 h
    rcases hq with rfl | hq
    ·
     obtain ⟨o2,e,h1,h2,h3⟩:=hall i h
     rw [hi] at h1; cases h1
     have hrel:=uR hr hcl env hlt hun hclo h2 (hsrc i hlt)
     refine zK hR h3 s1 hrel (fun v S2 cx2 w2 u hqv q1 q2 q3=>hk (.panic v,e0,S2) hqv cx2 a' w2 u q1 (x1.trans q2) q3 hd) (fun v S2 cx2 w2 u hqv q1 q2 q3=>?_) (hnx i o hi) hi
     obtain ⟨ws2,l1,l2,l3⟩:=hqv
     refine hK _ _ ⟨by rw [put_defers]; exact hd,n',W'.erase i,i :: done,ws2,S2,cx2,l3,fun j hj=>?_,fun j hj=>?_,hnd.erase i,q1,x1.trans q2,?_⟩
     ·
      by_cases hij:i=j
      ·
       subst hij
       have hlt':i < listed.size:=by omega
       simp [hlt']
      ·
       rw [getD_set_ne false hij]
       rcases List.mem_cons.1 hj with q | q
       ·
        exact absurd q.symm hij
       ·
        exact hdone j q
     ·
      have hj':=(List.Nodup.mem_erase_iff hnd).1 hj
      rw [getD_set_ne false (fun q=>hj'.1 q.symm)]; exact hW' j hj'.2
     ·
      exact qK.step hr hnt hsz hcl (fun k y _ hy=>l1.get hy) env hi hun q2 (fun t ht=>by
       obtain ⟨x,k1,k2⟩:=l2 t ht
       exact ⟨x,k1,k2 _ _ _ _ (q3 t ht)⟩)
    ·
     have:=hW' w0 hw0
     rw [hq] at this; cases this
 ·
  intro listed a' w' hall' ⟨hd,n',W',done,ws',S',cx',hD,hdone,hW',hnd,s1,x1,env⟩
  cases n' with
  | zero =>
   obtain ⟨_,os,hc,hrl,E,hE,hQ⟩:=hD
   exact hk (.normal,E,S') hQ cx' a' w' s1 x1 (Cv hall' env hE hfin) hd
  | succ n' =>
   obtain ⟨hs,os,hhs,hc,hrl,hall⟩:=hD
   obtain ⟨w0,hw0⟩:=List.exists_mem_of_ne_nil hs hhs.1
   obtain ⟨o2,e,h1,h2,h3⟩:=hall w0 hw0
   have:=hall' w0 (Array.getElem?_eq_some_iff.1 h1).1
   rw [hW' w0 (hhs.2 w0 hw0)] at this; cases this
 ·
  have:((List.range ops.size).filter fun i=>!(Array.replicate ops.size false).getD i false)=List.range ops.size:=by
   rw [List.filter_eq_self]; intro i hi; rw [repf]; rfl
  rw [this]; simp
 ·
  refine ⟨rfl,n0,W,[],ws,S,cx,h,fun i hi=>(by cases hi),fun i hi=>repf i,hWn,d1,d2,he.size,fun k o t _ _ hl _=>?_,fun t x hx _=>?_⟩
  ·
   rw [repf] at hl; cases hl
  ·
   obtain ⟨v,v1,v2⟩:=he.rel t x hx
   exact ⟨v,v1,v2.mono d2⟩
end
end Go.Ev

namespace Go.Ev
noncomputable section
set_option linter.unusedVariables false
set_option linter.unusedSimpArgs false
variable {R:cZ} {P:Program} {B:St}
section
variable {C:gZ} {nt:Nat} {α:Type} {FT:Nat}
section steps
variable {ops:Array Oper} {rest:List Oper} {e:Env} {S S':St} {Q:Stp→Prop} {l l':List dh} {t ty:Nat} {p:String} {af:Array Edge} {g:Option (Nat × Bool)} {x y:Operand} {v:AV}
end steps
end
end
end Go.Ev

namespace Go.Ev
noncomputable section
set_option linter.unusedVariables false
set_option linter.unusedSimpArgs false
variable {R:cZ} {C:gZ} {nt:Nat} {B:St}
section steps
variable {ops:Array Oper} {rest:List Oper} {e:Env} {S S':St} {Q:Stp→Prop} {l l':List dh} {t ty:Nat} {p:String} {af:Array Edge} {g:Option (Nat × Bool)} {x y:Operand} {v:AV}
end steps
section raw
variable {P:Program} {ops:Array Oper} {a:Act} {w:World} {o1 o2:Oper}
end raw
end
end Go.Ev

namespace Go.Ev
namespace Pr
set_option linter.unusedVariables false
set_option linter.unusedSimpArgs false
structure Attr where
 Name:Str
 Value:Str
 deriving DecidableEq
def aU (x:Attr):D:=.agg [(.str x.Name),(.str x.Value)]
theorem Attr.eq (x:Attr):aU x=.agg [(.str x.Name),(.str x.Value)]:=rfl
theorem Attr.cells (x:Attr):(aU x).cells=[(.str x.Name),(.str x.Value)]:=by rw [Attr.eq]; rfl
theorem Attr.agg (x:Attr):(aU x).isAgg=true:=by rw [Attr.eq]; rfl
theorem Attr.len (x:Attr):(aU x).cells.length=2:=by rw [Attr.cells]; rfl
theorem Attr.cn (x:Attr):(aU x).cn=aU x:=by
 rw [Attr.eq]
 exact Gp (by
  intro d hd
  simp only [List.mem_cons,List.not_mem_nil,or_false] at hd
  rcases hd with rfl | rfl
  ·
   exact rfl
  ·
   exact rfl)
structure bY where
 Kind:Int
 N:Int
 Tag:Str
 Text:Str
 bB:(List Attr)
def dM (x:bY):D:=.agg [(.int .i64 x.Kind),(.int .i64 x.N),(.str x.Tag),(.str x.Text),(.sl ((x.bB).map aU) false),.aQ]
theorem bY.eq (x:bY):dM x=.agg [(.int .i64 x.Kind),(.int .i64 x.N),(.str x.Tag),(.str x.Text),(.sl ((x.bB).map aU) false),.aQ]:=rfl
theorem bY.cells (x:bY):(dM x).cells=[(.int .i64 x.Kind),(.int .i64 x.N),(.str x.Tag),(.str x.Text),(.sl ((x.bB).map aU) false),.aQ]:=by rw [bY.eq]; rfl
theorem bY.bu (x:bY):(AV.d (dM x)).cells=[.d (.int .i64 x.Kind),.d (.int .i64 x.N),.d (.str x.Tag),.d (.str x.Text),.d (.sl ((x.bB).map aU) false),.d .aQ]:=by rw [bY.eq]; rfl
theorem bY.agg (x:bY):(dM x).isAgg=true:=by rw [bY.eq]; rfl
theorem bY.len (x:bY):(dM x).cells.length=6:=by rw [bY.cells]; rfl
theorem bY.jO {P:Program} {t:Nat} {x:bY} (ha:dR P t=some true) (hz:aK P t=6):jm P t (dM x).cells 0=some (dM x):=by
 rw [bY.cells,lH ha hz rfl,bY.eq]; rfl
structure Seg where
 Kind:Int
 Text:Str
 deriving DecidableEq
def bC (x:Seg):D:=.agg [(.int .i64 x.Kind),(.str x.Text)]
theorem Seg.eq (x:Seg):bC x=.agg [(.int .i64 x.Kind),(.str x.Text)]:=rfl
theorem Seg.cells (x:Seg):(bC x).cells=[(.int .i64 x.Kind),(.str x.Text)]:=by rw [Seg.eq]; rfl
theorem Seg.bu (x:Seg):(AV.d (bC x)).cells=[.d (.int .i64 x.Kind),.d (.str x.Text)]:=by rw [Seg.eq]; rfl
theorem Seg.agg (x:Seg):(bC x).isAgg=true:=by rw [Seg.eq]; rfl
theorem Seg.len (x:Seg):(bC x).cells.length=2:=by rw [Seg.cells]; rfl
theorem Seg.jO {P:Program} {t:Nat} {x:Seg} (ha:dR P t=some true) (hz:aK P t=2):jm P t (bC x).cells 0=some (bC x):=by
 rw [Seg.cells,lH ha hz rfl,Seg.eq]; rfl
structure aJ where
 Kind:Int
 Flag:Int
 To:Str
 deriving DecidableEq
def mR (x:aJ):D:=.agg [(.int .i64 x.Kind),(.int .i64 x.Flag),(.str x.To)]
theorem aJ.eq (x:aJ):mR x=.agg [(.int .i64 x.Kind),(.int .i64 x.Flag),(.str x.To)]:=rfl
theorem aJ.cells (x:aJ):(mR x).cells=[(.int .i64 x.Kind),(.int .i64 x.Flag),(.str x.To)]:=by rw [aJ.eq]; rfl
theorem aJ.bu (x:aJ):(AV.d (mR x)).cells=[.d (.int .i64 x.Kind),.d (.int .i64 x.Flag),.d (.str x.To)]:=by rw [aJ.eq]; rfl
theorem aJ.agg (x:aJ):(mR x).isAgg=true:=by rw [aJ.eq]; rfl
structure au where
 Name:Str
 Parent:Int
 eT:(List Seg)
 aG:Int
 iK:Bool
 aJ:aJ
def aB (x:au):D:=.agg [(.str x.Name),(.int .i64 x.Parent),(.sl ((x.eT).map bC) false),(.int .i64 x.aG),(.bool x.iK),(.int .i64 x.aJ.Kind),(.int .i64 x.aJ.Flag),(.str x.aJ.To)]
theorem au.eq (x:au):aB x=.agg [(.str x.Name),(.int .i64 x.Parent),(.sl ((x.eT).map bC) false),(.int .i64 x.aG),(.bool x.iK),(.int .i64 x.aJ.Kind),(.int .i64 x.aJ.Flag),(.str x.aJ.To)]:=rfl
theorem au.cells (x:au):(aB x).cells=[(.str x.Name),(.int .i64 x.Parent),(.sl ((x.eT).map bC) false),(.int .i64 x.aG),(.bool x.iK),(.int .i64 x.aJ.Kind),(.int .i64 x.aJ.Flag),(.str x.aJ.To)]:=by rw [au.eq]; rfl
theorem au.bu (x:au):(AV.d (aB x)).cells=[.d (.str x.Name),.d (.int .i64 x.Parent),.d (.sl ((x.eT).map bC) false),.d (.int .i64 x.aG),.d (.bool x.iK),.d (.int .i64 x.aJ.Kind),.d (.int .i64 x.aJ.Flag),.d (.str x.aJ.To)]:=by rw [au.eq]; rfl
theorem au.agg (x:au):(aB x).isAgg=true:=by rw [au.eq]; rfl
theorem au.flat (x:au):iU (aB x).cells=true:=by rw [au.cells]; rfl
theorem au.len (x:au):(aB x).cells.length=8:=by rw [au.cells]; rfl
theorem au.jO {P:Program} {t:Nat} {x:au} (ha:dR P t=some true) (hz:aK P t=8):jm P t (aB x).cells 0=some (aB x):=by
 rw [au.cells,lH ha hz rfl,au.eq]; rfl
structure fU where
 Parents:(List Int)
 Kinds:(List Int)
 Texts:(List Int)
 Rules:(List Int)
 Flags:(List Int)
 fK:(List Int)
 Comps:(List Int)
def jX (x:fU):D:=.agg [(.sl ((x.Parents).map (D.int .i64)) false),(.sl ((x.Kinds).map (D.int .i64)) false),(.sl ((x.Texts).map (D.int .i64)) false),(.sl ((x.Rules).map (D.int .i64)) false),(.sl ((x.Flags).map (D.int .i64)) false),(.sl ((x.fK).map (D.int .i64)) false),(.sl ((x.Comps).map (D.int .i64)) false)]
theorem fU.eq (x:fU):jX x=.agg [(.sl ((x.Parents).map (D.int .i64)) false),(.sl ((x.Kinds).map (D.int .i64)) false),(.sl ((x.Texts).map (D.int .i64)) false),(.sl ((x.Rules).map (D.int .i64)) false),(.sl ((x.Flags).map (D.int .i64)) false),(.sl ((x.fK).map (D.int .i64)) false),(.sl ((x.Comps).map (D.int .i64)) false)]:=rfl
theorem fU.cells (x:fU):(jX x).cells=[(.sl ((x.Parents).map (D.int .i64)) false),(.sl ((x.Kinds).map (D.int .i64)) false),(.sl ((x.Texts).map (D.int .i64)) false),(.sl ((x.Rules).map (D.int .i64)) false),(.sl ((x.Flags).map (D.int .i64)) false),(.sl ((x.fK).map (D.int .i64)) false),(.sl ((x.Comps).map (D.int .i64)) false)]:=by rw [fU.eq]; rfl
theorem fU.bu (x:fU):(AV.d (jX x)).cells=[.d (.sl ((x.Parents).map (D.int .i64)) false),.d (.sl ((x.Kinds).map (D.int .i64)) false),.d (.sl ((x.Texts).map (D.int .i64)) false),.d (.sl ((x.Rules).map (D.int .i64)) false),.d (.sl ((x.Flags).map (D.int .i64)) false),.d (.sl ((x.fK).map (D.int .i64)) false),.d (.sl ((x.Comps).map (D.int .i64)) false)]:=by rw [fU.eq]; rfl
theorem fU.agg (x:fU):(jX x).isAgg=true:=by rw [fU.eq]; rfl
inductive aF where
 | mk (Kind:Int) (N:Int) (Tag:Str) (Text:Str) (bB:(List Attr)) (Kids:(List aF))
def aF.Kind:aF→Int | .mk x _ _ _ _ _=>x
def aF.N:aF→Int | .mk _ x _ _ _ _=>x
def aF.Tag:aF→Str | .mk _ _ x _ _ _=>x
def aF.Text:aF→Str | .mk _ _ _ x _ _=>x
def aF.bB:aF→(List Attr) | .mk _ _ _ _ x _=>x
def aF.Kids:aF→(List aF) | .mk _ _ _ _ _ x=>x
mutual
def aH:aF→D
 | .mk x0 x1 x2 x3 x4 x5=>.agg [(.int .i64 x0),(.int .i64 x1),(.str x2),(.str x3),(.sl ((x4).map aU) false),.sl (qp x5) false]
def qp:List aF→List D
 | []=>[]
 | x :: l=>aH x :: qp l
end
theorem vZ:∀ (l:List aF),qp l=l.map aH
 | []=>rfl
 | x :: l=>by rw [qp,vZ l]; rfl
theorem aF.eq (x:aF):aH x=.agg [(.int .i64 x.Kind),(.int .i64 x.N),(.str x.Tag),(.str x.Text),(.sl ((x.bB).map aU) false),(.sl ((x.Kids).map aH) false)]:=by
 cases x
 rw [aH,vZ]
 rfl
theorem aF.cells (x:aF):(aH x).cells=[(.int .i64 x.Kind),(.int .i64 x.N),(.str x.Tag),(.str x.Text),(.sl ((x.bB).map aU) false),(.sl ((x.Kids).map aH) false)]:=by rw [aF.eq]; rfl
theorem aF.bu (x:aF):(AV.d (aH x)).cells=[.d (.int .i64 x.Kind),.d (.int .i64 x.N),.d (.str x.Tag),.d (.str x.Text),.d (.sl ((x.bB).map aU) false),.d (.sl ((x.Kids).map aH) false)]:=by rw [aF.eq]; rfl
theorem aF.agg (x:aF):(aH x).isAgg=true:=by rw [aF.eq]; rfl
theorem aF.flat (x:aF):iU (aH x).cells=true:=by rw [aF.cells]; rfl
theorem aF.len (x:aF):(aH x).cells.length=6:=by rw [aF.cells]; rfl
mutual
theorem aF.cn:∀ (x:aF),(aH x).cn=aH x
 | .mk x0 x1 x2 x3 x4 x5=>by
  rw [aH]
  exact Gp (by
   intro d hd
   simp only [List.mem_cons,List.not_mem_nil,or_false] at hd
   rcases hd with rfl | rfl | rfl | rfl | rfl | rfl
   ·
    exact rfl
   ·
    exact rfl
   ·
    exact rfl
   ·
    exact rfl
   ·
    exact KS Attr.cn _ _
   ·
    exact congrArg (D.sl · false) (aF.EW x5))
theorem aF.EW:∀ (l:List aF),D.EW (qp l)=qp l
 | []=>rfl
 | x :: l=>by rw [qp,D.EW,aF.cn x,aF.EW l]
end
theorem aF.jO {P:Program} {t:Nat} {x:aF} (ha:dR P t=some true) (hz:aK P t=6):jm P t (aH x).cells 0=some (aH x):=by
 rw [aF.cells,lH ha hz rfl,aF.eq]; rfl
structure bR where
 Under:(List Int)
 Kinds:(List Int)
 Ns:(List Int)
 Texts:(List Int)
def jq (x:bR):D:=.agg [(.sl ((x.Under).map (D.int .i64)) false),(.sl ((x.Kinds).map (D.int .i64)) false),(.sl ((x.Ns).map (D.int .i64)) false),(.sl ((x.Texts).map (D.int .i64)) false)]
theorem bR.eq (x:bR):jq x=.agg [(.sl ((x.Under).map (D.int .i64)) false),(.sl ((x.Kinds).map (D.int .i64)) false),(.sl ((x.Ns).map (D.int .i64)) false),(.sl ((x.Texts).map (D.int .i64)) false)]:=rfl
theorem bR.cells (x:bR):(jq x).cells=[(.sl ((x.Under).map (D.int .i64)) false),(.sl ((x.Kinds).map (D.int .i64)) false),(.sl ((x.Ns).map (D.int .i64)) false),(.sl ((x.Texts).map (D.int .i64)) false)]:=by rw [bR.eq]; rfl
theorem bR.bu (x:bR):(AV.d (jq x)).cells=[.d (.sl ((x.Under).map (D.int .i64)) false),.d (.sl ((x.Kinds).map (D.int .i64)) false),.d (.sl ((x.Ns).map (D.int .i64)) false),.d (.sl ((x.Texts).map (D.int .i64)) false)]:=by rw [bR.eq]; rfl
theorem bR.agg (x:bR):(jq x).isAgg=true:=by rw [bR.eq]; rfl
structure On where
 Event:Str
 N:Int
 Add:Int
 deriving DecidableEq
def eH (x:On):D:=.agg [(.str x.Event),(.int .i64 x.N),(.int .i64 x.Add)]
theorem On.eq (x:On):eH x=.agg [(.str x.Event),(.int .i64 x.N),(.int .i64 x.Add)]:=rfl
theorem On.cells (x:On):(eH x).cells=[(.str x.Event),(.int .i64 x.N),(.int .i64 x.Add)]:=by rw [On.eq]; rfl
theorem On.bu (x:On):(AV.d (eH x)).cells=[.d (.str x.Event),.d (.int .i64 x.N),.d (.int .i64 x.Add)]:=by rw [On.eq]; rfl
theorem On.agg (x:On):(eH x).isAgg=true:=by rw [On.eq]; rfl
theorem On.len (x:On):(eH x).cells.length=3:=by rw [On.cells]; rfl
theorem On.jO {P:Program} {t:Nat} {x:On} (ha:dR P t=some true) (hz:aK P t=3):jm P t (eH x).cells 0=some (eH x):=by
 rw [On.cells,lH ha hz rfl,On.eq]; rfl
structure aG where
 aF:aF
 Init:(List Int)
 On:(List On)
def aM (x:aG):D:=.agg [(.int .i64 x.aF.Kind),(.int .i64 x.aF.N),(.str x.aF.Tag),(.str x.aF.Text),(.sl ((x.aF.bB).map aU) false),(.sl ((x.aF.Kids).map aH) false),(.sl ((x.Init).map (D.int .i64)) false),(.sl ((x.On).map eH) false)]
theorem aG.eq (x:aG):aM x=.agg [(.int .i64 x.aF.Kind),(.int .i64 x.aF.N),(.str x.aF.Tag),(.str x.aF.Text),(.sl ((x.aF.bB).map aU) false),(.sl ((x.aF.Kids).map aH) false),(.sl ((x.Init).map (D.int .i64)) false),(.sl ((x.On).map eH) false)]:=rfl
theorem aG.cells (x:aG):(aM x).cells=[(.int .i64 x.aF.Kind),(.int .i64 x.aF.N),(.str x.aF.Tag),(.str x.aF.Text),(.sl ((x.aF.bB).map aU) false),(.sl ((x.aF.Kids).map aH) false),(.sl ((x.Init).map (D.int .i64)) false),(.sl ((x.On).map eH) false)]:=by rw [aG.eq]; rfl
theorem aG.bu (x:aG):(AV.d (aM x)).cells=[.d (.int .i64 x.aF.Kind),.d (.int .i64 x.aF.N),.d (.str x.aF.Tag),.d (.str x.aF.Text),.d (.sl ((x.aF.bB).map aU) false),.d (.sl ((x.aF.Kids).map aH) false),.d (.sl ((x.Init).map (D.int .i64)) false),.d (.sl ((x.On).map eH) false)]:=by rw [aG.eq]; rfl
theorem aG.agg (x:aG):(aM x).isAgg=true:=by rw [aG.eq]; rfl
theorem aG.flat (x:aG):iU (aM x).cells=true:=by rw [aG.cells]; rfl
theorem aG.len (x:aG):(aM x).cells.length=8:=by rw [aG.cells]; rfl
theorem aG.jO {P:Program} {t:Nat} {x:aG} (ha:dR P t=some true) (hz:aK P t=8):jm P t (aM x).cells 0=some (aM x):=by
 rw [aG.cells,lH ha hz rfl,aG.eq]; rfl
structure dW where
 Page:bR
 Init:(List Int)
 Adds:(List Int)
 Outlet:Bool
def dV (x:dW):D:=.agg [(.sl ((x.Page.Under).map (D.int .i64)) false),(.sl ((x.Page.Kinds).map (D.int .i64)) false),(.sl ((x.Page.Ns).map (D.int .i64)) false),(.sl ((x.Page.Texts).map (D.int .i64)) false),(.sl ((x.Init).map (D.int .i64)) false),(.sl ((x.Adds).map (D.int .i64)) false),(.bool x.Outlet)]
theorem dW.eq (x:dW):dV x=.agg [(.sl ((x.Page.Under).map (D.int .i64)) false),(.sl ((x.Page.Kinds).map (D.int .i64)) false),(.sl ((x.Page.Ns).map (D.int .i64)) false),(.sl ((x.Page.Texts).map (D.int .i64)) false),(.sl ((x.Init).map (D.int .i64)) false),(.sl ((x.Adds).map (D.int .i64)) false),(.bool x.Outlet)]:=rfl
theorem dW.cells (x:dW):(dV x).cells=[(.sl ((x.Page.Under).map (D.int .i64)) false),(.sl ((x.Page.Kinds).map (D.int .i64)) false),(.sl ((x.Page.Ns).map (D.int .i64)) false),(.sl ((x.Page.Texts).map (D.int .i64)) false),(.sl ((x.Init).map (D.int .i64)) false),(.sl ((x.Adds).map (D.int .i64)) false),(.bool x.Outlet)]:=by rw [dW.eq]; rfl
theorem dW.bu (x:dW):(AV.d (dV x)).cells=[.d (.sl ((x.Page.Under).map (D.int .i64)) false),.d (.sl ((x.Page.Kinds).map (D.int .i64)) false),.d (.sl ((x.Page.Ns).map (D.int .i64)) false),.d (.sl ((x.Page.Texts).map (D.int .i64)) false),.d (.sl ((x.Init).map (D.int .i64)) false),.d (.sl ((x.Adds).map (D.int .i64)) false),.d (.bool x.Outlet)]:=by rw [dW.eq]; rfl
theorem dW.agg (x:dW):(dV x).isAgg=true:=by rw [dW.eq]; rfl
theorem dW.len (x:dW):(dV x).cells.length=7:=by rw [dW.cells]; rfl
theorem dW.jO {P:Program} {t:Nat} {x:dW} (ha:dR P t=some true) (hz:aK P t=7):jm P t (dV x).cells 0=some (dV x):=by
 rw [dW.cells,lH ha hz rfl,dW.eq]; rfl
structure dO where
 Records:(List au)
 Comps:(List aG)
 Cache:Int
def iN (x:dO):D:=.agg [(.sl ((x.Records).map aB) false),(.sl ((x.Comps).map aM) false),(.int .i64 x.Cache)]
theorem dO.eq (x:dO):iN x=.agg [(.sl ((x.Records).map aB) false),(.sl ((x.Comps).map aM) false),(.int .i64 x.Cache)]:=rfl
theorem dO.cells (x:dO):(iN x).cells=[(.sl ((x.Records).map aB) false),(.sl ((x.Comps).map aM) false),(.int .i64 x.Cache)]:=by rw [dO.eq]; rfl
theorem dO.bu (x:dO):(AV.d (iN x)).cells=[.d (.sl ((x.Records).map aB) false),.d (.sl ((x.Comps).map aM) false),.d (.int .i64 x.Cache)]:=by rw [dO.eq]; rfl
theorem dO.agg (x:dO):(iN x).isAgg=true:=by rw [dO.eq]; rfl
structure jS where
 Table:fU
 Parts:(List dW)
 Cache:Int
def oD (x:jS):D:=.agg [(.sl ((x.Table.Parents).map (D.int .i64)) false),(.sl ((x.Table.Kinds).map (D.int .i64)) false),(.sl ((x.Table.Texts).map (D.int .i64)) false),(.sl ((x.Table.Rules).map (D.int .i64)) false),(.sl ((x.Table.Flags).map (D.int .i64)) false),(.sl ((x.Table.fK).map (D.int .i64)) false),(.sl ((x.Table.Comps).map (D.int .i64)) false),(.sl ((x.Parts).map dV) false),(.int .i64 x.Cache)]
theorem jS.eq (x:jS):oD x=.agg [(.sl ((x.Table.Parents).map (D.int .i64)) false),(.sl ((x.Table.Kinds).map (D.int .i64)) false),(.sl ((x.Table.Texts).map (D.int .i64)) false),(.sl ((x.Table.Rules).map (D.int .i64)) false),(.sl ((x.Table.Flags).map (D.int .i64)) false),(.sl ((x.Table.fK).map (D.int .i64)) false),(.sl ((x.Table.Comps).map (D.int .i64)) false),(.sl ((x.Parts).map dV) false),(.int .i64 x.Cache)]:=rfl
theorem jS.cells (x:jS):(oD x).cells=[(.sl ((x.Table.Parents).map (D.int .i64)) false),(.sl ((x.Table.Kinds).map (D.int .i64)) false),(.sl ((x.Table.Texts).map (D.int .i64)) false),(.sl ((x.Table.Rules).map (D.int .i64)) false),(.sl ((x.Table.Flags).map (D.int .i64)) false),(.sl ((x.Table.fK).map (D.int .i64)) false),(.sl ((x.Table.Comps).map (D.int .i64)) false),(.sl ((x.Parts).map dV) false),(.int .i64 x.Cache)]:=by rw [jS.eq]; rfl
theorem jS.bu (x:jS):(AV.d (oD x)).cells=[.d (.sl ((x.Table.Parents).map (D.int .i64)) false),.d (.sl ((x.Table.Kinds).map (D.int .i64)) false),.d (.sl ((x.Table.Texts).map (D.int .i64)) false),.d (.sl ((x.Table.Rules).map (D.int .i64)) false),.d (.sl ((x.Table.Flags).map (D.int .i64)) false),.d (.sl ((x.Table.fK).map (D.int .i64)) false),.d (.sl ((x.Table.Comps).map (D.int .i64)) false),.d (.sl ((x.Parts).map dV) false),.d (.int .i64 x.Cache)]:=by rw [jS.eq]; rfl
theorem jS.agg (x:jS):(oD x).isAgg=true:=by rw [jS.eq]; rfl
def eU (a2:Int) (x7:Int):Option Int :=
 (some (IntKind.wrap .i64 (a2 + x7)))
def aR (n:Nat) (a1:Int) (a2:Int) (a3:Int):Option Int :=
 ((Eb .i64 a1 (IntKind.wrap .i64 ((IntKind.wrap .i64 (a3 - a2)) + 1))).bind fun z4=>(if (decide (z4 < 0))=true then (eU a2 ((IntKind.wrap .i64 ((IntKind.wrap .i64 ((IntKind.wrap .i64 (z4 + a3)) - a2)) + 1)))) else (eU a2 (z4))))
def iE (n:Nat) (a1:(List Seg)):Option Bool :=
 ((if (decide (0 < ((a1).length:Int)))=true then ((idx a1 (IntKind.wrap .i64 (((a1).length:Int) - 1))).bind fun z2=>(some (decide (2 ≤ z2.Kind)))) else some false).bind fun z3=>(some z3))
def bO (n:Nat) (a1:(List Int)) (a2:Int):Option Int :=
 (if (((a1).length:Int) == 0)=true then (some 0) else ((Eb .i64 a2 ((a1).length:Int)).bind fun z4=>((idx a1 z4).bind fun z5=>(some z5))))
def bW (x19:(List au)) (x21:(List Int)) (x23:Int) (again24:(List au)→(List Int)→Int→Option (List au)) (x31:Int) (x35:Int) (x47:Int) (x48:Str) (z50:Str) (z51:Int) (z53:Int) (x66:Int) (x67:Int) (x68:Str):Option (List au) :=
 ((app 96 x19 [(au.mk ((au.mk z50 x31 [(Seg.mk x47 x48)] z53 ((dn .i64 z51 1) == 1) (aJ.mk 0 0 [])).Name) ((au.mk z50 x31 [(Seg.mk x47 x48)] z53 ((dn .i64 z51 1) == 1) (aJ.mk 0 0 [])).Parent) ((au.mk z50 x31 [(Seg.mk x47 x48)] z53 ((dn .i64 z51 1) == 1) (aJ.mk 0 0 [])).eT) ((au.mk z50 x31 [(Seg.mk x47 x48)] z53 ((dn .i64 z51 1) == 1) (aJ.mk 0 0 [])).aG) ((au.mk z50 x31 [(Seg.mk x47 x48)] z53 ((dn .i64 z51 1) == 1) (aJ.mk 0 0 [])).iK) (aJ.mk x66 x67 x68))]).bind fun z73=>((app 8 x21 [x35]).bind fun z77=>(again24 (z73) (z77) ((IntKind.wrap .i64 (x23 + 1))))))
def dx (n:Nat) (a1:fU) (x19:(List au)) (x21:(List Int)) (x23:Int) (again24:(List au)→(List Int)→Int→Option (List au)) (x31:Int) (x35:Int) (x47:Int) (x48:Str):Option (List au) :=
 ((cat [114] (([(IntKind.wrap .u8 (IntKind.wrap .i64 (97 + x23)))]).map fun (n:Int)=>UInt8.ofNat n.toNat)).bind fun z50=>((bO n a1.fK x23).bind fun z51=>((bO n a1.Comps x23).bind fun z52=>((aR n z52 0 3).bind fun z53=>((bO n a1.Rules x23).bind fun z81=>(if ((dn .i64 z81 3) == 3)=true then ((bO n a1.Rules x23).bind fun z83=>((yw .i64 z83 4).bind fun z84=>((aR n z84 0 4).bind fun z85=>((bO n a1.Flags x23).bind fun z86=>((aR n z86 0 3).bind fun z87=>(if ((((aJ.mk z85 z87 []).Kind) == 3) || (((aJ.mk z85 z87 []).Kind) == 4))=true then ((bO n a1.Flags (IntKind.wrap .i64 (x23 + 1))).bind fun z94=>((aR n z94 0 (IntKind.wrap .i64 (((x19).length:Int) - 1))).bind fun z95=>((idx x19 z95).bind fun z96=>(bW x19 x21 x23 again24 x31 x35 x47 x48 z50 z51 z53 ((aJ.mk z85 z87 []).Kind) ((aJ.mk z85 z87 []).Flag) (z96.Name))))) else (bW x19 x21 x23 again24 x31 x35 x47 x48 z50 z51 z53 ((aJ.mk z85 z87 []).Kind) ((aJ.mk z85 z87 []).Flag) ((aJ.mk z85 z87 []).To)))))))) else (bW x19 x21 x23 again24 x31 x35 x47 x48 z50 z51 z53 ((au.mk z50 x31 [(Seg.mk x47 x48)] z53 ((dn .i64 z51 1) == 1) (aJ.mk 0 0 [])).aJ.Kind) ((au.mk z50 x31 [(Seg.mk x47 x48)] z53 ((dn .i64 z51 1) == 1) (aJ.mk 0 0 [])).aJ.Flag) ((au.mk z50 x31 [(Seg.mk x47 x48)] z53 ((dn .i64 z51 1) == 1) (aJ.mk 0 0 [])).aJ.To))))))))
def dm (n:Nat) (a1:fU) (x19:(List au)) (x21:(List Int)) (x23:Int) (again24:(List au)→(List Int)→Int→Option (List au)) (x31:Int) (x35:Int):Option (List au) :=
 ((bO n a1.Kinds x23).bind fun z37=>((aR n z37 0 4).bind fun z38=>((cat [112] (([(IntKind.wrap .u8 (IntKind.wrap .i64 (97 + x23)))]).map fun (n:Int)=>UInt8.ofNat n.toNat)).bind fun z39=>(if (decide (((Seg.mk (IntKind.wrap .i64 (z38 - 1)) z39).Kind) ≤ 0))=true then ((bO n a1.Texts x23).bind fun z100=>((aR n z100 0 (IntKind.wrap .i64 (((([[97],[98],[105,116,101,109],[122],[49],[108,105,115,116]]:List Str)).length:Int) - 1))).bind fun z101=>((idx ([[97],[98],[105,116,101,109],[122],[49],[108,105,115,116]]:List Str) z101).bind fun z102=>(dx n a1 x19 x21 x23 again24 x31 x35 ((Seg.mk 0 z102).Kind) ((Seg.mk 0 z102).Text))))) else (dx n a1 x19 x21 x23 again24 x31 x35 ((Seg.mk (IntKind.wrap .i64 (z38 - 1)) z39).Kind) ((Seg.mk (IntKind.wrap .i64 (z38 - 1)) z39).Text))))))
def bX (n:Nat) (a1:fU) (x19:(List au)) (x21:(List Int)) (x23:Int) (again24:(List au)→(List Int)→Int→Option (List au)) (x31:Int):Option (List au) :=
 (if (decide (0 ≤ x31))=true then ((idx x21 x31).bind fun z106=>(dm n a1 x19 x21 x23 again24 x31 ((IntKind.wrap .i64 (z106 + 1))))) else (dm n a1 x19 x21 x23 again24 x31 (1)))
def aL (n:Nat) (a1:fU):Nat→(List au)→(List Int)→Int→Option (List au)
 | 0,_,_,_=>none
 | k24 + 1,x19,x21,x23 =>
  (if ((decide (x23 < ((a1.Parents).length:Int))) && (decide (x23 < 7)))=true then ((idx a1.Parents x23).bind fun z27=>((aR n z27 (-1) (IntKind.wrap .i64 (((x19).length:Int) - 1))).bind fun z28=>((if (decide (0 ≤ z28))=true then ((idx x21 z28).bind fun z107=>((if (decide (3 < z107))=true then some true else ((idx x19 z28).bind fun z108=>((iE n z108.eT).bind fun z109=>(some z109)))).bind fun z109=>(some z109))) else some false).bind fun z108=>(if z108=true then (bX n a1 x19 x21 x23 (aL n a1 k24) ((-1))) else (bX n a1 x19 x21 x23 (aL n a1 k24) (z28)))))) else (some x19))
def fJ (n:Nat) (a1:fU):Option (List au) :=
 (aL n a1 n ([(au.mk [104,111,109,101] (-1) [] 0 false (aJ.mk 0 0 []))]) ([0]) (0))
def cB (x19:Int) (again20:(List aF)→Int→Option aF) (x24:(List aF)):Option aF :=
 (again20 (x24) ((IntKind.wrap .i64 (x19 + 1))))
def aT (self:aF→Option aF) (a1:aF):Nat→(List aF)→Int→Option aF
 | 0,_,_=>none
 | k20 + 1,x17,x19 =>
  (if (decide (x19 < ((a1.Kids).length:Int)))=true then ((idx a1.Kids x19).bind fun z27=>(if (z27.Kind != 7)=true then ((self z27).bind fun z34=>((app 96 x17 [z34]).bind fun z35=>(cB x19 (aT self a1 k20) (z35)))) else (cB x19 (aT self a1 k20) (x17)))) else (some (aF.mk a1.Kind a1.N a1.Tag a1.Text a1.bB x17)))
def bg:Nat→aF→Option aF
 | 0,_=>none
 | n + 1,a1 =>
  (aT (bg n) a1 n ([]) (0))
def dF (z9:aF) (x20:(List aF)):Option aF :=
 (some (aF.mk z9.Kind z9.N z9.Tag z9.Text z9.bB x20))
def gu (n:Nat) (a1:aF) (a2:Bool):Option aF :=
 ((bg n a1).bind fun z9=>(if a2=true then ((app 96 z9.Kids [(aF.mk 7 0 [] [] [] [])]).bind fun z26=>(dF z9 (z26))) else (dF z9 (z9.Kids))))
def jR (n:Nat)  : Option (List Str) :=
 (some ([[97],[98],[105,116,101,109],[120,32,121],[37],[97,47,98],[46,46],[122],[49],[108,105,115,116],[255],[63,61,38]]:List Str))
def dE (a1:(List Int)):Nat→Int→Int→Option Int
 | 0,_,_=>none
 | k13 + 1,x11,x12 =>
  (if ((decide (0 ≤ x11)) && (decide (x12 < 99)))=true then ((idx a1 x11).bind fun z16=>((dE a1 k13) (z16) ((IntKind.wrap .i64 (x12 + 1))))) else (some x12))
def jh (n:Nat) (a1:(List Int)) (a2:Int):Option Int :=
 (dE a1 n (a2) (0))
def fw (x24:Int) (again25:(List aF)→Int→Option aF) (x29:(List aF)):Option aF :=
 (again25 (x29) ((IntKind.wrap .i64 (x24 + 1))))
def cz (self:(List bY)→(List Int)→Int→Option aF) (a1:(List bY)) (a2:(List Int)) (a3:Int) (z7:bY):Nat→(List aF)→Int→Option aF
 | 0,_,_=>none
 | k25 + 1,x22,x24 =>
  (if (decide (x24 < ((a1).length:Int)))=true then ((idx a2 x24).bind fun z32=>(if (z32 == a3)=true then ((self a1 a2 x24).bind fun z34=>((app 96 x22 [z34]).bind fun z35=>(fw x24 (cz self a1 a2 a3 z7 k25) (z35)))) else (fw x24 (cz self a1 a2 a3 z7 k25) (x22)))) else (some (aF.mk z7.Kind z7.N z7.Tag z7.Text z7.bB x22)))
def bZ:Nat→(List bY)→(List Int)→Int→Option aF
 | 0,_,_,_=>none
 | n + 1,a1,a2,a3 =>
  ((idx a1 a3).bind fun z7=>(cz (bZ n) a1 a2 a3 z7 n ([]) (0)))
def bS (x20:(List bY)) (x22:(List Int)) (x24:Int) (again25:(List bY)→(List Int)→Int→Option aF) (x32:Int) (z35:Int) (z37:Int) (x51:Str) (x52:Str) (x53:(List Attr)):Option aF :=
 ((app 96 x20 [(bY.mk ((bY.mk z35 z37 [] [] []).Kind) ((bY.mk z35 z37 [] [] []).N) x51 x52 x53)]).bind fun z55=>((app 8 x22 [x32]).bind fun z59=>(again25 (z55) (z59) ((IntKind.wrap .i64 (x24 + 1))))))
def cK (n:Nat) (a1:bR) (z8:(List Str)) (x20:(List bY)) (x22:(List Int)) (x24:Int) (again25:(List bY)→(List Int)→Int→Option aF) (x32:Int):Option aF :=
 ((bO n a1.Kinds x24).bind fun z34=>((aR n z34 1 7).bind fun z35=>((bO n a1.Ns x24).bind fun z36=>((aR n z36 0 4).bind fun z37=>((bO n a1.Texts x24).bind fun z48=>(if (((bY.mk z35 z37 [] [] []).Kind) == 1)=true then ((aR n z48 0 (IntKind.wrap .i64 (((([[100,105,118],[112],[108,105],[98]]:List Str)).length:Int) - 1))).bind fun z64=>((idx ([[100,105,118],[112],[108,105],[98]]:List Str) z64).bind fun z65=>(if ((dn .i64 z48 3) == 3)=true then ((yw .i64 z48 4).bind fun z69=>((aR n z69 0 (IntKind.wrap .i64 (((z8).length:Int) - 1))).bind fun z70=>((idx z8 z70).bind fun z71=>(bS x20 x22 x24 again25 x32 z35 z37 (z65) ((bY.mk z35 z37 [] [] []).Text) ([(Attr.mk [120] z71)]))))) else (bS x20 x22 x24 again25 x32 z35 z37 (z65) ((bY.mk z35 z37 [] [] []).Text) ((bY.mk z35 z37 [] [] []).bB))))) else (if (((bY.mk z35 z37 [] [] []).Kind) == 2)=true then ((aR n z48 0 (IntKind.wrap .i64 (((z8).length:Int) - 1))).bind fun z78=>((idx z8 z78).bind fun z79=>(bS x20 x22 x24 again25 x32 z35 z37 ((bY.mk z35 z37 [] [] []).Tag) (z79) ((bY.mk z35 z37 [] [] []).bB)))) else (if (((bY.mk z35 z37 [] [] []).Kind) == 4)=true then ((aR n z48 0 (IntKind.wrap .i64 (((([[105,100],[112,97],[112,98],[108,97,115,116]]:List Str)).length:Int) - 1))).bind fun z83=>((idx ([[105,100],[112,97],[112,98],[108,97,115,116]]:List Str) z83).bind fun z84=>(bS x20 x22 x24 again25 x32 z35 z37 ((bY.mk z35 z37 [] [] []).Tag) (z84) ((bY.mk z35 z37 [] [] []).bB)))) else (bS x20 x22 x24 again25 x32 z35 z37 ((bY.mk z35 z37 [] [] []).Tag) ((bY.mk z35 z37 [] [] []).Text) ((bY.mk z35 z37 [] [] []).bB))))))))))
def aV (n:Nat) (a1:bR) (z8:(List Str)):Nat→(List bY)→(List Int)→Int→Option aF
 | 0,_,_,_=>none
 | k25 + 1,x20,x22,x24 =>
  (if ((decide (x24 < ((a1.Under).length:Int))) && (decide (x24 < 11)))=true then ((idx a1.Under x24).bind fun z28=>((aR n z28 0 (IntKind.wrap .i64 (((x20).length:Int) - 1))).bind fun z29=>((idx x20 z29).bind fun z87=>((if (((z87.Kind != 1) && (z87.Kind != 5)) && (z87.Kind != 6))=true then some true else ((jh n x22 z29).bind fun z90=>(some (decide (5 < z90))))).bind fun z91=>(if z91=true then (cK n a1 z8 x20 x22 x24 (aV n a1 z8 k25) (0)) else (cK n a1 z8 x20 x22 x24 (aV n a1 z8 k25) (z29))))))) else ((bZ n x20 x22 0).bind fun z94=>(some z94)))
def gL (n:Nat) (a1:bR):Option aF :=
 ((jR n).bind fun z8=>(aV n a1 z8 n ([(bY.mk 1 0 [109,97,105,110] [] [])]) ([(-1)]) (0)))
def dB (n:Nat) (a1:dW) (z9:aF) (x29:(List Int)):Nat→(List On)→Int→Option aG
 | 0,_,_=>none
 | k59 + 1,x56,x58 =>
  (if ((decide (x58 < ((a1.Adds).length:Int))) && (decide (x58 < 5)))=true then ((Eb .i64 x58 3).bind fun z62=>((idx ([[117,112],[100,111,119,110],[97]]:List Str) z62).bind fun z63=>((idx a1.Adds x58).bind fun z64=>((aR n z64 0 4).bind fun z65=>((yw .i64 z64 5).bind fun z66=>((aR n z66 (-3) 3).bind fun z67=>((app 32 x56 [(On.mk z63 z65 z67)]).bind fun z68=>((dB n a1 z9 x29 k59) (z68) ((IntKind.wrap .i64 (x58 + 1))))))))))) else (some (aG.mk z9 x29 x56)))
def cO (n:Nat) (a1:dW) (z9:aF):Nat→(List Int)→Int→Option aG
 | 0,_,_=>none
 | k32 + 1,x29,x31 =>
  (if (decide (x31 < 5))=true then ((bO n a1.Init x31).bind fun z34=>((aR n z34 (-2) 4).bind fun z35=>((app 8 x29 [z35]).bind fun z36=>((cO n a1 z9 k32) (z36) ((IntKind.wrap .i64 (x31 + 1))))))) else (dB n a1 z9 x29 n ([]) (0)))
def fM (n:Nat) (a1:dW):Option aG :=
 ((gL n a1.Page).bind fun z8=>((gu n z8 a1.Outlet).bind fun z9=>(cO n a1 z9 n ([]) (0))))
def dU (n:Nat) (x24:(List aG)) (x26:Int) (again27:(List aG)→Int→Option dO) (x36:(List Int)) (x37:(List Int)) (x38:(List Int)) (x39:(List Int)) (x40:(List Int)) (x41:(List Int)) (x42:Bool):Option dO :=
 ((fM n (dW.mk (bR.mk x36 x37 x38 x39) x40 x41 false)).bind fun z46=>((app 144 x24 [z46]).bind fun z47=>((fM n (dW.mk (bR.mk x36 x37 x38 x39) x40 x41 true)).bind fun z60=>((app 144 z47 [z60]).bind fun z61=>(again27 (z61) ((IntKind.wrap .i64 (x26 + 1))))))))
def eQ (x102:Int) (again103:Int→Int→Option dO) (x107:Int):Option dO :=
 (again103 (x107) ((IntKind.wrap .i64 (x102 + 1))))
def bG (x87:(List au)) (x88:Int) (again89:(List au)→Int→Option dO):Nat→Int→Int→Option dO
 | 0,_,_=>none
 | k103 + 1,x101,x102 =>
  (if (decide (x102 < ((x87).length:Int)))=true then ((idx x87 x102).bind fun z109=>(if (z109.Parent == x88)=true then (eQ x102 (bG x87 x88 again89 k103) ((KZ .i64 x101 1))) else (eQ x102 (bG x87 x88 again89 k103) (x101)))) else ((idx x87 x88).bind fun z116=>(again89 ((jJ x87 x88 (au.mk z116.Name z116.Parent z116.eT x101 z116.iK z116.aJ))) ((IntKind.wrap .i64 (x88 + 1))))))
def aY (n:Nat) (x11:(List au)) (x13:Int) (x24:(List aG)):Nat→(List au)→Int→Option dO
 | 0,_,_=>none
 | k89 + 1,x87,x88 =>
  (if (decide (x88 < ((x11).length:Int)))=true then ((idx x87 x88).bind fun z91=>((aR n z91.aG 0 3).bind fun z92=>(bG x87 x88 (aY n x11 x13 x24 k89) n ((IntKind.wrap .i64 (2 * z92))) (0)))) else (some (dO.mk x87 x24 x13)))
def bE (n:Nat) (a1:jS) (x11:(List au)) (x13:Int):Nat→(List aG)→Int→Option dO
 | 0,_,_=>none
 | k27 + 1,x24,x26 =>
  (if (decide (x26 < 4))=true then (if (decide (x26 < ((a1.Parts).length:Int)))=true then ((idx a1.Parts x26).bind fun z73=>(dU n x24 x26 (bE n a1 x11 x13 k27) (z73.Page.Under) (z73.Page.Kinds) (z73.Page.Ns) (z73.Page.Texts) (z73.Init) (z73.Adds) (z73.Outlet))) else (dU n x24 x26 (bE n a1 x11 x13 k27) ((bR.mk [0,0,1] [3,1,3] [0,1,2] [x26]).Under) ((bR.mk [0,0,1] [3,1,3] [0,1,2] [x26]).Kinds) ((bR.mk [0,0,1] [3,1,3] [0,1,2] [x26]).Ns) ((bR.mk [0,0,1] [3,1,3] [0,1,2] [x26]).Texts) ([1,0,2]) ([5,11,2]) (false))) else (aY n x11 x13 x24 n (x11) (0)))
def fZ (n:Nat) (a1:jS) (x11:(List au)) (x13:Int):Option dO :=
 (bE n a1 x11 x13 n ([]) (0))
def ik (n:Nat) (a1:jS):Option dO :=
 ((fJ n a1.Table).bind fun z122=>((aR n a1.Cache 0 4).bind fun z128=>(fZ n a1 (z122) (z128))))
def aS (a1:(List au)) (p2:au→Option Bool):Nat→Int→Option Int
 | 0,_=>none
 | k13 + 1,x12 =>
  (if (decide (x12 < ((a1).length:Int)))=true then ((idx a1 x12).bind fun z15=>((p2 z15).bind fun z16=>(if z16=true then (some x12) else ((aS a1 p2 k13) ((IntKind.wrap .i64 (x12 + 1))))))) else (some (-1)))
def bP (n:Nat) (a1:(List au)) (p2:au→Option Bool):Option Int :=
 (aS a1 p2 n (0))
def dC (n:Nat) (a1:(List au)) (p2:au→Option Bool):Option Bool :=
 ((bP n a1 p2).bind fun z6=>(some (decide (0 ≤ z6))))
def kX (n:Nat) (a1:au) (a2:Int):Option Bool :=
 (some (a1.Parent == a2))
def jk (n:Nat) (a1:dO) (a2:Int):Option Bool :=
 ((dC n a1.Records (fun y9=>kX n y9 a2)).bind fun z10=>(some z10))
def fQ (n:Nat) (a1:Str):Option Bool :=
 ((if ((!(a1 == [])) && (decide (((a1).length:Int) ≤ 16)))=true then ((kC n a1 [97,98,99,100,101,102,103,104,105,106,107,108,109,110,111,112,113,114,115,116,117,118,119,120,121,122,48,49,50,51,52,53,54,55,56,57]).bind fun z3=>(some (z3 == []))) else some false).bind fun z4=>(some z4))
def iL (n:Nat) (a1:Seg) (a2:Seg):Option Bool :=
 (some ((a1.Kind != 0) && (a1.Text == a2.Text)))
def aX (a1:(List Seg)) (p2:Seg→Option Bool):Nat→Int→Option Int
 | 0,_=>none
 | k13 + 1,x12 =>
  (if (decide (x12 < ((a1).length:Int)))=true then ((idx a1 x12).bind fun z15=>((p2 z15).bind fun z16=>(if z16=true then (some x12) else ((aX a1 p2 k13) ((IntKind.wrap .i64 (x12 + 1))))))) else (some (-1)))
def eF (n:Nat) (a1:(List Seg)) (p2:Seg→Option Bool):Option Int :=
 (aX a1 p2 n (0))
def bV (n:Nat) (a1:(List Seg)) (p2:Seg→Option Bool):Option Bool :=
 ((eF n a1 p2).bind fun z6=>(some (decide (0 ≤ z6))))
def dN (n:Nat) (a1:(List Seg)):Nat→Int→Option Bool
 | 0,_=>none
 | k11 + 1,x10 =>
  (if (decide (x10 < ((a1).length:Int)))=true then ((idx a1 x10).bind fun z13=>((fQ n z13.Text).bind fun z19=>(if (((!z19) || (decide (z13.Kind < 0))) || (decide (3 < z13.Kind)))=true then (some false) else (if ((decide (2 ≤ z13.Kind)) && (!(x10 == (IntKind.wrap .i64 (((a1).length:Int) - 1)))))=true then (some false) else ((if (z13.Kind != 0)=true then ((cut a1 0 x10).bind fun z25=>((bV n z25 (fun y26=>iL n y26 z13)).bind fun z27=>(some z27))) else some false).bind fun z26=>(if z26=true then (some false) else ((dN n a1 k11) ((IntKind.wrap .i64 (x10 + 1)))))))))) else (some true))
def gQ (n:Nat) (a1:(List Seg)):Option Bool :=
 (if (decide (8 < ((a1).length:Int)))=true then (some false) else (dN n a1 n (0)))
def bH  : Nat→(List Int)→Int→Int→Option (List Int)
 | 0,_,_,_=>none
 | k15 + 1,x12,x13,x14 =>
  (if (decide (x13 < x14))=true then ((idx x12 x14).bind fun z17=>((idx x12 x13).bind fun z18=>((idx (jJ x12 x13 z17) x14).bind fun z21=>((bH k15) ((jJ (jJ x12 x13 z17) x14 z18)) ((IntKind.wrap .i64 (x13 + 1))) ((IntKind.wrap .i64 (x14 - 1))))))) else (some x12))
def fO (n:Nat) (a1:(List Int)):Option (List Int) :=
 (bH n (a1) (0) ((IntKind.wrap .i64 (((a1).length:Int) - 1))))
def iG (n:Nat) (x5:(List Int)):Option (List Int) :=
 ((fO n x5).bind fun z8=>(some z8))
def fC (n:Nat) (a1:(List au)):Nat→Int→(List Int)→Option (List Int)
 | 0,_,_=>none
 | k23 + 1,x20,x21 =>
  (if ((decide (0 ≤ x20)) && (decide (x20 < ((a1).length:Int))))=true then ((app 8 x21 [x20]).bind fun z29=>((idx a1 x20).bind fun z33=>(if (decide (x20 ≤ z33.Parent))=true then (iG n (z29)) else ((fC n a1 k23) (z33.Parent) (z29))))) else (iG n (x21)))
def mZ (n:Nat) (a1:(List au)) (a2:Int):Option (List Int) :=
 (fC n a1 n (a2) ([]))
def gF (a1:(List au)) (z3:(List Int)):Nat→(List Seg)→Int→Option (List Seg)
 | 0,_,_=>none
 | k16 + 1,x13,x15 =>
  (if (decide (x15 < ((z3).length:Int)))=true then ((idx z3 x15).bind fun z18=>((idx a1 z18).bind fun z19=>((app 24 x13 z19.eT).bind fun z20=>((gF a1 z3 k16) (z20) ((IntKind.wrap .i64 (x15 + 1))))))) else (some x13))
def mE (n:Nat) (a1:(List au)) (a2:Int):Option (List Seg) :=
 ((mZ n a1 a2).bind fun z3=>(gF a1 z3 n ([]) (0)))
def fB (n:Nat) (a1:(List au)):Nat→(List (Str × Int))→Int→Option Bool
 | 0,_,_=>none
 | k17 + 1,x15,x16 =>
  (if (decide (x16 < ((a1).length:Int)))=true then ((idx a1 x16).bind fun z19=>((gQ n [(Seg.mk 0 z19.Name)]).bind fun z25=>((if ((((!z25) || (decide (0 < (lI x15 z19.Name 0)))) || (decide (z19.Parent < (-1)))) || (decide (x16 ≤ z19.Parent)))=true then some true else ((mE n a1 x16).bind fun z29=>((gQ n z29).bind fun z30=>(some (!z30))))).bind fun z30=>(if z30=true then (some false) else ((fB n a1 k17) ((vC x15 z19.Name (IntKind.wrap .i64 ((lI x15 z19.Name 0) + 1)))) ((IntKind.wrap .i64 (x16 + 1)))))))) else (some true))
def j4 (n:Nat) (a1:(List au)):Option Bool :=
 (if ((decide (((a1).length:Int) < 1)) || (decide (16 < ((a1).length:Int))))=true then (some false) else (fB n a1 n ([]) (0)))
def bJ (a1:(List Int)) (p2:Int→Option Bool):Nat→Int→Option Int
 | 0,_=>none
 | k13 + 1,x12 =>
  (if (decide (x12 < ((a1).length:Int)))=true then ((idx a1 x12).bind fun z15=>((p2 z15).bind fun z16=>(if z16=true then (some x12) else ((bJ a1 p2 k13) ((IntKind.wrap .i64 (x12 + 1))))))) else (some (-1)))
def gz (n:Nat) (a1:(List Int)) (p2:Int→Option Bool):Option Int :=
 (bJ a1 p2 n (0))
def eB (n:Nat) (a1:(List Int)) (p2:Int→Option Bool):Option Bool :=
 ((gz n a1 p2).bind fun z6=>(some (decide (0 ≤ z6))))
def rz (n:Nat) (a1:Int):Option Bool :=
 (some ((decide ((-1000) ≤ a1)) && (decide (a1 ≤ 1000))))
def mq (n:Nat) (a1:Int):Option Bool :=
 ((rz n a1).bind fun z2=>(some (!z2)))
def rD (n:Nat) (a1:(List Int)):Option Bool :=
 ((eB n a1 (fun y2=>mq n y2)).bind fun z3=>(some (!z3)))
def gI (self:aF→Option (Int × Int)) (a1:aF):Nat→Int→Int→Int→Option (Int × Int)
 | 0,_,_,_=>none
 | k17 + 1,x14,x15,x16 =>
  (if (decide (x16 < ((a1.Kids).length:Int)))=true then ((idx a1.Kids x16).bind fun z19=>((self z19).bind fun z25=>((gI self a1 k17) ((IntKind.wrap .i64 (x14 + z25.1))) ((Gf x15 z25.2)) ((IntKind.wrap .i64 (x16 + 1)))))) else (some (x14,(IntKind.wrap .i64 (x15 + 1)))))
def iT:Nat→aF→Option (Int × Int)
 | 0,_=>none
 | n + 1,a1 =>
  (gI (iT n) a1 n (1) (0) (0))
def gB (self:aF→Int→Bool→Option Bool) (a1:aF) (a2:Int) (a3:Bool):Nat→Int→Option Bool
 | 0,_=>none
 | k33 + 1,x32 =>
  (if (decide (x32 < ((a1.Kids).length:Int)))=true then ((idx a1.Kids x32).bind fun z35=>((self z35 a2 ((a3 || (a1.Kind == 5)) || (a1.Kind == 6))).bind fun z41=>(if (!z41)=true then (some false) else ((gB self a1 a2 a3 k33) ((IntKind.wrap .i64 (x32 + 1))))))) else (some true))
def jd (n:Nat) (self:aF→Int→Bool→Option Bool) (a1:aF) (a2:Int) (a3:Bool) (x16:Bool):Option Bool :=
 (if x16=true then (some false) else (if ((((a1.Kind == 3) || (a1.Kind == 5)) || (a1.Kind == 6)) && (!((decide (0 ≤ a1.N)) && (decide (a1.N < a2)))))=true then (some false) else (gB self a1 a2 a3 n (0))))
def fq:Nat→aF→Int→Bool→Option Bool
 | 0,_,_,_=>none
 | n + 1,a1,a2,a3 =>
  (if (((decide (a1.Kind < 1)) || (decide (7 < a1.Kind))) || ((!(((a1.Kind == 1) || (a1.Kind == 5)) || (a1.Kind == 6))) && (decide (0 < ((a1.Kids).length:Int)))))=true then (some false) else (if (a1.Tag == [111,117,116,108,101,116])=true then (jd n (fq n) a1 a2 a3 ((a1.Tag == [111,117,116,108,101,116]))) else (jd n (fq n) a1 a2 a3 (((a1.Kind == 7) && a3)))))
def j5 (n:Nat) (a1:aF) (a2:Int):Option Bool :=
 ((iT n a1).bind fun z6=>((if (((a1.Kind == 1) && (decide (z6.1 ≤ 60))) && (decide (z6.2 ≤ 12)))=true then ((fq n a1 a2 false).bind fun z9=>(some z9)) else some false).bind fun z10=>(some z10)))
def gH (n:Nat) (a1:aG):Nat→Int→Option Bool
 | 0,_=>none
 | k21 + 1,x20 =>
  (if (decide (x20 < ((a1.On).length:Int)))=true then ((idx a1.On x20).bind fun z23=>((if ((!(z23.Event == [])) && (decide (((z23.Event).length:Int) ≤ 16)))=true then ((kC n z23.Event [97,98,99,100,101,102,103,104,105,106,107,108,109,110,111,112,113,114,115,116,117,118,119,120,121,122,48,49,50,51,52,53,54,55,56,57]).bind fun z30=>(some (z30 == []))) else some false).bind fun z31=>((if (((!z31) || (decide (z23.N < 0))) || (decide (((a1.Init).length:Int) ≤ z23.N)))=true then some true else ((rz n z23.Add).bind fun z35=>(some (!z35)))).bind fun z36=>(if z36=true then (some false) else ((gH n a1 k21) ((IntKind.wrap .i64 (x20 + 1)))))))) else (some true))
def ib (n:Nat) (a1:aG):Option Bool :=
 ((if (decide (6 < ((a1.Init).length:Int)))=true then some true else ((rD n a1.Init).bind fun z5=>(some (!z5)))).bind fun z6=>((if (z6 || (decide (24 < ((a1.On).length:Int))))=true then some true else ((j5 n a1.aF ((a1.Init).length:Int)).bind fun z9=>(some (!z9)))).bind fun z10=>(if z10=true then (some false) else (gH n a1 n (0)))))
def oF (n:Nat) (a1:aJ):Option Bool :=
 (some (((((decide (0 ≤ a1.Kind)) && (decide (a1.Kind ≤ 4))) && (decide (0 ≤ a1.Flag))) && (decide (a1.Flag < 8))) && (((a1.Kind == 3) || (a1.Kind == 4)) || (a1.To == []))))
def kV (n:Nat) (a1:au) (a2:Str):Option Bool :=
 (some (a1.Name == a2))
def o9 (n:Nat) (a1:(List au)) (a2:Str):Option Int :=
 ((bP n a1 (fun y6=>kV n y6 a2)).bind fun z7=>(some z7))
def lF (n:Nat) (a1:dO) (a2:aJ):Option Bool :=
 ((if ((a2.Kind != 3) && (a2.Kind != 4))=true then some true else ((o9 n a1.Records a2.To).bind fun z10=>(some (decide (0 ≤ z10))))).bind fun z11=>(some z11))
def gD (self:aF→Option Int) (a1:aF):Nat→Int→Int→Option Int
 | 0,_,_=>none
 | k19 + 1,x17,x18 =>
  (if (decide (x18 < ((a1.Kids).length:Int)))=true then ((idx a1.Kids x18).bind fun z21=>((self z21).bind fun z27=>((gD self a1 k19) ((IntKind.wrap .i64 (x17 + z27))) ((IntKind.wrap .i64 (x18 + 1)))))) else (some x17))
def jD (n:Nat) (self:aF→Option Int) (a1:aF) (x7:Int):Option Int :=
 (gD self a1 n (x7) (0))
def dH:Nat→aF→Option Int
 | 0,_=>none
 | n + 1,a1 =>
  (if (a1.Kind == 7)=true then (jD n (dH n) a1 (1)) else (jD n (dH n) a1 (0)))
def dz (n:Nat) (a1:dO):Nat→Int→Option Bool
 | 0,_=>none
 | k37 + 1,x36 =>
  (if (decide (x36 < ((a1.Records).length:Int)))=true then ((idx a1.Records x36).bind fun z39=>((if ((decide (z39.aG < 0)) || (decide (((a1.Comps).length:Int) ≤ z39.aG)))=true then some true else ((oF n z39.aJ).bind fun z46=>(some (!z46)))).bind fun z47=>((if z47=true then some true else ((lF n a1 z39.aJ).bind fun z49=>(some (!z49)))).bind fun z50=>(if z50=true then (some false) else ((jk n a1 x36).bind fun z53=>((if z53=true then ((idx a1.Comps z39.aG).bind fun z54=>((dH n z54.aF).bind fun z55=>(some (z55 != 1)))) else some false).bind fun z55=>(if z55=true then (some false) else ((dz n a1 k37) ((IntKind.wrap .i64 (x36 + 1))))))))))) else (some true))
def fA (n:Nat) (a1:dO):Nat→Int→Option Bool
 | 0,_=>none
 | k19 + 1,x18 =>
  (if (decide (x18 < ((a1.Comps).length:Int)))=true then ((idx a1.Comps x18).bind fun z21=>((ib n z21).bind fun z27=>(if (!z27)=true then (some false) else ((fA n a1 k19) ((IntKind.wrap .i64 (x18 + 1))))))) else (dz n a1 n (0)))
def iQ (n:Nat) (a1:dO):Option Bool :=
 ((j4 n a1.Records).bind fun z5=>(if (((((!z5) || (decide (((a1.Comps).length:Int) < 1))) || (decide (16 < ((a1.Comps).length:Int)))) || (decide (a1.Cache < 0))) || (decide (8 < a1.Cache)))=true then (some false) else (fA n a1 n (0))))
def dP (n:Nat) (a1:(List au)):Option (List au):=app 96 [] a1
def fH (n:Nat) (a1:(List Seg)):Option (List Seg):=app 24 [] a1
def eY (n:Nat) (a1:(List aG)):Option (List aG):=app 144 [] a1
def eX (n:Nat) (a1:(List Attr)):Option (List Attr):=app 32 [] a1
def fF (n:Nat) (a1:(List aF)):Option (List aF):=app 96 [] a1
def eG (self:aF→Option aF) (a1:aF) (z8:(List Attr)) (z11:(List aF)):Nat→(List aF)→Int→Option aF
 | 0,_,_=>none
 | k29 + 1,x27,x28 =>
  (if (decide (x28 < ((z11).length:Int)))=true then ((idx x27 x28).bind fun z31=>((self z31).bind fun z37=>((idx x27 x28).bind fun z38=>((eG self a1 z8 z11 k29) ((jJ x27 x28 z37)) ((IntKind.wrap .i64 (x28 + 1))))))) else (some (aF.mk a1.Kind a1.N a1.Tag a1.Text z8 x27)))
def fu:Nat→aF→Option aF
 | 0,_=>none
 | n + 1,a1 =>
  ((eX n a1.bB).bind fun z8=>((fF n a1.Kids).bind fun z11=>(eG (fu n) a1 z8 z11 n (z11) (0))))
def iw (n:Nat) (a1:(List Int)):Option (List Int):=app 8 [] a1
def fT (n:Nat) (a1:(List On)):Option (List On):=app 32 [] a1
def gG (n:Nat) (a1:dO) (x24:(List au)) (z41:(List aG)):Nat→(List aG)→Int→Option dO
 | 0,_,_=>none
 | k59 + 1,x57,x58 =>
  (if (decide (x58 < ((z41).length:Int)))=true then ((idx x57 x58).bind fun z61=>((fu n z61.aF).bind fun z67=>((iw n z61.Init).bind fun z68=>((fT n z61.On).bind fun z69=>((idx x57 x58).bind fun z70=>((gG n a1 x24 z41 k59) ((jJ x57 x58 (aG.mk z67 z68 z69))) ((IntKind.wrap .i64 (x58 + 1))))))))) else (some (dO.mk x24 x57 a1.Cache)))
def gy (n:Nat) (a1:dO) (z8:(List au)):Nat→(List au)→Int→Option dO
 | 0,_,_=>none
 | k26 + 1,x24,x25 =>
  (if (decide (x25 < ((z8).length:Int)))=true then ((idx x24 x25).bind fun z28=>((fH n z28.eT).bind fun z34=>((idx x24 x25).bind fun z35=>((gy n a1 z8 k26) ((jJ x24 x25 (au.mk z35.Name z35.Parent z34 z35.aG z35.iK z35.aJ))) ((IntKind.wrap .i64 (x25 + 1))))))) else ((eY n a1.Comps).bind fun z41=>(gG n a1 x24 z41 n (z41) (0))))
def oq (n:Nat) (a1:dO):Option dO :=
 ((dP n a1.Records).bind fun z8=>(gy n a1 z8 n (z8) (0)))
def mr (n:Nat)  : Option (List au) :=
 (some [(au.mk [115,104,111,112] (-1) [(Seg.mk 0 [115,104,111,112])] 0 false (aJ.mk 0 0 [])),(au.mk [105,116,101,109] 0 [(Seg.mk 1 [105,100])] 0 false (aJ.mk 0 0 []))])
def jP (n:Nat)  : Option dO :=
 ((mr n ).bind fun z14=>((idx z14 1).bind fun z20=>((idx (jJ z14 1 (au.mk z20.Name z20.Parent z20.eT 1 z20.iK z20.aJ)) 1).bind fun z23=>(some (dO.mk (jJ (jJ z14 1 (au.mk z20.Name z20.Parent z20.eT 1 z20.iK z20.aJ)) 1 (au.mk z23.Name z23.Parent z23.eT z23.aG true z23.aJ)) [(aG.mk (aF.mk 1 0 [109,97,105,110] [] [] [(aF.mk 3 0 [] [] [] []),(aF.mk 7 0 [] [] [] [])]) [1] [(On.mk [117,112] 0 1)]),(aG.mk (aF.mk 1 0 [112] [] [] [(aF.mk 4 0 [] [105,100] [] [])]) [] [])] 2)))))
def iy (n:Nat)  : Option Bool :=
 ((jP n ).bind fun z1=>((jP n ).bind fun z9=>((idx z9.Comps 0).bind fun z27=>((iQ n z1).bind fun z30=>((if z30=true then ((iQ n (dO.mk z9.Records (jJ z9.Comps 0 (aG.mk (aF.mk z27.aF.Kind z27.aF.N z27.aF.Tag z27.aF.Text z27.aF.bB []) z27.Init z27.On)) z9.Cache)).bind fun z31=>(some (!z31))) else some false).bind fun z32=>((if z32=true then ((jk n z1 0).bind fun z34=>(some z34)) else some false).bind fun z35=>((if z35=true then ((jk n z1 1).bind fun z37=>(some (!z37))) else some false).bind fun z38=>(some z38))))))))
def dY (x52:Bool):Option Bool :=
 (some x52)
def dw (n:Nat) (z7:dO) (z13:Int) (z14:dO) (x36:(List aF)):Option Bool :=
 ((idx z14.Records z13).bind fun z38=>((app 144 z14.Comps [(aG.mk (aF.mk ((aG.mk (aF.mk 1 0 [112] [] [] []) [] []).aF.Kind) ((aG.mk (aF.mk 1 0 [112] [] [] []) [] []).aF.N) ((aG.mk (aF.mk 1 0 [112] [] [] []) [] []).aF.Tag) ((aG.mk (aF.mk 1 0 [112] [] [] []) [] []).aF.Text) ((aG.mk (aF.mk 1 0 [112] [] [] []) [] []).aF.bB) x36) ((aG.mk (aF.mk 1 0 [112] [] [] []) [] []).Init) ((aG.mk (aF.mk 1 0 [112] [] [] []) [] []).On))]).bind fun z44=>((iQ n (dO.mk (jJ z14.Records z13 (au.mk z38.Name z38.Parent z38.eT ((z14.Comps).length:Int) z38.iK z38.aJ)) z44 z14.Cache)).bind fun z54=>((jk n z7 z13).bind fun z55=>(if (z54 == (!z55))=true then ((iy n).bind fun z57=>(dY (z57))) else (dY (false)))))))
def gK (n:Nat) (a1:jS) (a2:Int) (a3:Bool):Option Bool :=
 ((ik n a1).bind fun z7=>((aR n a2 0 (IntKind.wrap .i64 (((z7.Records).length:Int) - 1))).bind fun z13=>((oq n z7).bind fun z14=>(if ((((z14.Records).length:Int) != ((z7.Records).length:Int)) || (((z14.Comps).length:Int) != ((z7.Comps).length:Int)))=true then (some false) else (if a3=true then (dw n z7 z13 z14 ([(aF.mk 7 0 [] [] [] []),(aF.mk 7 0 [] [] [] [])])) else (dw n z7 z13 z14 ((aG.mk (aF.mk 1 0 [112] [] [] []) [] []).aF.Kids)))))))
end Pr
end Go.Ev

namespace Go.Ev
theorem aa.r {t:Nat} {x:AV} {e2 e:Env} (h:AL.get e t=some x) (k:aa e2 e):aa ((t,x) :: e2) e:=.cons h (.refl _) k
theorem pJ.o {x:AV} {a b:List (Option AV)} (k:pJ a b):pJ (some x :: a) (some x :: b):=.old (.refl _) k
theorem pJ.w (x:AV) {a b:List (Option AV)} (k:pJ a b):pJ (some x :: a) (none :: b):=.new k
theorem pJ.n {a b:List (Option AV)} (k:pJ a b):pJ (none :: a) (none :: b):=.new k
theorem pJ.q {x y z u:AV} {a b:List (Option AV)} (k:pJ a b):pJ (some x :: some y :: some z :: some u :: a) (some x :: some y :: some z :: some u :: b):=.o (.o (.o (.o k)))
theorem RL.v {R:cZ} {C:gZ} {nt:Nat} {ops:Array Oper} {srcs:List Src} {e0:Env} {ws:List (Option AV)} {S:St} {i:Nat} {o:Oper} {x:AV} {e:Env} {os:List Nat} (ho:ops[i]? = some o) (hx:ws[i]? = some (some x)) (he:ow ws e0 (srcs.getD i [])=some e) (hw:dD ops e o=some true) (h:oper C (dX e) S o.op=some (.val x S)) (k:RL R C nt ops srcs e0 ws S os):RL R C nt ops srcs e0 ws S (i :: os):=.cons ho hx he (.val hw h (.refl _)) k
theorem Has.sl {B S:St} {l:List dh} (h:Has B S l) (is:List Nat) (hn:decide is.Nodup=true) {l':List dh} (hl:is.map (fun i=>l[i]?)=l'.map some):Has B S l':=h.Nj is (of_decide_eq_true hn) hl
namespace Pr
set_option linter.unusedVariables false
set_option linter.unusedSimpArgs false
open Go.Proofs
noncomputable def cfg:gZ:={ P:=Tryd.prog,good:=fun _=>true,rowT:=fun _=>false,prim:=fun _ _ _=>none,objT:=fun _=>none,hasPrim:=fun _=>false }
noncomputable def iM:gZ:={ cfg with rowT:=fun t=>Nat.beq t 28 }
noncomputable def Ai:gZ:={ cfg with rowT:=fun t=>Nat.beq t 22 }
noncomputable def zo:gZ:={ cfg with rowT:=fun t=>Nat.beq t 29 }
noncomputable def wE:gZ:={ cfg with rowT:=fun t=>Nat.beq t 44 }
noncomputable def mo:gZ:={ cfg with rowT:=fun t=>Nat.beq t 28 || Nat.beq t 29 }
theorem Ny:(Tryd.f9.name == "runtime.NumGoroutine")=false:=by kernel_rfl
theorem ES:(bM cfg.P 34).isSome=true:=by kernel_rfl
theorem wW:bM cfg.P 34=some 70:=by kernel_rfl
theorem Fz:(dR cfg.P 70).isSome=true:=by kernel_rfl
theorem qc:aK cfg.P 70=2:=by kernel_rfl
theorem ui:bI cfg.P 70 0=some (0,3):=by kernel_rfl
theorem mg:Nat.beq (aK cfg.P 3) 0=false:=by kernel_rfl
theorem ji:dR cfg.P 3=some false:=by kernel_rfl
theorem Ld:(Tryd.f32.name == "runtime.NumGoroutine")=false:=by kernel_rfl
theorem xS:(bM cfg.P 22).isSome=true:=by kernel_rfl
theorem ku:bM cfg.P 22=some 3:=by kernel_rfl
theorem zi:(dR cfg.P 3).isSome=true:=by kernel_rfl
theorem pI:aK cfg.P 3=1:=by kernel_rfl
theorem LM:(Tryd.f33.name == "runtime.NumGoroutine")=false:=by kernel_rfl
theorem Jo:iM.rowT 81=false:=by kernel_rfl
theorem yB:bM cfg.P 81=some 9:=by kernel_rfl
theorem vW:dR cfg.P 9=some false:=by kernel_rfl
theorem Ko:zeroOf cfg.P 9=some (.str []):=by kernel_rfl
theorem D9:aK cfg.P 9=1:=by kernel_rfl
theorem vN:zeroOf cfg.P 38=some (.agg [.str [],.int .i64 0,.aQ,.int .i64 0,.bool false,.int .i64 0,.int .i64 0,.str []]):=by kernel_rfl
theorem xq:iM.rowT 28=true:=by kernel_rfl
theorem pO:bM cfg.P 28=some 38:=by kernel_rfl
theorem oL:(dR cfg.P 38).isSome=true:=by kernel_rfl
theorem kM:aK cfg.P 38=8:=by kernel_rfl
theorem qC:iM.rowT 22=false:=by kernel_rfl
theorem DU:zeroOf cfg.P 3=some (.int .i64 0):=by kernel_rfl
theorem Gd:bI cfg.P 24 0=some (0,22):=by kernel_rfl
theorem lK:Nat.beq (aK cfg.P 22) 0=false:=by kernel_rfl
theorem lX:dR cfg.P 22=some false:=by kernel_rfl
theorem uL:(bM cfg.P 28).isSome=true:=by kernel_rfl
theorem A8:bI cfg.P 38 2=some (2,34):=by kernel_rfl
theorem Ii:Nat.beq (aK cfg.P 34) 0=false:=by kernel_rfl
theorem Jl:dR cfg.P 34=some false:=by kernel_rfl
theorem Nk:(cfg.P.underlying 3).isSome=true:=by kernel_rfl
theorem Na:EN cfg.P 5=some .u8:=by kernel_rfl
theorem JE:iM.rowT 83=false:=by kernel_rfl
theorem LX:bM cfg.P 83=some 5:=by kernel_rfl
theorem Nr:dR cfg.P 5=some false:=by kernel_rfl
theorem Nv:zeroOf cfg.P 5=some (.int .u8 0):=by kernel_rfl
theorem Np:aK cfg.P 5=1:=by kernel_rfl
theorem JG:rJ iM 83=true:=by kernel_rfl
theorem Lb:uN cfg.P 9=true:=by kernel_rfl
theorem Jr:bI cfg.P 24 1=some (1,22):=by kernel_rfl
theorem wU:zeroOf cfg.P 70=some (.agg [.int .i64 0,.str []]):=by kernel_rfl
theorem Ja:iM.objT 70=none:=by kernel_rfl
theorem Jn:bI cfg.P 24 2=some (2,22):=by kernel_rfl
theorem GL:(bM cfg.P 81).isSome=true:=by kernel_rfl
theorem HY:(dR cfg.P 9).isSome=true:=by kernel_rfl
theorem rO:cfg.P.follows .mixedOrders=true:=by kernel_rfl
theorem zm:dR cfg.P 70=some true:=by kernel_rfl
theorem Be:iM.rowT 34=false:=by kernel_rfl
theorem G5:bI cfg.P 24 5=some (5,22):=by kernel_rfl
theorem Hd:bI cfg.P 24 6=some (6,22):=by kernel_rfl
theorem G7:iM.objT 38=none:=by kernel_rfl
theorem Hf:bI cfg.P 24 3=some (3,22):=by kernel_rfl
theorem Gj:bI cfg.P 24 4=some (4,22):=by kernel_rfl
theorem MF:zeroOf cfg.P 36=some (.agg [.int .i64 0,.int .i64 0,.str []]):=by kernel_rfl
theorem u6:bI cfg.P 38 5=some (5,36):=by kernel_rfl
theorem Ff:Nat.beq (aK cfg.P 36) 0=false:=by kernel_rfl
theorem JP:aK cfg.P 36=3:=by kernel_rfl
theorem Mw:(dR cfg.P 36).isSome=true:=by kernel_rfl
theorem qZ:bI cfg.P 36 0=some (0,3):=by kernel_rfl
theorem yE:bI cfg.P 38 0=some (0,9):=by kernel_rfl
theorem Bz:Nat.beq (aK cfg.P 9) 0=false:=by kernel_rfl
theorem Dz:bI cfg.P 36 2=some (2,9):=by kernel_rfl
theorem Da:dR cfg.P 38=some true:=by kernel_rfl
theorem GK:iW iM 28=true:=by kernel_rfl
theorem J6:bytesOf cfg.P 38=96:=by kernel_rfl
theorem GV:fV iM 38=true:=by kernel_rfl
theorem Jv:iW iM 22=true:=by kernel_rfl
theorem Kj:bytesOf cfg.P 3=8:=by kernel_rfl
theorem J9:fV iM 3=true:=by kernel_rfl
theorem LK:(Tryd.f12.name == "runtime.NumGoroutine")=false:=by kernel_rfl
theorem wM:cfg.objT 46=none:=by kernel_rfl
theorem jV:zeroOf cfg.P 46=some (.agg [.int .i64 0,.int .i64 0,.str [],.str [],.aQ,.aQ]):=by kernel_rfl
theorem jN:bI cfg.P 46 5=some (5,44):=by kernel_rfl
theorem qO:Nat.beq (aK cfg.P 44) 0=false:=by kernel_rfl
theorem xu:dR cfg.P 44=some false:=by kernel_rfl
theorem Bv:(bM cfg.P 44).isSome=true:=by kernel_rfl
theorem nz:bM cfg.P 44=some 46:=by kernel_rfl
theorem nD:(dR cfg.P 46).isSome=true:=by kernel_rfl
theorem eO:aK cfg.P 46=6:=by kernel_rfl
theorem jf:dR cfg.P 46=some true:=by kernel_rfl
theorem j3:bI cfg.P 46 0=some (0,3):=by kernel_rfl
theorem xY:cfg.rowT 44=false:=by kernel_rfl
theorem Gm:iW cfg 44=true:=by kernel_rfl
theorem EP:bytesOf cfg.P 46=96:=by kernel_rfl
theorem G6:fV cfg 46=true:=by kernel_rfl
theorem DC:aK cfg.P 44=1:=by kernel_rfl
theorem Dc:(dR cfg.P 44).isSome=true:=by kernel_rfl
theorem KG:(Tryd.f48.name == "runtime.NumGoroutine")=false:=by kernel_rfl
theorem Ll:(Tryd.f34.name == "runtime.NumGoroutine")=false:=by kernel_rfl
theorem Ij:cfg.rowT 81=false:=by kernel_rfl
theorem MX:(Tryd.f49.name == "runtime.NumGoroutine")=false:=by kernel_rfl
theorem La:(Tryd.f50.name == "runtime.NumGoroutine")=false:=by kernel_rfl
theorem MB:(Tryd.f51.name == "runtime.NumGoroutine")=false:=by kernel_rfl
theorem Dw:cfg.rowT 22=false:=by kernel_rfl
theorem GN:bI cfg.P 56 0=some (0,22):=by kernel_rfl
theorem Gs:bI cfg.P 56 1=some (1,22):=by kernel_rfl
theorem F4:bI cfg.P 56 2=some (2,22):=by kernel_rfl
theorem Jq:bI cfg.P 56 3=some (3,22):=by kernel_rfl
theorem FO:bI cfg.P 46 2=some (2,9):=by kernel_rfl
theorem Ku:zeroOf cfg.P 97=some (.agg [.str [],.str []]):=by kernel_rfl
theorem Ju:cfg.rowT 43=false:=by kernel_rfl
theorem Je:bM cfg.P 43=some 97:=by kernel_rfl
theorem Kh:dR cfg.P 97=some true:=by kernel_rfl
theorem Jg:aK cfg.P 97=2:=by kernel_rfl
theorem De:bI cfg.P 46 4=some (4,43):=by kernel_rfl
theorem JY:Nat.beq (aK cfg.P 43) 0=false:=by kernel_rfl
theorem KE:aK cfg.P 43=1:=by kernel_rfl
theorem KI:(dR cfg.P 43).isSome=true:=by kernel_rfl
theorem Hu:bI cfg.P 46 3=some (3,9):=by kernel_rfl
theorem JC:iW cfg 22=true:=by kernel_rfl
theorem Lg:fV cfg 3=true:=by kernel_rfl
theorem MN:(Tryd.f35.name == "runtime.NumGoroutine")=false:=by kernel_rfl
theorem Jk:cfg.objT 49=none:=by kernel_rfl
theorem rG:zeroOf cfg.P 49=some (.agg [.int .i64 0,.int .i64 0,.str [],.str [],.aQ,.aQ,.aQ,.aQ]):=by kernel_rfl
theorem Hg:bI cfg.P 58 0=some (0,56):=by kernel_rfl
theorem KF:Nat.beq (aK cfg.P 56) 0=false:=by kernel_rfl
theorem KQ:dR cfg.P 56=some true:=by kernel_rfl
theorem KU:aK cfg.P 56=4:=by kernel_rfl
theorem Aw:bI cfg.P 58 3=some (6,4):=by kernel_rfl
theorem KT:Nat.beq (aK cfg.P 4) 0=false:=by kernel_rfl
theorem M7:dR cfg.P 4=some false:=by kernel_rfl
theorem kT:aK cfg.P 49=8:=by kernel_rfl
theorem tY:(dR cfg.P 49).isSome=true:=by kernel_rfl
theorem um:bI cfg.P 49 1=some (6,22):=by kernel_rfl
theorem Jm:bI cfg.P 58 1=some (4,22):=by kernel_rfl
theorem M3:aK cfg.P 22=1:=by kernel_rfl
theorem MW:(dR cfg.P 22).isSome=true:=by kernel_rfl
theorem Dl:bI cfg.P 58 2=some (5,22):=by kernel_rfl
theorem yO:bI cfg.P 49 2=some (7,47):=by kernel_rfl
theorem Hw:Nat.beq (aK cfg.P 47) 0=false:=by kernel_rfl
theorem IE:dR cfg.P 47=some false:=by kernel_rfl
theorem GJ:zeroOf cfg.P 76=some (.agg [.str [],.int .i64 0,.int .i64 0]):=by kernel_rfl
theorem Iy:cfg.rowT 47=false:=by kernel_rfl
theorem EK:bM cfg.P 47=some 76:=by kernel_rfl
theorem Ih:dR cfg.P 76=some true:=by kernel_rfl
theorem A9:aK cfg.P 76=3:=by kernel_rfl
theorem Kg:iW cfg 47=true:=by kernel_rfl
theorem KH:bytesOf cfg.P 76=32:=by kernel_rfl
theorem Kw:fV cfg 76=true:=by kernel_rfl
theorem Mc:aK cfg.P 47=1:=by kernel_rfl
theorem LV:(dR cfg.P 47).isSome=true:=by kernel_rfl
theorem yI:dR cfg.P 49=some true:=by kernel_rfl
theorem LC:(Tryd.f13.name == "runtime.NumGoroutine")=false:=by kernel_rfl
theorem DT:iM.objT 31=none:=by kernel_rfl
theorem vL:zeroOf cfg.P 31=some (.agg [.aQ,.aQ,.int .i64 0]):=by kernel_rfl
theorem Gx:bI cfg.P 27 0=some (0,24):=by kernel_rfl
theorem Km:Nat.beq (aK cfg.P 24) 0=false:=by kernel_rfl
theorem Kz:dR cfg.P 24=some true:=by kernel_rfl
theorem KC:aK cfg.P 24=7:=by kernel_rfl
theorem xG:bI cfg.P 27 2=some (8,3):=by kernel_rfl
theorem nC:aK cfg.P 31=3:=by kernel_rfl
theorem Bn:(dR cfg.P 31).isSome=true:=by kernel_rfl
theorem MO:zeroOf cfg.P 56=some (.agg [.aQ,.aQ,.aQ,.aQ]):=by kernel_rfl
theorem Kr:zeroOf cfg.P 58=some (.agg [.aQ,.aQ,.aQ,.aQ,.aQ,.aQ,.bool false]):=by kernel_rfl
theorem JV:iM.objT 58=none:=by kernel_rfl
theorem EO:aK cfg.P 58=7:=by kernel_rfl
theorem Jy:(dR cfg.P 58).isSome=true:=by kernel_rfl
theorem GA:bI cfg.P 27 1=some (7,25):=by kernel_rfl
theorem J4:Nat.beq (aK cfg.P 25) 0=false:=by kernel_rfl
theorem KM:dR cfg.P 25=some false:=by kernel_rfl
theorem Mh:(bM cfg.P 25).isSome=true:=by kernel_rfl
theorem Lc:bM cfg.P 25=some 58:=by kernel_rfl
theorem I5:dR cfg.P 58=some true:=by kernel_rfl
theorem LA:aK cfg.P 4=1:=by kernel_rfl
theorem Mq:(dR cfg.P 4).isSome=true:=by kernel_rfl
theorem jv:bI cfg.P 31 1=some (1,29):=by kernel_rfl
theorem qz:Nat.beq (aK cfg.P 29) 0=false:=by kernel_rfl
theorem ug:dR cfg.P 29=some false:=by kernel_rfl
theorem AP:iM.rowT 29=false:=by kernel_rfl
theorem uF:bM cfg.P 29=some 49:=by kernel_rfl
theorem F8:iW iM 29=true:=by kernel_rfl
theorem Ig:bytesOf cfg.P 49=144:=by kernel_rfl
theorem Gg:fV iM 49=true:=by kernel_rfl
theorem IB:aK cfg.P 29=1:=by kernel_rfl
theorem IP:(dR cfg.P 29).isSome=true:=by kernel_rfl
theorem kP:bI cfg.P 31 0=some (0,28):=by kernel_rfl
theorem su:Nat.beq (aK cfg.P 28) 0=false:=by kernel_rfl
theorem tX:dR cfg.P 28=some false:=by kernel_rfl
theorem tK:bI cfg.P 38 3=some (3,3):=by kernel_rfl
theorem yQ:bI cfg.P 38 1=some (1,3):=by kernel_rfl
theorem sF:dR cfg.P 31=some true:=by kernel_rfl
theorem Nc:(Tryd.f5.name == "runtime.NumGoroutine")=false:=by kernel_rfl
theorem Ml:(Tryd.f43.name == "runtime.NumGoroutine")=false:=by kernel_rfl
theorem K9:(Tryd.f19.name == "runtime.NumGoroutine")=false:=by kernel_rfl
theorem nm20:(Tryd.f20.name == "runtime.NumGoroutine")=false:=by kernel_rfl
theorem Nl:(Tryd.f7.name == "runtime.NumGoroutine")=false:=by kernel_rfl
theorem LQ:(Tryd.f52.name == "runtime.NumGoroutine")=false:=by kernel_rfl
theorem Dt:bI cfg.P 70 1=some (1,9):=by kernel_rfl
theorem M5:(Tryd.f53.name == "runtime.NumGoroutine")=false:=by kernel_rfl
theorem M0:(Tryd.f68.name == "runtime.NumGoroutine")=false:=by kernel_rfl
theorem LY:(Tryd.f54.name == "runtime.NumGoroutine")=false:=by kernel_rfl
theorem L9:cfg.objT 70=none:=by kernel_rfl
theorem L6:(cfg.P.underlying 70).isSome=true:=by kernel_rfl
theorem L8:(Tryd.f36.name == "runtime.NumGoroutine")=false:=by kernel_rfl
theorem Mx:(Tryd.f69.name == "runtime.NumGoroutine")=false:=by kernel_rfl
theorem GR:Ai.rowT 22=true:=by kernel_rfl
theorem JJ:iW Ai 22=true:=by kernel_rfl
theorem Kt:fV Ai 3=true:=by kernel_rfl
theorem Li:(Tryd.f55.name == "runtime.NumGoroutine")=false:=by kernel_rfl
theorem Il:cfg.rowT 34=false:=by kernel_rfl
theorem KV:iW cfg 34=true:=by kernel_rfl
theorem Kn:bytesOf cfg.P 70=24:=by kernel_rfl
theorem J5:fV cfg 70=true:=by kernel_rfl
theorem LW:(Tryd.f37.name == "runtime.NumGoroutine")=false:=by kernel_rfl
theorem IJ:sD cfg 87=some (9,3):=by kernel_rfl
theorem Ki:cfg.objT 38=none:=by kernel_rfl
theorem LJ:cfg.P.underlying 9=some .string:=by kernel_rfl
theorem MK:(Tryd.f14.name == "runtime.NumGoroutine")=false:=by kernel_rfl
theorem Le:(Tryd.f70.name == "runtime.NumGoroutine")=false:=by kernel_rfl
theorem LD:(Tryd.f56.name == "runtime.NumGoroutine")=false:=by kernel_rfl
theorem LZ:(Tryd.f41.name == "runtime.NumGoroutine")=false:=by kernel_rfl
theorem Mr:(Tryd.f57.name == "runtime.NumGoroutine")=false:=by kernel_rfl
theorem Mi:(Tryd.f38.name == "runtime.NumGoroutine")=false:=by kernel_rfl
theorem Lj:(Tryd.f58.name == "runtime.NumGoroutine")=false:=by kernel_rfl
theorem F6:bI cfg.P 46 1=some (1,3):=by kernel_rfl
theorem Lv:(Tryd.f59.name == "runtime.NumGoroutine")=false:=by kernel_rfl
theorem Lp:(Tryd.f39.name == "runtime.NumGoroutine")=false:=by kernel_rfl
theorem Kv:(bM cfg.P 47).isSome=true:=by kernel_rfl
theorem yg:bI cfg.P 49 0=some (0,46):=by kernel_rfl
theorem F3:Nat.beq (aK cfg.P 46) 0=false:=by kernel_rfl
theorem KA:(dR cfg.P 76).isSome=true:=by kernel_rfl
theorem Mg:cfg.objT 76=none:=by kernel_rfl
theorem Db:bI cfg.P 76 0=some (0,9):=by kernel_rfl
theorem FK:bI cfg.P 76 1=some (1,3):=by kernel_rfl
theorem Jz:bI cfg.P 76 2=some (2,3):=by kernel_rfl
theorem LF:(Tryd.f15.name == "runtime.NumGoroutine")=false:=by kernel_rfl
theorem GD:bI cfg.P 36 1=some (1,3):=by kernel_rfl
theorem LG:(Tryd.f16.name == "runtime.NumGoroutine")=false:=by kernel_rfl
theorem Md:(Tryd.f67.name == "runtime.NumGoroutine")=false:=by kernel_rfl
theorem K8:(Tryd.f42.name == "runtime.NumGoroutine")=false:=by kernel_rfl
theorem Mf:(Tryd.f17.name == "runtime.NumGoroutine")=false:=by kernel_rfl
theorem MM:(Tryd.f18.name == "runtime.NumGoroutine")=false:=by kernel_rfl
theorem CG:(bM cfg.P 29).isSome=true:=by kernel_rfl
theorem Gt:bI cfg.P 31 2=some (2,3):=by kernel_rfl
theorem KP:dR cfg.P 36=some true:=by kernel_rfl
theorem Nq:(Tryd.f6.name == "runtime.NumGoroutine")=false:=by kernel_rfl
theorem MH:(Tryd.f21.name == "runtime.NumGoroutine")=false:=by kernel_rfl
theorem Kq:cfg.P.underlying 28=some (.slice 38):=by kernel_rfl
theorem Ie:sS iM 28 0=false:=by kernel_rfl
theorem LU:(Tryd.f22.name == "runtime.NumGoroutine")=false:=by kernel_rfl
theorem Ka:cfg.P.underlying 34=some (.slice 70):=by kernel_rfl
theorem Mt:(Tryd.f23.name == "runtime.NumGoroutine")=false:=by kernel_rfl
theorem Kb:cfg.P.underlying 29=some (.slice 49):=by kernel_rfl
theorem Iw:sS zo 29 0=false:=by kernel_rfl
theorem Jt:zo.rowT 29=true:=by kernel_rfl
theorem JL:iW zo 29=true:=by kernel_rfl
theorem JW:fV zo 49=true:=by kernel_rfl
theorem Mk:(Tryd.f44.name == "runtime.NumGoroutine")=false:=by kernel_rfl
theorem KR:cfg.P.underlying 43=some (.slice 97):=by kernel_rfl
theorem LP:iW cfg 43=true:=by kernel_rfl
theorem Lh:bytesOf cfg.P 97=32:=by kernel_rfl
theorem Mo:fV cfg 97=true:=by kernel_rfl
theorem MZ:(Tryd.f45.name == "runtime.NumGoroutine")=false:=by kernel_rfl
theorem KL:cfg.P.underlying 44=some (.slice 46):=by kernel_rfl
theorem IL:sS wE 44 0=false:=by kernel_rfl
theorem JZ:wE.rowT 44=true:=by kernel_rfl
theorem JU:iW wE 44=true:=by kernel_rfl
theorem Jp:fV wE 46=true:=by kernel_rfl
theorem GU:wE.objT 46=none:=by kernel_rfl
theorem Mv:dR cfg.P 43=some false:=by kernel_rfl
theorem Lr:(Tryd.f24.name == "runtime.NumGoroutine")=false:=by kernel_rfl
theorem MC:(Tryd.f25.name == "runtime.NumGoroutine")=false:=by kernel_rfl
theorem J7:cfg.P.underlying 22=some (.slice 3):=by kernel_rfl
theorem MS:(Tryd.f26.name == "runtime.NumGoroutine")=false:=by kernel_rfl
theorem Ky:cfg.P.underlying 47=some (.slice 76):=by kernel_rfl
theorem uW:mo.objT 31=none:=by kernel_rfl
theorem Mm:aK cfg.P 28=1:=by kernel_rfl
theorem MV:(dR cfg.P 28).isSome=true:=by kernel_rfl
theorem Jw:mo.objT 38=none:=by kernel_rfl
theorem MI:aK cfg.P 34=1:=by kernel_rfl
theorem ML:(dR cfg.P 34).isSome=true:=by kernel_rfl
theorem Bl:mo.objT 49=none:=by kernel_rfl
theorem NA:(Tryd.f8.name == "runtime.NumGoroutine")=false:=by kernel_rfl
theorem I8:bI cfg.P 38 4=some (4,4):=by kernel_rfl
theorem M6:cfg.P.underlying 4=some .bool:=by kernel_rfl
theorem MP:(Tryd.f47.name == "runtime.NumGoroutine")=false:=by kernel_rfl
theorem DL:mo.rowT 44=false:=by kernel_rfl
theorem JB:mo.rowT 22=false:=by kernel_rfl
theorem JS:mo.rowT 47=false:=by kernel_rfl
theorem D5:mo.rowT 29=true:=by kernel_rfl
theorem Lu:(Tryd.f31.name == "runtime.NumGoroutine")=false:=by kernel_rfl
theorem ME:(Tryd.f11.name == "runtime.NumGoroutine")=false:=by kernel_rfl
theorem Lt:dR cfg.P 27=some true:=by kernel_rfl
theorem Lf:aK cfg.P 27=9:=by kernel_rfl
theorem Jb:iW mo 29=true:=by kernel_rfl
theorem I6:fV mo 49=true:=by kernel_rfl
theorem Nh:(Tryd.f4.name == "runtime.NumGoroutine")=false:=by kernel_rfl
theorem jg:oper.P_place iM 38=some (jY [(0,1),(1,1),(2,1),(3,1),(4,1),(5,3)]):=gN (by kernel_rfl)
theorem kE:oper.P_place iM 70=some (jY [(0,1),(1,1)]):=gN (by kernel_rfl)
theorem vI:oper.P_place iM 36=some (jY [(0,1),(1,1),(2,1)]):=gN (by kernel_rfl)
theorem lM:oper.P_place cfg 46=some (jY [(0,1),(1,1),(2,1),(3,1),(4,1),(5,1)]):=gN (by kernel_rfl)
theorem yA:oper.P_place cfg 97=some (jY [(0,1),(1,1)]):=gN (by kernel_rfl)
theorem rf:oper.P_place cfg 49=some (jY [(0,6),(6,1),(7,1)]):=gN (by kernel_rfl)
theorem yH:oper.P_place cfg 76=some (jY [(0,1),(1,1),(2,1)]):=gN (by kernel_rfl)
theorem mG:oper.P_place iM 31=some (jY [(0,1),(1,1),(2,1)]):=gN (by kernel_rfl)
theorem vU:oper.P_place iM 56=some (jY [(0,1),(1,1),(2,1),(3,1)]):=gN (by kernel_rfl)
theorem vV:oper.P_place iM 58=some (jY [(0,4),(4,1),(5,1),(6,1)]):=gN (by kernel_rfl)
theorem xm:oper.P_place cfg 70=some (jY [(0,1),(1,1)]):=gN (by kernel_rfl)
theorem ky:oper.P_place mo 49=some (jY [(0,6),(6,1),(7,1)]):=gN (by kernel_rfl)
theorem gm:oper.P_place mo 46=some (jY [(0,1),(1,1),(2,1),(3,1),(4,1),(5,1)]):=gN (by kernel_rfl)
theorem vP:oper.P_place mo 76=some (jY [(0,1),(1,1),(2,1)]):=gN (by kernel_rfl)
theorem vD:oper.P_place mo 31=some (jY [(0,1),(1,1),(2,1)]):=gN (by kernel_rfl)
def Nf:List Src:=[[(9,none)],[(89,some 0)],[(7,none)],[(10,none)],[(92,some 3)],[(1,none)],[(94,some 5)],[(6,none)],[(95,some 6),(96,some 7)],[(97,some 8)],[(98,some 9)],[(1,none)],[(100,some 11)],[(6,none)],[(101,some 12),(102,some 13)],[(103,some 14)],[(90,some 1),(91,some 2),(93,some 4),(99,some 10),(104,some 15)],[],[(11,some 17),(105,some 16)]]
def Ni:List Src:=[[(1,none)],[(112,some 0)],[(6,none)],[(113,some 1),(114,some 2)],[(115,some 3)],[(116,some 4)],[(1,none)],[(118,some 6)],[(6,none)],[(119,some 7),(120,some 8)],[(121,some 9)],[(117,some 5),(122,some 10)],[(11,none)],[(123,some 11),(124,some 12)]]
def Nb:List Src:=[[(5,none)],[(12,some 0)],[(0,none)],[(1,none)],[(14,some 2),(15,some 3)],[(16,some 4)],[(13,some 1)],[(17,some 5)]]
def Nz:List Src:=[[(7,none)],[(24,some 0)],[(0,none)],[(1,none)],[(8,none)],[(26,some 2),(27,some 3),(28,some 4)],[(29,some 5)],[(25,some 1),(30,some 6)],[(7,none)],[(31,some 7),(32,some 8)]]
def M9:List Src:=[[(1,none)],[(60,some 0)],[(8,none)],[(61,some 1),(62,some 2)],[(63,some 3)],[(1,none)],[(65,some 5)],[(8,none)],[(66,some 6),(67,some 7)],[(68,some 8)],[(64,some 4),(69,some 9)],[],[(11,some 11),(70,some 10)]]
def Nn:List Src:=[[(1,none)],[(7,some 0)],[(8,some 1)],[(1,none)],[(10,some 3)],[(9,some 2),(11,some 4)],[(12,some 5)],[],[(3,some 7),(13,some 6)]]
def Ng:List Src:=[[(3,none)],[(17,some 0)],[(1,none)],[(19,some 2)],[(4,none)],[(20,some 3),(21,some 4)],[(22,some 5)],[(23,some 6)],[(18,some 1),(24,some 7)],[(3,none)],[(25,some 8),(26,some 9)]]
def Nw:List Src:=[[(3,none)],[(40,some 0)],[(5,none)],[(6,none)],[(43,some 3)],[(42,some 2),(44,some 4)],[(45,some 5)],[(1,none)],[(47,some 7)],[(6,none)],[(48,some 8),(49,some 9)],[(50,some 10)],[(51,some 11)],[(1,none)],[(53,some 13)],[(6,none)],[(54,some 14),(55,some 15)],[(56,some 16)],[(57,some 17)],[(58,some 18)],[(46,some 6),(52,some 12),(59,some 19)],[(60,some 20)],[(41,some 1),(61,some 21)],[(3,none)],[(62,some 22),(63,some 23)]]
def NB:List Src:=[[(1,none)],[(10,some 0)],[(11,some 1)],[(1,none)],[(13,some 3)],[(14,some 4)],[(12,some 2),(15,some 5)],[],[(3,some 7),(16,some 6)]]
def Nu:List Src:=[[(3,none)],[(40,some 0)],[(5,none)],[(42,some 2)],[(43,some 3)],[(41,some 1),(44,some 4)],[(3,none)],[(45,some 5),(46,some 6)]]
def MQ:List Src:=[[(3,none)],[(48,some 0)],[(5,none)],[(50,some 2)],[(51,some 3)],[(49,some 1),(52,some 4)],[(3,none)],[(53,some 5),(54,some 6)]]
def Ls:List Src:=[[(0,none)],[(2,none)],[(0,none)],[(3,none)],[(0,none)],[(3,none)],[(18,some 4),(19,some 5)],[(20,some 6)],[(0,none)],[(2,none)],[(22,some 8),(23,some 9)],[(24,some 10)],[(14,some 0),(15,some 1)],[(21,some 7),(26,some 12)],[(16,some 2),(17,some 3)],[(25,some 11),(27,some 14)]]
def LB:List Src:=[[(1,none)],[(21,some 0)],[(3,none)],[(4,none)],[(24,some 3)],[(22,some 1),(23,some 2)],[(25,some 4),(26,some 5)]]
def Lx:List Src:=[[(1,none)],[(19,some 0)],[(3,none)],[(4,none)],[(22,some 3)],[(23,some 4)],[(20,some 1),(21,some 2)],[(25,some 6)],[(24,some 5),(26,some 7)]]
def Ma:List Src:=[[(1,none)],[(40,some 0)],[(5,none)],[(6,none)],[(43,some 3)],[(44,some 4)],[(6,none)],[(46,some 6)],[(47,some 7)],[(6,none)],[(49,some 9)],[(50,some 10)],[(45,some 5),(48,some 8),(51,some 11)],[(41,some 1),(42,some 2)],[(52,some 12),(53,some 13)]]
def KX:List Src:=[[(9,none)],[(59,some 0)],[(7,none)],[(8,none)],[(61,some 2),(62,some 3)],[(63,some 4)],[(60,some 1),(64,some 5)],[(65,some 6)],[(66,some 7)],[(66,some 7),(67,some 8)],[(68,some 9)]]
structure JK (R:cZ):Prop where
 obj:kR R cfg
 strings_Trim_ok:∀ (n:Nat) (x0:Str) (x1:Str) (r:Str),kC n x0 x1=some r→bU R cfg.P 40 [(.str x0),(.str x1)] (.d (.str r))
section
variable {R:cZ} (E:JK R)
include E
theorem dI:kR R iM:=⟨E.obj.toObjOk,E.obj.new⟩
theorem nJ:kR R Ai:=⟨E.obj.toObjOk,E.obj.new⟩
theorem Eg:kR R zo:=⟨E.obj.toObjOk,E.obj.new⟩
theorem og:kR R wE:=⟨E.obj.toObjOk,E.obj.new⟩
theorem fD:kR R mo:=⟨E.obj.toObjOk,E.obj.new⟩
set_option maxRecDepth 20000 in
set_option maxHeartbeats 4000000 in
theorem aN (n:Nat) (a1:Int) (a2:Int) (a3:Int) (r:Int) (h:aR n a1 a2 a3=some r):bU R cfg.P 9 [(.int .i64 a1),(.int .i64 a2),(.int .i64 a3)] (.d (.int .i64 r)):=by
 unfold aR at h
 refine bU.of_wp E.obj.toObjOk (C:=cfg) Tryd.func9 rfl Ny rfl ?_
 have H0:Has aI aI []:=Has.pure
 refine ax.seq ?_
 refine ax.region E.obj rfl ?_
 refine ae.val rfl (aj rfl) rfl ?_
 refine ae.nil ?_
 refine ax.seq ?_
 refine ax.region E.obj rfl ?_
 refine ae.val rfl (ah rfl) rfl ?_
 refine ae.val rfl (ah rfl) rfl ?_
 refine ae.val rfl (ah rfl) rfl ?_
 refine ae.val rfl (ay rfl rfl ig) rfl ?_
 refine ae.val rfl (ay rfl rfl cu) rfl ?_
 obtain ⟨z4,hzz4,h⟩:=bind_some h
 refine ae.val rfl (ay rfl rfl (vo hzz4)) rfl ?_
 refine ae.val rfl (aj rfl) rfl ?_
 refine ae.nil ?_
 refine ax.join (B:=aI) (α:=Int) (fun a=>eU a2 a=some r) (fun a=>[(0,(.d (.int .i64 a))),(1,(.d (.int .i64 a2)))]) (fun a=>[]) ?_ ?_
 ·
  intro x7 S5 H6 h
  replace h:eU a2 x7=some r:=h
  replace H6:Has aI S5 []:=H6
  unfold eU at h
  refine ax.seq ?_
  refine ax.region E.obj rfl ?_
  refine ae.val rfl (ah rfl) rfl ?_
  refine ae.val rfl (ah rfl) rfl ?_
  refine ae.val rfl (ay rfl rfl cu) rfl ?_
  refine ae.val rfl (aj rfl) rfl ?_
  refine ae.nil ?_
  have hr:=Option.some.inj h
  subst hr
  exact ax.ret ⟨_,rfl,rfl,fE (aD.eq .nil)⟩
 refine ax.seq ?_
 refine ax.region E.obj rfl ?_
 refine ae.val rfl (ah rfl) rfl ?_
 refine ae.val rfl (ay rfl rfl bQ) rfl ?_
 refine ae.nil ?_
 refine ax.cond rfl (fun hb9=>?_) (fun hb9=>?_)
 ·
  replace h:=dK hb9 h
  refine ax.region E.obj rfl ?_
  refine ae.val rfl (ah rfl) rfl ?_
  refine ae.val rfl (ah rfl) rfl ?_
  refine ae.val rfl (ay rfl rfl cu) rfl ?_
  refine ae.val rfl (ah rfl) rfl ?_
  refine ae.val rfl (ay rfl rfl ig) rfl ?_
  refine ae.val rfl (ay rfl rfl cu) rfl ?_
  refine ae.val rfl (aj rfl) rfl ?_
  refine ae.nil ?_
  exact ⟨(IntKind.wrap .i64 ((IntKind.wrap .i64 ((IntKind.wrap .i64 (z4 + a3)) - a2)) + 1)),_,_,aI,.refl _ _,.refl _,(aa.r rfl (aa.r rfl aa.nil)),H0.sl [] rfl rfl,h⟩
 replace h:=dJ hb9 h
 refine ax.skip ?_
 exact ⟨z4,_,_,aI,.refl _ _,.refl _,(aa.r rfl (aa.r rfl aa.nil)),H0.sl [] rfl rfl,h⟩
set_option maxRecDepth 20000 in
set_option maxHeartbeats 4000000 in
theorem sj (n:Nat) (a1:(List Seg)) (r:Bool) (h:iE n a1=some r):bU R cfg.P 32 [(.sl ((a1).map bC) false)] (.d (.bool r)):=by
 unfold iE at h
 refine bU.of_wp E.obj.toObjOk (C:=cfg) Tryd.func32 rfl Ld rfl ?_
 have H0:Has aI aI []:=Has.pure
 refine ax.seq ?_
 refine ax.region E.obj rfl ?_
 refine ae.val rfl (aj rfl) rfl ?_
 refine ae.nil ?_
 refine ax.seq ?_
 refine ax.region E.obj rfl ?_
 refine ae.val rfl (ah rfl) rfl ?_
 refine ae.val rfl (bz rfl ES) rfl ?_
 refine ae.val rfl (ay rfl rfl jb) rfl ?_
 refine ae.val rfl (ah rfl) rfl ?_
 obtain ⟨z3,hzz3,h⟩:=bind_some h
 refine ae.bL 9 15 (.d (.bool z3)) ?_ ?_
 ·
  rcases Bool.eq_false_or_eq_true ((decide (0 < ((a1).length:Int)))) with hB2 | hB2
  ·
   refine ae.bool hB2 ?_
   replace hzz3:=dK hB2 hzz3
   refine ae.val rfl (ah rfl) rfl ?_
   refine ae.val rfl (ah rfl) rfl ?_
   refine ae.val rfl (bz rfl ES) rfl ?_
   refine ae.val rfl (ay rfl rfl ig) rfl ?_
   obtain ⟨z4,hzz4,hzz3⟩:=bind_some hzz3
   refine ae.val rfl (df rfl rfl (dQ (enc:=bC) hzz4 wW Fz ((Seg.len _).trans qc.symm))) rfl ?_
   refine ae.val rfl (jB rfl ui mg rfl) rfl ?_
   refine ae.val rfl (bD rfl (by rw [Seg.cells]; exact dG ji rfl)) rfl ?_
   refine ae.val rfl (ay rfl rfl gM) rfl ?_
   refine ae.val rfl (az (b:=true) rfl rfl) rfl ?_
   cases hzz3
   exact ae.nil ⟨_,rfl,(aa.put (aa.push rfl (aa.push rfl (aa.push rfl (aa.push rfl (aa.push rfl (aa.push rfl (aa.push rfl (aa.push rfl (aa.put (.refl _) (Less.eq (by rw [hB2]))))))))))) (.refl _))⟩
  refine ae.bool hB2 ?_
  refine ae.no rfl rfl ?_
  refine ae.no rfl rfl ?_
  refine ae.no rfl rfl ?_
  refine ae.no rfl rfl ?_
  refine ae.no rfl rfl ?_
  refine ae.no rfl rfl ?_
  refine ae.no rfl rfl ?_
  refine ae.no rfl rfl ?_
  refine ae.val rfl (az (b:=false) rfl rfl) rfl ?_
  replace hzz3:=dJ hB2 hzz3
  cases hzz3
  exact ae.nil ⟨_,rfl,(aa.put (aa.push rfl (aa.push rfl (aa.push rfl (aa.push rfl (aa.push rfl (aa.push rfl (aa.push rfl (aa.push rfl (aa.put (.refl _) (Less.eq (by rw [hB2]))))))))))) (.refl _))⟩
 refine ae.val rfl (aj rfl) rfl ?_
 refine ae.nil ?_
 have hr:=Option.some.inj h
 subst hr
 exact ax.ret ⟨_,rfl,rfl,fE (aD.eq .nil)⟩
set_option maxRecDepth 20000 in
set_option maxHeartbeats 4000000 in
theorem bF (n:Nat) (a1:(List Int)) (a2:Int) (r:Int) (h:bO n a1 a2=some r):bU R cfg.P 33 [(.sl ((a1).map (D.int .i64)) false),(.int .i64 a2)] (.d (.int .i64 r)):=by
 unfold bO at h
 refine bU.of_wp E.obj.toObjOk (C:=cfg) Tryd.func33 rfl LM rfl ?_
 have H0:Has aI aI []:=Has.pure
 refine ax.seq ?_
 refine ax.region E.obj rfl ?_
 refine ae.val rfl (aj rfl) rfl ?_
 refine ae.nil ?_
 refine ax.seq ?_
 refine ax.seq ?_
 refine ax.region E.obj rfl ?_
 refine ae.val rfl (ah rfl) rfl ?_
 refine ae.val rfl (bz rfl xS) rfl ?_
 refine ae.val rfl (ay rfl rfl dS) rfl ?_
 refine ae.nil ?_
 refine ax.cond rfl (fun hb3=>?_) (fun hb3=>?_)
 ·
  replace h:=dK hb3 h
  refine ax.seq ?_
  refine ax.region E.obj rfl ?_
  refine ae.val rfl (aj rfl) rfl ?_
  refine ae.nil ?_
  have hr:=Option.some.inj h
  subst hr
  exact ax.ret ⟨_,rfl,rfl,fE (aD.eq .nil)⟩
 replace h:=dJ hb3 h
 refine ax.skip ?_
 refine ax.seq ?_
 refine ax.region E.obj rfl ?_
 refine ae.val rfl (ah rfl) rfl ?_
 refine ae.val rfl (ah rfl) rfl ?_
 refine ae.val rfl (ah rfl) rfl ?_
 refine ae.val rfl (bz rfl xS) rfl ?_
 obtain ⟨z4,hzz4,h⟩:=bind_some h
 refine ae.val rfl (ay rfl rfl (vo hzz4)) rfl ?_
 obtain ⟨z5,hzz5,h⟩:=bind_some h
 refine ae.val rfl (df rfl rfl (dQ (enc:=(D.int .i64)) hzz5 ku zi (((fun _=>rfl) _).trans pI.symm))) rfl ?_
 refine ae.val rfl (bD rfl (dG ji rfl)) rfl ?_
 refine ae.val rfl (aj rfl) rfl ?_
 refine ae.nil ?_
 have hr:=Option.some.inj h
 subst hr
 exact ax.ret ⟨_,rfl,rfl,fE (aD.eq .nil)⟩
set_option maxRecDepth 20000 in
set_option maxHeartbeats 4000000 in
theorem jl (n:Nat) (a1:fU) (r:(List au)) (h:fJ n a1=some r):lT R cfg.P 12 [(jX a1)] (fun v l=>l=[.row 8 v ((r).map aB)]):=by
 unfold fJ at h
 refine lT.of_wp (C:=iM) Tryd.func12 rfl LK rfl (fun S0 wf0=>?_)
 have H0:Has S0 S0 []:=Has.start wf0
 refine ax.seq ?_
 refine ax.region (dI E) rfl ?_
 refine ae.box H0 rfl rfl rfl (fU.bu _) rfl (fun b2 S3 H4=>?_)
 refine ae.val rfl (aj rfl) rfl ?_
 refine ae.nil ?_
 refine ax.seq ?_
 refine ax.region (dI E) rfl ?_
 refine ae.val rfl (aO (vs:=[(.d (.str [97])),(.d (.str [98])),(.d (.str [105,116,101,109])),(.d (.str [122])),(.d (.str [49])),(.d (.str [108,105,115,116]))]) (ds:=[(.str [97]),(.str [98]),(.str [105,116,101,109]),(.str [122]),(.str [49]),(.str [108,105,115,116])]) Jo yB vW Ko D9 rfl (by decide) (.cons rfl rfl (.cons rfl rfl (.cons rfl rfl (.cons rfl rfl (.cons rfl rfl (.cons rfl rfl .nil)))))) rfl (by intro d hd; simp only [List.mem_cons,List.not_mem_nil,or_false] at hd; rcases hd with rfl | rfl | rfl | rfl | rfl | rfl <;> rfl) rfl) rfl ?_
 refine ae.val rfl (aj rfl) rfl ?_
 refine ae.nil ?_
 refine ax.seq ?_
 refine ax.region (dI E) rfl ?_
 refine ae.val rfl (bA (cs:=[(.d (.str [104,111,109,101])),(.d (.int .i64 (-1))),(.d .aQ),(.d (.int .i64 0)),(.d (.bool false)),(.d (.int .i64 0)),(.d (.int .i64 0)),(.d (.str []))]) vN rfl (jg) (bT rfl rfl rfl rfl (bT rfl rfl rfl rfl rfl))) rfl ?_
 refine ae.less (Less.agg' (d:=aB (au.mk [104,111,109,101] (-1) [] 0 false (aJ.mk 0 0 []))) (ak.eq rfl (ak.eq rfl (ak.fe rfl (.aQ false) rfl rfl (ak.eq rfl (ak.eq rfl (ak.eq rfl (ak.eq rfl (ak.eq rfl .nil)))))))) ((au.eq _).trans rfl)) ?_
 refine ae.pY (enc:=aB) (xs:=[(au.mk [104,111,109,101] (-1) [] 0 false (aJ.mk 0 0 []))]) (vs:=[(.d (aB (au.mk [104,111,109,101] (-1) [] 0 false (aJ.mk 0 0 []))))]) (cs:=[[(.d (.str (au.mk [104,111,109,101] (-1) [] 0 false (aJ.mk 0 0 [])).Name)),(.d (.int .i64 (au.mk [104,111,109,101] (-1) [] 0 false (aJ.mk 0 0 [])).Parent)),(.d (.sl (((au.mk [104,111,109,101] (-1) [] 0 false (aJ.mk 0 0 [])).eT).map bC) false)),(.d (.int .i64 (au.mk [104,111,109,101] (-1) [] 0 false (aJ.mk 0 0 [])).aG)),(.d (.bool (au.mk [104,111,109,101] (-1) [] 0 false (aJ.mk 0 0 [])).iK)),(.d (.int .i64 (au.mk [104,111,109,101] (-1) [] 0 false (aJ.mk 0 0 [])).aJ.Kind)),(.d (.int .i64 (au.mk [104,111,109,101] (-1) [] 0 false (aJ.mk 0 0 [])).aJ.Flag)),(.d (.str (au.mk [104,111,109,101] (-1) [] 0 false (aJ.mk 0 0 [])).aJ.To))]]) H4 rfl xq pO oL vN kM rfl (by decide) (.cons (iO (au.bu _)) rfl .nil) rfl (.cons (by rw [au.cells]; exact .refl _) .nil) (fun z=>au.len z) (fun x=>au.flat x) rfl rfl (fun v5 S6 H7=>?_)
 refine ae.val rfl (aj rfl) rfl ?_
 refine ae.nil ?_
 refine ax.seq ?_
 refine ax.region (dI E) rfl ?_
 refine ae.val rfl (aO (vs:=[(.d (.int .i64 0))]) (ds:=[(.int .i64 0)]) qC ku ji DU pI rfl (by decide) (.cons rfl rfl .nil) rfl (by intro d hd; simp only [List.mem_cons,List.not_mem_nil,or_false] at hd; rcases hd with rfl <;> rfl) rfl) rfl ?_
 refine ae.val rfl (aj rfl) rfl ?_
 refine ae.nil ?_
 refine ax.seq ?_
 refine ax.seq ?_
 refine ax.region (dI E) rfl ?_
 refine ae.val rfl (aj rfl) rfl ?_
 refine ae.nil ?_
 refine ax.block ?_
 have H115:=H7.tO (([0]).map (D.int .i64))
 refine nR.start (B:=S0) (α:=(List au) × AV × (List Int) × AV × Int) (fun k a=>aL n a1 k a.1 a.2.2.1 a.2.2.2.2=some r) (fun a=>[(1,(.ptr b2 0 0)),(3,(.d (.sl ((([[97],[98],[105,116,101,109],[122],[49],[108,105,115,116]]:List Str)).map D.str) true))),(4,a.2.1),(5,a.2.2.2.1),(6,(.d (.int .i64 a.2.2.2.2)))]) (fun a=>[.box b2 [(.d (.sl ((a1.Parents).map (D.int .i64)) false)),(.d (.sl ((a1.Kinds).map (D.int .i64)) false)),(.d (.sl ((a1.Texts).map (D.int .i64)) false)),(.d (.sl ((a1.Rules).map (D.int .i64)) false)),(.d (.sl ((a1.Flags).map (D.int .i64)) false)),(.d (.sl ((a1.fK).map (D.int .i64)) false)),(.d (.sl ((a1.Comps).map (D.int .i64)) false))],.row 8 a.2.1 ((a.1).map aB),.grow a.2.2.2.1 ((a.2.2.1).map (D.int .i64))]) ?_ ?_ n ⟨⟨[(au.mk [104,111,109,101] (-1) [] 0 false (aJ.mk 0 0 []))],v5,[0],(.d (.sl (([0]).map (D.int .i64)) true)),0⟩,_,_,S6,.refl _ _,.refl _,(aa.r rfl (aa.r rfl (aa.r rfl (aa.r rfl (aa.r rfl aa.nil))))),H115.sl [2,1,0] rfl rfl,h⟩
 ·
  intro a h; simp [aL] at h
 intro k24 a S17 H18 h
 obtain ⟨x19,v20,x21,v22,x23⟩:=a
 replace h:aL n a1 (k24 + 1) x19 x21 x23=some r:=h
 replace H18:Has S0 S17 [.box b2 [(.d (.sl ((a1.Parents).map (D.int .i64)) false)),(.d (.sl ((a1.Kinds).map (D.int .i64)) false)),(.d (.sl ((a1.Texts).map (D.int .i64)) false)),(.d (.sl ((a1.Rules).map (D.int .i64)) false)),(.d (.sl ((a1.Flags).map (D.int .i64)) false)),(.d (.sl ((a1.fK).map (D.int .i64)) false)),(.d (.sl ((a1.Comps).map (D.int .i64)) false))],.row 8 v20 ((x19).map aB),.grow v22 ((x21).map (D.int .i64))]:=H18
 unfold aL at h
 refine ax.seq ?_
 refine ax.seq ?_
 refine ax.region (dI E) rfl ?_
 refine ae.val rfl (ah rfl) rfl ?_
 refine ae.val rfl (ai rfl Gd lK rfl) rfl ?_
 refine ae.val rfl (av H18 (i:=0) rfl rfl (aC lX rfl)) rfl ?_
 refine ae.val rfl (bz rfl xS) rfl ?_
 refine ae.val rfl (ay rfl rfl bQ) rfl ?_
 refine ae.val rfl (ah rfl) rfl ?_
 refine ae.bL 3 24 (.d (.bool ((decide (x23 < ((a1.Parents).length:Int))) && (decide (x23 < 7))))) ?_ ?_
 ·
  rcases Bool.eq_false_or_eq_true ((decide (x23 < ((a1.Parents).length:Int)))) with hB25 | hB25
  ·
   refine ae.bool hB25 ?_
   refine ae.val rfl (ah rfl) rfl ?_
   refine ae.val rfl (ay rfl rfl bQ) rfl ?_
   refine ae.val rfl (az (b:=true) rfl rfl) rfl ?_
   exact ae.nil ⟨_,rfl,(aa.put (aa.push rfl (aa.push rfl (aa.put (.refl _) (Less.eq (by rw [hB25]))))) (Less.eq (by rw [hB25]; rw [Bool.true_and])))⟩
  refine ae.bool hB25 ?_
  refine ae.no rfl rfl ?_
  refine ae.no rfl rfl ?_
  refine ae.val rfl (az (b:=false) rfl rfl) rfl ?_
  exact ae.nil ⟨_,rfl,(aa.put (aa.push rfl (aa.push rfl (aa.put (.refl _) (Less.eq (by rw [hB25]))))) (Less.eq (by rw [hB25]; rw [Bool.false_and])))⟩
 refine ae.nil ?_
 refine ax.cond rfl (fun hb26=>?_) (fun hb26=>?_)
 ·
  replace h:=dK hb26 h
  refine ax.skip ?_
  refine ax.seq ?_
  refine ax.block ?_
  refine ax.seq ?_
  refine ax.region (dI E) rfl ?_
  refine ae.val rfl (ai rfl Gd lK rfl) rfl ?_
  refine ae.val rfl (av H18 (i:=0) rfl rfl (aC lX rfl)) rfl ?_
  refine ae.val rfl (ah rfl) rfl ?_
  obtain ⟨z27,hzz27,h⟩:=bind_some h
  refine ae.val rfl (df rfl rfl (dQ (enc:=(D.int .i64)) hzz27 ku zi (((fun _=>rfl) _).trans pI.symm))) rfl ?_
  refine ae.val rfl (bD rfl (dG ji rfl)) rfl ?_
  refine ae.val rfl (ah rfl) rfl ?_
  refine ae.val rfl (jc H18 (i:=1) rfl rfl uL) rfl ?_
  refine ae.val rfl (ay rfl rfl ig) rfl ?_
  obtain ⟨z28,hzz28,h⟩:=bind_some h
  refine ae.ret rfl (aA rfl rfl) (aN E _ _ _ _ _ hzz28 _ _ (aD.eq (aD.eq (aD.eq .nil)))) rfl ?_
  refine ae.val rfl (aj rfl) rfl ?_
  refine ae.nil ?_
  refine ax.join (B:=S0) (α:=Int) (fun a=>bX n a1 x19 x21 x23 (aL n a1 k24) a=some r) (fun a=>[(1,(.ptr b2 0 0)),(3,(.d (.sl ((([[97],[98],[105,116,101,109],[122],[49],[108,105,115,116]]:List Str)).map D.str) true))),(4,v20),(5,v22),(6,(.d (.int .i64 x23))),(7,(.d (.int .i64 a)))]) (fun a=>[.box b2 [(.d (.sl ((a1.Parents).map (D.int .i64)) false)),(.d (.sl ((a1.Kinds).map (D.int .i64)) false)),(.d (.sl ((a1.Texts).map (D.int .i64)) false)),(.d (.sl ((a1.Rules).map (D.int .i64)) false)),(.d (.sl ((a1.Flags).map (D.int .i64)) false)),(.d (.sl ((a1.fK).map (D.int .i64)) false)),(.d (.sl ((a1.Comps).map (D.int .i64)) false))],.row 8 v20 ((x19).map aB),.grow v22 ((x21).map (D.int .i64))]) ?_ ?_
  ·
   intro x31 S29 H30 h
   replace h:bX n a1 x19 x21 x23 (aL n a1 k24) x31=some r:=h
   replace H30:Has S0 S29 [.box b2 [(.d (.sl ((a1.Parents).map (D.int .i64)) false)),(.d (.sl ((a1.Kinds).map (D.int .i64)) false)),(.d (.sl ((a1.Texts).map (D.int .i64)) false)),(.d (.sl ((a1.Rules).map (D.int .i64)) false)),(.d (.sl ((a1.Flags).map (D.int .i64)) false)),(.d (.sl ((a1.fK).map (D.int .i64)) false)),(.d (.sl ((a1.Comps).map (D.int .i64)) false))],.row 8 v20 ((x19).map aB),.grow v22 ((x21).map (D.int .i64))]:=H30
   unfold bX at h
   refine ax.seq ?_
   refine ax.region (dI E) rfl ?_
   refine ae.val rfl (aj rfl) rfl ?_
   refine ae.nil ?_
   refine ax.join (B:=S0) (α:=Int) (fun a=>dm n a1 x19 x21 x23 (aL n a1 k24) x31 a=some r) (fun a=>[(1,(.ptr b2 0 0)),(3,(.d (.sl ((([[97],[98],[105,116,101,109],[122],[49],[108,105,115,116]]:List Str)).map D.str) true))),(4,v20),(5,v22),(6,(.d (.int .i64 x23))),(7,(.d (.int .i64 x31))),(8,(.d (.int .i64 a)))]) (fun a=>[.box b2 [(.d (.sl ((a1.Parents).map (D.int .i64)) false)),(.d (.sl ((a1.Kinds).map (D.int .i64)) false)),(.d (.sl ((a1.Texts).map (D.int .i64)) false)),(.d (.sl ((a1.Rules).map (D.int .i64)) false)),(.d (.sl ((a1.Flags).map (D.int .i64)) false)),(.d (.sl ((a1.fK).map (D.int .i64)) false)),(.d (.sl ((a1.Comps).map (D.int .i64)) false))],.row 8 v20 ((x19).map aB),.grow v22 ((x21).map (D.int .i64))]) ?_ ?_
   ·
    intro x35 S33 H34 h
    replace h:dm n a1 x19 x21 x23 (aL n a1 k24) x31 x35=some r:=h
    replace H34:Has S0 S33 [.box b2 [(.d (.sl ((a1.Parents).map (D.int .i64)) false)),(.d (.sl ((a1.Kinds).map (D.int .i64)) false)),(.d (.sl ((a1.Texts).map (D.int .i64)) false)),(.d (.sl ((a1.Rules).map (D.int .i64)) false)),(.d (.sl ((a1.Flags).map (D.int .i64)) false)),(.d (.sl ((a1.fK).map (D.int .i64)) false)),(.d (.sl ((a1.Comps).map (D.int .i64)) false))],.row 8 v20 ((x19).map aB),.grow v22 ((x21).map (D.int .i64))]:=H34
    unfold dm at h
    refine ax.seq ?_
    refine ax.region (dI E) rfl ?_
    refine ae.val rfl (ah rfl) rfl ?_
    refine ae.val rfl (ay rfl rfl cu) rfl ?_
    refine ae.val rfl (zg rfl Nk Na) rfl ?_
    refine ae.val rfl (aO (vs:=[(.d (.int .u8 (IntKind.wrap .u8 (IntKind.wrap .i64 (97 + x23)))))]) (ds:=[(.int .u8 (IntKind.wrap .u8 (IntKind.wrap .i64 (97 + x23))))]) JE LX Nr Nv Np rfl (by decide) (.cons rfl rfl .nil) rfl (by intro d hd; simp only [List.mem_cons,List.not_mem_nil,or_false] at hd; rcases hd with rfl <;> rfl) rfl) rfl ?_
    refine ae.val rfl (wQ (l:=[(IntKind.wrap .u8 (IntKind.wrap .i64 (97 + x23)))]) rfl Lb JG) rfl ?_
    refine ae.val rfl (aj rfl) rfl ?_
    refine ae.nil ?_
    refine ax.seq ?_
    refine ax.region (dI E) rfl ?_
    refine ae.val rfl (ai rfl Jr lK rfl) rfl ?_
    refine ae.val rfl (av H34 (i:=0) rfl rfl (aC lX rfl)) rfl ?_
    refine ae.val rfl (ah rfl) rfl ?_
    obtain ⟨z37,hzz37,h⟩:=bind_some h
    refine ae.ret rfl (aA rfl rfl) (bF E _ _ _ _ hzz37 _ _ (aD.eq (aD.eq .nil))) rfl ?_
    obtain ⟨z38,hzz38,h⟩:=bind_some h
    refine ae.ret rfl (aA rfl rfl) (aN E _ _ _ _ _ hzz38 _ _ (aD.eq (aD.eq (aD.eq .nil)))) rfl ?_
    refine ae.val rfl (ay rfl rfl ig) rfl ?_
    refine ae.val rfl (ah rfl) rfl ?_
    obtain ⟨z39,hzz39,h⟩:=bind_some h
    refine ae.val rfl (ay rfl rfl (vz hzz39)) rfl ?_
    refine ae.val rfl (bA (cs:=[(.d (.int .i64 (IntKind.wrap .i64 (z38 - 1)))),(.d (.str z39))]) wU rfl (kE) (bT rfl rfl rfl rfl (bT rfl rfl rfl rfl rfl))) rfl ?_
    refine ae.less (Less.agg' (d:=bC (Seg.mk (IntKind.wrap .i64 (z38 - 1)) z39)) (ak.eq rfl (ak.eq rfl .nil)) ((Seg.eq _).trans rfl)) ?_
    refine ae.alloc H34 rfl Ja wU rfl rfl (fun b40 S41 H42=>?_)
    refine ae.store H42 (i:=0) rfl rfl rfl rfl (Seg.bu _) rfl qc rfl Fz rfl rfl rfl (fun S43 H44=>?_)
    refine ae.nil ?_
    refine ax.join (B:=S0) (α:=Int × Str) (fun a=>dx n a1 x19 x21 x23 (aL n a1 k24) x31 x35 a.1 a.2=some r) (fun a=>[(1,(.ptr b2 0 0)),(3,(.d (.sl ((([[97],[98],[105,116,101,109],[122],[49],[108,105,115,116]]:List Str)).map D.str) true))),(4,v20),(5,v22),(6,(.d (.int .i64 x23))),(7,(.d (.int .i64 x31))),(8,(.d (.int .i64 x35))),(9,(.d (.str (([(IntKind.wrap .u8 (IntKind.wrap .i64 (97 + x23)))]).map fun (n:Int)=>UInt8.ofNat n.toNat)))),(10,(.ptr b40 0 0))]) (fun a=>[.box b40 [(.d (.int .i64 a.1)),(.d (.str a.2))],.box b2 [(.d (.sl ((a1.Parents).map (D.int .i64)) false)),(.d (.sl ((a1.Kinds).map (D.int .i64)) false)),(.d (.sl ((a1.Texts).map (D.int .i64)) false)),(.d (.sl ((a1.Rules).map (D.int .i64)) false)),(.d (.sl ((a1.Flags).map (D.int .i64)) false)),(.d (.sl ((a1.fK).map (D.int .i64)) false)),(.d (.sl ((a1.Comps).map (D.int .i64)) false))],.row 8 v20 ((x19).map aB),.grow v22 ((x21).map (D.int .i64))]) ?_ ?_
    ·
     intro a S45 H46 h
     obtain ⟨x47,x48⟩:=a
     replace h:dx n a1 x19 x21 x23 (aL n a1 k24) x31 x35 x47 x48=some r:=h
     replace H46:Has S0 S45 [.box b40 [(.d (.int .i64 x47)),(.d (.str x48))],.box b2 [(.d (.sl ((a1.Parents).map (D.int .i64)) false)),(.d (.sl ((a1.Kinds).map (D.int .i64)) false)),(.d (.sl ((a1.Texts).map (D.int .i64)) false)),(.d (.sl ((a1.Rules).map (D.int .i64)) false)),(.d (.sl ((a1.Flags).map (D.int .i64)) false)),(.d (.sl ((a1.fK).map (D.int .i64)) false)),(.d (.sl ((a1.Comps).map (D.int .i64)) false))],.row 8 v20 ((x19).map aB),.grow v22 ((x21).map (D.int .i64))]:=H46
     unfold dx at h
     refine ax.seq ?_
     obtain ⟨z50,hzz50,h⟩:=bind_some h
     obtain ⟨z51,hzz51,h⟩:=bind_some h
     obtain ⟨z52,hzz52,h⟩:=bind_some h
     obtain ⟨z53,hzz53,h⟩:=bind_some h
     refine ax.qL (dI E) rO Nf [(1,none),(3,none),(4,none),(5,none),(6,none),(8,none),(11,some 17)] (by kernel_rfl) [17,18] (by decide) [some (.d (.str (([(IntKind.wrap .u8 (IntKind.wrap .i64 (97 + x23)))]).map fun (n:Int)=>UInt8.ofNat n.toNat))),some (.d (.str z50)),some (.d (.int .i64 x31)),some (.d (bC (Seg.mk x47 x48))),some (.d (.sl (([(Seg.mk x47 x48)]).map bC) true)),some (.ptr b2 0 5),some (.d (.sl ((a1.fK).map (D.int .i64)) false)),some (.d (.int .i64 x23)),some (.d (.int .i64 z51)),some (.d (.int .i64 (dn .i64 z51 1))),some (.d (.bool ((dn .i64 z51 1) == 1))),some (.ptr b2 0 6),some (.d (.sl ((a1.Comps).map (D.int .i64)) false)),some (.d (.int .i64 x23)),some (.d (.int .i64 z52)),some (.d (.int .i64 z53)),some (.d (aB (au.mk z50 x31 [(Seg.mk x47 x48)] z53 ((dn .i64 z51 1) == 1) (aJ.mk 0 0 [])))),none,none] ?_
     refine ⟨[0,1,2,3,4,5,6,7,8,9,10,11,12,13,14,15,16],by kernel_rfl,?_,_,_,rfl,rfl,.step ?_⟩
     ·
      refine .v rfl rfl rfl rfl (ah rfl) ?_
      refine .v rfl rfl rfl rfl (ay rfl rfl (vz hzz50)) ?_
      refine .v rfl rfl rfl rfl (ah rfl) ?_
      refine .cons rfl rfl rfl (.step ?_) ?_
      ·
       refine ae.val rfl (av H46 (i:=0) rfl rfl (bf zm qc rfl)) rfl ?_
       refine ae.less (Less.agg' (d:=bC (Seg.mk x47 x48)) (ak.eq rfl (ak.eq rfl .nil)) ((Seg.eq _).trans rfl)) ?_
       exact ae.nil ⟨_,_,rfl,fun _ ht=>by cases ht; exact ⟨rfl,.refl _⟩⟩
      refine .v rfl rfl rfl rfl (aO (vs:=[(.d (bC (Seg.mk x47 x48)))]) (ds:=[(bC (Seg.mk x47 x48))]) Be wW zm wU qc rfl (by decide) (.cons rfl (Seg.len _) .nil) rfl (by intro d hd; simp only [List.mem_cons,List.not_mem_nil,or_false] at hd; rcases hd with rfl <;> exact Seg.agg _) rfl) ?_
      refine .v rfl rfl rfl rfl (ai rfl G5 lK rfl) ?_
      refine .v rfl rfl rfl rfl (av H46 (i:=1) rfl rfl (aC lX rfl)) ?_
      refine .v rfl rfl rfl rfl (ah rfl) ?_
      refine .cons rfl rfl rfl (.step ?_) ?_
      ·
       refine ae.ret rfl (aA rfl rfl) (bF E _ _ _ _ hzz51 _ _ (aD.eq (aD.eq .nil))) rfl ?_
       exact ae.nil ⟨_,_,rfl,fun _ ht=>by cases ht; exact ⟨rfl,.refl _⟩⟩
      refine .v rfl rfl rfl rfl (ay rfl rfl uB) ?_
      refine .v rfl rfl rfl rfl (ay rfl rfl dS) ?_
      refine .v rfl rfl rfl rfl (ai rfl Hd lK rfl) ?_
      refine .v rfl rfl rfl rfl (av H46 (i:=1) rfl rfl (aC lX rfl)) ?_
      refine .v rfl rfl rfl rfl (ah rfl) ?_
      refine .cons rfl rfl rfl (.step ?_) ?_
      ·
       refine ae.ret rfl (aA rfl rfl) (bF E _ _ _ _ hzz52 _ _ (aD.eq (aD.eq .nil))) rfl ?_
       exact ae.nil ⟨_,_,rfl,fun _ ht=>by cases ht; exact ⟨rfl,.refl _⟩⟩
      refine .cons rfl rfl rfl (.step ?_) ?_
      ·
       refine ae.ret rfl (aA rfl rfl) (aN E _ _ _ _ _ hzz53 _ _ (aD.eq (aD.eq (aD.eq .nil)))) rfl ?_
       exact ae.nil ⟨_,_,rfl,fun _ ht=>by cases ht; exact ⟨rfl,.refl _⟩⟩
      refine .cons rfl rfl rfl (.step ?_) ?_
      ·
       refine ae.val rfl (bA (cs:=[(.d (.str z50)),(.d (.int .i64 x31)),(.d (.sl (([(Seg.mk x47 x48)]).map bC) true)),(.d (.int .i64 z53)),(.d (.bool ((dn .i64 z51 1) == 1))),(.d (.int .i64 0)),(.d (.int .i64 0)),(.d (.str []))]) vN rfl (jg) (bT rfl rfl rfl rfl (bT rfl rfl rfl rfl (bT rfl rfl rfl rfl (bT rfl rfl rfl rfl (bT rfl rfl rfl rfl rfl)))))) rfl ?_
       refine ae.less (Less.agg' (d:=aB (au.mk z50 x31 [(Seg.mk x47 x48)] z53 ((dn .i64 z51 1) == 1) (aJ.mk 0 0 []))) (ak.eq rfl (ak.eq rfl (ak.fe rfl (.iZ _ _) rfl rfl (ak.eq rfl (ak.eq rfl (ak.eq rfl (ak.eq rfl (ak.eq rfl .nil)))))))) ((au.eq _).trans rfl)) ?_
       exact ae.nil ⟨_,_,rfl,fun _ ht=>by cases ht; exact ⟨rfl,.refl _⟩⟩
      exact .nil
     refine ae.alloc H46 rfl G7 vN rfl rfl (fun b59 S60 H61=>?_)
     refine ae.nil ⟨_,_,_,rfl,(fun _ ht=>by cases ht; rfl),_,(.q (.q (.q (.q (.o (.w (.ptr b59 0 0) (.n .nil))))))),(fun _ ht=>by cases ht; exact ⟨_,rfl,.refl _⟩),?_⟩
     refine ⟨[0,1,2,3,4,5,6,7,8,9,10,11,12,13,14,15,16],by kernel_rfl,?_,_,_,rfl,rfl,.step ?_⟩
     ·
      refine .v rfl rfl rfl rfl (ah rfl) ?_
      refine .v rfl rfl rfl rfl (ay rfl rfl (vz hzz50)) ?_
      refine .v rfl rfl rfl rfl (ah rfl) ?_
      refine .cons rfl rfl rfl (.step ?_) ?_
      ·
       refine ae.val rfl (av H61 (i:=1) rfl rfl (bf zm qc rfl)) rfl ?_
       refine ae.less (Less.agg' (d:=bC (Seg.mk x47 x48)) (ak.eq rfl (ak.eq rfl .nil)) ((Seg.eq _).trans rfl)) ?_
       exact ae.nil ⟨_,_,rfl,fun _ ht=>by cases ht; exact ⟨rfl,.refl _⟩⟩
      refine .v rfl rfl rfl rfl (aO (vs:=[(.d (bC (Seg.mk x47 x48)))]) (ds:=[(bC (Seg.mk x47 x48))]) Be wW zm wU qc rfl (by decide) (.cons rfl (Seg.len _) .nil) rfl (by intro d hd; simp only [List.mem_cons,List.not_mem_nil,or_false] at hd; rcases hd with rfl <;> exact Seg.agg _) rfl) ?_
      refine .v rfl rfl rfl rfl (ai rfl G5 lK rfl) ?_
      refine .v rfl rfl rfl rfl (av H61 (i:=2) rfl rfl (aC lX rfl)) ?_
      refine .v rfl rfl rfl rfl (ah rfl) ?_
      refine .cons rfl rfl rfl (.step ?_) ?_
      ·
       refine ae.ret rfl (aA rfl rfl) (bF E _ _ _ _ hzz51 _ _ (aD.eq (aD.eq .nil))) rfl ?_
       exact ae.nil ⟨_,_,rfl,fun _ ht=>by cases ht; exact ⟨rfl,.refl _⟩⟩
      refine .v rfl rfl rfl rfl (ay rfl rfl uB) ?_
      refine .v rfl rfl rfl rfl (ay rfl rfl dS) ?_
      refine .v rfl rfl rfl rfl (ai rfl Hd lK rfl) ?_
      refine .v rfl rfl rfl rfl (av H61 (i:=2) rfl rfl (aC lX rfl)) ?_
      refine .v rfl rfl rfl rfl (ah rfl) ?_
      refine .cons rfl rfl rfl (.step ?_) ?_
      ·
       refine ae.ret rfl (aA rfl rfl) (bF E _ _ _ _ hzz52 _ _ (aD.eq (aD.eq .nil))) rfl ?_
       exact ae.nil ⟨_,_,rfl,fun _ ht=>by cases ht; exact ⟨rfl,.refl _⟩⟩
      refine .cons rfl rfl rfl (.step ?_) ?_
      ·
       refine ae.ret rfl (aA rfl rfl) (aN E _ _ _ _ _ hzz53 _ _ (aD.eq (aD.eq (aD.eq .nil)))) rfl ?_
       exact ae.nil ⟨_,_,rfl,fun _ ht=>by cases ht; exact ⟨rfl,.refl _⟩⟩
      refine .cons rfl rfl rfl (.step ?_) ?_
      ·
       refine ae.val rfl (bA (cs:=[(.d (.str z50)),(.d (.int .i64 x31)),(.d (.sl (([(Seg.mk x47 x48)]).map bC) true)),(.d (.int .i64 z53)),(.d (.bool ((dn .i64 z51 1) == 1))),(.d (.int .i64 0)),(.d (.int .i64 0)),(.d (.str []))]) vN rfl (jg) (bT rfl rfl rfl rfl (bT rfl rfl rfl rfl (bT rfl rfl rfl rfl (bT rfl rfl rfl rfl (bT rfl rfl rfl rfl rfl)))))) rfl ?_
       refine ae.less (Less.agg' (d:=aB (au.mk z50 x31 [(Seg.mk x47 x48)] z53 ((dn .i64 z51 1) == 1) (aJ.mk 0 0 []))) (ak.eq rfl (ak.eq rfl (ak.fe rfl (.iZ _ _) rfl rfl (ak.eq rfl (ak.eq rfl (ak.eq rfl (ak.eq rfl (ak.eq rfl .nil)))))))) ((au.eq _).trans rfl)) ?_
       exact ae.nil ⟨_,_,rfl,fun _ ht=>by cases ht; exact ⟨rfl,.refl _⟩⟩
      exact .nil
     refine ae.store H61 (i:=0) rfl rfl rfl rfl (au.bu _) rfl kM rfl oL rfl rfl rfl (fun S62 H63=>?_)
     refine ae.nil ⟨_,.any,_,rfl,(fun _ ht=>by cases ht),_,(.q (.q (.q (.q (.o (.o (.w .any .nil))))))),(fun _ ht=>by cases ht),?_⟩
     refine ⟨[],by kernel_rfl,?_,_,rfl,?_⟩
     ·
      exact .nil
     refine ax.join (B:=S0) (α:=Int × Int × Str) (fun a=>bW x19 x21 x23 (aL n a1 k24) x31 x35 x47 x48 z50 z51 z53 a.1 a.2.1 a.2.2=some r) (fun a=>[(1,(.ptr b2 0 0)),(3,(.d (.sl ((([[97],[98],[105,116,101,109],[122],[49],[108,105,115,116]]:List Str)).map D.str) true))),(4,v20),(5,v22),(6,(.d (.int .i64 x23))),(8,(.d (.int .i64 x35))),(11,(.ptr b59 0 0))]) (fun a=>[.box b59 [(.d (.str (au.mk z50 x31 [(Seg.mk x47 x48)] z53 ((dn .i64 z51 1) == 1) (aJ.mk 0 0 [])).Name)),(.d (.int .i64 (au.mk z50 x31 [(Seg.mk x47 x48)] z53 ((dn .i64 z51 1) == 1) (aJ.mk 0 0 [])).Parent)),(.d (.sl (((au.mk z50 x31 [(Seg.mk x47 x48)] z53 ((dn .i64 z51 1) == 1) (aJ.mk 0 0 [])).eT).map bC) false)),(.d (.int .i64 (au.mk z50 x31 [(Seg.mk x47 x48)] z53 ((dn .i64 z51 1) == 1) (aJ.mk 0 0 [])).aG)),(.d (.bool (au.mk z50 x31 [(Seg.mk x47 x48)] z53 ((dn .i64 z51 1) == 1) (aJ.mk 0 0 [])).iK)),(.d (.int .i64 a.1)),(.d (.int .i64 a.2.1)),(.d (.str a.2.2))],.box b2 [(.d (.sl ((a1.Parents).map (D.int .i64)) false)),(.d (.sl ((a1.Kinds).map (D.int .i64)) false)),(.d (.sl ((a1.Texts).map (D.int .i64)) false)),(.d (.sl ((a1.Rules).map (D.int .i64)) false)),(.d (.sl ((a1.Flags).map (D.int .i64)) false)),(.d (.sl ((a1.fK).map (D.int .i64)) false)),(.d (.sl ((a1.Comps).map (D.int .i64)) false))],.row 8 v20 ((x19).map aB),.grow v22 ((x21).map (D.int .i64))]) ?_ ?_
     ·
      intro a S64 H65 h
      obtain ⟨x66,x67,x68⟩:=a
      replace h:bW x19 x21 x23 (aL n a1 k24) x31 x35 x47 x48 z50 z51 z53 x66 x67 x68=some r:=h
      replace H65:Has S0 S64 [.box b59 [(.d (.str (au.mk z50 x31 [(Seg.mk x47 x48)] z53 ((dn .i64 z51 1) == 1) (aJ.mk 0 0 [])).Name)),(.d (.int .i64 (au.mk z50 x31 [(Seg.mk x47 x48)] z53 ((dn .i64 z51 1) == 1) (aJ.mk 0 0 [])).Parent)),(.d (.sl (((au.mk z50 x31 [(Seg.mk x47 x48)] z53 ((dn .i64 z51 1) == 1) (aJ.mk 0 0 [])).eT).map bC) false)),(.d (.int .i64 (au.mk z50 x31 [(Seg.mk x47 x48)] z53 ((dn .i64 z51 1) == 1) (aJ.mk 0 0 [])).aG)),(.d (.bool (au.mk z50 x31 [(Seg.mk x47 x48)] z53 ((dn .i64 z51 1) == 1) (aJ.mk 0 0 [])).iK)),(.d (.int .i64 x66)),(.d (.int .i64 x67)),(.d (.str x68))],.box b2 [(.d (.sl ((a1.Parents).map (D.int .i64)) false)),(.d (.sl ((a1.Kinds).map (D.int .i64)) false)),(.d (.sl ((a1.Texts).map (D.int .i64)) false)),(.d (.sl ((a1.Rules).map (D.int .i64)) false)),(.d (.sl ((a1.Flags).map (D.int .i64)) false)),(.d (.sl ((a1.fK).map (D.int .i64)) false)),(.d (.sl ((a1.Comps).map (D.int .i64)) false))],.row 8 v20 ((x19).map aB),.grow v22 ((x21).map (D.int .i64))]:=H65
      unfold bW at h
      refine ax.seq ?_
      refine ax.region (dI E) rfl ?_
      refine ae.val rfl (ah rfl) rfl ?_
      refine ae.val rfl (av H65 (i:=0) rfl rfl (bf Da kM rfl)) rfl ?_
      refine ae.less (Less.agg' (d:=aB (au.mk ((au.mk z50 x31 [(Seg.mk x47 x48)] z53 ((dn .i64 z51 1) == 1) (aJ.mk 0 0 [])).Name) ((au.mk z50 x31 [(Seg.mk x47 x48)] z53 ((dn .i64 z51 1) == 1) (aJ.mk 0 0 [])).Parent) ((au.mk z50 x31 [(Seg.mk x47 x48)] z53 ((dn .i64 z51 1) == 1) (aJ.mk 0 0 [])).eT) ((au.mk z50 x31 [(Seg.mk x47 x48)] z53 ((dn .i64 z51 1) == 1) (aJ.mk 0 0 [])).aG) ((au.mk z50 x31 [(Seg.mk x47 x48)] z53 ((dn .i64 z51 1) == 1) (aJ.mk 0 0 [])).iK) (aJ.mk x66 x67 x68))) (ak.eq rfl (ak.eq rfl (ak.eq rfl (ak.eq rfl (ak.eq rfl (ak.eq rfl (ak.eq rfl (ak.eq rfl .nil)))))))) ((au.eq _).trans rfl)) ?_
      refine ae.pY (enc:=aB) (xs:=[(au.mk ((au.mk z50 x31 [(Seg.mk x47 x48)] z53 ((dn .i64 z51 1) == 1) (aJ.mk 0 0 [])).Name) ((au.mk z50 x31 [(Seg.mk x47 x48)] z53 ((dn .i64 z51 1) == 1) (aJ.mk 0 0 [])).Parent) ((au.mk z50 x31 [(Seg.mk x47 x48)] z53 ((dn .i64 z51 1) == 1) (aJ.mk 0 0 [])).eT) ((au.mk z50 x31 [(Seg.mk x47 x48)] z53 ((dn .i64 z51 1) == 1) (aJ.mk 0 0 [])).aG) ((au.mk z50 x31 [(Seg.mk x47 x48)] z53 ((dn .i64 z51 1) == 1) (aJ.mk 0 0 [])).iK) (aJ.mk x66 x67 x68))]) (vs:=[(.d (aB (au.mk ((au.mk z50 x31 [(Seg.mk x47 x48)] z53 ((dn .i64 z51 1) == 1) (aJ.mk 0 0 [])).Name) ((au.mk z50 x31 [(Seg.mk x47 x48)] z53 ((dn .i64 z51 1) == 1) (aJ.mk 0 0 [])).Parent) ((au.mk z50 x31 [(Seg.mk x47 x48)] z53 ((dn .i64 z51 1) == 1) (aJ.mk 0 0 [])).eT) ((au.mk z50 x31 [(Seg.mk x47 x48)] z53 ((dn .i64 z51 1) == 1) (aJ.mk 0 0 [])).aG) ((au.mk z50 x31 [(Seg.mk x47 x48)] z53 ((dn .i64 z51 1) == 1) (aJ.mk 0 0 [])).iK) (aJ.mk x66 x67 x68))))]) (cs:=[[(.d (.str (au.mk ((au.mk z50 x31 [(Seg.mk x47 x48)] z53 ((dn .i64 z51 1) == 1) (aJ.mk 0 0 [])).Name) ((au.mk z50 x31 [(Seg.mk x47 x48)] z53 ((dn .i64 z51 1) == 1) (aJ.mk 0 0 [])).Parent) ((au.mk z50 x31 [(Seg.mk x47 x48)] z53 ((dn .i64 z51 1) == 1) (aJ.mk 0 0 [])).eT) ((au.mk z50 x31 [(Seg.mk x47 x48)] z53 ((dn .i64 z51 1) == 1) (aJ.mk 0 0 [])).aG) ((au.mk z50 x31 [(Seg.mk x47 x48)] z53 ((dn .i64 z51 1) == 1) (aJ.mk 0 0 [])).iK) (aJ.mk x66 x67 x68)).Name)),(.d (.int .i64 (au.mk ((au.mk z50 x31 [(Seg.mk x47 x48)] z53 ((dn .i64 z51 1) == 1) (aJ.mk 0 0 [])).Name) ((au.mk z50 x31 [(Seg.mk x47 x48)] z53 ((dn .i64 z51 1) == 1) (aJ.mk 0 0 [])).Parent) ((au.mk z50 x31 [(Seg.mk x47 x48)] z53 ((dn .i64 z51 1) == 1) (aJ.mk 0 0 [])).eT) ((au.mk z50 x31 [(Seg.mk x47 x48)] z53 ((dn .i64 z51 1) == 1) (aJ.mk 0 0 [])).aG) ((au.mk z50 x31 [(Seg.mk x47 x48)] z53 ((dn .i64 z51 1) == 1) (aJ.mk 0 0 [])).iK) (aJ.mk x66 x67 x68)).Parent)),(.d (.sl (((au.mk ((au.mk z50 x31 [(Seg.mk x47 x48)] z53 ((dn .i64 z51 1) == 1) (aJ.mk 0 0 [])).Name) ((au.mk z50 x31 [(Seg.mk x47 x48)] z53 ((dn .i64 z51 1) == 1) (aJ.mk 0 0 [])).Parent) ((au.mk z50 x31 [(Seg.mk x47 x48)] z53 ((dn .i64 z51 1) == 1) (aJ.mk 0 0 [])).eT) ((au.mk z50 x31 [(Seg.mk x47 x48)] z53 ((dn .i64 z51 1) == 1) (aJ.mk 0 0 [])).aG) ((au.mk z50 x31 [(Seg.mk x47 x48)] z53 ((dn .i64 z51 1) == 1) (aJ.mk 0 0 [])).iK) (aJ.mk x66 x67 x68)).eT).map bC) false)),(.d (.int .i64 (au.mk ((au.mk z50 x31 [(Seg.mk x47 x48)] z53 ((dn .i64 z51 1) == 1) (aJ.mk 0 0 [])).Name) ((au.mk z50 x31 [(Seg.mk x47 x48)] z53 ((dn .i64 z51 1) == 1) (aJ.mk 0 0 [])).Parent) ((au.mk z50 x31 [(Seg.mk x47 x48)] z53 ((dn .i64 z51 1) == 1) (aJ.mk 0 0 [])).eT) ((au.mk z50 x31 [(Seg.mk x47 x48)] z53 ((dn .i64 z51 1) == 1) (aJ.mk 0 0 [])).aG) ((au.mk z50 x31 [(Seg.mk x47 x48)] z53 ((dn .i64 z51 1) == 1) (aJ.mk 0 0 [])).iK) (aJ.mk x66 x67 x68)).aG)),(.d (.bool (au.mk ((au.mk z50 x31 [(Seg.mk x47 x48)] z53 ((dn .i64 z51 1) == 1) (aJ.mk 0 0 [])).Name) ((au.mk z50 x31 [(Seg.mk x47 x48)] z53 ((dn .i64 z51 1) == 1) (aJ.mk 0 0 [])).Parent) ((au.mk z50 x31 [(Seg.mk x47 x48)] z53 ((dn .i64 z51 1) == 1) (aJ.mk 0 0 [])).eT) ((au.mk z50 x31 [(Seg.mk x47 x48)] z53 ((dn .i64 z51 1) == 1) (aJ.mk 0 0 [])).aG) ((au.mk z50 x31 [(Seg.mk x47 x48)] z53 ((dn .i64 z51 1) == 1) (aJ.mk 0 0 [])).iK) (aJ.mk x66 x67 x68)).iK)),(.d (.int .i64 (au.mk ((au.mk z50 x31 [(Seg.mk x47 x48)] z53 ((dn .i64 z51 1) == 1) (aJ.mk 0 0 [])).Name) ((au.mk z50 x31 [(Seg.mk x47 x48)] z53 ((dn .i64 z51 1) == 1) (aJ.mk 0 0 [])).Parent) ((au.mk z50 x31 [(Seg.mk x47 x48)] z53 ((dn .i64 z51 1) == 1) (aJ.mk 0 0 [])).eT) ((au.mk z50 x31 [(Seg.mk x47 x48)] z53 ((dn .i64 z51 1) == 1) (aJ.mk 0 0 [])).aG) ((au.mk z50 x31 [(Seg.mk x47 x48)] z53 ((dn .i64 z51 1) == 1) (aJ.mk 0 0 [])).iK) (aJ.mk x66 x67 x68)).aJ.Kind)),(.d (.int .i64 (au.mk ((au.mk z50 x31 [(Seg.mk x47 x48)] z53 ((dn .i64 z51 1) == 1) (aJ.mk 0 0 [])).Name) ((au.mk z50 x31 [(Seg.mk x47 x48)] z53 ((dn .i64 z51 1) == 1) (aJ.mk 0 0 [])).Parent) ((au.mk z50 x31 [(Seg.mk x47 x48)] z53 ((dn .i64 z51 1) == 1) (aJ.mk 0 0 [])).eT) ((au.mk z50 x31 [(Seg.mk x47 x48)] z53 ((dn .i64 z51 1) == 1) (aJ.mk 0 0 [])).aG) ((au.mk z50 x31 [(Seg.mk x47 x48)] z53 ((dn .i64 z51 1) == 1) (aJ.mk 0 0 [])).iK) (aJ.mk x66 x67 x68)).aJ.Flag)),(.d (.str (au.mk ((au.mk z50 x31 [(Seg.mk x47 x48)] z53 ((dn .i64 z51 1) == 1) (aJ.mk 0 0 [])).Name) ((au.mk z50 x31 [(Seg.mk x47 x48)] z53 ((dn .i64 z51 1) == 1) (aJ.mk 0 0 [])).Parent) ((au.mk z50 x31 [(Seg.mk x47 x48)] z53 ((dn .i64 z51 1) == 1) (aJ.mk 0 0 [])).eT) ((au.mk z50 x31 [(Seg.mk x47 x48)] z53 ((dn .i64 z51 1) == 1) (aJ.mk 0 0 [])).aG) ((au.mk z50 x31 [(Seg.mk x47 x48)] z53 ((dn .i64 z51 1) == 1) (aJ.mk 0 0 [])).iK) (aJ.mk x66 x67 x68)).aJ.To))]]) H65 rfl xq pO oL vN kM rfl (by decide) (.cons (iO (au.bu _)) rfl .nil) rfl (.cons (by rw [au.cells]; exact .refl _) .nil) (fun z=>au.len z) (fun x=>au.flat x) rfl rfl (fun v70 S71 H72=>?_)
      obtain ⟨SF6,HF6,hgF6⟩:=H72.freeze (dI E).toObjOk (i:=0) (l':=[.box b59 [(.d (.str (au.mk z50 x31 [(Seg.mk x47 x48)] z53 ((dn .i64 z51 1) == 1) (aJ.mk 0 0 [])).Name)),(.d (.int .i64 (au.mk z50 x31 [(Seg.mk x47 x48)] z53 ((dn .i64 z51 1) == 1) (aJ.mk 0 0 [])).Parent)),(.d (.sl (((au.mk z50 x31 [(Seg.mk x47 x48)] z53 ((dn .i64 z51 1) == 1) (aJ.mk 0 0 [])).eT).map bC) false)),(.d (.int .i64 (au.mk z50 x31 [(Seg.mk x47 x48)] z53 ((dn .i64 z51 1) == 1) (aJ.mk 0 0 [])).aG)),(.d (.bool (au.mk z50 x31 [(Seg.mk x47 x48)] z53 ((dn .i64 z51 1) == 1) (aJ.mk 0 0 [])).iK)),(.d (.int .i64 x66)),(.d (.int .i64 x67)),(.d (.str x68))],.box b2 [(.d (.sl ((a1.Parents).map (D.int .i64)) false)),(.d (.sl ((a1.Kinds).map (D.int .i64)) false)),(.d (.sl ((a1.Texts).map (D.int .i64)) false)),(.d (.sl ((a1.Rules).map (D.int .i64)) false)),(.d (.sl ((a1.Flags).map (D.int .i64)) false)),(.d (.sl ((a1.fK).map (D.int .i64)) false)),(.d (.sl ((a1.Comps).map (D.int .i64)) false))],.row 8 v20 ((x19).map aB),.grow v22 ((x21).map (D.int .i64))]) rfl (.same (.same (.same (.same .nil))))
      refine ae.ghost (hgF6 _ _ [(1,(.ptr b2 0 0)),(3,(.d (.sl ((([[97],[98],[105,116,101,109],[122],[49],[108,105,115,116]]:List Str)).map D.str) true))),(4,v20),(5,v22),(6,(.d (.int .i64 x23))),(8,(.d (.int .i64 x35))),(11,(.ptr b59 0 0)),(150,v20),(151,(.d (aB (au.mk ((au.mk z50 x31 [(Seg.mk x47 x48)] z53 ((dn .i64 z51 1) == 1) (aJ.mk 0 0 [])).Name) ((au.mk z50 x31 [(Seg.mk x47 x48)] z53 ((dn .i64 z51 1) == 1) (aJ.mk 0 0 [])).Parent) ((au.mk z50 x31 [(Seg.mk x47 x48)] z53 ((dn .i64 z51 1) == 1) (aJ.mk 0 0 [])).eT) ((au.mk z50 x31 [(Seg.mk x47 x48)] z53 ((dn .i64 z51 1) == 1) (aJ.mk 0 0 [])).aG) ((au.mk z50 x31 [(Seg.mk x47 x48)] z53 ((dn .i64 z51 1) == 1) (aJ.mk 0 0 [])).iK) (aJ.mk x66 x67 x68))))),(152,(.d (.sl (([(au.mk ((au.mk z50 x31 [(Seg.mk x47 x48)] z53 ((dn .i64 z51 1) == 1) (aJ.mk 0 0 [])).Name) ((au.mk z50 x31 [(Seg.mk x47 x48)] z53 ((dn .i64 z51 1) == 1) (aJ.mk 0 0 [])).Parent) ((au.mk z50 x31 [(Seg.mk x47 x48)] z53 ((dn .i64 z51 1) == 1) (aJ.mk 0 0 [])).eT) ((au.mk z50 x31 [(Seg.mk x47 x48)] z53 ((dn .i64 z51 1) == 1) (aJ.mk 0 0 [])).aG) ((au.mk z50 x31 [(Seg.mk x47 x48)] z53 ((dn .i64 z51 1) == 1) (aJ.mk 0 0 [])).iK) (aJ.mk x66 x67 x68))]).map aB) false)))] (.cons rfl (.refl _) (.cons rfl (.refl _) (.cons rfl (.refl _) (.cons rfl (.refl _) (.cons rfl (.refl _) (.cons rfl (.refl _) (.cons rfl (.refl _) (.cons rfl (.refl _) (.cons rfl (.refl _) (.it rfl .nil))))))))))) ?_
      obtain ⟨z73,hzz73,h⟩:=bind_some h
      refine ae.nU (xs:=(x19).map aB) (ys:=([(au.mk ((au.mk z50 x31 [(Seg.mk x47 x48)] z53 ((dn .i64 z51 1) == 1) (aJ.mk 0 0 [])).Name) ((au.mk z50 x31 [(Seg.mk x47 x48)] z53 ((dn .i64 z51 1) == 1) (aJ.mk 0 0 [])).Parent) ((au.mk z50 x31 [(Seg.mk x47 x48)] z53 ((dn .i64 z51 1) == 1) (aJ.mk 0 0 [])).eT) ((au.mk z50 x31 [(Seg.mk x47 x48)] z53 ((dn .i64 z51 1) == 1) (aJ.mk 0 0 [])).aG) ((au.mk z50 x31 [(Seg.mk x47 x48)] z53 ((dn .i64 z51 1) == 1) (aJ.mk 0 0 [])).iK) (aJ.mk x66 x67 x68))]).map aB) (zs:=(z73).map aB) HF6 rfl rfl rfl (i:=2) rfl kM rfl xq GK pO (eD hzz73) J6 rfl (bK (enc:=aB) (fun z=>(au.len z).trans kM.symm) _) (qd (fun x=>au.flat x) _) rfl GV rfl (iJ hzz73) (fun v74 S75 H76=>?_)
      refine ae.val rfl (aj rfl) rfl ?_
      refine ae.nil ?_
      refine ax.region (dI E) rfl ?_
      refine ae.val rfl (ah rfl) rfl ?_
      refine ae.val rfl (ah rfl) rfl ?_
      refine ae.val rfl (aO (vs:=[(.d (.int .i64 x35))]) (ds:=[(.int .i64 x35)]) qC ku ji DU pI rfl (by decide) (.cons rfl rfl .nil) rfl (by intro d hd; simp only [List.mem_cons,List.not_mem_nil,or_false] at hd; rcases hd with rfl <;> rfl) rfl) rfl ?_
      obtain ⟨z77,hzz77,h⟩:=bind_some h
      refine ae.append (xs:=(x21).map (D.int .i64)) (ys:=([x35]).map (D.int .i64)) (zs:=(z77).map (D.int .i64)) H76 rfl rfl rfl (i:=3) rfl rfl qC Jv ku (eD hzz77) Kj rfl (bK (enc:=(D.int .i64)) (fun _=>pI.symm) _) (bK (enc:=(D.int .i64)) (fun _=>pI.symm) _) J9 rfl (iJ hzz77) (fun v78 S79 H80=>?_)
      refine ae.val rfl (aj rfl) rfl ?_
      refine ae.nil ?_
      refine ax.region (dI E) rfl ?_
      refine ae.val rfl (ah rfl) rfl ?_
      refine ae.val rfl (ay rfl rfl cu) rfl ?_
      refine ae.val rfl (aj rfl) rfl ?_
      refine ae.nil ?_
      exact ⟨⟨z73,v74,z77,v78,(IntKind.wrap .i64 (x23 + 1))⟩,_,_,S79,.refl _ _,.refl _,(aa.r rfl (aa.r rfl (aa.r rfl (aa.r rfl (aa.r rfl aa.nil))))),H80.sl [1,2,3] rfl rfl,h⟩
     refine ax.seq ?_
     refine ax.region (dI E) rfl ?_
     refine ae.val rfl (ai rfl Hf lK rfl) rfl ?_
     refine ae.val rfl (av H63 (i:=2) rfl rfl (aC lX rfl)) rfl ?_
     refine ae.val rfl (ah rfl) rfl ?_
     obtain ⟨z81,hzz81,h⟩:=bind_some h
     refine ae.ret rfl (aA rfl rfl) (bF E _ _ _ _ hzz81 _ _ (aD.eq (aD.eq .nil))) rfl ?_
     refine ae.val rfl (ay rfl rfl uB) rfl ?_
     refine ae.val rfl (ay rfl rfl dS) rfl ?_
     refine ae.nil ?_
     refine ax.cond rfl (fun hb82=>?_) (fun hb82=>?_)
     ·
      replace h:=dK hb82 h
      refine ax.seq ?_
      obtain ⟨z83,hzz83,h⟩:=bind_some h
      obtain ⟨z84,hzz84,h⟩:=bind_some h
      obtain ⟨z85,hzz85,h⟩:=bind_some h
      obtain ⟨z86,hzz86,h⟩:=bind_some h
      obtain ⟨z87,hzz87,h⟩:=bind_some h
      refine ax.qL (dI E) rO Ni [(1,none),(3,none),(4,none),(5,none),(6,none),(8,none),(11,none)] (by kernel_rfl) [13] (by decide) [some (.ptr b2 0 3),some (.d (.sl ((a1.Rules).map (D.int .i64)) false)),some (.d (.int .i64 x23)),some (.d (.int .i64 z83)),some (.d (.int .i64 z84)),some (.d (.int .i64 z85)),some (.ptr b2 0 4),some (.d (.sl ((a1.Flags).map (D.int .i64)) false)),some (.d (.int .i64 x23)),some (.d (.int .i64 z86)),some (.d (.int .i64 z87)),some (.d (mR (aJ.mk z85 z87 []))),some (.ptr b59 0 5),none] ?_
      refine ⟨[0,1,2,3,4,5,6,7,8,9,10,11,12],by kernel_rfl,?_,_,_,rfl,rfl,.step ?_⟩
      ·
       refine .v rfl rfl rfl rfl (ai rfl Hf lK rfl) ?_
       refine .v rfl rfl rfl rfl (av H63 (i:=2) rfl rfl (aC lX rfl)) ?_
       refine .v rfl rfl rfl rfl (ah rfl) ?_
       refine .cons rfl rfl rfl (.step ?_) ?_
       ·
        refine ae.ret rfl (aA rfl rfl) (bF E _ _ _ _ hzz83 _ _ (aD.eq (aD.eq .nil))) rfl ?_
        exact ae.nil ⟨_,_,rfl,fun _ ht=>by cases ht; exact ⟨rfl,.refl _⟩⟩
       refine .v rfl rfl rfl rfl (ay rfl rfl (u7 hzz84)) ?_
       refine .cons rfl rfl rfl (.step ?_) ?_
       ·
        refine ae.ret rfl (aA rfl rfl) (aN E _ _ _ _ _ hzz85 _ _ (aD.eq (aD.eq (aD.eq .nil)))) rfl ?_
        exact ae.nil ⟨_,_,rfl,fun _ ht=>by cases ht; exact ⟨rfl,.refl _⟩⟩
       refine .v rfl rfl rfl rfl (ai rfl Gj lK rfl) ?_
       refine .v rfl rfl rfl rfl (av H63 (i:=2) rfl rfl (aC lX rfl)) ?_
       refine .v rfl rfl rfl rfl (ah rfl) ?_
       refine .cons rfl rfl rfl (.step ?_) ?_
       ·
        refine ae.ret rfl (aA rfl rfl) (bF E _ _ _ _ hzz86 _ _ (aD.eq (aD.eq .nil))) rfl ?_
        exact ae.nil ⟨_,_,rfl,fun _ ht=>by cases ht; exact ⟨rfl,.refl _⟩⟩
       refine .cons rfl rfl rfl (.step ?_) ?_
       ·
        refine ae.ret rfl (aA rfl rfl) (aN E _ _ _ _ _ hzz87 _ _ (aD.eq (aD.eq (aD.eq .nil)))) rfl ?_
        exact ae.nil ⟨_,_,rfl,fun _ ht=>by cases ht; exact ⟨rfl,.refl _⟩⟩
       refine .cons rfl rfl rfl (.step ?_) ?_
       ·
        refine ae.val rfl (bA (cs:=[(.d (.int .i64 z85)),(.d (.int .i64 z87)),(.d (.str []))]) MF rfl (vI) (bT rfl rfl rfl rfl (bT rfl rfl rfl rfl rfl))) rfl ?_
        refine ae.less (Less.agg' (d:=mR (aJ.mk z85 z87 [])) (ak.eq rfl (ak.eq rfl (ak.eq rfl .nil))) ((aJ.eq _).trans rfl)) ?_
        exact ae.nil ⟨_,_,rfl,fun _ ht=>by cases ht; exact ⟨rfl,.refl _⟩⟩
       refine .v rfl rfl rfl rfl (ai rfl u6 Ff rfl) ?_
       exact .nil
      refine ae.store H63 (i:=0) rfl rfl rfl rfl (aJ.bu _) rfl JP rfl Mw rfl rfl rfl (fun S90 H91=>?_)
      refine ae.nil ⟨_,.any,_,rfl,(fun _ ht=>by cases ht),_,(.q (.q (.q (.o (.w .any .nil))))),(fun _ ht=>by cases ht),?_⟩
      refine ⟨[],by kernel_rfl,?_,_,rfl,?_⟩
      ·
       exact .nil
      refine ax.seq ?_
      refine ax.region (dI E) rfl ?_
      refine ae.val rfl (ai rfl u6 Ff rfl) rfl ?_
      refine ae.val rfl (ai rfl qZ mg rfl) rfl ?_
      refine ae.val rfl (av H91 (i:=0) rfl rfl (aC ji rfl)) rfl ?_
      refine ae.val rfl (ay rfl rfl dS) rfl ?_
      refine ae.val rfl (ah rfl) rfl ?_
      refine ae.bL 5 134 (.d (.bool ((((aJ.mk z85 z87 []).Kind) == 3) || (((aJ.mk z85 z87 []).Kind) == 4)))) ?_ ?_
      ·
       rcases Bool.eq_false_or_eq_true ((((aJ.mk z85 z87 []).Kind) == 3)) with hB92 | hB92
       ·
        refine ae.bool hB92 ?_
        refine ae.no rfl rfl ?_
        refine ae.no rfl rfl ?_
        refine ae.no rfl rfl ?_
        refine ae.no rfl rfl ?_
        refine ae.val rfl (az (b:=true) rfl rfl) rfl ?_
        exact ae.nil ⟨_,rfl,(aa.put (aa.push rfl (aa.push rfl (aa.push rfl (aa.push rfl (aa.put (.refl _) (Less.eq (by rw [hB92]))))))) (Less.eq (by rw [hB92]; rw [Bool.true_or])))⟩
       refine ae.bool hB92 ?_
       refine ae.val rfl (ai rfl u6 Ff rfl) rfl ?_
       refine ae.val rfl (ai rfl qZ mg rfl) rfl ?_
       refine ae.val rfl (av H91 (i:=0) rfl rfl (aC ji rfl)) rfl ?_
       refine ae.val rfl (ay rfl rfl dS) rfl ?_
       refine ae.val rfl (az (b:=false) rfl rfl) rfl ?_
       exact ae.nil ⟨_,rfl,(aa.put (aa.push rfl (aa.push rfl (aa.push rfl (aa.push rfl (aa.put (.refl _) (Less.eq (by rw [hB92]))))))) (Less.eq (by rw [hB92]; rw [Bool.false_or])))⟩
      refine ae.nil ?_
      refine ax.cond rfl (fun hb93=>?_) (fun hb93=>?_)
      ·
       replace h:=dK hb93 h
       refine ax.region (dI E) rfl ?_
       refine ae.val rfl (ah rfl) rfl ?_
       refine ae.val rfl (ai rfl Gj lK rfl) rfl ?_
       refine ae.val rfl (av H91 (i:=2) rfl rfl (aC lX rfl)) rfl ?_
       refine ae.val rfl (ah rfl) rfl ?_
       refine ae.val rfl (ay rfl rfl cu) rfl ?_
       obtain ⟨z94,hzz94,h⟩:=bind_some h
       refine ae.ret rfl (aA rfl rfl) (bF E _ _ _ _ hzz94 _ _ (aD.eq (aD.eq .nil))) rfl ?_
       refine ae.val rfl (ah rfl) rfl ?_
       refine ae.val rfl (jc H91 (i:=3) rfl rfl uL) rfl ?_
       refine ae.val rfl (ay rfl rfl ig) rfl ?_
       obtain ⟨z95,hzz95,h⟩:=bind_some h
       refine ae.ret rfl (aA rfl rfl) (aN E _ _ _ _ _ hzz95 _ _ (aD.eq (aD.eq (aD.eq .nil)))) rfl ?_
       obtain ⟨z96,hzz96,h⟩:=bind_some h
       refine ae.iA (enc:=aB) H91 rfl (i:=3) rfl rfl rfl hzz96 pO oL ((au.len _).trans kM.symm) rfl ?_
       refine ae.jG H91 (i:=3) rfl hzz96 rfl rfl yE Bz rfl rfl ?_
       refine ae.lQ H91 rfl (i:=3) rfl hzz96 rfl (by rw [au.cells]; exact dG vW rfl) rfl ?_
       refine ae.val rfl (ai rfl u6 Ff rfl) rfl ?_
       refine ae.val rfl (ai rfl Dz Bz rfl) rfl ?_
       refine ae.store H91 (i:=0) rfl rfl rfl rfl rfl rfl D9 rfl HY rfl rfl rfl (fun S97 H98=>?_)
       refine ae.nil ?_
       exact ⟨⟨(aJ.mk z85 z87 []).Kind,(aJ.mk z85 z87 []).Flag,z96.Name⟩,_,_,S97,.refl _ _,.refl _,(aa.r rfl (aa.r rfl (aa.r rfl (aa.r rfl (aa.r rfl (aa.r rfl (aa.r rfl aa.nil))))))),H98.sl [0,2,3,4] rfl rfl,h⟩
      replace h:=dJ hb93 h
      refine ax.skip ?_
      exact ⟨⟨(aJ.mk z85 z87 []).Kind,(aJ.mk z85 z87 []).Flag,(aJ.mk z85 z87 []).To⟩,_,_,S90,.refl _ _,.refl _,(aa.r rfl (aa.r rfl (aa.r rfl (aa.r rfl (aa.r rfl (aa.r rfl (aa.r rfl aa.nil))))))),H91.sl [0,2,3,4] rfl rfl,h⟩
     replace h:=dJ hb82 h
     refine ax.skip ?_
     exact ⟨⟨(au.mk z50 x31 [(Seg.mk x47 x48)] z53 ((dn .i64 z51 1) == 1) (aJ.mk 0 0 [])).aJ.Kind,(au.mk z50 x31 [(Seg.mk x47 x48)] z53 ((dn .i64 z51 1) == 1) (aJ.mk 0 0 [])).aJ.Flag,(au.mk z50 x31 [(Seg.mk x47 x48)] z53 ((dn .i64 z51 1) == 1) (aJ.mk 0 0 [])).aJ.To⟩,_,_,S62,.refl _ _,.refl _,(aa.r rfl (aa.r rfl (aa.r rfl (aa.r rfl (aa.r rfl (aa.r rfl (aa.r rfl aa.nil))))))),H63.sl [0,2,3,4] rfl rfl,h⟩
    refine ax.seq ?_
    refine ax.region (dI E) rfl ?_
    refine ae.val rfl (ai rfl ui mg rfl) rfl ?_
    refine ae.val rfl (av H44 (i:=0) rfl rfl (aC ji rfl)) rfl ?_
    refine ae.val rfl (ay rfl rfl oK) rfl ?_
    refine ae.nil ?_
    refine ax.cond rfl (fun hb99=>?_) (fun hb99=>?_)
    ·
     replace h:=dK hb99 h
     refine ax.region (dI E) rfl ?_
     refine ae.val rfl (ah rfl) rfl ?_
     refine ae.val rfl (ai rfl Jn lK rfl) rfl ?_
     refine ae.val rfl (av H44 (i:=1) rfl rfl (aC lX rfl)) rfl ?_
     refine ae.val rfl (ah rfl) rfl ?_
     obtain ⟨z100,hzz100,h⟩:=bind_some h
     refine ae.ret rfl (aA rfl rfl) (bF E _ _ _ _ hzz100 _ _ (aD.eq (aD.eq .nil))) rfl ?_
     refine ae.val rfl (ah rfl) rfl ?_
     refine ae.val rfl (bz rfl GL) rfl ?_
     refine ae.val rfl (ay rfl rfl ig) rfl ?_
     obtain ⟨z101,hzz101,h⟩:=bind_some h
     refine ae.ret rfl (aA rfl rfl) (aN E _ _ _ _ _ hzz101 _ _ (aD.eq (aD.eq (aD.eq .nil)))) rfl ?_
     obtain ⟨z102,hzz102,h⟩:=bind_some h
     refine ae.val rfl (df rfl rfl (dQ (enc:=D.str) hzz102 yB HY (((fun _=>rfl) _).trans D9.symm))) rfl ?_
     refine ae.val rfl (bD rfl (dG vW rfl)) rfl ?_
     refine ae.val rfl (bA (cs:=[(.d (.int .i64 0)),(.d (.str z102))]) wU rfl (kE) (bT rfl rfl rfl rfl rfl)) rfl ?_
     refine ae.less (Less.agg' (d:=bC (Seg.mk 0 z102)) (ak.eq rfl (ak.eq rfl .nil)) ((Seg.eq _).trans rfl)) ?_
     refine ae.store H44 (i:=0) rfl rfl rfl rfl (Seg.bu _) rfl qc rfl Fz rfl rfl rfl (fun S103 H104=>?_)
     refine ae.nil ?_
     exact ⟨⟨(Seg.mk 0 z102).Kind,(Seg.mk 0 z102).Text⟩,_,_,S103,.refl _ _,.refl _,(aa.r rfl (aa.r rfl (aa.r rfl (aa.r rfl (aa.r rfl (aa.r rfl (aa.r rfl (aa.r rfl (aa.r rfl aa.nil))))))))),H104.sl [0,1,2,3] rfl rfl,h⟩
    replace h:=dJ hb99 h
    refine ax.skip ?_
    exact ⟨⟨(Seg.mk (IntKind.wrap .i64 (z38 - 1)) z39).Kind,(Seg.mk (IntKind.wrap .i64 (z38 - 1)) z39).Text⟩,_,_,S43,.refl _ _,.refl _,(aa.r rfl (aa.r rfl (aa.r rfl (aa.r rfl (aa.r rfl (aa.r rfl (aa.r rfl (aa.r rfl (aa.r rfl aa.nil))))))))),H44.sl [0,1,2,3] rfl rfl,h⟩
   refine ax.seq ?_
   refine ax.region (dI E) rfl ?_
   refine ae.val rfl (ah rfl) rfl ?_
   refine ae.val rfl (ay rfl rfl gM) rfl ?_
   refine ae.nil ?_
   refine ax.cond rfl (fun hb105=>?_) (fun hb105=>?_)
   ·
    replace h:=dK hb105 h
    refine ax.region (dI E) rfl ?_
    refine ae.val rfl (ah rfl) rfl ?_
    refine ae.val rfl (ah rfl) rfl ?_
    obtain ⟨z106,hzz106,h⟩:=bind_some h
    refine ae.val rfl (df rfl rfl (qo (enc:=(D.int .i64)) H30 (i:=2) rfl hzz106 ku zi (((fun _=>rfl) _).trans pI.symm))) rfl ?_
    refine ae.val rfl (bD rfl (dG ji rfl)) rfl ?_
    refine ae.val rfl (ay rfl rfl cu) rfl ?_
    refine ae.val rfl (aj rfl) rfl ?_
    refine ae.nil ?_
    exact ⟨(IntKind.wrap .i64 (z106 + 1)),_,_,S29,.refl _ _,.refl _,(aa.r rfl (aa.r rfl (aa.r rfl (aa.r rfl (aa.r rfl (aa.r rfl (aa.r rfl aa.nil))))))),H30.sl [0,1,2] rfl rfl,h⟩
   replace h:=dJ hb105 h
   refine ax.skip ?_
   exact ⟨1,_,_,S29,.refl _ _,.refl _,(aa.r rfl (aa.r rfl (aa.r rfl (aa.r rfl (aa.r rfl (aa.r rfl (aa.r rfl aa.nil))))))),H30.sl [0,1,2] rfl rfl,h⟩
  refine ax.seq ?_
  refine ax.region (dI E) rfl ?_
  refine ae.val rfl (ah rfl) rfl ?_
  refine ae.val rfl (ay rfl rfl gM) rfl ?_
  refine ae.val rfl (ah rfl) rfl ?_
  obtain ⟨z108,hzz108,h⟩:=bind_some h
  refine ae.bL 14 52 (.d (.bool z108)) ?_ ?_
  ·
   rcases Bool.eq_false_or_eq_true ((decide (0 ≤ z28))) with hB107 | hB107
   ·
    refine ae.bool hB107 ?_
    replace hzz108:=dK hB107 hzz108
    refine ae.val rfl (ah rfl) rfl ?_
    refine ae.val rfl (ah rfl) rfl ?_
    obtain ⟨z109,hzz109,hzz108⟩:=bind_some hzz108
    refine ae.val rfl (df rfl rfl (qo (enc:=(D.int .i64)) H18 (i:=2) rfl hzz109 ku zi (((fun _=>rfl) _).trans pI.symm))) rfl ?_
    refine ae.val rfl (bD rfl (dG ji rfl)) rfl ?_
    refine ae.val rfl (ay rfl rfl jb) rfl ?_
    refine ae.val rfl (ah rfl) rfl ?_
    obtain ⟨z111,hzz111,hzz108⟩:=bind_some hzz108
    refine ae.bL 7 51 (.d (.bool z111)) ?_ ?_
    ·
     rcases Bool.eq_false_or_eq_true ((decide (3 < z109))) with hB110 | hB110
     ·
      refine ae.bool hB110 ?_
      refine ae.no rfl rfl ?_
      refine ae.no rfl rfl ?_
      refine ae.no rfl rfl ?_
      refine ae.no rfl rfl ?_
      refine ae.no rfl rfl ?_
      refine ae.no rfl rfl ?_
      refine ae.val rfl (az (b:=true) rfl rfl) rfl ?_
      replace hzz111:=dK hB110 hzz111
      cases hzz111
      exact ae.nil ⟨_,rfl,(aa.put (aa.push rfl (aa.push rfl (aa.push rfl (aa.push rfl (aa.push rfl (aa.push rfl (aa.put (.refl _) (Less.eq (by rw [hB110]))))))))) (.refl _))⟩
     refine ae.bool hB110 ?_
     replace hzz111:=dJ hB110 hzz111
     refine ae.val rfl (ah rfl) rfl ?_
     refine ae.val rfl (ah rfl) rfl ?_
     obtain ⟨z112,hzz112,hzz111⟩:=bind_some hzz111
     refine ae.iA (enc:=aB) H18 rfl (i:=1) rfl rfl rfl hzz112 pO oL ((au.len _).trans kM.symm) rfl ?_
     refine ae.jG H18 (i:=1) rfl hzz112 rfl rfl A8 Ii rfl rfl ?_
     refine ae.lQ H18 rfl (i:=1) rfl hzz112 rfl (by rw [au.cells]; exact dG Jl rfl) rfl ?_
     obtain ⟨z113,hzz113,hzz111⟩:=bind_some hzz111
     refine ae.ret rfl (aA rfl rfl) (sj E _ _ _ hzz113 _ _ (aD.eq .nil)) rfl ?_
     refine ae.val rfl (az (b:=false) rfl rfl) rfl ?_
     cases hzz111
     exact ae.nil ⟨_,rfl,(aa.put (aa.push rfl (aa.push rfl (aa.push rfl (aa.push rfl (aa.push rfl (aa.push rfl (aa.put (.refl _) (Less.eq (by rw [hB110]))))))))) (.refl _))⟩
    refine ae.val rfl (az (b:=true) rfl rfl) rfl ?_
    cases hzz108
    exact ae.nil ⟨_,rfl,(aa.put (aa.push rfl (aa.push rfl (aa.push rfl (aa.push rfl (aa.push rfl (aa.push rfl (aa.push rfl (aa.put (.refl _) (Less.eq (by rw [hB107])))))))))) (.refl _))⟩
   refine ae.bool hB107 ?_
   refine ae.no rfl rfl ?_
   refine ae.no rfl rfl ?_
   refine ae.no rfl rfl ?_
   refine ae.no rfl rfl ?_
   refine ae.no rfl rfl ?_
   refine ae.no rfl rfl ?_
   refine ae.no rfl rfl ?_
   refine ae.no rfl rfl ?_
   refine ae.no rfl rfl ?_
   refine ae.no rfl rfl ?_
   refine ae.no rfl rfl ?_
   refine ae.no rfl rfl ?_
   refine ae.no rfl rfl ?_
   refine ae.val rfl (az (b:=false) rfl rfl) rfl ?_
   replace hzz108:=dJ hB107 hzz108
   cases hzz108
   exact ae.nil ⟨_,rfl,(aa.put (aa.push rfl (aa.push rfl (aa.push rfl (aa.push rfl (aa.push rfl (aa.push rfl (aa.push rfl (aa.push rfl (aa.push rfl (aa.push rfl (aa.push rfl (aa.push rfl (aa.push rfl (aa.put (.refl _) (Less.eq (by rw [hB107])))))))))))))))) (.refl _))⟩
  refine ae.nil ?_
  refine ax.cond rfl (fun hb114=>?_) (fun hb114=>?_)
  ·
   replace h:=dK hb114 h
   refine ax.region (dI E) rfl ?_
   refine ae.val rfl (aj rfl) rfl ?_
   refine ae.nil ?_
   exact ⟨(-1),_,_,S17,.refl _ _,.refl _,(aa.r rfl (aa.r rfl (aa.r rfl (aa.r rfl (aa.r rfl (aa.r rfl aa.nil)))))),H18.sl [0,1,2] rfl rfl,h⟩
  replace h:=dJ hb114 h
  refine ax.skip ?_
  exact ⟨z28,_,_,S17,.refl _ _,.refl _,(aa.r rfl (aa.r rfl (aa.r rfl (aa.r rfl (aa.r rfl (aa.r rfl aa.nil)))))),H18.sl [0,1,2] rfl rfl,h⟩
 replace h:=dJ hb26 h
 refine ax.exit ?_
 refine ax.seq ?_
 refine ax.region (dI E) rfl ?_
 refine ae.val rfl (ah rfl) rfl ?_
 refine ae.val rfl (aj rfl) rfl ?_
 refine ae.nil ?_
 have hr:=Option.some.inj h
 subst hr
 exact ax.ret ⟨_,rfl,rfl,_,_,.refl _,rfl,H18.sl [1] rfl rfl⟩
set_option maxRecDepth 20000 in
set_option maxHeartbeats 4000000 in
theorem lW:∀ (n:Nat) (a1:aF) (r:aF),bg n a1=some r→bU R cfg.P 48 [(aH a1)] (.d (aH r))
 | 0,a1,r,h=>by simp [bg] at h
 | n + 1,a1,r,h=>by
  have ih:=lW n
  unfold bg at h
  refine bU.of_wp E.obj.toObjOk (C:=cfg) Tryd.func48 rfl KG rfl ?_
  have H0:Has aI aI []:=Has.pure
  refine ax.seq ?_
  refine ax.region E.obj rfl ?_
  refine ae.box H0 rfl rfl rfl (aF.bu _) rfl (fun b2 S3 H4=>?_)
  refine ae.alloc H4 rfl wM jV rfl rfl (fun b5 S6 H7=>?_)
  refine ae.nil ?_
  refine ax.seq ?_
  refine ax.region E.obj rfl ?_
  refine ae.val rfl (aj rfl) rfl ?_
  refine ae.nil ?_
  refine ax.seq ?_
  refine ax.seq ?_
  refine ax.region E.obj rfl ?_
  refine ae.val rfl (ai rfl jN qO rfl) rfl ?_
  refine ae.val rfl (av H7 (i:=1) rfl rfl (aC xu rfl)) rfl ?_
  refine ae.val rfl (bz rfl Bv) rfl ?_
  refine ae.val rfl (ah rfl) rfl ?_
  refine ae.nil ?_
  refine ax.block ?_
  have H43:=H7.CY
  refine nR.start (B:=aI) (α:=(List aF) × AV × Int) (fun k a=>aT (bg n) a1 k a.1 a.2.2=some r) (fun a=>[(1,(.ptr b2 0 0)),(2,(.ptr b5 0 0)),(3,a.2.1),(7,(.d (.sl ((a1.Kids).map aH) false))),(8,(.d (.int .i64 ((a1.Kids).length:Int)))),(9,(.d (.int .i64 a.2.2)))]) (fun a=>[.box b5 [(.d (.int .i64 0)),(.d (.int .i64 0)),(.d (.str [])),(.d (.str [])),(.d .aQ),(.d .aQ)],.box b2 [(.d (.int .i64 a1.Kind)),(.d (.int .i64 a1.N)),(.d (.str a1.Tag)),(.d (.str a1.Text)),(.d (.sl ((a1.bB).map aU) false)),(.d (.sl ((a1.Kids).map aH) false))],.grow a.2.1 ((a.1).map aH)]) ?_ ?_ n ⟨⟨[],(.d .aQ),0⟩,_,_,S6,.refl _ _,.refl _,(aa.r rfl (aa.r rfl (aa.r rfl (aa.r rfl (aa.r rfl (aa.r rfl aa.nil)))))),H43.sl [1,2,0] rfl rfl,h⟩
  ·
   intro a h; simp [aT] at h
  intro k20 a S15 H16 h
  obtain ⟨x17,v18,x19⟩:=a
  replace h:aT (bg n) a1 (k20 + 1) x17 x19=some r:=h
  replace H16:Has aI S15 [.box b5 [(.d (.int .i64 0)),(.d (.int .i64 0)),(.d (.str [])),(.d (.str [])),(.d .aQ),(.d .aQ)],.box b2 [(.d (.int .i64 a1.Kind)),(.d (.int .i64 a1.N)),(.d (.str a1.Tag)),(.d (.str a1.Text)),(.d (.sl ((a1.bB).map aU) false)),(.d (.sl ((a1.Kids).map aH) false))],.grow v18 ((x17).map aH)]:=H16
  unfold aT at h
  refine ax.seq ?_
  refine ax.region E.obj rfl ?_
  refine ae.val rfl (ay rfl rfl bQ) rfl ?_
  refine ae.nil ?_
  refine ax.seq ?_
  refine ax.cond rfl (fun hb21=>?_) (fun hb21=>?_)
  ·
   replace h:=dK hb21 h
   refine ax.skip ?_
   refine ax.join (B:=aI) (α:=(List aF) × AV) (fun a=>cB x19 (aT (bg n) a1 k20) a.1=some r) (fun a=>[(1,(.ptr b2 0 0)),(2,(.ptr b5 0 0)),(3,a.2),(7,(.d (.sl ((a1.Kids).map aH) false))),(8,(.d (.int .i64 ((a1.Kids).length:Int)))),(9,(.d (.int .i64 x19)))]) (fun a=>[.box b5 [(.d (.int .i64 0)),(.d (.int .i64 0)),(.d (.str [])),(.d (.str [])),(.d .aQ),(.d .aQ)],.box b2 [(.d (.int .i64 a1.Kind)),(.d (.int .i64 a1.N)),(.d (.str a1.Tag)),(.d (.str a1.Text)),(.d (.sl ((a1.bB).map aU) false)),(.d (.sl ((a1.Kids).map aH) false))],.grow a.2 ((a.1).map aH)]) ?_ ?_
   ·
    intro a S22 H23 h
    obtain ⟨x24,v25⟩:=a
    replace h:cB x19 (aT (bg n) a1 k20) x24=some r:=h
    replace H23:Has aI S22 [.box b5 [(.d (.int .i64 0)),(.d (.int .i64 0)),(.d (.str [])),(.d (.str [])),(.d .aQ),(.d .aQ)],.box b2 [(.d (.int .i64 a1.Kind)),(.d (.int .i64 a1.N)),(.d (.str a1.Tag)),(.d (.str a1.Text)),(.d (.sl ((a1.bB).map aU) false)),(.d (.sl ((a1.Kids).map aH) false))],.grow v25 ((x24).map aH)]:=H23
    unfold cB at h
    refine ax.region E.obj rfl ?_
    refine ae.val rfl (ay rfl rfl cu) rfl ?_
    refine ae.val rfl (ah rfl) rfl ?_
    refine ae.nil ?_
    exact ⟨⟨x24,v25,(IntKind.wrap .i64 (x19 + 1))⟩,_,_,S22,.refl _ _,.refl _,(aa.r rfl (aa.r rfl (aa.r rfl (aa.r rfl (aa.r rfl (aa.r rfl aa.nil)))))),H23.sl [0,1,2] rfl rfl,h⟩
   refine ax.block ?_
   refine ax.seq ?_
   refine ax.region E.obj rfl ?_
   obtain ⟨z27,hzz27,h⟩:=bind_some h
   refine ae.val rfl (df rfl rfl (dQ (enc:=aH) hzz27 nz nD ((aF.len _).trans eO.symm))) rfl ?_
   refine ae.val rfl (bD rfl (aF.jO jf eO)) rfl ?_
   refine ae.alloc H16 rfl wM jV rfl rfl (fun b28 S29 H30=>?_)
   refine ae.store H30 (i:=0) rfl rfl rfl rfl (aF.bu _) rfl eO rfl nD rfl rfl rfl (fun S31 H32=>?_)
   refine ae.nil ?_
   refine ax.seq ?_
   refine ax.region E.obj rfl ?_
   refine ae.val rfl (ai rfl j3 mg rfl) rfl ?_
   refine ae.val rfl (av H32 (i:=0) rfl rfl (aC ji rfl)) rfl ?_
   refine ae.val rfl (ay rfl rfl jA) rfl ?_
   refine ae.nil ?_
   refine ax.cond rfl (fun hb33=>?_) (fun hb33=>?_)
   ·
    replace h:=dK hb33 h
    refine ax.region E.obj rfl ?_
    refine ae.val rfl (ah rfl) rfl ?_
    refine ae.val rfl (av H32 (i:=0) rfl rfl (bf jf eO rfl)) rfl ?_
    refine ae.less (Less.agg' (d:=aH z27) (ak.eq rfl (ak.eq rfl (ak.eq rfl (ak.eq rfl (ak.eq rfl (ak.eq rfl .nil)))))) ((aF.eq _).trans rfl)) ?_
    obtain ⟨z34,hzz34,h⟩:=bind_some h
    refine ae.ret rfl (aA rfl rfl) (ih _ _ hzz34 _ _ (aD.eq .nil)) rfl ?_
    refine ae.val rfl (aO (vs:=[(.d (aH z34))]) (ds:=[(aH z34)]) xY nz jf jV eO rfl (by decide) (.cons rfl (aF.len _) .nil) rfl (by intro d hd; simp only [List.mem_cons,List.not_mem_nil,or_false] at hd; rcases hd with rfl <;> exact aF.agg _) rfl) rfl ?_
    obtain ⟨z35,hzz35,h⟩:=bind_some h
    refine ae.append (xs:=(x17).map aH) (ys:=([z34]).map aH) (zs:=(z35).map aH) H32 rfl rfl rfl (i:=3) rfl rfl xY Gm nz (eD hzz35) EP rfl (bK (enc:=aH) (fun z=>(aF.len z).trans eO.symm) _) (bK (enc:=aH) (fun z=>(aF.len z).trans eO.symm) _) G6 rfl (iJ hzz35) (fun v36 S37 H38=>?_)
    refine ae.val rfl (aj rfl) rfl ?_
    refine ae.nil ?_
    exact ⟨⟨z35,v36⟩,_,_,S37,.refl _ _,.refl _,(aa.r rfl (aa.r rfl (aa.r rfl (aa.r rfl (aa.r rfl (aa.r rfl aa.nil)))))),H38.sl [1,2,3] rfl rfl,h⟩
   replace h:=dJ hb33 h
   refine ax.skip ?_
   exact ⟨⟨x17,v18⟩,_,_,S31,.refl _ _,.refl _,(aa.r rfl (aa.r rfl (aa.r rfl (aa.r rfl (aa.r rfl (aa.r rfl aa.nil)))))),H32.sl [1,2,3] rfl rfl,h⟩
  replace h:=dJ hb21 h
  refine ax.exit ?_
  refine ax.seq ?_
  refine ax.region E.obj rfl ?_
  refine ae.val rfl (ah rfl) rfl ?_
  refine ae.val rfl (ai rfl jN qO rfl) rfl ?_
  refine ae.store H16 (i:=1) rfl rfl rfl rfl (iq (H16.at (i:=2) rfl)).2.2.2.2 rfl DC (iq (H16.at (i:=2) rfl)).2.2.2.1 Dc rfl rfl rfl (fun S39 H40=>?_)
  refine ae.nil ?_
  refine ax.seq ?_
  refine ax.region E.obj rfl ?_
  refine ae.val rfl (av H40 (i:=1) rfl rfl (bf jf eO rfl)) rfl ?_
  refine ae.less (Less.agg' (d:=aH (aF.mk a1.Kind a1.N a1.Tag a1.Text a1.bB x17)) (ak.eq rfl (ak.eq rfl (ak.eq rfl (ak.eq rfl (ak.eq rfl (ak.grow H40 (i:=2) rfl .nil)))))) ((aF.eq _).trans rfl)) ?_
  refine ae.store H40 (i:=0) rfl rfl rfl rfl (aF.bu _) rfl eO rfl nD rfl rfl rfl (fun S41 H42=>?_)
  refine ae.nil ?_
  have hr:=Option.some.inj h
  subst hr
  exact ax.ret ⟨_,gq H42 (i:=0) rfl rfl rfl (bf jf eO rfl),rfl,fE (aD.ou (d:=aH (aF.mk a1.Kind a1.N a1.Tag a1.Text a1.bB x17)) (ak.eq rfl (ak.eq rfl (ak.eq rfl (ak.eq rfl (ak.eq rfl (ak.eq rfl .nil)))))) ((aF.eq _).trans rfl))⟩
set_option maxRecDepth 20000 in
set_option maxHeartbeats 4000000 in
theorem p9:∀ (n:Nat) (a1:aF) (r:aF),bg n a1=some r→lT R cfg.P 48 [(aH a1)] (fun v l=>∃ w5,v=Ev.gP [.d (.int .i64 r.Kind),.d (.int .i64 r.N),.d (.str r.Tag),.d (.str r.Text),.d (.sl ((r.bB).map aU) false),w5]∧l=[.grow w5 ((r.Kids).map aH)])
 | 0,a1,r,h=>by simp [bg] at h
 | n + 1,a1,r,h=>by
  have ih:=lW E n
  unfold bg at h
  refine lT.of_wp (C:=cfg) Tryd.func48 rfl KG rfl (fun S0 wf0=>?_)
  have H0:Has S0 S0 []:=Has.start wf0
  refine ax.seq ?_
  refine ax.region E.obj rfl ?_
  refine ae.box H0 rfl rfl rfl (aF.bu _) rfl (fun b2 S3 H4=>?_)
  refine ae.alloc H4 rfl wM jV rfl rfl (fun b5 S6 H7=>?_)
  refine ae.nil ?_
  refine ax.seq ?_
  refine ax.region E.obj rfl ?_
  refine ae.val rfl (aj rfl) rfl ?_
  refine ae.nil ?_
  refine ax.seq ?_
  refine ax.seq ?_
  refine ax.region E.obj rfl ?_
  refine ae.val rfl (ai rfl jN qO rfl) rfl ?_
  refine ae.val rfl (av H7 (i:=1) rfl rfl (aC xu rfl)) rfl ?_
  refine ae.val rfl (bz rfl Bv) rfl ?_
  refine ae.val rfl (ah rfl) rfl ?_
  refine ae.nil ?_
  refine ax.block ?_
  have H43:=H7.CY
  refine nR.start (B:=S0) (α:=(List aF) × AV × Int) (fun k a=>aT (bg n) a1 k a.1 a.2.2=some r) (fun a=>[(1,(.ptr b2 0 0)),(2,(.ptr b5 0 0)),(3,a.2.1),(7,(.d (.sl ((a1.Kids).map aH) false))),(8,(.d (.int .i64 ((a1.Kids).length:Int)))),(9,(.d (.int .i64 a.2.2)))]) (fun a=>[.box b5 [(.d (.int .i64 0)),(.d (.int .i64 0)),(.d (.str [])),(.d (.str [])),(.d .aQ),(.d .aQ)],.box b2 [(.d (.int .i64 a1.Kind)),(.d (.int .i64 a1.N)),(.d (.str a1.Tag)),(.d (.str a1.Text)),(.d (.sl ((a1.bB).map aU) false)),(.d (.sl ((a1.Kids).map aH) false))],.grow a.2.1 ((a.1).map aH)]) ?_ ?_ n ⟨⟨[],(.d .aQ),0⟩,_,_,S6,.refl _ _,.refl _,(aa.r rfl (aa.r rfl (aa.r rfl (aa.r rfl (aa.r rfl (aa.r rfl aa.nil)))))),H43.sl [1,2,0] rfl rfl,h⟩
  ·
   intro a h; simp [aT] at h
  intro k20 a S15 H16 h
  obtain ⟨x17,v18,x19⟩:=a
  replace h:aT (bg n) a1 (k20 + 1) x17 x19=some r:=h
  replace H16:Has S0 S15 [.box b5 [(.d (.int .i64 0)),(.d (.int .i64 0)),(.d (.str [])),(.d (.str [])),(.d .aQ),(.d .aQ)],.box b2 [(.d (.int .i64 a1.Kind)),(.d (.int .i64 a1.N)),(.d (.str a1.Tag)),(.d (.str a1.Text)),(.d (.sl ((a1.bB).map aU) false)),(.d (.sl ((a1.Kids).map aH) false))],.grow v18 ((x17).map aH)]:=H16
  unfold aT at h
  refine ax.seq ?_
  refine ax.region E.obj rfl ?_
  refine ae.val rfl (ay rfl rfl bQ) rfl ?_
  refine ae.nil ?_
  refine ax.seq ?_
  refine ax.cond rfl (fun hb21=>?_) (fun hb21=>?_)
  ·
   replace h:=dK hb21 h
   refine ax.skip ?_
   refine ax.join (B:=S0) (α:=(List aF) × AV) (fun a=>cB x19 (aT (bg n) a1 k20) a.1=some r) (fun a=>[(1,(.ptr b2 0 0)),(2,(.ptr b5 0 0)),(3,a.2),(7,(.d (.sl ((a1.Kids).map aH) false))),(8,(.d (.int .i64 ((a1.Kids).length:Int)))),(9,(.d (.int .i64 x19)))]) (fun a=>[.box b5 [(.d (.int .i64 0)),(.d (.int .i64 0)),(.d (.str [])),(.d (.str [])),(.d .aQ),(.d .aQ)],.box b2 [(.d (.int .i64 a1.Kind)),(.d (.int .i64 a1.N)),(.d (.str a1.Tag)),(.d (.str a1.Text)),(.d (.sl ((a1.bB).map aU) false)),(.d (.sl ((a1.Kids).map aH) false))],.grow a.2 ((a.1).map aH)]) ?_ ?_
   ·
    intro a S22 H23 h
    obtain ⟨x24,v25⟩:=a
    replace h:cB x19 (aT (bg n) a1 k20) x24=some r:=h
    replace H23:Has S0 S22 [.box b5 [(.d (.int .i64 0)),(.d (.int .i64 0)),(.d (.str [])),(.d (.str [])),(.d .aQ),(.d .aQ)],.box b2 [(.d (.int .i64 a1.Kind)),(.d (.int .i64 a1.N)),(.d (.str a1.Tag)),(.d (.str a1.Text)),(.d (.sl ((a1.bB).map aU) false)),(.d (.sl ((a1.Kids).map aH) false))],.grow v25 ((x24).map aH)]:=H23
    unfold cB at h
    refine ax.region E.obj rfl ?_
    refine ae.val rfl (ay rfl rfl cu) rfl ?_
    refine ae.val rfl (ah rfl) rfl ?_
    refine ae.nil ?_
    exact ⟨⟨x24,v25,(IntKind.wrap .i64 (x19 + 1))⟩,_,_,S22,.refl _ _,.refl _,(aa.r rfl (aa.r rfl (aa.r rfl (aa.r rfl (aa.r rfl (aa.r rfl aa.nil)))))),H23.sl [0,1,2] rfl rfl,h⟩
   refine ax.block ?_
   refine ax.seq ?_
   refine ax.region E.obj rfl ?_
   obtain ⟨z27,hzz27,h⟩:=bind_some h
   refine ae.val rfl (df rfl rfl (dQ (enc:=aH) hzz27 nz nD ((aF.len _).trans eO.symm))) rfl ?_
   refine ae.val rfl (bD rfl (aF.jO jf eO)) rfl ?_
   refine ae.alloc H16 rfl wM jV rfl rfl (fun b28 S29 H30=>?_)
   refine ae.store H30 (i:=0) rfl rfl rfl rfl (aF.bu _) rfl eO rfl nD rfl rfl rfl (fun S31 H32=>?_)
   refine ae.nil ?_
   refine ax.seq ?_
   refine ax.region E.obj rfl ?_
   refine ae.val rfl (ai rfl j3 mg rfl) rfl ?_
   refine ae.val rfl (av H32 (i:=0) rfl rfl (aC ji rfl)) rfl ?_
   refine ae.val rfl (ay rfl rfl jA) rfl ?_
   refine ae.nil ?_
   refine ax.cond rfl (fun hb33=>?_) (fun hb33=>?_)
   ·
    replace h:=dK hb33 h
    refine ax.region E.obj rfl ?_
    refine ae.val rfl (ah rfl) rfl ?_
    refine ae.val rfl (av H32 (i:=0) rfl rfl (bf jf eO rfl)) rfl ?_
    refine ae.less (Less.agg' (d:=aH z27) (ak.eq rfl (ak.eq rfl (ak.eq rfl (ak.eq rfl (ak.eq rfl (ak.eq rfl .nil)))))) ((aF.eq _).trans rfl)) ?_
    obtain ⟨z34,hzz34,h⟩:=bind_some h
    refine ae.ret rfl (aA rfl rfl) (ih _ _ hzz34 _ _ (aD.eq .nil)) rfl ?_
    refine ae.val rfl (aO (vs:=[(.d (aH z34))]) (ds:=[(aH z34)]) xY nz jf jV eO rfl (by decide) (.cons rfl (aF.len _) .nil) rfl (by intro d hd; simp only [List.mem_cons,List.not_mem_nil,or_false] at hd; rcases hd with rfl <;> exact aF.agg _) rfl) rfl ?_
    obtain ⟨z35,hzz35,h⟩:=bind_some h
    refine ae.append (xs:=(x17).map aH) (ys:=([z34]).map aH) (zs:=(z35).map aH) H32 rfl rfl rfl (i:=3) rfl rfl xY Gm nz (eD hzz35) EP rfl (bK (enc:=aH) (fun z=>(aF.len z).trans eO.symm) _) (bK (enc:=aH) (fun z=>(aF.len z).trans eO.symm) _) G6 rfl (iJ hzz35) (fun v36 S37 H38=>?_)
    refine ae.val rfl (aj rfl) rfl ?_
    refine ae.nil ?_
    exact ⟨⟨z35,v36⟩,_,_,S37,.refl _ _,.refl _,(aa.r rfl (aa.r rfl (aa.r rfl (aa.r rfl (aa.r rfl (aa.r rfl aa.nil)))))),H38.sl [1,2,3] rfl rfl,h⟩
   replace h:=dJ hb33 h
   refine ax.skip ?_
   exact ⟨⟨x17,v18⟩,_,_,S31,.refl _ _,.refl _,(aa.r rfl (aa.r rfl (aa.r rfl (aa.r rfl (aa.r rfl (aa.r rfl aa.nil)))))),H32.sl [1,2,3] rfl rfl,h⟩
  replace h:=dJ hb21 h
  refine ax.exit ?_
  refine ax.seq ?_
  refine ax.region E.obj rfl ?_
  refine ae.val rfl (ah rfl) rfl ?_
  refine ae.val rfl (ai rfl jN qO rfl) rfl ?_
  refine ae.store H16 (i:=1) rfl rfl rfl rfl (iq (H16.at (i:=2) rfl)).2.2.2.2 rfl DC (iq (H16.at (i:=2) rfl)).2.2.2.1 Dc rfl rfl rfl (fun S39 H40=>?_)
  refine ae.nil ?_
  refine ax.seq ?_
  refine ax.region E.obj rfl ?_
  refine ae.val rfl (av H40 (i:=1) rfl rfl (bf jf eO rfl)) rfl ?_
  refine ae.store H40 (i:=0) rfl rfl rfl rfl (gV _) rfl eO (gW _) nD rfl rfl rfl (fun S41 H42=>?_)
  refine ae.nil ?_
  have hr:=Option.some.inj h
  subst hr
  exact ax.ret ⟨_,gq H42 (i:=0) rfl rfl rfl (bf jf eO rfl),rfl,_,_,.refl _,⟨v18,rfl,rfl⟩,H42.sl [2] rfl rfl⟩
set_option maxRecDepth 20000 in
set_option maxHeartbeats 4000000 in
theorem mW (n:Nat) (a1:aF) (a2:Bool) (r:aF) (h:gu n a1 a2=some r):bU R cfg.P 34 [(aH a1),(.bool a2)] (.d (aH r)):=by
 unfold gu at h
 refine bU.of_wp E.obj.toObjOk (C:=cfg) Tryd.func34 rfl Ll rfl ?_
 have H0:Has aI aI []:=Has.pure
 refine ax.seq ?_
 refine ax.region E.obj rfl ?_
 refine ae.box H0 rfl rfl rfl (aF.bu _) rfl (fun b3 S4 H5=>?_)
 refine ae.alloc H5 rfl wM jV rfl rfl (fun b6 S7 H8=>?_)
 refine ae.nil ?_
 refine ax.seq ?_
 refine ax.region E.obj rfl ?_
 refine ae.val rfl (av H8 (i:=1) rfl rfl (bf jf eO rfl)) rfl ?_
 refine ae.less (Less.agg' (d:=aH a1) (ak.eq rfl (ak.eq rfl (ak.eq rfl (ak.eq rfl (ak.eq rfl (ak.eq rfl .nil)))))) ((aF.eq _).trans rfl)) ?_
 obtain ⟨z9,hzz9,h⟩:=bind_some h
 refine ae.yT H8 rfl (aA rfl rfl) (p9 E n _ _ hzz9) (aD.eq .nil) rfl ?_
 rintro _ S11 _ ⟨v15,rfl,rfl⟩ H12
 refine ae.store H12 (i:=2) rfl rfl rfl rfl (gV _) rfl eO (gW _) nD rfl rfl rfl (fun S16 H17=>?_)
 refine ae.nil ?_
 refine ax.join (B:=aI) (α:=(List aF) × AV) (fun a=>dF z9 a.1=some r) (fun a=>[(2,(.ptr b3 0 0)),(4,(.ptr b6 0 0))]) (fun a=>[.box b6 [(.d (.int .i64 0)),(.d (.int .i64 0)),(.d (.str [])),(.d (.str [])),(.d .aQ),(.d .aQ)],.box b3 [(.d (.int .i64 z9.Kind)),(.d (.int .i64 z9.N)),(.d (.str z9.Tag)),(.d (.str z9.Text)),(.d (.sl ((z9.bB).map aU) false)),a.2],.grow a.2 ((a.1).map aH)]) ?_ ?_
 ·
  intro a S18 H19 h
  obtain ⟨x20,v21⟩:=a
  replace h:dF z9 x20=some r:=h
  replace H19:Has aI S18 [.box b6 [(.d (.int .i64 0)),(.d (.int .i64 0)),(.d (.str [])),(.d (.str [])),(.d .aQ),(.d .aQ)],.box b3 [(.d (.int .i64 z9.Kind)),(.d (.int .i64 z9.N)),(.d (.str z9.Tag)),(.d (.str z9.Text)),(.d (.sl ((z9.bB).map aU) false)),v21],.grow v21 ((x20).map aH)]:=H19
  unfold dF at h
  refine ax.seq ?_
  refine ax.region E.obj rfl ?_
  refine ae.val rfl (av H19 (i:=1) rfl rfl (bf jf eO rfl)) rfl ?_
  refine ae.less (Less.agg' (d:=aH (aF.mk z9.Kind z9.N z9.Tag z9.Text z9.bB x20)) (ak.eq rfl (ak.eq rfl (ak.eq rfl (ak.eq rfl (ak.eq rfl (ak.grow H19 (i:=2) rfl .nil)))))) ((aF.eq _).trans rfl)) ?_
  refine ae.store H19 (i:=0) rfl rfl rfl rfl (aF.bu _) rfl eO rfl nD rfl rfl rfl (fun S23 H24=>?_)
  refine ae.nil ?_
  have hr:=Option.some.inj h
  subst hr
  exact ax.ret ⟨_,gq H24 (i:=0) rfl rfl rfl (bf jf eO rfl),rfl,fE (aD.ou (d:=aH (aF.mk z9.Kind z9.N z9.Tag z9.Text z9.bB x20)) (ak.eq rfl (ak.eq rfl (ak.eq rfl (ak.eq rfl (ak.eq rfl (ak.eq rfl .nil)))))) ((aF.eq _).trans rfl))⟩
 refine ax.seq ?_
 refine ax.region E.obj rfl ?_
 refine ae.val rfl (ah rfl) rfl ?_
 refine ae.nil ?_
 refine ax.cond rfl (fun hb25=>?_) (fun hb25=>?_)
 ·
  replace h:=dK hb25 h
  refine ax.region E.obj rfl ?_
  refine ae.val rfl (ai rfl jN qO rfl) rfl ?_
  refine ae.val rfl (av H17 (i:=2) rfl rfl (aC xu rfl)) rfl ?_
  refine ae.val rfl (bA (cs:=[(.d (.int .i64 7)),(.d (.int .i64 0)),(.d (.str [])),(.d (.str [])),(.d .aQ),(.d .aQ)]) jV rfl (lM) (bT rfl rfl rfl rfl rfl)) rfl ?_
  refine ae.less (Less.agg' (d:=aH (aF.mk 7 0 [] [] [] [])) (ak.eq rfl (ak.eq rfl (ak.eq rfl (ak.eq rfl (ak.fe rfl (.aQ false) rfl rfl (ak.fe rfl (.aQ false) rfl rfl .nil)))))) ((aF.eq _).trans rfl)) ?_
  refine ae.val rfl (aO (vs:=[(.d (aH (aF.mk 7 0 [] [] [] [])))]) (ds:=[(aH (aF.mk 7 0 [] [] [] []))]) xY nz jf jV eO rfl (by decide) (.cons rfl (aF.len _) .nil) rfl (by intro d hd; simp only [List.mem_cons,List.not_mem_nil,or_false] at hd; rcases hd with rfl <;> exact aF.agg _) rfl) rfl ?_
  obtain ⟨z26,hzz26,h⟩:=bind_some h
  refine ae.append (xs:=(z9.Kids).map aH) (ys:=([(aF.mk 7 0 [] [] [] [])]).map aH) (zs:=(z26).map aH) H17 rfl rfl rfl (i:=0) rfl rfl xY Gm nz (eD hzz26) EP rfl (bK (enc:=aH) (fun z=>(aF.len z).trans eO.symm) _) (bK (enc:=aH) (fun z=>(aF.len z).trans eO.symm) _) G6 rfl (iJ hzz26) (fun v27 S28 H29=>?_)
  refine ae.val rfl (ai rfl jN qO rfl) rfl ?_
  refine ae.store H29 (i:=2) rfl rfl rfl rfl (iq (H29.at (i:=0) rfl)).2.2.2.2 rfl DC (iq (H29.at (i:=0) rfl)).2.2.2.1 Dc rfl rfl rfl (fun S30 H31=>?_)
  refine ae.nil ?_
  exact ⟨⟨z26,v27⟩,_,_,S30,.refl _ _,.refl _,(aa.r rfl (aa.r rfl aa.nil)),H31.sl [1,2,0] rfl rfl,h⟩
 replace h:=dJ hb25 h
 refine ax.skip ?_
 exact ⟨⟨z9.Kids,v15⟩,_,_,S16,.refl _ _,.refl _,(aa.r rfl (aa.r rfl aa.nil)),H17.sl [1,2,0] rfl rfl,h⟩
set_option maxRecDepth 20000 in
set_option maxHeartbeats 4000000 in
theorem rH (n:Nat)  (r:(List Str)) (h:jR n  = some r):bU R cfg.P 49 [] (.d (.sl ((r).map D.str) false)):=by
 unfold jR at h
 refine bU.of_wp E.obj.toObjOk (C:=cfg) Tryd.func49 rfl MX rfl ?_
 have H0:Has aI aI []:=Has.pure
 refine ax.seq ?_
 refine ax.region E.obj rfl ?_
 refine ae.val rfl (aj rfl) rfl ?_
 refine ae.nil ?_
 refine ax.seq ?_
 refine ax.region E.obj rfl ?_
 refine ae.val rfl (aO (vs:=[(.d (.str [97])),(.d (.str [98])),(.d (.str [105,116,101,109])),(.d (.str [120,32,121])),(.d (.str [37])),(.d (.str [97,47,98])),(.d (.str [46,46])),(.d (.str [122])),(.d (.str [49])),(.d (.str [108,105,115,116])),(.d (.str [255])),(.d (.str [63,61,38]))]) (ds:=[(.str [97]),(.str [98]),(.str [105,116,101,109]),(.str [120,32,121]),(.str [37]),(.str [97,47,98]),(.str [46,46]),(.str [122]),(.str [49]),(.str [108,105,115,116]),(.str [255]),(.str [63,61,38])]) Ij yB vW Ko D9 rfl (by decide) (.cons rfl rfl (.cons rfl rfl (.cons rfl rfl (.cons rfl rfl (.cons rfl rfl (.cons rfl rfl (.cons rfl rfl (.cons rfl rfl (.cons rfl rfl (.cons rfl rfl (.cons rfl rfl (.cons rfl rfl .nil)))))))))))) rfl (by intro d hd; simp only [List.mem_cons,List.not_mem_nil,or_false] at hd; rcases hd with rfl | rfl | rfl | rfl | rfl | rfl | rfl | rfl | rfl | rfl | rfl | rfl <;> rfl) rfl) rfl ?_
 refine ae.val rfl (aj rfl) rfl ?_
 refine ae.nil ?_
 have hr:=Option.some.inj h
 subst hr
 exact ax.ret ⟨_,rfl,rfl,fE (aD.fe rfl (.iZ _ _) .nil)⟩
set_option maxRecDepth 20000 in
set_option maxHeartbeats 4000000 in
theorem sw (n:Nat) (a1:(List Int)) (a2:Int) (r:Int) (h:jh n a1 a2=some r):bU R cfg.P 50 [(.sl ((a1).map (D.int .i64)) false),(.int .i64 a2)] (.d (.int .i64 r)):=by
 unfold jh at h
 refine bU.of_wp E.obj.toObjOk (C:=cfg) Tryd.func50 rfl La rfl ?_
 have H0:Has aI aI []:=Has.pure
 refine ax.seq ?_
 refine ax.region E.obj rfl ?_
 refine ae.val rfl (aj rfl) rfl ?_
 refine ae.nil ?_
 refine ax.seq ?_
 refine ax.region E.obj rfl ?_
 refine ae.val rfl (aj rfl) rfl ?_
 refine ae.nil ?_
 refine ax.seq ?_
 refine ax.block ?_
 refine nR.start (B:=aI) (α:=Int × Int) (fun k a=>dE a1 k a.1 a.2=some r) (fun a=>[(0,(.d (.sl ((a1).map (D.int .i64)) false))),(1,(.d (.int .i64 a.1))),(5,(.d (.int .i64 a.2)))]) (fun a=>[]) ?_ ?_ n ⟨⟨a2,0⟩,_,_,aI,.refl _ _,.refl _,(aa.r rfl (aa.r rfl (aa.r rfl aa.nil))),H0.sl [] rfl rfl,h⟩
 ·
  intro a h; simp [dE] at h
 intro k13 a S9 H10 h
 obtain ⟨x11,x12⟩:=a
 replace h:dE a1 (k13 + 1) x11 x12=some r:=h
 replace H10:Has aI S9 []:=H10
 unfold dE at h
 refine ax.seq ?_
 refine ax.seq ?_
 refine ax.region E.obj rfl ?_
 refine ae.val rfl (ah rfl) rfl ?_
 refine ae.val rfl (ay rfl rfl gM) rfl ?_
 refine ae.val rfl (ah rfl) rfl ?_
 refine ae.bL 3 11 (.d (.bool ((decide (0 ≤ x11)) && (decide (x12 < 99))))) ?_ ?_
 ·
  rcases Bool.eq_false_or_eq_true ((decide (0 ≤ x11))) with hB14 | hB14
  ·
   refine ae.bool hB14 ?_
   refine ae.val rfl (ah rfl) rfl ?_
   refine ae.val rfl (ay rfl rfl bQ) rfl ?_
   refine ae.val rfl (az (b:=true) rfl rfl) rfl ?_
   exact ae.nil ⟨_,rfl,(aa.put (aa.push rfl (aa.push rfl (aa.put (.refl _) (Less.eq (by rw [hB14]))))) (Less.eq (by rw [hB14]; rw [Bool.true_and])))⟩
  refine ae.bool hB14 ?_
  refine ae.no rfl rfl ?_
  refine ae.no rfl rfl ?_
  refine ae.val rfl (az (b:=false) rfl rfl) rfl ?_
  exact ae.nil ⟨_,rfl,(aa.put (aa.push rfl (aa.push rfl (aa.put (.refl _) (Less.eq (by rw [hB14]))))) (Less.eq (by rw [hB14]; rw [Bool.false_and])))⟩
 refine ae.nil ?_
 refine ax.cond rfl (fun hb15=>?_) (fun hb15=>?_)
 ·
  replace h:=dK hb15 h
  refine ax.skip ?_
  refine ax.block ?_
  obtain ⟨z16,hzz16,h⟩:=bind_some h
  refine ax.qL E.obj rO Nb [(0,none),(1,some 7),(5,some 6)] (by kernel_rfl) [] (by decide) [some (.d (.int .i64 x12)),some (.d (.int .i64 (IntKind.wrap .i64 (x12 + 1)))),some (.d (.sl ((a1).map (D.int .i64)) false)),some (.d (.int .i64 x11)),some (.eptr (.int .i64 z16) 0),some (.d (.int .i64 z16)),some (.d (.int .i64 (IntKind.wrap .i64 (x12 + 1)))),some (.d (.int .i64 z16))] ?_
  refine ⟨[0,1,2,3,4,5,6,7],by kernel_rfl,?_,_,rfl,?_⟩
  ·
   refine .v rfl rfl rfl rfl (ah rfl) ?_
   refine .v rfl rfl rfl rfl (ay rfl rfl cu) ?_
   refine .v rfl rfl rfl rfl (ah rfl) ?_
   refine .v rfl rfl rfl rfl (ah rfl) ?_
   refine .v rfl rfl rfl rfl (df rfl rfl (dQ (enc:=(D.int .i64)) hzz16 ku zi (((fun _=>rfl) _).trans pI.symm))) ?_
   refine .v rfl rfl rfl rfl (bD rfl (dG ji rfl)) ?_
   refine .v rfl rfl rfl rfl (aj rfl) ?_
   refine .v rfl rfl rfl rfl (aj rfl) ?_
   exact .nil
  exact ⟨⟨z16,(IntKind.wrap .i64 (x12 + 1))⟩,_,_,S9,.refl _ _,.refl _,(aa.r rfl (aa.r rfl (aa.r rfl aa.nil))),H10.sl [] rfl rfl,h⟩
 replace h:=dJ hb15 h
 refine ax.exit ?_
 refine ax.seq ?_
 refine ax.region E.obj rfl ?_
 refine ae.val rfl (ah rfl) rfl ?_
 refine ae.val rfl (aj rfl) rfl ?_
 refine ae.nil ?_
 have hr:=Option.some.inj h
 subst hr
 exact ax.ret ⟨_,rfl,rfl,fE (aD.eq .nil)⟩
set_option maxRecDepth 20000 in
set_option maxHeartbeats 4000000 in
theorem nE:∀ (n:Nat) (a1:(List bY)) (a2:(List Int)) (a3:Int) (r:aF),bZ n a1 a2 a3=some r→bU R cfg.P 51 [(.sl ((a1).map dM) false),(.sl ((a2).map (D.int .i64)) false),(.int .i64 a3)] (.d (aH r))
 | 0,a1,a2,a3,r,h=>by simp [bZ] at h
 | n + 1,a1,a2,a3,r,h=>by
  have ih:=nE n
  unfold bZ at h
  refine bU.of_wp E.obj.toObjOk (C:=cfg) Tryd.func51 rfl MB rfl ?_
  have H0:Has aI aI []:=Has.pure
  refine ax.seq ?_
  refine ax.region E.obj rfl ?_
  refine ae.alloc H0 rfl wM jV rfl rfl (fun b4 S5 H6=>?_)
  refine ae.nil ?_
  refine ax.seq ?_
  refine ax.region E.obj rfl ?_
  refine ae.val rfl (ah rfl) rfl ?_
  refine ae.val rfl (ah rfl) rfl ?_
  obtain ⟨z7,hzz7,h⟩:=bind_some h
  refine ae.val rfl (df rfl rfl (dQ (enc:=dM) hzz7 nz nD ((bY.len _).trans eO.symm))) rfl ?_
  refine ae.val rfl (bD rfl (bY.jO jf eO)) rfl ?_
  refine ae.alloc H6 rfl wM jV rfl rfl (fun b8 S9 H10=>?_)
  refine ae.store H10 (i:=0) rfl rfl rfl rfl (bY.bu _) rfl eO rfl nD rfl rfl rfl (fun S11 H12=>?_)
  refine ae.nil ?_
  refine ax.seq ?_
  refine ax.seq ?_
  refine ax.region E.obj rfl ?_
  refine ae.val rfl (ah rfl) rfl ?_
  refine ae.val rfl (bz rfl Bv) rfl ?_
  refine ae.val rfl (ah rfl) rfl ?_
  refine ae.nil ?_
  refine ax.block ?_
  have H48:=H12.CY
  refine nR.start (B:=aI) (α:=(List aF) × AV × Int) (fun k a=>cz (bZ n) a1 a2 a3 z7 k a.1 a.2.2=some r) (fun a=>[(0,(.d (.sl ((a1).map dM) false))),(1,(.d (.sl ((a2).map (D.int .i64)) false))),(2,(.d (.int .i64 a3))),(6,(.ptr b4 0 0)),(7,(.ptr b8 0 0)),(14,(.d (.int .i64 ((a1).length:Int)))),(15,(.d (.int .i64 a.2.2)))]) (fun a=>[.box b8 [(.d (.int .i64 z7.Kind)),(.d (.int .i64 z7.N)),(.d (.str z7.Tag)),(.d (.str z7.Text)),(.d (.sl ((z7.bB).map aU) false)),a.2.1],.box b4 [(.d (.int .i64 0)),(.d (.int .i64 0)),(.d (.str [])),(.d (.str [])),(.d .aQ),(.d .aQ)],.grow a.2.1 ((a.1).map aH)]) ?_ ?_ n ⟨⟨[],(.d .aQ),0⟩,_,_,S11,.refl _ _,.refl _,(aa.r rfl (aa.r rfl (aa.r rfl (aa.r rfl (aa.r rfl (aa.r rfl (aa.r rfl aa.nil))))))),H48.sl [1,2,0] rfl rfl,h⟩
  ·
   intro a h; simp [cz] at h
  intro k25 a S20 H21 h
  obtain ⟨x22,v23,x24⟩:=a
  replace h:cz (bZ n) a1 a2 a3 z7 (k25 + 1) x22 x24=some r:=h
  replace H21:Has aI S20 [.box b8 [(.d (.int .i64 z7.Kind)),(.d (.int .i64 z7.N)),(.d (.str z7.Tag)),(.d (.str z7.Text)),(.d (.sl ((z7.bB).map aU) false)),v23],.box b4 [(.d (.int .i64 0)),(.d (.int .i64 0)),(.d (.str [])),(.d (.str [])),(.d .aQ),(.d .aQ)],.grow v23 ((x22).map aH)]:=H21
  unfold cz at h
  refine ax.seq ?_
  refine ax.region E.obj rfl ?_
  refine ae.val rfl (ay rfl rfl bQ) rfl ?_
  refine ae.nil ?_
  refine ax.seq ?_
  refine ax.cond rfl (fun hb26=>?_) (fun hb26=>?_)
  ·
   replace h:=dK hb26 h
   refine ax.skip ?_
   refine ax.join (B:=aI) (α:=(List aF) × AV) (fun a=>fw x24 (cz (bZ n) a1 a2 a3 z7 k25) a.1=some r) (fun a=>[(0,(.d (.sl ((a1).map dM) false))),(1,(.d (.sl ((a2).map (D.int .i64)) false))),(2,(.d (.int .i64 a3))),(6,(.ptr b4 0 0)),(7,(.ptr b8 0 0)),(14,(.d (.int .i64 ((a1).length:Int)))),(15,(.d (.int .i64 x24)))]) (fun a=>[.box b8 [(.d (.int .i64 z7.Kind)),(.d (.int .i64 z7.N)),(.d (.str z7.Tag)),(.d (.str z7.Text)),(.d (.sl ((z7.bB).map aU) false)),a.2],.box b4 [(.d (.int .i64 0)),(.d (.int .i64 0)),(.d (.str [])),(.d (.str [])),(.d .aQ),(.d .aQ)],.grow a.2 ((a.1).map aH)]) ?_ ?_
   ·
    intro a S27 H28 h
    obtain ⟨x29,v30⟩:=a
    replace h:fw x24 (cz (bZ n) a1 a2 a3 z7 k25) x29=some r:=h
    replace H28:Has aI S27 [.box b8 [(.d (.int .i64 z7.Kind)),(.d (.int .i64 z7.N)),(.d (.str z7.Tag)),(.d (.str z7.Text)),(.d (.sl ((z7.bB).map aU) false)),v30],.box b4 [(.d (.int .i64 0)),(.d (.int .i64 0)),(.d (.str [])),(.d (.str [])),(.d .aQ),(.d .aQ)],.grow v30 ((x29).map aH)]:=H28
    unfold fw at h
    refine ax.region E.obj rfl ?_
    refine ae.val rfl (ay rfl rfl cu) rfl ?_
    refine ae.val rfl (ah rfl) rfl ?_
    refine ae.nil ?_
    exact ⟨⟨x29,v30,(IntKind.wrap .i64 (x24 + 1))⟩,_,_,S27,.refl _ _,.refl _,(aa.r rfl (aa.r rfl (aa.r rfl (aa.r rfl (aa.r rfl (aa.r rfl (aa.r rfl aa.nil))))))),H28.sl [0,1,2] rfl rfl,h⟩
   refine ax.block ?_
   refine ax.seq ?_
   refine ax.region E.obj rfl ?_
   refine ae.val rfl (ah rfl) rfl ?_
   refine ae.val rfl (aj rfl) rfl ?_
   refine ae.nil ?_
   refine ax.seq ?_
   refine ax.region E.obj rfl ?_
   refine ae.val rfl (ah rfl) rfl ?_
   refine ae.val rfl (ah rfl) rfl ?_
   obtain ⟨z32,hzz32,h⟩:=bind_some h
   refine ae.val rfl (df rfl rfl (dQ (enc:=(D.int .i64)) hzz32 ku zi (((fun _=>rfl) _).trans pI.symm))) rfl ?_
   refine ae.val rfl (bD rfl (dG ji rfl)) rfl ?_
   refine ae.val rfl (ah rfl) rfl ?_
   refine ae.val rfl (ay rfl rfl dS) rfl ?_
   refine ae.nil ?_
   refine ax.cond rfl (fun hb33=>?_) (fun hb33=>?_)
   ·
    replace h:=dK hb33 h
    obtain ⟨z34,hzz34,h⟩:=bind_some h
    obtain ⟨z35,hzz35,h⟩:=bind_some h
    refine ax.qL E.obj rO Nz [(0,none),(1,none),(2,none),(6,none),(7,none),(14,none),(15,none)] (by kernel_rfl) [7,9] (by decide) [some (.ptr b8 0 5),some v23,some (.d (.sl ((a1).map dM) false)),some (.d (.sl ((a2).map (D.int .i64)) false)),some (.d (.int .i64 x24)),some (.d (aH z34)),some (.d (.sl (([z34]).map aH) true)),none,none,none] ?_
    refine ⟨[0,1,2,3,4,5,6],by kernel_rfl,?_,_,_,rfl,rfl,.step ?_⟩
    ·
     refine .v rfl rfl rfl rfl (ai rfl jN qO rfl) ?_
     refine .v rfl rfl rfl rfl (av H21 (i:=0) rfl rfl (aC xu rfl)) ?_
     refine .v rfl rfl rfl rfl (ah rfl) ?_
     refine .v rfl rfl rfl rfl (ah rfl) ?_
     refine .v rfl rfl rfl rfl (ah rfl) ?_
     refine .cons rfl rfl rfl (.step ?_) ?_
     ·
      refine ae.ret rfl (aA rfl rfl) (ih _ _ _ _ hzz34 _ _ (aD.eq (aD.eq (aD.eq .nil)))) rfl ?_
      exact ae.nil ⟨_,_,rfl,fun _ ht=>by cases ht; exact ⟨rfl,.refl _⟩⟩
     refine .v rfl rfl rfl rfl (aO (vs:=[(.d (aH z34))]) (ds:=[(aH z34)]) xY nz jf jV eO rfl (by decide) (.cons rfl (aF.len _) .nil) rfl (by intro d hd; simp only [List.mem_cons,List.not_mem_nil,or_false] at hd; rcases hd with rfl <;> exact aF.agg _) rfl) ?_
     exact .nil
    refine ae.append (xs:=(x22).map aH) (ys:=([z34]).map aH) (zs:=(z35).map aH) H21 rfl rfl rfl (i:=2) rfl rfl xY Gm nz (eD hzz35) EP rfl (bK (enc:=aH) (fun z=>(aF.len z).trans eO.symm) _) (bK (enc:=aH) (fun z=>(aF.len z).trans eO.symm) _) G6 rfl (iJ hzz35) (fun v41 S42 H43=>?_)
    refine ae.nil ⟨_,_,_,rfl,(fun _ ht=>by cases ht; rfl),_,(.q (.o (.o (.o (.w v41 (.w (.ptr b8 0 5) (.n .nil))))))),(fun _ ht=>by cases ht; exact ⟨_,rfl,.refl _⟩),?_⟩
    refine ⟨[8],by kernel_rfl,?_,_,_,rfl,rfl,.step ?_⟩
    ·
     refine .v rfl rfl rfl rfl (ai rfl jN qO rfl) ?_
     exact .nil
    refine ae.store H43 (i:=0) rfl rfl rfl rfl (iq (H43.at (i:=2) rfl)).2.2.2.2 rfl DC (iq (H43.at (i:=2) rfl)).2.2.2.1 Dc rfl rfl rfl (fun S44 H45=>?_)
    refine ae.nil ⟨_,.any,_,rfl,(fun _ ht=>by cases ht),_,(.q (.q (.o (.w .any .nil)))),(fun _ ht=>by cases ht),?_⟩
    refine ⟨[],by kernel_rfl,?_,_,rfl,?_⟩
    ·
     exact .nil
    exact ⟨⟨z35,v41⟩,_,_,S44,.refl _ _,.refl _,(aa.r rfl (aa.r rfl (aa.r rfl (aa.r rfl (aa.r rfl (aa.r rfl (aa.r rfl aa.nil))))))),H45.sl [0,1,2] rfl rfl,h⟩
   replace h:=dJ hb33 h
   refine ax.skip ?_
   exact ⟨⟨x22,v23⟩,_,_,S20,.refl _ _,.refl _,(aa.r rfl (aa.r rfl (aa.r rfl (aa.r rfl (aa.r rfl (aa.r rfl (aa.r rfl aa.nil))))))),H21.sl [0,1,2] rfl rfl,h⟩
  replace h:=dJ hb26 h
  refine ax.exit ?_
  refine ax.seq ?_
  refine ax.region E.obj rfl ?_
  refine ae.val rfl (av H21 (i:=0) rfl rfl (bf jf eO rfl)) rfl ?_
  refine ae.less (Less.agg' (d:=aH (aF.mk z7.Kind z7.N z7.Tag z7.Text z7.bB x22)) (ak.eq rfl (ak.eq rfl (ak.eq rfl (ak.eq rfl (ak.eq rfl (ak.grow H21 (i:=2) rfl .nil)))))) ((aF.eq _).trans rfl)) ?_
  refine ae.store H21 (i:=1) rfl rfl rfl rfl (aF.bu _) rfl eO rfl nD rfl rfl rfl (fun S46 H47=>?_)
  refine ae.nil ?_
  have hr:=Option.some.inj h
  subst hr
  exact ax.ret ⟨_,gq H47 (i:=1) rfl rfl rfl (bf jf eO rfl),rfl,fE (aD.ou (d:=aH (aF.mk z7.Kind z7.N z7.Tag z7.Text z7.bB x22)) (ak.eq rfl (ak.eq rfl (ak.eq rfl (ak.eq rfl (ak.eq rfl (ak.eq rfl .nil)))))) ((aF.eq _).trans rfl))⟩
set_option maxRecDepth 20000 in
set_option maxHeartbeats 4000000 in
theorem kZ (n:Nat) (a1:bR) (r:aF) (h:gL n a1=some r):bU R cfg.P 35 [(jq a1)] (.d (aH r)):=by
 unfold gL at h
 refine bU.of_wp E.obj.toObjOk (C:=cfg) Tryd.func35 rfl MN rfl ?_
 have H0:Has aI aI []:=Has.pure
 refine ax.seq ?_
 refine ax.region E.obj rfl ?_
 refine ae.box H0 rfl rfl rfl (bR.bu _) rfl (fun b2 S3 H4=>?_)
 refine ae.alloc H4 rfl wM jV rfl rfl (fun b5 S6 H7=>?_)
 refine ae.nil ?_
 refine ax.seq ?_
 refine ax.region E.obj rfl ?_
 refine ae.val rfl (aO (vs:=[(.d (.str [100,105,118])),(.d (.str [112])),(.d (.str [108,105])),(.d (.str [98]))]) (ds:=[(.str [100,105,118]),(.str [112]),(.str [108,105]),(.str [98])]) Ij yB vW Ko D9 rfl (by decide) (.cons rfl rfl (.cons rfl rfl (.cons rfl rfl (.cons rfl rfl .nil)))) rfl (by intro d hd; simp only [List.mem_cons,List.not_mem_nil,or_false] at hd; rcases hd with rfl | rfl | rfl | rfl <;> rfl) rfl) rfl ?_
 refine ae.val rfl (aj rfl) rfl ?_
 refine ae.nil ?_
 refine ax.seq ?_
 refine ax.region E.obj rfl ?_
 refine ae.val rfl (aO (vs:=[(.d (.str [105,100])),(.d (.str [112,97])),(.d (.str [112,98])),(.d (.str [108,97,115,116]))]) (ds:=[(.str [105,100]),(.str [112,97]),(.str [112,98]),(.str [108,97,115,116])]) Ij yB vW Ko D9 rfl (by decide) (.cons rfl rfl (.cons rfl rfl (.cons rfl rfl (.cons rfl rfl .nil)))) rfl (by intro d hd; simp only [List.mem_cons,List.not_mem_nil,or_false] at hd; rcases hd with rfl | rfl | rfl | rfl <;> rfl) rfl) rfl ?_
 refine ae.val rfl (aj rfl) rfl ?_
 refine ae.nil ?_
 refine ax.seq ?_
 refine ax.region E.obj rfl ?_
 obtain ⟨z8,hzz8,h⟩:=bind_some h
 refine ae.ret rfl (aA rfl rfl) (rH E _  _ hzz8 _ _ .nil) rfl ?_
 refine ae.val rfl (aj rfl) rfl ?_
 refine ae.nil ?_
 refine ax.seq ?_
 refine ax.region E.obj rfl ?_
 refine ae.val rfl (bA (cs:=[(.d (.int .i64 1)),(.d (.int .i64 0)),(.d (.str [109,97,105,110])),(.d (.str [])),(.d .aQ),(.d .aQ)]) jV rfl (lM) (bT rfl rfl rfl rfl (bT rfl rfl rfl rfl rfl))) rfl ?_
 refine ae.less (Less.agg' (d:=dM (bY.mk 1 0 [109,97,105,110] [] [])) (ak.eq rfl (ak.eq rfl (ak.eq rfl (ak.eq rfl (ak.fe rfl (.aQ false) rfl rfl (ak.eq rfl .nil)))))) ((bY.eq _).trans rfl)) ?_
 refine ae.val rfl (aO (vs:=[(.d (dM (bY.mk 1 0 [109,97,105,110] [] [])))]) (ds:=[(dM (bY.mk 1 0 [109,97,105,110] [] []))]) xY nz jf jV eO rfl (by decide) (.cons rfl (bY.len _) .nil) rfl (by intro d hd; simp only [List.mem_cons,List.not_mem_nil,or_false] at hd; rcases hd with rfl <;> exact bY.agg _) rfl) rfl ?_
 refine ae.val rfl (aj rfl) rfl ?_
 refine ae.nil ?_
 refine ax.seq ?_
 refine ax.region E.obj rfl ?_
 refine ae.val rfl (aO (vs:=[(.d (.int .i64 (-1)))]) (ds:=[(.int .i64 (-1))]) Dw ku ji DU pI rfl (by decide) (.cons rfl rfl .nil) rfl (by intro d hd; simp only [List.mem_cons,List.not_mem_nil,or_false] at hd; rcases hd with rfl <;> rfl) rfl) rfl ?_
 refine ae.val rfl (aj rfl) rfl ?_
 refine ae.nil ?_
 refine ax.seq ?_
 refine ax.seq ?_
 refine ax.region E.obj rfl ?_
 refine ae.val rfl (aj rfl) rfl ?_
 refine ae.nil ?_
 refine ax.block ?_
 have H97:=H7.tO (([(bY.mk 1 0 [109,97,105,110] [] [])]).map dM)
 have H98:=H97.tO (([(-1)]).map (D.int .i64))
 refine nR.start (B:=aI) (α:=(List bY) × AV × (List Int) × AV × Int) (fun k a=>aV n a1 z8 k a.1 a.2.2.1 a.2.2.2.2=some r) (fun a=>[(1,(.ptr b2 0 0)),(2,(.ptr b5 0 0)),(3,(.d (.sl ((([[100,105,118],[112],[108,105],[98]]:List Str)).map D.str) true))),(4,(.d (.sl ((([[105,100],[112,97],[112,98],[108,97,115,116]]:List Str)).map D.str) true))),(5,(.d (.sl ((z8).map D.str) false))),(6,a.2.1),(7,a.2.2.2.1),(8,(.d (.int .i64 a.2.2.2.2)))]) (fun a=>[.box b5 [(.d (.int .i64 0)),(.d (.int .i64 0)),(.d (.str [])),(.d (.str [])),(.d .aQ),(.d .aQ)],.box b2 [(.d (.sl ((a1.Under).map (D.int .i64)) false)),(.d (.sl ((a1.Kinds).map (D.int .i64)) false)),(.d (.sl ((a1.Ns).map (D.int .i64)) false)),(.d (.sl ((a1.Texts).map (D.int .i64)) false))],.grow a.2.1 ((a.1).map dM),.grow a.2.2.2.1 ((a.2.2.1).map (D.int .i64))]) ?_ ?_ n ⟨⟨[(bY.mk 1 0 [109,97,105,110] [] [])],(.d (.sl (([(bY.mk 1 0 [109,97,105,110] [] [])]).map dM) true)),[(-1)],(.d (.sl (([(-1)]).map (D.int .i64)) true)),0⟩,_,_,S6,.refl _ _,.refl _,(aa.r rfl (aa.r rfl (aa.r rfl (aa.r rfl (aa.r rfl (aa.r rfl (aa.r rfl (aa.r rfl aa.nil)))))))),H98.sl [2,3,1,0] rfl rfl,h⟩
 ·
  intro a h; simp [aV] at h
 intro k25 a S18 H19 h
 obtain ⟨x20,v21,x22,v23,x24⟩:=a
 replace h:aV n a1 z8 (k25 + 1) x20 x22 x24=some r:=h
 replace H19:Has aI S18 [.box b5 [(.d (.int .i64 0)),(.d (.int .i64 0)),(.d (.str [])),(.d (.str [])),(.d .aQ),(.d .aQ)],.box b2 [(.d (.sl ((a1.Under).map (D.int .i64)) false)),(.d (.sl ((a1.Kinds).map (D.int .i64)) false)),(.d (.sl ((a1.Ns).map (D.int .i64)) false)),(.d (.sl ((a1.Texts).map (D.int .i64)) false))],.grow v21 ((x20).map dM),.grow v23 ((x22).map (D.int .i64))]:=H19
 unfold aV at h
 refine ax.seq ?_
 refine ax.seq ?_
 refine ax.region E.obj rfl ?_
 refine ae.val rfl (ah rfl) rfl ?_
 refine ae.val rfl (ai rfl GN lK rfl) rfl ?_
 refine ae.val rfl (av H19 (i:=1) rfl rfl (aC lX rfl)) rfl ?_
 refine ae.val rfl (bz rfl xS) rfl ?_
 refine ae.val rfl (ay rfl rfl bQ) rfl ?_
 refine ae.val rfl (ah rfl) rfl ?_
 refine ae.bL 3 27 (.d (.bool ((decide (x24 < ((a1.Under).length:Int))) && (decide (x24 < 11))))) ?_ ?_
 ·
  rcases Bool.eq_false_or_eq_true ((decide (x24 < ((a1.Under).length:Int)))) with hB26 | hB26
  ·
   refine ae.bool hB26 ?_
   refine ae.val rfl (ah rfl) rfl ?_
   refine ae.val rfl (ay rfl rfl bQ) rfl ?_
   refine ae.val rfl (az (b:=true) rfl rfl) rfl ?_
   exact ae.nil ⟨_,rfl,(aa.put (aa.push rfl (aa.push rfl (aa.put (.refl _) (Less.eq (by rw [hB26]))))) (Less.eq (by rw [hB26]; rw [Bool.true_and])))⟩
  refine ae.bool hB26 ?_
  refine ae.no rfl rfl ?_
  refine ae.no rfl rfl ?_
  refine ae.val rfl (az (b:=false) rfl rfl) rfl ?_
  exact ae.nil ⟨_,rfl,(aa.put (aa.push rfl (aa.push rfl (aa.put (.refl _) (Less.eq (by rw [hB26]))))) (Less.eq (by rw [hB26]; rw [Bool.false_and])))⟩
 refine ae.nil ?_
 refine ax.cond rfl (fun hb27=>?_) (fun hb27=>?_)
 ·
  replace h:=dK hb27 h
  refine ax.skip ?_
  refine ax.seq ?_
  refine ax.block ?_
  refine ax.seq ?_
  refine ax.region E.obj rfl ?_
  refine ae.val rfl (ai rfl GN lK rfl) rfl ?_
  refine ae.val rfl (av H19 (i:=1) rfl rfl (aC lX rfl)) rfl ?_
  refine ae.val rfl (ah rfl) rfl ?_
  obtain ⟨z28,hzz28,h⟩:=bind_some h
  refine ae.val rfl (df rfl rfl (dQ (enc:=(D.int .i64)) hzz28 ku zi (((fun _=>rfl) _).trans pI.symm))) rfl ?_
  refine ae.val rfl (bD rfl (dG ji rfl)) rfl ?_
  refine ae.val rfl (ah rfl) rfl ?_
  refine ae.val rfl (Fu H19 (i:=2) rfl rfl Bv) rfl ?_
  refine ae.val rfl (ay rfl rfl ig) rfl ?_
  obtain ⟨z29,hzz29,h⟩:=bind_some h
  refine ae.ret rfl (aA rfl rfl) (aN E _ _ _ _ _ hzz29 _ _ (aD.eq (aD.eq (aD.eq .nil)))) rfl ?_
  refine ae.val rfl (aj rfl) rfl ?_
  refine ae.nil ?_
  refine ax.join (B:=aI) (α:=Int) (fun a=>cK n a1 z8 x20 x22 x24 (aV n a1 z8 k25) a=some r) (fun a=>[(1,(.ptr b2 0 0)),(2,(.ptr b5 0 0)),(3,(.d (.sl ((([[100,105,118],[112],[108,105],[98]]:List Str)).map D.str) true))),(4,(.d (.sl ((([[105,100],[112,97],[112,98],[108,97,115,116]]:List Str)).map D.str) true))),(5,(.d (.sl ((z8).map D.str) false))),(6,v21),(7,v23),(8,(.d (.int .i64 x24))),(9,(.d (.int .i64 a)))]) (fun a=>[.box b5 [(.d (.int .i64 0)),(.d (.int .i64 0)),(.d (.str [])),(.d (.str [])),(.d .aQ),(.d .aQ)],.box b2 [(.d (.sl ((a1.Under).map (D.int .i64)) false)),(.d (.sl ((a1.Kinds).map (D.int .i64)) false)),(.d (.sl ((a1.Ns).map (D.int .i64)) false)),(.d (.sl ((a1.Texts).map (D.int .i64)) false))],.grow v21 ((x20).map dM),.grow v23 ((x22).map (D.int .i64))]) ?_ ?_
  ·
   intro x32 S30 H31 h
   replace h:cK n a1 z8 x20 x22 x24 (aV n a1 z8 k25) x32=some r:=h
   replace H31:Has aI S30 [.box b5 [(.d (.int .i64 0)),(.d (.int .i64 0)),(.d (.str [])),(.d (.str [])),(.d .aQ),(.d .aQ)],.box b2 [(.d (.sl ((a1.Under).map (D.int .i64)) false)),(.d (.sl ((a1.Kinds).map (D.int .i64)) false)),(.d (.sl ((a1.Ns).map (D.int .i64)) false)),(.d (.sl ((a1.Texts).map (D.int .i64)) false))],.grow v21 ((x20).map dM),.grow v23 ((x22).map (D.int .i64))]:=H31
   unfold cK at h
   refine ax.seq ?_
   obtain ⟨z34,hzz34,h⟩:=bind_some h
   obtain ⟨z35,hzz35,h⟩:=bind_some h
   obtain ⟨z36,hzz36,h⟩:=bind_some h
   obtain ⟨z37,hzz37,h⟩:=bind_some h
   refine ax.qL E.obj rO M9 [(1,none),(2,none),(3,none),(4,none),(5,none),(6,none),(7,none),(8,none),(9,none),(11,some 11)] (by kernel_rfl) [11,12] (by decide) [some (.ptr b2 0 1),some (.d (.sl ((a1.Kinds).map (D.int .i64)) false)),some (.d (.int .i64 x24)),some (.d (.int .i64 z34)),some (.d (.int .i64 z35)),some (.ptr b2 0 2),some (.d (.sl ((a1.Ns).map (D.int .i64)) false)),some (.d (.int .i64 x24)),some (.d (.int .i64 z36)),some (.d (.int .i64 z37)),some (.d (dM (bY.mk z35 z37 [] [] []))),none,none] ?_
   refine ⟨[0,1,2,3,4,5,6,7,8,9,10],by kernel_rfl,?_,_,_,rfl,rfl,.step ?_⟩
   ·
    refine .v rfl rfl rfl rfl (ai rfl Gs lK rfl) ?_
    refine .v rfl rfl rfl rfl (av H31 (i:=1) rfl rfl (aC lX rfl)) ?_
    refine .v rfl rfl rfl rfl (ah rfl) ?_
    refine .cons rfl rfl rfl (.step ?_) ?_
    ·
     refine ae.ret rfl (aA rfl rfl) (bF E _ _ _ _ hzz34 _ _ (aD.eq (aD.eq .nil))) rfl ?_
     exact ae.nil ⟨_,_,rfl,fun _ ht=>by cases ht; exact ⟨rfl,.refl _⟩⟩
    refine .cons rfl rfl rfl (.step ?_) ?_
    ·
     refine ae.ret rfl (aA rfl rfl) (aN E _ _ _ _ _ hzz35 _ _ (aD.eq (aD.eq (aD.eq .nil)))) rfl ?_
     exact ae.nil ⟨_,_,rfl,fun _ ht=>by cases ht; exact ⟨rfl,.refl _⟩⟩
    refine .v rfl rfl rfl rfl (ai rfl F4 lK rfl) ?_
    refine .v rfl rfl rfl rfl (av H31 (i:=1) rfl rfl (aC lX rfl)) ?_
    refine .v rfl rfl rfl rfl (ah rfl) ?_
    refine .cons rfl rfl rfl (.step ?_) ?_
    ·
     refine ae.ret rfl (aA rfl rfl) (bF E _ _ _ _ hzz36 _ _ (aD.eq (aD.eq .nil))) rfl ?_
     exact ae.nil ⟨_,_,rfl,fun _ ht=>by cases ht; exact ⟨rfl,.refl _⟩⟩
    refine .cons rfl rfl rfl (.step ?_) ?_
    ·
     refine ae.ret rfl (aA rfl rfl) (aN E _ _ _ _ _ hzz37 _ _ (aD.eq (aD.eq (aD.eq .nil)))) rfl ?_
     exact ae.nil ⟨_,_,rfl,fun _ ht=>by cases ht; exact ⟨rfl,.refl _⟩⟩
    refine .cons rfl rfl rfl (.step ?_) ?_
    ·
     refine ae.val rfl (bA (cs:=[(.d (.int .i64 z35)),(.d (.int .i64 z37)),(.d (.str [])),(.d (.str [])),(.d .aQ),(.d .aQ)]) jV rfl (lM) (bT rfl rfl rfl rfl (bT rfl rfl rfl rfl rfl))) rfl ?_
     refine ae.less (Less.agg' (d:=dM (bY.mk z35 z37 [] [] [])) (ak.eq rfl (ak.eq rfl (ak.eq rfl (ak.eq rfl (ak.fe rfl (.aQ false) rfl rfl (ak.eq rfl .nil)))))) ((bY.eq _).trans rfl)) ?_
     exact ae.nil ⟨_,_,rfl,fun _ ht=>by cases ht; exact ⟨rfl,.refl _⟩⟩
    exact .nil
   refine ae.alloc H31 rfl wM jV rfl rfl (fun b43 S44 H45=>?_)
   refine ae.nil ⟨_,_,_,rfl,(fun _ ht=>by cases ht; rfl),_,(.q (.q (.o (.o (.o (.w (.ptr b43 0 0) (.n .nil))))))),(fun _ ht=>by cases ht; exact ⟨_,rfl,.refl _⟩),?_⟩
   refine ⟨[0,1,2,3,4,5,6,7,8,9,10],by kernel_rfl,?_,_,_,rfl,rfl,.step ?_⟩
   ·
    refine .v rfl rfl rfl rfl (ai rfl Gs lK rfl) ?_
    refine .v rfl rfl rfl rfl (av H45 (i:=2) rfl rfl (aC lX rfl)) ?_
    refine .v rfl rfl rfl rfl (ah rfl) ?_
    refine .cons rfl rfl rfl (.step ?_) ?_
    ·
     refine ae.ret rfl (aA rfl rfl) (bF E _ _ _ _ hzz34 _ _ (aD.eq (aD.eq .nil))) rfl ?_
     exact ae.nil ⟨_,_,rfl,fun _ ht=>by cases ht; exact ⟨rfl,.refl _⟩⟩
    refine .cons rfl rfl rfl (.step ?_) ?_
    ·
     refine ae.ret rfl (aA rfl rfl) (aN E _ _ _ _ _ hzz35 _ _ (aD.eq (aD.eq (aD.eq .nil)))) rfl ?_
     exact ae.nil ⟨_,_,rfl,fun _ ht=>by cases ht; exact ⟨rfl,.refl _⟩⟩
    refine .v rfl rfl rfl rfl (ai rfl F4 lK rfl) ?_
    refine .v rfl rfl rfl rfl (av H45 (i:=2) rfl rfl (aC lX rfl)) ?_
    refine .v rfl rfl rfl rfl (ah rfl) ?_
    refine .cons rfl rfl rfl (.step ?_) ?_
    ·
     refine ae.ret rfl (aA rfl rfl) (bF E _ _ _ _ hzz36 _ _ (aD.eq (aD.eq .nil))) rfl ?_
     exact ae.nil ⟨_,_,rfl,fun _ ht=>by cases ht; exact ⟨rfl,.refl _⟩⟩
    refine .cons rfl rfl rfl (.step ?_) ?_
    ·
     refine ae.ret rfl (aA rfl rfl) (aN E _ _ _ _ _ hzz37 _ _ (aD.eq (aD.eq (aD.eq .nil)))) rfl ?_
     exact ae.nil ⟨_,_,rfl,fun _ ht=>by cases ht; exact ⟨rfl,.refl _⟩⟩
    refine .cons rfl rfl rfl (.step ?_) ?_
    ·
     refine ae.val rfl (bA (cs:=[(.d (.int .i64 z35)),(.d (.int .i64 z37)),(.d (.str [])),(.d (.str [])),(.d .aQ),(.d .aQ)]) jV rfl (lM) (bT rfl rfl rfl rfl (bT rfl rfl rfl rfl rfl))) rfl ?_
     refine ae.less (Less.agg' (d:=dM (bY.mk z35 z37 [] [] [])) (ak.eq rfl (ak.eq rfl (ak.eq rfl (ak.eq rfl (ak.fe rfl (.aQ false) rfl rfl (ak.eq rfl .nil)))))) ((bY.eq _).trans rfl)) ?_
     exact ae.nil ⟨_,_,rfl,fun _ ht=>by cases ht; exact ⟨rfl,.refl _⟩⟩
    exact .nil
   refine ae.store H45 (i:=0) rfl rfl rfl rfl (bY.bu _) rfl eO rfl nD rfl rfl rfl (fun S46 H47=>?_)
   refine ae.nil ⟨_,.any,_,rfl,(fun _ ht=>by cases ht),_,(.q (.q (.q (.w .any .nil)))),(fun _ ht=>by cases ht),?_⟩
   refine ⟨[],by kernel_rfl,?_,_,rfl,?_⟩
   ·
    exact .nil
   refine ax.seq ?_
   refine ax.region E.obj rfl ?_
   refine ae.val rfl (ai rfl Jq lK rfl) rfl ?_
   refine ae.val rfl (av H47 (i:=2) rfl rfl (aC lX rfl)) rfl ?_
   refine ae.val rfl (ah rfl) rfl ?_
   obtain ⟨z48,hzz48,h⟩:=bind_some h
   refine ae.ret rfl (aA rfl rfl) (bF E _ _ _ _ hzz48 _ _ (aD.eq (aD.eq .nil))) rfl ?_
   refine ae.val rfl (aj rfl) rfl ?_
   refine ae.nil ?_
   refine ax.join (B:=aI) (α:=Str × Str × (List Attr)) (fun a=>bS x20 x22 x24 (aV n a1 z8 k25) x32 z35 z37 a.1 a.2.1 a.2.2=some r) (fun a=>[(1,(.ptr b2 0 0)),(2,(.ptr b5 0 0)),(3,(.d (.sl ((([[100,105,118],[112],[108,105],[98]]:List Str)).map D.str) true))),(4,(.d (.sl ((([[105,100],[112,97],[112,98],[108,97,115,116]]:List Str)).map D.str) true))),(5,(.d (.sl ((z8).map D.str) false))),(6,v21),(7,v23),(8,(.d (.int .i64 x24))),(9,(.d (.int .i64 x32))),(11,(.ptr b43 0 0))]) (fun a=>[.box b43 [(.d (.int .i64 (bY.mk z35 z37 [] [] []).Kind)),(.d (.int .i64 (bY.mk z35 z37 [] [] []).N)),(.d (.str a.1)),(.d (.str a.2.1)),(.d (.sl ((a.2.2).map aU) false)),(.d .aQ)],.box b5 [(.d (.int .i64 0)),(.d (.int .i64 0)),(.d (.str [])),(.d (.str [])),(.d .aQ),(.d .aQ)],.box b2 [(.d (.sl ((a1.Under).map (D.int .i64)) false)),(.d (.sl ((a1.Kinds).map (D.int .i64)) false)),(.d (.sl ((a1.Ns).map (D.int .i64)) false)),(.d (.sl ((a1.Texts).map (D.int .i64)) false))],.grow v21 ((x20).map dM),.grow v23 ((x22).map (D.int .i64))]) ?_ ?_
   ·
    intro a S49 H50 h
    obtain ⟨x51,x52,x53⟩:=a
    replace h:bS x20 x22 x24 (aV n a1 z8 k25) x32 z35 z37 x51 x52 x53=some r:=h
    replace H50:Has aI S49 [.box b43 [(.d (.int .i64 (bY.mk z35 z37 [] [] []).Kind)),(.d (.int .i64 (bY.mk z35 z37 [] [] []).N)),(.d (.str x51)),(.d (.str x52)),(.d (.sl ((x53).map aU) false)),(.d .aQ)],.box b5 [(.d (.int .i64 0)),(.d (.int .i64 0)),(.d (.str [])),(.d (.str [])),(.d .aQ),(.d .aQ)],.box b2 [(.d (.sl ((a1.Under).map (D.int .i64)) false)),(.d (.sl ((a1.Kinds).map (D.int .i64)) false)),(.d (.sl ((a1.Ns).map (D.int .i64)) false)),(.d (.sl ((a1.Texts).map (D.int .i64)) false))],.grow v21 ((x20).map dM),.grow v23 ((x22).map (D.int .i64))]:=H50
    unfold bS at h
    refine ax.region E.obj rfl ?_
    refine ae.val rfl (ah rfl) rfl ?_
    refine ae.val rfl (av H50 (i:=0) rfl rfl (bf jf eO rfl)) rfl ?_
    refine ae.less (Less.agg' (d:=dM (bY.mk ((bY.mk z35 z37 [] [] []).Kind) ((bY.mk z35 z37 [] [] []).N) x51 x52 x53)) (ak.eq rfl (ak.eq rfl (ak.eq rfl (ak.eq rfl (ak.eq rfl (ak.eq rfl .nil)))))) ((bY.eq _).trans rfl)) ?_
    refine ae.val rfl (aO (vs:=[(.d (dM (bY.mk ((bY.mk z35 z37 [] [] []).Kind) ((bY.mk z35 z37 [] [] []).N) x51 x52 x53)))]) (ds:=[(dM (bY.mk ((bY.mk z35 z37 [] [] []).Kind) ((bY.mk z35 z37 [] [] []).N) x51 x52 x53))]) xY nz jf jV eO rfl (by decide) (.cons rfl (bY.len _) .nil) rfl (by intro d hd; simp only [List.mem_cons,List.not_mem_nil,or_false] at hd; rcases hd with rfl <;> exact bY.agg _) rfl) rfl ?_
    obtain ⟨z55,hzz55,h⟩:=bind_some h
    refine ae.append (xs:=(x20).map dM) (ys:=([(bY.mk ((bY.mk z35 z37 [] [] []).Kind) ((bY.mk z35 z37 [] [] []).N) x51 x52 x53)]).map dM) (zs:=(z55).map dM) H50 rfl rfl rfl (i:=3) rfl rfl xY Gm nz (eD hzz55) EP rfl (bK (enc:=dM) (fun z=>(bY.len z).trans eO.symm) _) (bK (enc:=dM) (fun z=>(bY.len z).trans eO.symm) _) G6 rfl (iJ hzz55) (fun v56 S57 H58=>?_)
    refine ae.val rfl (ah rfl) rfl ?_
    refine ae.val rfl (ah rfl) rfl ?_
    refine ae.val rfl (aO (vs:=[(.d (.int .i64 x32))]) (ds:=[(.int .i64 x32)]) Dw ku ji DU pI rfl (by decide) (.cons rfl rfl .nil) rfl (by intro d hd; simp only [List.mem_cons,List.not_mem_nil,or_false] at hd; rcases hd with rfl <;> rfl) rfl) rfl ?_
    obtain ⟨z59,hzz59,h⟩:=bind_some h
    refine ae.append (xs:=(x22).map (D.int .i64)) (ys:=([x32]).map (D.int .i64)) (zs:=(z59).map (D.int .i64)) H58 rfl rfl rfl (i:=4) rfl rfl Dw JC ku (eD hzz59) Kj rfl (bK (enc:=(D.int .i64)) (fun _=>pI.symm) _) (bK (enc:=(D.int .i64)) (fun _=>pI.symm) _) Lg rfl (iJ hzz59) (fun v60 S61 H62=>?_)
    refine ae.val rfl (aj rfl) rfl ?_
    refine ae.val rfl (aj rfl) rfl ?_
    refine ae.nil ?_
    refine ax.region E.obj rfl ?_
    refine ae.val rfl (ah rfl) rfl ?_
    refine ae.val rfl (ay rfl rfl cu) rfl ?_
    refine ae.val rfl (aj rfl) rfl ?_
    refine ae.nil ?_
    exact ⟨⟨z55,v56,z59,v60,(IntKind.wrap .i64 (x24 + 1))⟩,_,_,S61,.refl _ _,.refl _,(aa.r rfl (aa.r rfl (aa.r rfl (aa.r rfl (aa.r rfl (aa.r rfl (aa.r rfl (aa.r rfl aa.nil)))))))),H62.sl [1,2,3,4] rfl rfl,h⟩
   refine ax.seq ?_
   refine ax.region E.obj rfl ?_
   refine ae.val rfl (ai rfl j3 mg rfl) rfl ?_
   refine ae.val rfl (av H47 (i:=0) rfl rfl (aC ji rfl)) rfl ?_
   refine ae.nil ?_
   refine ax.block ?_
   refine ax.seq ?_
   refine ax.region E.obj rfl ?_
   refine ae.val rfl (ay rfl rfl dS) rfl ?_
   refine ae.val rfl (aj rfl) rfl ?_
   refine ae.nil ?_
   refine ax.cond rfl (fun hb63=>?_) (fun hb63=>?_)
   ·
    replace h:=dK hb63 h
    refine ax.seq ?_
    refine ax.region E.obj rfl ?_
    refine ae.val rfl (ah rfl) rfl ?_
    refine ae.val rfl (ah rfl) rfl ?_
    refine ae.val rfl (ah rfl) rfl ?_
    refine ae.val rfl (bz rfl GL) rfl ?_
    refine ae.val rfl (ay rfl rfl ig) rfl ?_
    obtain ⟨z64,hzz64,h⟩:=bind_some h
    refine ae.ret rfl (aA rfl rfl) (aN E _ _ _ _ _ hzz64 _ _ (aD.eq (aD.eq (aD.eq .nil)))) rfl ?_
    obtain ⟨z65,hzz65,h⟩:=bind_some h
    refine ae.val rfl (df rfl rfl (dQ (enc:=D.str) hzz65 yB HY (((fun _=>rfl) _).trans D9.symm))) rfl ?_
    refine ae.val rfl (bD rfl (dG vW rfl)) rfl ?_
    refine ae.val rfl (ai rfl FO Bz rfl) rfl ?_
    refine ae.store H47 (i:=0) rfl rfl rfl rfl rfl rfl D9 rfl HY rfl rfl rfl (fun S66 H67=>?_)
    refine ae.nil ?_
    refine ax.seq ?_
    refine ax.region E.obj rfl ?_
    refine ae.val rfl (ah rfl) rfl ?_
    refine ae.val rfl (ay rfl rfl uB) rfl ?_
    refine ae.val rfl (ay rfl rfl dS) rfl ?_
    refine ae.nil ?_
    refine ax.cond rfl (fun hb68=>?_) (fun hb68=>?_)
    ·
     replace h:=dK hb68 h
     refine ax.region E.obj rfl ?_
     refine ae.val rfl (ah rfl) rfl ?_
     refine ae.val rfl (ah rfl) rfl ?_
     obtain ⟨z69,hzz69,h⟩:=bind_some h
     refine ae.val rfl (ay rfl rfl (u7 hzz69)) rfl ?_
     refine ae.val rfl (ah rfl) rfl ?_
     refine ae.val rfl (bz rfl GL) rfl ?_
     refine ae.val rfl (ay rfl rfl ig) rfl ?_
     obtain ⟨z70,hzz70,h⟩:=bind_some h
     refine ae.ret rfl (aA rfl rfl) (aN E _ _ _ _ _ hzz70 _ _ (aD.eq (aD.eq (aD.eq .nil)))) rfl ?_
     obtain ⟨z71,hzz71,h⟩:=bind_some h
     refine ae.val rfl (df rfl rfl (dQ (enc:=D.str) hzz71 yB HY (((fun _=>rfl) _).trans D9.symm))) rfl ?_
     refine ae.val rfl (bD rfl (dG vW rfl)) rfl ?_
     refine ae.val rfl (bA (cs:=[(.d (.str [120])),(.d (.str z71))]) Ku rfl (yA) (bT rfl rfl rfl rfl (bT rfl rfl rfl rfl rfl))) rfl ?_
     refine ae.less (Less.agg' (d:=aU (Attr.mk [120] z71)) (ak.eq rfl (ak.eq rfl .nil)) ((Attr.eq _).trans rfl)) ?_
     refine ae.val rfl (aO (vs:=[(.d (aU (Attr.mk [120] z71)))]) (ds:=[(aU (Attr.mk [120] z71))]) Ju Je Kh Ku Jg rfl (by decide) (.cons rfl (Attr.len _) .nil) rfl (by intro d hd; simp only [List.mem_cons,List.not_mem_nil,or_false] at hd; rcases hd with rfl <;> exact Attr.agg _) rfl) rfl ?_
     refine ae.val rfl (ai rfl De JY rfl) rfl ?_
     refine ae.store H67 (i:=0) rfl rfl rfl rfl rfl rfl KE rfl KI rfl rfl rfl (fun S72 H73=>?_)
     refine ae.nil ?_
     obtain ⟨S74,hw75,H76⟩:=H73.AQ (i:=0) (cs':=[(.d (.int .i64 (bY.mk z35 z37 [] [] []).Kind)),(.d (.int .i64 (bY.mk z35 z37 [] [] []).N)),(.d (.str z65)),(.d (.str (bY.mk z35 z37 [] [] []).Text)),(.d (.sl (([(Attr.mk [120] z71)]).map aU) false)),(.d .aQ)]) rfl (.cons (.refl _) (.cons (.refl _) (.cons (.refl _) (.cons (.refl _) (.cons Fq (.cons (.refl _) .nil))))))
     exact ⟨⟨z65,(bY.mk z35 z37 [] [] []).Text,[(Attr.mk [120] z71)]⟩,_,_,S74,.refl _ _,hw75,(aa.r rfl (aa.r rfl (aa.r rfl (aa.r rfl (aa.r rfl (aa.r rfl (aa.r rfl (aa.r rfl (aa.r rfl (aa.r rfl aa.nil)))))))))),H76.sl [0,1,2,3,4] rfl rfl,h⟩
    replace h:=dJ hb68 h
    refine ax.skip ?_
    exact ⟨⟨z65,(bY.mk z35 z37 [] [] []).Text,(bY.mk z35 z37 [] [] []).bB⟩,_,_,S66,.refl _ _,.refl _,(aa.r rfl (aa.r rfl (aa.r rfl (aa.r rfl (aa.r rfl (aa.r rfl (aa.r rfl (aa.r rfl (aa.r rfl (aa.r rfl aa.nil)))))))))),H67.sl [0,1,2,3,4] rfl rfl,h⟩
   replace h:=dJ hb63 h
   refine ax.seq ?_
   refine ax.region E.obj rfl ?_
   refine ae.val rfl (ay rfl rfl dS) rfl ?_
   refine ae.val rfl (aj rfl) rfl ?_
   refine ae.nil ?_
   refine ax.cond rfl (fun hb77=>?_) (fun hb77=>?_)
   ·
    replace h:=dK hb77 h
    refine ax.region E.obj rfl ?_
    refine ae.val rfl (ah rfl) rfl ?_
    refine ae.val rfl (ah rfl) rfl ?_
    refine ae.val rfl (ah rfl) rfl ?_
    refine ae.val rfl (bz rfl GL) rfl ?_
    refine ae.val rfl (ay rfl rfl ig) rfl ?_
    obtain ⟨z78,hzz78,h⟩:=bind_some h
    refine ae.ret rfl (aA rfl rfl) (aN E _ _ _ _ _ hzz78 _ _ (aD.eq (aD.eq (aD.eq .nil)))) rfl ?_
    obtain ⟨z79,hzz79,h⟩:=bind_some h
    refine ae.val rfl (df rfl rfl (dQ (enc:=D.str) hzz79 yB HY (((fun _=>rfl) _).trans D9.symm))) rfl ?_
    refine ae.val rfl (bD rfl (dG vW rfl)) rfl ?_
    refine ae.val rfl (ai rfl Hu Bz rfl) rfl ?_
    refine ae.store H47 (i:=0) rfl rfl rfl rfl rfl rfl D9 rfl HY rfl rfl rfl (fun S80 H81=>?_)
    refine ae.nil ?_
    exact ⟨⟨(bY.mk z35 z37 [] [] []).Tag,z79,(bY.mk z35 z37 [] [] []).bB⟩,_,_,S80,.refl _ _,.refl _,(aa.r rfl (aa.r rfl (aa.r rfl (aa.r rfl (aa.r rfl (aa.r rfl (aa.r rfl (aa.r rfl (aa.r rfl (aa.r rfl aa.nil)))))))))),H81.sl [0,1,2,3,4] rfl rfl,h⟩
   replace h:=dJ hb77 h
   refine ax.seq ?_
   refine ax.region E.obj rfl ?_
   refine ae.val rfl (ay rfl rfl dS) rfl ?_
   refine ae.val rfl (aj rfl) rfl ?_
   refine ae.nil ?_
   refine ax.cond rfl (fun hb82=>?_) (fun hb82=>?_)
   ·
    replace h:=dK hb82 h
    refine ax.region E.obj rfl ?_
    refine ae.val rfl (ah rfl) rfl ?_
    refine ae.val rfl (ah rfl) rfl ?_
    refine ae.val rfl (ah rfl) rfl ?_
    refine ae.val rfl (bz rfl GL) rfl ?_
    refine ae.val rfl (ay rfl rfl ig) rfl ?_
    obtain ⟨z83,hzz83,h⟩:=bind_some h
    refine ae.ret rfl (aA rfl rfl) (aN E _ _ _ _ _ hzz83 _ _ (aD.eq (aD.eq (aD.eq .nil)))) rfl ?_
    obtain ⟨z84,hzz84,h⟩:=bind_some h
    refine ae.val rfl (df rfl rfl (dQ (enc:=D.str) hzz84 yB HY (((fun _=>rfl) _).trans D9.symm))) rfl ?_
    refine ae.val rfl (bD rfl (dG vW rfl)) rfl ?_
    refine ae.val rfl (ai rfl Hu Bz rfl) rfl ?_
    refine ae.store H47 (i:=0) rfl rfl rfl rfl rfl rfl D9 rfl HY rfl rfl rfl (fun S85 H86=>?_)
    refine ae.nil ?_
    exact ⟨⟨(bY.mk z35 z37 [] [] []).Tag,z84,(bY.mk z35 z37 [] [] []).bB⟩,_,_,S85,.refl _ _,.refl _,(aa.r rfl (aa.r rfl (aa.r rfl (aa.r rfl (aa.r rfl (aa.r rfl (aa.r rfl (aa.r rfl (aa.r rfl (aa.r rfl aa.nil)))))))))),H86.sl [0,1,2,3,4] rfl rfl,h⟩
   replace h:=dJ hb82 h
   refine ax.skip ?_
   exact ⟨⟨(bY.mk z35 z37 [] [] []).Tag,(bY.mk z35 z37 [] [] []).Text,(bY.mk z35 z37 [] [] []).bB⟩,_,_,S46,.refl _ _,.refl _,(aa.r rfl (aa.r rfl (aa.r rfl (aa.r rfl (aa.r rfl (aa.r rfl (aa.r rfl (aa.r rfl (aa.r rfl (aa.r rfl aa.nil)))))))))),H47.sl [0,1,2,3,4] rfl rfl,h⟩
  refine ax.seq ?_
  refine ax.region E.obj rfl ?_
  refine ae.val rfl (ah rfl) rfl ?_
  refine ae.val rfl (ah rfl) rfl ?_
  obtain ⟨z87,hzz87,h⟩:=bind_some h
  refine ae.val rfl (df rfl rfl (qo (enc:=dM) H19 (i:=2) rfl hzz87 nz nD ((bY.len _).trans eO.symm))) rfl ?_
  refine ae.val rfl (jB rfl j3 mg rfl) rfl ?_
  refine ae.val rfl (bD rfl (by rw [bY.cells]; exact dG ji rfl)) rfl ?_
  refine ae.val rfl (aj rfl) rfl ?_
  refine ae.nil ?_
  refine ax.seq ?_
  refine ax.region E.obj rfl ?_
  refine ae.val rfl (ah rfl) rfl ?_
  refine ae.val rfl (ay rfl rfl jA) rfl ?_
  refine ae.val rfl (ah rfl) rfl ?_
  refine ae.bL 3 49 (.d (.bool ((z87.Kind != 1) && (z87.Kind != 5)))) ?_ ?_
  ·
   rcases Bool.eq_false_or_eq_true ((z87.Kind != 1)) with hB88 | hB88
   ·
    refine ae.bool hB88 ?_
    refine ae.val rfl (ah rfl) rfl ?_
    refine ae.val rfl (ay rfl rfl jA) rfl ?_
    refine ae.val rfl (az (b:=true) rfl rfl) rfl ?_
    exact ae.nil ⟨_,rfl,(aa.put (aa.push rfl (aa.push rfl (aa.put (.refl _) (Less.eq (by rw [hB88]))))) (Less.eq (by rw [hB88]; rw [Bool.true_and])))⟩
   refine ae.bool hB88 ?_
   refine ae.no rfl rfl ?_
   refine ae.no rfl rfl ?_
   refine ae.val rfl (az (b:=false) rfl rfl) rfl ?_
   exact ae.nil ⟨_,rfl,(aa.put (aa.push rfl (aa.push rfl (aa.put (.refl _) (Less.eq (by rw [hB88]))))) (Less.eq (by rw [hB88]; rw [Bool.false_and])))⟩
  refine ae.val rfl (ah rfl) rfl ?_
  refine ae.bL 3 53 (.d (.bool (((z87.Kind != 1) && (z87.Kind != 5)) && (z87.Kind != 6)))) ?_ ?_
  ·
   rcases Bool.eq_false_or_eq_true (((z87.Kind != 1) && (z87.Kind != 5))) with hB89 | hB89
   ·
    refine ae.bool hB89 ?_
    refine ae.val rfl (ah rfl) rfl ?_
    refine ae.val rfl (ay rfl rfl jA) rfl ?_
    refine ae.val rfl (az (b:=true) rfl rfl) rfl ?_
    exact ae.nil ⟨_,rfl,(aa.put (aa.push rfl (aa.push rfl (aa.put (.refl _) (Less.eq (by rw [hB89]))))) (Less.eq (by rw [hB89]; rw [Bool.true_and])))⟩
   refine ae.bool hB89 ?_
   refine ae.no rfl rfl ?_
   refine ae.no rfl rfl ?_
   refine ae.val rfl (az (b:=false) rfl rfl) rfl ?_
   exact ae.nil ⟨_,rfl,(aa.put (aa.push rfl (aa.push rfl (aa.put (.refl _) (Less.eq (by rw [hB89]))))) (Less.eq (by rw [hB89]; rw [Bool.false_and])))⟩
  refine ae.val rfl (ah rfl) rfl ?_
  obtain ⟨z91,hzz91,h⟩:=bind_some h
  refine ae.bL 5 59 (.d (.bool z91)) ?_ ?_
  ·
   rcases Bool.eq_false_or_eq_true ((((z87.Kind != 1) && (z87.Kind != 5)) && (z87.Kind != 6))) with hB90 | hB90
   ·
    refine ae.bool hB90 ?_
    refine ae.no rfl rfl ?_
    refine ae.no rfl rfl ?_
    refine ae.no rfl rfl ?_
    refine ae.no rfl rfl ?_
    refine ae.val rfl (az (b:=true) rfl rfl) rfl ?_
    replace hzz91:=dK hB90 hzz91
    cases hzz91
    exact ae.nil ⟨_,rfl,(aa.put (aa.push rfl (aa.push rfl (aa.push rfl (aa.push rfl (aa.put (.refl _) (Less.eq (by rw [hB90]))))))) (.refl _))⟩
   refine ae.bool hB90 ?_
   replace hzz91:=dJ hB90 hzz91
   refine ae.val rfl (ah rfl) rfl ?_
   refine ae.val rfl (ah rfl) rfl ?_
   obtain ⟨z92,hzz92,hzz91⟩:=bind_some hzz91
   refine ae.ret rfl (aA rfl rfl) (sw E _ _ _ _ hzz92 _ _ (aD.grow H19 (i:=3) rfl (aD.eq .nil))) rfl ?_
   refine ae.val rfl (ay rfl rfl jb) rfl ?_
   refine ae.val rfl (az (b:=false) rfl rfl) rfl ?_
   cases hzz91
   exact ae.nil ⟨_,rfl,(aa.put (aa.push rfl (aa.push rfl (aa.push rfl (aa.push rfl (aa.put (.refl _) (Less.eq (by rw [hB90]))))))) (.refl _))⟩
  refine ae.nil ?_
  refine ax.cond rfl (fun hb93=>?_) (fun hb93=>?_)
  ·
   replace h:=dK hb93 h
   refine ax.region E.obj rfl ?_
   refine ae.val rfl (aj rfl) rfl ?_
   refine ae.nil ?_
   exact ⟨0,_,_,S18,.refl _ _,.refl _,(aa.r rfl (aa.r rfl (aa.r rfl (aa.r rfl (aa.r rfl (aa.r rfl (aa.r rfl (aa.r rfl (aa.r rfl aa.nil))))))))),H19.sl [0,1,2,3] rfl rfl,h⟩
  replace h:=dJ hb93 h
  refine ax.skip ?_
  exact ⟨z29,_,_,S18,.refl _ _,.refl _,(aa.r rfl (aa.r rfl (aa.r rfl (aa.r rfl (aa.r rfl (aa.r rfl (aa.r rfl (aa.r rfl (aa.r rfl aa.nil))))))))),H19.sl [0,1,2,3] rfl rfl,h⟩
 replace h:=dJ hb27 h
 refine ax.exit ?_
 refine ax.seq ?_
 refine ax.region E.obj rfl ?_
 refine ae.val rfl (ah rfl) rfl ?_
 refine ae.val rfl (ah rfl) rfl ?_
 obtain ⟨z94,hzz94,h⟩:=bind_some h
 refine ae.ret rfl (aA rfl rfl) (nE E _ _ _ _ _ hzz94 _ _ (aD.grow H19 (i:=2) rfl (aD.grow H19 (i:=3) rfl (aD.eq .nil)))) rfl ?_
 refine ae.store H19 (i:=0) rfl rfl rfl rfl (aF.bu _) rfl eO rfl nD rfl rfl rfl (fun S95 H96=>?_)
 refine ae.nil ?_
 have hr:=Option.some.inj h
 subst hr
 exact ax.ret ⟨_,gq H96 (i:=0) rfl rfl rfl (bf jf eO rfl),rfl,fE (aD.ou (d:=aH z94) (ak.eq rfl (ak.eq rfl (ak.eq rfl (ak.eq rfl (ak.eq rfl (ak.eq rfl .nil)))))) ((aF.eq _).trans rfl))⟩
set_option maxRecDepth 20000 in
set_option maxHeartbeats 4000000 in
theorem kW (n:Nat) (a1:dW) (r:aG) (h:fM n a1=some r):bU R cfg.P 13 [(dV a1)] (.d (aM r)):=by
 unfold fM at h
 refine bU.of_wp E.obj.toObjOk (C:=cfg) Tryd.func13 rfl LC rfl ?_
 have H0:Has aI aI []:=Has.pure
 refine ax.seq ?_
 refine ax.region E.obj rfl ?_
 refine ae.box H0 rfl rfl rfl (dW.bu _) rfl (fun b2 S3 H4=>?_)
 refine ae.alloc H4 rfl Jk rG rfl rfl (fun b5 S6 H7=>?_)
 refine ae.nil ?_
 refine ax.seq ?_
 obtain ⟨z8,hzz8,h⟩:=bind_some h
 obtain ⟨z9,hzz9,h⟩:=bind_some h
 refine ax.qL E.obj rO Nn [(1,none),(2,none),(3,some 7)] (by kernel_rfl) [7,8] (by decide) [some (.ptr b2 0 0),some (.d (jq a1.Page)),some (.d (aH z8)),some (.ptr b2 0 6),some (.d (.bool a1.Outlet)),some (.d (aH z9)),some (Ev.gP [(.d (.int .i64 z9.Kind)),(.d (.int .i64 z9.N)),(.d (.str z9.Tag)),(.d (.str z9.Text)),(.d (.sl ((z9.bB).map aU) false)),(.d (.sl ((z9.Kids).map aH) false)),(.d .aQ),(.d .aQ)]),none,none] ?_
 refine ⟨[0,1,2,3,4,5,6],by kernel_rfl,?_,_,_,rfl,rfl,.step ?_⟩
 ·
  refine .v rfl rfl rfl rfl (ai rfl Hg KF rfl) ?_
  refine .cons rfl rfl rfl (.step ?_) ?_
  ·
   refine ae.val rfl (av H7 (i:=1) rfl rfl (bf KQ KU rfl)) rfl ?_
   refine ae.less (Less.agg' (d:=jq a1.Page) (ak.eq rfl (ak.eq rfl (ak.eq rfl (ak.eq rfl .nil)))) ((bR.eq _).trans rfl)) ?_
   exact ae.nil ⟨_,_,rfl,fun _ ht=>by cases ht; exact ⟨rfl,.refl _⟩⟩
  refine .cons rfl rfl rfl (.step ?_) ?_
  ·
   refine ae.ret rfl (aA rfl rfl) (kZ E _ _ _ hzz8 _ _ (aD.eq .nil)) rfl ?_
   exact ae.nil ⟨_,_,rfl,fun _ ht=>by cases ht; exact ⟨rfl,.refl _⟩⟩
  refine .v rfl rfl rfl rfl (ai rfl Aw KT rfl) ?_
  refine .v rfl rfl rfl rfl (av H7 (i:=1) rfl rfl (aC M7 rfl)) ?_
  refine .cons rfl rfl rfl (.step ?_) ?_
  ·
   refine ae.ret rfl (aA rfl rfl) (mW E _ _ _ _ hzz9 _ _ (aD.eq (aD.eq .nil))) rfl ?_
   exact ae.nil ⟨_,_,rfl,fun _ ht=>by cases ht; exact ⟨rfl,.refl _⟩⟩
  refine .v rfl rfl rfl rfl (bA (cs:=[(.d (.int .i64 z9.Kind)),(.d (.int .i64 z9.N)),(.d (.str z9.Tag)),(.d (.str z9.Text)),(.d (.sl ((z9.bB).map aU) false)),(.d (.sl ((z9.Kids).map aH) false)),(.d .aQ),(.d .aQ)]) rG rfl (rf) (bT rfl (iO (aF.bu _)) rfl rfl rfl)) ?_
  exact .nil
 refine ae.alloc H7 rfl Jk rG rfl rfl (fun b15 S16 H17=>?_)
 refine ae.nil ⟨_,_,_,rfl,(fun _ ht=>by cases ht; rfl),_,(.q (.o (.o (.o (.w (.ptr b15 0 0) (.n .nil)))))),(fun _ ht=>by cases ht; exact ⟨_,rfl,.refl _⟩),?_⟩
 refine ⟨[0,1,2,3,4,5,6],by kernel_rfl,?_,_,_,rfl,rfl,.step ?_⟩
 ·
  refine .v rfl rfl rfl rfl (ai rfl Hg KF rfl) ?_
  refine .cons rfl rfl rfl (.step ?_) ?_
  ·
   refine ae.val rfl (av H17 (i:=2) rfl rfl (bf KQ KU rfl)) rfl ?_
   refine ae.less (Less.agg' (d:=jq a1.Page) (ak.eq rfl (ak.eq rfl (ak.eq rfl (ak.eq rfl .nil)))) ((bR.eq _).trans rfl)) ?_
   exact ae.nil ⟨_,_,rfl,fun _ ht=>by cases ht; exact ⟨rfl,.refl _⟩⟩
  refine .cons rfl rfl rfl (.step ?_) ?_
  ·
   refine ae.ret rfl (aA rfl rfl) (kZ E _ _ _ hzz8 _ _ (aD.eq .nil)) rfl ?_
   exact ae.nil ⟨_,_,rfl,fun _ ht=>by cases ht; exact ⟨rfl,.refl _⟩⟩
  refine .v rfl rfl rfl rfl (ai rfl Aw KT rfl) ?_
  refine .v rfl rfl rfl rfl (av H17 (i:=2) rfl rfl (aC M7 rfl)) ?_
  refine .cons rfl rfl rfl (.step ?_) ?_
  ·
   refine ae.ret rfl (aA rfl rfl) (mW E _ _ _ _ hzz9 _ _ (aD.eq (aD.eq .nil))) rfl ?_
   exact ae.nil ⟨_,_,rfl,fun _ ht=>by cases ht; exact ⟨rfl,.refl _⟩⟩
  refine .v rfl rfl rfl rfl (bA (cs:=[(.d (.int .i64 z9.Kind)),(.d (.int .i64 z9.N)),(.d (.str z9.Tag)),(.d (.str z9.Text)),(.d (.sl ((z9.bB).map aU) false)),(.d (.sl ((z9.Kids).map aH) false)),(.d .aQ),(.d .aQ)]) rG rfl (rf) (bT rfl (iO (aF.bu _)) rfl rfl rfl)) ?_
  exact .nil
 refine ae.store H17 (i:=0) rfl rfl rfl rfl rfl rfl kT rfl tY rfl rfl rfl (fun S18 H19=>?_)
 refine ae.nil ⟨_,.any,_,rfl,(fun _ ht=>by cases ht),_,(.q (.q (.w .any .nil))),(fun _ ht=>by cases ht),?_⟩
 refine ⟨[],by kernel_rfl,?_,_,rfl,?_⟩
 ·
  exact .nil
 refine ax.seq ?_
 refine ax.seq ?_
 refine ax.region E.obj rfl ?_
 refine ae.val rfl (ah rfl) rfl ?_
 refine ae.nil ?_
 refine ax.block ?_
 have H82:=H19.CY
 refine nR.start (B:=aI) (α:=(List Int) × AV × Int) (fun k a=>cO n a1 z9 k a.1 a.2.2=some r) (fun a=>[(1,(.ptr b2 0 0)),(2,(.ptr b5 0 0)),(3,(.ptr b15 0 0)),(14,(.d (.int .i64 a.2.2)))]) (fun a=>[.box b15 [(.d (.int .i64 z9.Kind)),(.d (.int .i64 z9.N)),(.d (.str z9.Tag)),(.d (.str z9.Text)),(.d (.sl ((z9.bB).map aU) false)),(.d (.sl ((z9.Kids).map aH) false)),a.2.1,(.d .aQ)],.box b5 [(.d (.int .i64 0)),(.d (.int .i64 0)),(.d (.str [])),(.d (.str [])),(.d .aQ),(.d .aQ),(.d .aQ),(.d .aQ)],.box b2 [(.d (.sl ((a1.Page.Under).map (D.int .i64)) false)),(.d (.sl ((a1.Page.Kinds).map (D.int .i64)) false)),(.d (.sl ((a1.Page.Ns).map (D.int .i64)) false)),(.d (.sl ((a1.Page.Texts).map (D.int .i64)) false)),(.d (.sl ((a1.Init).map (D.int .i64)) false)),(.d (.sl ((a1.Adds).map (D.int .i64)) false)),(.d (.bool a1.Outlet))],.grow a.2.1 ((a.1).map (D.int .i64))]) ?_ ?_ n ⟨⟨[],(.d .aQ),0⟩,_,_,S18,.refl _ _,.refl _,(aa.r rfl (aa.r rfl (aa.r rfl (aa.r rfl aa.nil)))),H82.sl [1,2,3,0] rfl rfl,h⟩
 ·
  intro a h; simp [cO] at h
 intro k32 a S27 H28 h
 obtain ⟨x29,v30,x31⟩:=a
 replace h:cO n a1 z9 (k32 + 1) x29 x31=some r:=h
 replace H28:Has aI S27 [.box b15 [(.d (.int .i64 z9.Kind)),(.d (.int .i64 z9.N)),(.d (.str z9.Tag)),(.d (.str z9.Text)),(.d (.sl ((z9.bB).map aU) false)),(.d (.sl ((z9.Kids).map aH) false)),v30,(.d .aQ)],.box b5 [(.d (.int .i64 0)),(.d (.int .i64 0)),(.d (.str [])),(.d (.str [])),(.d .aQ),(.d .aQ),(.d .aQ),(.d .aQ)],.box b2 [(.d (.sl ((a1.Page.Under).map (D.int .i64)) false)),(.d (.sl ((a1.Page.Kinds).map (D.int .i64)) false)),(.d (.sl ((a1.Page.Ns).map (D.int .i64)) false)),(.d (.sl ((a1.Page.Texts).map (D.int .i64)) false)),(.d (.sl ((a1.Init).map (D.int .i64)) false)),(.d (.sl ((a1.Adds).map (D.int .i64)) false)),(.d (.bool a1.Outlet))],.grow v30 ((x29).map (D.int .i64))]:=H28
 unfold cO at h
 refine ax.seq ?_
 refine ax.region E.obj rfl ?_
 refine ae.val rfl (ay rfl rfl bQ) rfl ?_
 refine ae.nil ?_
 refine ax.seq ?_
 refine ax.cond rfl (fun hb33=>?_) (fun hb33=>?_)
 ·
  replace h:=dK hb33 h
  refine ax.skip ?_
  refine ax.seq ?_
  refine ax.block ?_
  refine ax.seq ?_
  refine ax.region E.obj rfl ?_
  refine ae.val rfl (ah rfl) rfl ?_
  refine ae.val rfl (aj rfl) rfl ?_
  refine ae.nil ?_
  obtain ⟨z34,hzz34,h⟩:=bind_some h
  obtain ⟨z35,hzz35,h⟩:=bind_some h
  obtain ⟨z36,hzz36,h⟩:=bind_some h
  refine ax.qL E.obj rO Ng [(1,none),(2,none),(3,none),(14,none)] (by kernel_rfl) [8,10] (by decide) [some (.ptr b15 0 6),some v30,some (.ptr b2 0 4),some (.d (.sl ((a1.Init).map (D.int .i64)) false)),some (.d (.int .i64 x31)),some (.d (.int .i64 z34)),some (.d (.int .i64 z35)),some (.d (.sl (([z35]).map (D.int .i64)) true)),none,none,none] ?_
  refine ⟨[0,1,2,3,4,5,6,7],by kernel_rfl,?_,_,_,rfl,rfl,.step ?_⟩
  ·
   refine .v rfl rfl rfl rfl (ai rfl um lK rfl) ?_
   refine .v rfl rfl rfl rfl (av H28 (i:=0) rfl rfl (aC lX rfl)) ?_
   refine .v rfl rfl rfl rfl (ai rfl Jm lK rfl) ?_
   refine .v rfl rfl rfl rfl (av H28 (i:=2) rfl rfl (aC lX rfl)) ?_
   refine .v rfl rfl rfl rfl (ah rfl) ?_
   refine .cons rfl rfl rfl (.step ?_) ?_
   ·
    refine ae.ret rfl (aA rfl rfl) (bF E _ _ _ _ hzz34 _ _ (aD.eq (aD.eq .nil))) rfl ?_
    exact ae.nil ⟨_,_,rfl,fun _ ht=>by cases ht; exact ⟨rfl,.refl _⟩⟩
   refine .cons rfl rfl rfl (.step ?_) ?_
   ·
    refine ae.ret rfl (aA rfl rfl) (aN E _ _ _ _ _ hzz35 _ _ (aD.eq (aD.eq (aD.eq .nil)))) rfl ?_
    exact ae.nil ⟨_,_,rfl,fun _ ht=>by cases ht; exact ⟨rfl,.refl _⟩⟩
   refine .v rfl rfl rfl rfl (aO (vs:=[(.d (.int .i64 z35))]) (ds:=[(.int .i64 z35)]) Dw ku ji DU pI rfl (by decide) (.cons rfl rfl .nil) rfl (by intro d hd; simp only [List.mem_cons,List.not_mem_nil,or_false] at hd; rcases hd with rfl <;> rfl) rfl) ?_
   exact .nil
  refine ae.append (xs:=(x29).map (D.int .i64)) (ys:=([z35]).map (D.int .i64)) (zs:=(z36).map (D.int .i64)) H28 rfl rfl rfl (i:=3) rfl rfl Dw JC ku (eD hzz36) Kj rfl (bK (enc:=(D.int .i64)) (fun _=>pI.symm) _) (bK (enc:=(D.int .i64)) (fun _=>pI.symm) _) Lg rfl (iJ hzz36) (fun v42 S43 H44=>?_)
  refine ae.nil ⟨_,_,_,rfl,(fun _ ht=>by cases ht; rfl),_,(.q (.q (.w v42 (.w (.ptr b15 0 6) (.n .nil))))),(fun _ ht=>by cases ht; exact ⟨_,rfl,.refl _⟩),?_⟩
  refine ⟨[9],by kernel_rfl,?_,_,_,rfl,rfl,.step ?_⟩
  ·
   refine .v rfl rfl rfl rfl (ai rfl um lK rfl) ?_
   exact .nil
  refine ae.store H44 (i:=0) rfl rfl rfl rfl (iq (H44.at (i:=3) rfl)).2.2.2.2 rfl M3 (iq (H44.at (i:=3) rfl)).2.2.2.1 MW rfl rfl rfl (fun S45 H46=>?_)
  refine ae.nil ⟨_,.any,_,rfl,(fun _ ht=>by cases ht),_,(.q (.q (.o (.o (.w .any .nil))))),(fun _ ht=>by cases ht),?_⟩
  refine ⟨[],by kernel_rfl,?_,_,rfl,?_⟩
  ·
   exact .nil
  refine ax.region E.obj rfl ?_
  refine ae.val rfl (ay rfl rfl cu) rfl ?_
  refine ae.val rfl (ah rfl) rfl ?_
  refine ae.nil ?_
  exact ⟨⟨z36,v42,(IntKind.wrap .i64 (x31 + 1))⟩,_,_,S45,.refl _ _,.refl _,(aa.r rfl (aa.r rfl (aa.r rfl (aa.r rfl aa.nil)))),H46.sl [0,1,2,3] rfl rfl,h⟩
 replace h:=dJ hb33 h
 refine ax.exit ?_
 refine ax.seq ?_
 refine ax.region E.obj rfl ?_
 refine ae.val rfl (aO (vs:=[(.d (.str [117,112])),(.d (.str [100,111,119,110])),(.d (.str [97]))]) (ds:=[(.str [117,112]),(.str [100,111,119,110]),(.str [97])]) Ij yB vW Ko D9 rfl (by decide) (.cons rfl rfl (.cons rfl rfl (.cons rfl rfl .nil))) rfl (by intro d hd; simp only [List.mem_cons,List.not_mem_nil,or_false] at hd; rcases hd with rfl | rfl | rfl <;> rfl) rfl) rfl ?_
 refine ae.val rfl (aj rfl) rfl ?_
 refine ae.nil ?_
 refine ax.seq ?_
 refine ax.seq ?_
 refine ax.region E.obj rfl ?_
 refine ae.val rfl (aj rfl) rfl ?_
 refine ae.nil ?_
 refine ax.block ?_
 have H81:=H28.CY
 refine nR.start (B:=aI) (α:=(List On) × AV × Int) (fun k a=>dB n a1 z9 x29 k a.1 a.2.2=some r) (fun a=>[(1,(.ptr b2 0 0)),(2,(.ptr b5 0 0)),(3,(.ptr b15 0 0)),(5,(.d (.sl ((([[117,112],[100,111,119,110],[97]]:List Str)).map D.str) true))),(6,(.d (.int .i64 a.2.2)))]) (fun a=>[.box b15 [(.d (.int .i64 z9.Kind)),(.d (.int .i64 z9.N)),(.d (.str z9.Tag)),(.d (.str z9.Text)),(.d (.sl ((z9.bB).map aU) false)),(.d (.sl ((z9.Kids).map aH) false)),v30,a.2.1],.box b5 [(.d (.int .i64 0)),(.d (.int .i64 0)),(.d (.str [])),(.d (.str [])),(.d .aQ),(.d .aQ),(.d .aQ),(.d .aQ)],.box b2 [(.d (.sl ((a1.Page.Under).map (D.int .i64)) false)),(.d (.sl ((a1.Page.Kinds).map (D.int .i64)) false)),(.d (.sl ((a1.Page.Ns).map (D.int .i64)) false)),(.d (.sl ((a1.Page.Texts).map (D.int .i64)) false)),(.d (.sl ((a1.Init).map (D.int .i64)) false)),(.d (.sl ((a1.Adds).map (D.int .i64)) false)),(.d (.bool a1.Outlet))],.grow v30 ((x29).map (D.int .i64)),.grow a.2.1 ((a.1).map eH)]) ?_ ?_ n ⟨⟨[],(.d .aQ),0⟩,_,_,S27,.refl _ _,.refl _,(aa.r rfl (aa.r rfl (aa.r rfl (aa.r rfl (aa.r rfl aa.nil))))),H81.sl [1,2,3,4,0] rfl rfl,h⟩
 ·
  intro a h; simp [dB] at h
 intro k59 a S54 H55 h
 obtain ⟨x56,v57,x58⟩:=a
 replace h:dB n a1 z9 x29 (k59 + 1) x56 x58=some r:=h
 replace H55:Has aI S54 [.box b15 [(.d (.int .i64 z9.Kind)),(.d (.int .i64 z9.N)),(.d (.str z9.Tag)),(.d (.str z9.Text)),(.d (.sl ((z9.bB).map aU) false)),(.d (.sl ((z9.Kids).map aH) false)),v30,v57],.box b5 [(.d (.int .i64 0)),(.d (.int .i64 0)),(.d (.str [])),(.d (.str [])),(.d .aQ),(.d .aQ),(.d .aQ),(.d .aQ)],.box b2 [(.d (.sl ((a1.Page.Under).map (D.int .i64)) false)),(.d (.sl ((a1.Page.Kinds).map (D.int .i64)) false)),(.d (.sl ((a1.Page.Ns).map (D.int .i64)) false)),(.d (.sl ((a1.Page.Texts).map (D.int .i64)) false)),(.d (.sl ((a1.Init).map (D.int .i64)) false)),(.d (.sl ((a1.Adds).map (D.int .i64)) false)),(.d (.bool a1.Outlet))],.grow v30 ((x29).map (D.int .i64)),.grow v57 ((x56).map eH)]:=H55
 unfold dB at h
 refine ax.seq ?_
 refine ax.seq ?_
 refine ax.region E.obj rfl ?_
 refine ae.val rfl (ah rfl) rfl ?_
 refine ae.val rfl (ai rfl Dl lK rfl) rfl ?_
 refine ae.val rfl (av H55 (i:=2) rfl rfl (aC lX rfl)) rfl ?_
 refine ae.val rfl (bz rfl xS) rfl ?_
 refine ae.val rfl (ay rfl rfl bQ) rfl ?_
 refine ae.val rfl (ah rfl) rfl ?_
 refine ae.bL 3 37 (.d (.bool ((decide (x58 < ((a1.Adds).length:Int))) && (decide (x58 < 5))))) ?_ ?_
 ·
  rcases Bool.eq_false_or_eq_true ((decide (x58 < ((a1.Adds).length:Int)))) with hB60 | hB60
  ·
   refine ae.bool hB60 ?_
   refine ae.val rfl (ah rfl) rfl ?_
   refine ae.val rfl (ay rfl rfl bQ) rfl ?_
   refine ae.val rfl (az (b:=true) rfl rfl) rfl ?_
   exact ae.nil ⟨_,rfl,(aa.put (aa.push rfl (aa.push rfl (aa.put (.refl _) (Less.eq (by rw [hB60]))))) (Less.eq (by rw [hB60]; rw [Bool.true_and])))⟩
  refine ae.bool hB60 ?_
  refine ae.no rfl rfl ?_
  refine ae.no rfl rfl ?_
  refine ae.val rfl (az (b:=false) rfl rfl) rfl ?_
  exact ae.nil ⟨_,rfl,(aa.put (aa.push rfl (aa.push rfl (aa.put (.refl _) (Less.eq (by rw [hB60]))))) (Less.eq (by rw [hB60]; rw [Bool.false_and])))⟩
 refine ae.nil ?_
 refine ax.cond rfl (fun hb61=>?_) (fun hb61=>?_)
 ·
  replace h:=dK hb61 h
  refine ax.skip ?_
  refine ax.seq ?_
  refine ax.block ?_
  obtain ⟨z62,hzz62,h⟩:=bind_some h
  obtain ⟨z63,hzz63,h⟩:=bind_some h
  obtain ⟨z64,hzz64,h⟩:=bind_some h
  obtain ⟨z65,hzz65,h⟩:=bind_some h
  obtain ⟨z66,hzz66,h⟩:=bind_some h
  obtain ⟨z67,hzz67,h⟩:=bind_some h
  obtain ⟨z68,hzz68,h⟩:=bind_some h
  refine ax.qL E.obj rO Nw [(1,none),(2,none),(3,none),(5,none),(6,none)] (by kernel_rfl) [22,24] (by decide) [some (.ptr b15 0 7),some v57,some (.d (.sl ((([[117,112],[100,111,119,110],[97]]:List Str)).map D.str) true)),some (.d (.int .i64 x58)),some (.d (.int .i64 z62)),some (.eptr (.str z63) 0),some (.d (.str z63)),some (.ptr b2 0 5),some (.d (.sl ((a1.Adds).map (D.int .i64)) false)),some (.d (.int .i64 x58)),some (.eptr (.int .i64 z64) 0),some (.d (.int .i64 z64)),some (.d (.int .i64 z65)),some (.ptr b2 0 5),some (.d (.sl ((a1.Adds).map (D.int .i64)) false)),some (.d (.int .i64 x58)),some (.eptr (.int .i64 z64) 0),some (.d (.int .i64 z64)),some (.d (.int .i64 z66)),some (.d (.int .i64 z67)),some (.d (eH (On.mk z63 z65 z67))),some (.d (.sl (([(On.mk z63 z65 z67)]).map eH) true)),none,none,none] ?_
  refine ⟨[0,1,2,3,4,5,6,7,8,9,10,11,12,13,14,15,16,17,18,19,20,21],by kernel_rfl,?_,_,_,rfl,rfl,.step ?_⟩
  ·
   refine .v rfl rfl rfl rfl (ai rfl yO Hw rfl) ?_
   refine .v rfl rfl rfl rfl (av H55 (i:=0) rfl rfl (aC IE rfl)) ?_
   refine .v rfl rfl rfl rfl (ah rfl) ?_
   refine .v rfl rfl rfl rfl (ah rfl) ?_
   refine .v rfl rfl rfl rfl (ay rfl rfl (vo hzz62)) ?_
   refine .v rfl rfl rfl rfl (df rfl rfl (dQ (enc:=D.str) hzz63 yB HY (((fun _=>rfl) _).trans D9.symm))) ?_
   refine .v rfl rfl rfl rfl (bD rfl (dG vW rfl)) ?_
   refine .v rfl rfl rfl rfl (ai rfl Dl lK rfl) ?_
   refine .v rfl rfl rfl rfl (av H55 (i:=2) rfl rfl (aC lX rfl)) ?_
   refine .v rfl rfl rfl rfl (ah rfl) ?_
   refine .v rfl rfl rfl rfl (df rfl rfl (dQ (enc:=(D.int .i64)) hzz64 ku zi (((fun _=>rfl) _).trans pI.symm))) ?_
   refine .v rfl rfl rfl rfl (bD rfl (dG ji rfl)) ?_
   refine .cons rfl rfl rfl (.step ?_) ?_
   ·
    refine ae.ret rfl (aA rfl rfl) (aN E _ _ _ _ _ hzz65 _ _ (aD.eq (aD.eq (aD.eq .nil)))) rfl ?_
    exact ae.nil ⟨_,_,rfl,fun _ ht=>by cases ht; exact ⟨rfl,.refl _⟩⟩
   refine .v rfl rfl rfl rfl (ai rfl Dl lK rfl) ?_
   refine .v rfl rfl rfl rfl (av H55 (i:=2) rfl rfl (aC lX rfl)) ?_
   refine .v rfl rfl rfl rfl (ah rfl) ?_
   refine .v rfl rfl rfl rfl (df rfl rfl (dQ (enc:=(D.int .i64)) hzz64 ku zi (((fun _=>rfl) _).trans pI.symm))) ?_
   refine .v rfl rfl rfl rfl (bD rfl (dG ji rfl)) ?_
   refine .v rfl rfl rfl rfl (ay rfl rfl (u7 hzz66)) ?_
   refine .cons rfl rfl rfl (.step ?_) ?_
   ·
    refine ae.ret rfl (aA rfl rfl) (aN E _ _ _ _ _ hzz67 _ _ (aD.eq (aD.eq (aD.eq .nil)))) rfl ?_
    exact ae.nil ⟨_,_,rfl,fun _ ht=>by cases ht; exact ⟨rfl,.refl _⟩⟩
   refine .cons rfl rfl rfl (.step ?_) ?_
   ·
    refine ae.val rfl (bA (cs:=[(.d (.str z63)),(.d (.int .i64 z65)),(.d (.int .i64 z67))]) GJ rfl (yH) (bT rfl rfl rfl rfl (bT rfl rfl rfl rfl (bT rfl rfl rfl rfl rfl)))) rfl ?_
    refine ae.less (Less.agg' (d:=eH (On.mk z63 z65 z67)) (ak.eq rfl (ak.eq rfl (ak.eq rfl .nil))) ((On.eq _).trans rfl)) ?_
    exact ae.nil ⟨_,_,rfl,fun _ ht=>by cases ht; exact ⟨rfl,.refl _⟩⟩
   refine .v rfl rfl rfl rfl (aO (vs:=[(.d (eH (On.mk z63 z65 z67)))]) (ds:=[(eH (On.mk z63 z65 z67))]) Iy EK Ih GJ A9 rfl (by decide) (.cons rfl (On.len _) .nil) rfl (by intro d hd; simp only [List.mem_cons,List.not_mem_nil,or_false] at hd; rcases hd with rfl <;> exact On.agg _) rfl) ?_
   exact .nil
  refine ae.append (xs:=(x56).map eH) (ys:=([(On.mk z63 z65 z67)]).map eH) (zs:=(z68).map eH) H55 rfl rfl rfl (i:=4) rfl rfl Iy Kg EK (eD hzz68) KH rfl (bK (enc:=eH) (fun z=>(On.len z).trans A9.symm) _) (bK (enc:=eH) (fun z=>(On.len z).trans A9.symm) _) Kw rfl (iJ hzz68) (fun v74 S75 H76=>?_)
  refine ae.nil ⟨_,_,_,rfl,(fun _ ht=>by cases ht; rfl),_,(.q (.q (.q (.q (.q (.o (.o (.w v74 (.w (.ptr b15 0 7) (.n .nil)))))))))),(fun _ ht=>by cases ht; exact ⟨_,rfl,.refl _⟩),?_⟩
  refine ⟨[23],by kernel_rfl,?_,_,_,rfl,rfl,.step ?_⟩
  ·
   refine .v rfl rfl rfl rfl (ai rfl yO Hw rfl) ?_
   exact .nil
  refine ae.store H76 (i:=0) rfl rfl rfl rfl (iq (H76.at (i:=4) rfl)).2.2.2.2 rfl Mc (iq (H76.at (i:=4) rfl)).2.2.2.1 LV rfl rfl rfl (fun S77 H78=>?_)
  refine ae.nil ⟨_,.any,_,rfl,(fun _ ht=>by cases ht),_,(.q (.q (.q (.q (.q (.q (.w .any .nil))))))),(fun _ ht=>by cases ht),?_⟩
  refine ⟨[],by kernel_rfl,?_,_,rfl,?_⟩
  ·
   exact .nil
  refine ax.region E.obj rfl ?_
  refine ae.val rfl (ah rfl) rfl ?_
  refine ae.val rfl (ay rfl rfl cu) rfl ?_
  refine ae.val rfl (aj rfl) rfl ?_
  refine ae.nil ?_
  exact ⟨⟨z68,v74,(IntKind.wrap .i64 (x58 + 1))⟩,_,_,S77,.refl _ _,.refl _,(aa.r rfl (aa.r rfl (aa.r rfl (aa.r rfl (aa.r rfl aa.nil))))),H78.sl [0,1,2,3,4] rfl rfl,h⟩
 replace h:=dJ hb61 h
 refine ax.exit ?_
 refine ax.seq ?_
 refine ax.region E.obj rfl ?_
 refine ae.val rfl (av H55 (i:=0) rfl rfl (bf yI kT rfl)) rfl ?_
 refine ae.less (Less.agg' (d:=aM (aG.mk z9 x29 x56)) (ak.eq rfl (ak.eq rfl (ak.eq rfl (ak.eq rfl (ak.eq rfl (ak.eq rfl (ak.grow H55 (i:=3) rfl (ak.grow H55 (i:=4) rfl .nil)))))))) ((aG.eq _).trans rfl)) ?_
 refine ae.store H55 (i:=1) rfl rfl rfl rfl (aG.bu _) rfl kT rfl tY rfl rfl rfl (fun S79 H80=>?_)
 refine ae.nil ?_
 have hr:=Option.some.inj h
 subst hr
 exact ax.ret ⟨_,gq H80 (i:=1) rfl rfl rfl (bf yI kT rfl),rfl,fE (aD.ou (d:=aM (aG.mk z9 x29 x56)) (ak.eq rfl (ak.eq rfl (ak.eq rfl (ak.eq rfl (ak.eq rfl (ak.eq rfl (ak.eq rfl (ak.eq rfl .nil)))))))) ((aG.eq _).trans rfl))⟩
end
end Pr
end Go.Ev

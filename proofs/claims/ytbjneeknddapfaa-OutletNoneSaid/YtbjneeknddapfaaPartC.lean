import Derived.Test.YtbjneeknddapfaaPartB
import Derived.Shelf.Spec.SlicesInsertGrow
import Derived.Shelf.Strings.Builder1
import Derived.Shelf.Strings.OnBuilder
import Derived.Shelf.Strings.SplitShaped
import Derived.Shelf.Strings.SlTrimAscii
import Derived.Shelf.Small.Strs
import Derived.Shelf.Strings.Cut
import Derived.DataReads
import GoSem.ClaimChange
import Derived.WideShapes
import Derived.ChangeShapes
namespace Go.Ev
noncomputable section
set_option linter.unusedVariables false
set_option linter.unusedSimpArgs false
variable {R:bU} {C:gV} {nt:Nat} {B:St}
theorem JW {ops:Array Oper} (hr:uJ ops=true) {Q:Exit→Act→World→Prop} (Inv:Array Bool→Act→World→Prop)
  (hstep:∀ listed a w i o (K:Act→World→Prop),listed.size=ops.size→Closed ops listed→listed.getD i false=false→ops[i]? = some o→(∀ k,k < i→((Region.before ops).getD i 0).testBit k=true→listed.getD k false=true)→Inv listed a w →
   (∀ a' w',Inv (listed.setIfInBounds i true) a' w'→K a' w')→wpOp C.P ops Q i K a w)
  (hend:∀ listed a w,(∀ i,i < ops.size→listed.getD i false=true)→Inv listed a w→Q .normal a w) :
  ∀ (fuel:Nat) (listed:Array Bool) {w:World} {a:Act},listed.size=ops.size→Closed ops listed→((List.range ops.size).filter fun i=>!listed.getD i false).length=fuel→Inv listed a w→wpAny C.P .any ops Q fuel listed a w:=by
 intro fuel
 induction fuel with
 | zero =>
  intro listed w a hsz hcl hlen hI
  have hnil:=List.eq_nil_of_length_eq_zero hlen
  have hall:∀ i,i < ops.size→listed.getD i false=true:=fun i hi=>by
   cases hc:listed.getD i false with
   | true=>rfl
   | false =>
    have:i ∈ (List.range ops.size).filter fun i=>!listed.getD i false:=by
     rw [List.mem_filter]; exact ⟨List.mem_range.2 hi,by rw [hc]; rfl⟩
    rw [hnil] at this; cases this
  refine ⟨?_,hend listed a w hall hI⟩
  cases hq:Region.ready .any ops listed with
  | nil=>rfl
  | cons i l =>
   have hi:i ∈ Region.ready .any ops listed:=by rw [hq]; simp
   obtain ⟨h1,o,h2,_⟩:=mem_ready.1 hi
   have hlt:i < ops.size:=(Array.getElem?_eq_some_iff.1 h2).1
   have:=hall i hlt
   have hlt':i < listed.size:=by omega
   simp [hlt'] at h1 this
   rw [h1] at this; cases this
 | succ fuel ih =>
  intro listed w a hsz hcl hlen hI
  refine ⟨fun hnone=>?_,fun i hi=>?_⟩
  ·
   exfalso
   cases hq:(List.range ops.size).filter fun i=>!listed.getD i false with
   | nil=>rw [hq] at hlen; simp at hlen
   | cons m l =>
    have hm:m ∈ (List.range ops.size).filter fun i=>!listed.getD i false:=by rw [hq]; simp
    obtain ⟨hm1,hm2⟩:=List.mem_filter.1 hm
    exact Eu hr hsz (List.mem_range.1 hm1) (by simpa using hm2) hnone
  ·
   obtain ⟨h1,o,h2,h3⟩:=mem_ready.1 hi
   have hlt:i < ops.size:=(Array.getElem?_eq_some_iff.1 h2).1
   have hlt':i < listed.size:=by omega
   have h1':listed.getD i false=false:=by simp [hlt'] at h1 ⊢; exact h1
   have hclo:=KO hr hcl h2 h3
   refine hstep listed a w i o _ hsz hcl h1' h2 hclo hI (fun a' w' hI'=>ih _ (by simpa using hsz) (Fp hcl hclo) ?_ hI')
   have hsp:=hlen
   have hmem:i ∈ (List.range ops.size).filter fun i=>!listed.getD i false:=by
    rw [List.mem_filter]; exact ⟨List.mem_range.2 hlt,by rw [h1']; rfl⟩
   obtain ⟨l1,l2,hq⟩:=List.append_of_mem hmem
   have hnd:((List.range ops.size).filter fun i=>!listed.getD i false).Nodup:=List.Pairwise.filter _ List.nodup_range
   rw [hq] at hnd
   have hn2:=(List.nodup_append.1 hnd)
   have hne1:∀ k ∈ l1,k ≠ i:=fun k hk=>hn2.2.2 k hk i (by simp)
   have hne2:∀ k ∈ l2,k ≠ i:=fun k hk q=>by
    subst q
    exact (List.nodup_cons.1 hn2.2.1).1 hk
   rw [JP hlt' hq hne1 hne2]
   rw [hq] at hsp
   simp at hsp ⊢; omega
def KD (cx:Cx) (S:St) (w:World) (a:Act) (t:Nat) (x:AV):Prop:=∃ v,a.tmps[t]? = some v∧aT cx S w x v
structure vO (nt:Nat) (ops:Array Oper) (e0:Env) (listed:Array Bool) (ws:List (Option AV)) (cx:Cx) (S:St) (w:World) (a:Act):Prop where
 size:nt ≤ a.tmps.size
 new:∀ k o t,ops[k]? = some o→o.dst=some t→listed.getD k false=true→(∀ j o',j ≠ k→ops[j]? = some o'→o'.dst=some t→listed.getD j false=true→j < k)→∃ x,ws[k]? = some (some x)∧KD cx S w a t x
 old:∀ t x,AL.get e0 t=some x→(∀ j o',ops[j]? = some o'→o'.dst=some t→listed.getD j false=false)→KD cx S w a t x
abbrev Src:=List (Nat × Option Nat)
def qE (ws:List (Option AV)) (e0:Env):Src→Option Env
 | []=>some []
 | (t,some k) :: l=>match ws[k]? with
  | some (some x)=>(qE ws e0 l).map ((t,x) :: ·)
  | _=>none
 | (t,none) :: l=>match AL.get e0 t with
  | some x=>(qE ws e0 l).map ((t,x) :: ·)
  | none=>none
def xC (ops:Array Oper) (k t:Nat):Bool:=match ops[k]? with
 | some o=>(match o.dst with | some d=>Nat.beq d t | none=>false)
 | none=>false
theorem ow {ops:Array Oper} {k t:Nat}:xC ops k t=true↔∃ o,ops[k]? = some o∧o.dst=some t:=by
 unfold xC
 cases h:ops[k]? with
 | none=>simp
 | some o =>
  cases hd:o.dst with
  | none=>simp [hd]
  | some d=>simp [hd]
def EM (ops:Array Oper) (Bi:Nat) (i:Nat):Src→Bool
 | []=>true
 | (t,some k) :: l=>xC ops k t && Nat.testBit Bi k && ((List.range ops.size).all fun j=>!(xC ops j t) || Nat.beq j k || Nat.blt j k || Nat.beq j i || Nat.testBit ((Region.before ops).getD j 0) i) && EM ops Bi i l
 | (t,none) :: l=>((List.range ops.size).all fun j=>!(xC ops j t) || Nat.beq j i || Nat.testBit ((Region.before ops).getD j 0) i) && EM ops Bi i l
def F7 (ops:Array Oper):Src→Bool
 | []=>true
 | (t,some k) :: l=>xC ops k t && ((List.range ops.size).all fun j=>!(xC ops j t) || Nat.beq j k || Nat.blt j k) && F7 ops l
 | (t,none) :: l=>((List.range ops.size).all fun j=>!(xC ops j t)) && F7 ops l
theorem tV {ops:Array Oper} {e0:Env} {listed:Array Bool} {ws:List (Option AV)} {cx:Cx} {S:St} {w:World} {a:Act} (h:vO nt ops e0 listed ws cx S w a):∀ {L:Src} {e:Env},qE ws e0 L=some e →
  (∀ t k,(t,some k) ∈ L→∃ o,ops[k]? = some o∧o.dst=some t∧listed.getD k false=true∧∀ j o',j ≠ k→ops[j]? = some o'→o'.dst=some t→listed.getD j false=true→j < k) →
  (∀ t,(t,none) ∈ L→∀ j o',ops[j]? = some o'→o'.dst=some t→listed.getD j false=false)→jE cx S w nt e a
 | [],e,he,_,_=>by
  simp only [qE,Option.some.injEq] at he
  subst he
  exact ⟨h.size,fun t x hx=>by simp [AL.get] at hx⟩
 | (t,some k) :: L,e,he,hA,hB=>by
  simp only [qE] at he
  split at he
  ·
   rename_i x hx
   obtain ⟨e',he',rfl⟩:=Option.map_eq_some_iff.1 he
   have ih:=tV h he' (fun t k hm=>hA t k (List.mem_cons_of_mem _ hm)) (fun t hm=>hB t (List.mem_cons_of_mem _ hm))
   refine ⟨h.size,fun u y hy=>?_⟩
   rw [AL.iA] at hy
   by_cases hu:t=u
   ·
    subst hu
    rw [if_pos rfl] at hy; cases hy
    obtain ⟨o,h1,h2,h3,h4⟩:=hA t k List.mem_cons_self
    obtain ⟨x',hx',hs⟩:=h.new k o t h1 h2 h3 h4
    rw [hx] at hx'; cases hx'
    exact hs
   ·
    rw [if_neg hu] at hy; exact ih.rel u y hy
  ·
   cases he
 | (t,none) :: L,e,he,hA,hB=>by
  simp only [qE] at he
  split at he
  ·
   rename_i x hx
   obtain ⟨e',he',rfl⟩:=Option.map_eq_some_iff.1 he
   have ih:=tV h he' (fun t k hm=>hA t k (List.mem_cons_of_mem _ hm)) (fun t hm=>hB t (List.mem_cons_of_mem _ hm))
   refine ⟨h.size,fun u y hy=>?_⟩
   rw [AL.iA] at hy
   by_cases hu:t=u
   ·
    subst hu
    rw [if_pos rfl] at hy; cases hy
    exact h.old t x hx (hB t List.mem_cons_self)
   ·
    rw [if_neg hu] at hy; exact ih.rel u y hy
  ·
   cases he
theorem tL {ops:Array Oper} (hr:uJ ops=true) {i k:Nat} (hi:i < ops.size) (h:((Region.before ops).getD i 0).testBit k=true):k < i:=by
 rcases Nat.lt_or_ge k i with q | q
 ·
  exact q
 ·
  have:=(oP hr (show ops[i]? = some ops[i] by simp [hi])).2.2 k q
  rw [this] at h; cases h
theorem Dq {ops:Array Oper} (hr:uJ ops=true) {e0:Env} {listed:Array Bool} (hcl:Closed ops listed) {ws:List (Option AV)} {cx:Cx} {S:St} {w:World} {a:Act} (h:vO nt ops e0 listed ws cx S w a) {i:Nat} (hi:i < ops.size) (hun:listed.getD i false=false)
  (hclo:∀ k,k < i→((Region.before ops).getD i 0).testBit k=true→listed.getD k false=true) {L:Src} {e:Env} (he:qE ws e0 L=some e) (hb:EM ops ((Region.before ops).getD i 0) i L=true):jE cx S w nt e a:=by
 have late:∀ j,j < ops.size→((Region.before ops).getD j 0).testBit i=true→listed.getD j false=true→False:=fun j hj hb hl=>by
  have:=hcl j hl i (tL hr hj hb) hb
  rw [this] at hun; cases hun
 have key:(∀ t k,(t,some k) ∈ L→∃ o,ops[k]? = some o∧o.dst=some t∧listed.getD k false=true∧∀ j o',j ≠ k→ops[j]? = some o'→o'.dst=some t→listed.getD j false=true→j < k) ∧
   (∀ t,(t,none) ∈ L→∀ j o',ops[j]? = some o'→o'.dst=some t→listed.getD j false=false):=by
  clear he
  induction L with
  | nil=>exact ⟨fun t k hm=>(by cases hm),fun t hm=>(by cases hm)⟩
  | cons p L ih =>
   obtain ⟨t,s⟩:=p
   cases s with
   | some k =>
    simp only [EM,Bool.and_eq_true] at hb
    obtain ⟨⟨⟨b1,b2⟩,b3⟩,b4⟩:=hb
    obtain ⟨ih1,ih2⟩:=ih b4
    refine ⟨fun u q hm=>?_,fun u hm=>?_⟩
    ·
     rcases List.mem_cons.1 hm with hm | hm
     ·
      cases hm
      obtain ⟨o,h1,h2⟩:=ow.1 b1
      refine ⟨o,h1,h2,hclo k (tL hr hi b2) b2,fun j o' hjk hj hd hl=>?_⟩
      have hjl:j < ops.size:=(Array.getElem?_eq_some_iff.1 hj).1
      have:=List.all_eq_true.1 b3 j (List.mem_range.2 hjl)
      simp only [ow.2 ⟨o',hj,hd⟩,Bool.not_true,Bool.false_or,Bool.or_eq_true] at this
      rcases this with ((q | q) | q) | q
      ·
       exact absurd (Nat.eq_of_beq_eq_true q) hjk
      ·
       exact Nat.le_of_ble_eq_true q
      ·
       rw [Nat.eq_of_beq_eq_true q,hun] at hl; cases hl
      ·
       exact (late j hjl q hl).elim
     ·
      exact ih1 u q hm
    ·
     rcases List.mem_cons.1 hm with hm | hm
     ·
      cases hm
     ·
      exact ih2 u hm
   | none =>
    simp only [EM,Bool.and_eq_true] at hb
    obtain ⟨b3,b4⟩:=hb
    obtain ⟨ih1,ih2⟩:=ih b4
    refine ⟨fun u q hm=>?_,fun u hm=>?_⟩
    ·
     rcases List.mem_cons.1 hm with hm | hm
     ·
      cases hm
     ·
      exact ih1 u q hm
    ·
     rcases List.mem_cons.1 hm with hm | hm
     ·
      cases hm
      intro j o' hj hd
      have hjl:j < ops.size:=(Array.getElem?_eq_some_iff.1 hj).1
      have:=List.all_eq_true.1 b3 j (List.mem_range.2 hjl)
      simp only [ow.2 ⟨o',hj,hd⟩,Bool.not_true,Bool.false_or,Bool.or_eq_true] at this
      rcases this with q | q
      ·
       rw [Nat.eq_of_beq_eq_true q]; exact hun
      ·
       cases hl:listed.getD j false with
       | false=>rfl
       | true=>exact (late j hjl q hl).elim
     ·
      exact ih2 u hm
 exact tV h he key.1 key.2
theorem Ha {ops:Array Oper} {e0:Env} {listed:Array Bool} (hall:∀ i,i < ops.size→listed.getD i false=true) {ws:List (Option AV)} {cx:Cx} {S:St} {w:World} {a:Act} (h:vO nt ops e0 listed ws cx S w a) {L:Src} {e:Env} (he:qE ws e0 L=some e) (hb:F7 ops L=true):jE cx S w nt e a:=by
 have key:(∀ t k,(t,some k) ∈ L→∃ o,ops[k]? = some o∧o.dst=some t∧listed.getD k false=true∧∀ j o',j ≠ k→ops[j]? = some o'→o'.dst=some t→listed.getD j false=true→j < k) ∧
   (∀ t,(t,none) ∈ L→∀ j o',ops[j]? = some o'→o'.dst=some t→listed.getD j false=false):=by
  clear he
  induction L with
  | nil=>exact ⟨fun t k hm=>(by cases hm),fun t hm=>(by cases hm)⟩
  | cons p L ih =>
   obtain ⟨t,s⟩:=p
   cases s with
   | some k =>
    simp only [F7,Bool.and_eq_true] at hb
    obtain ⟨⟨b1,b3⟩,b4⟩:=hb
    obtain ⟨ih1,ih2⟩:=ih b4
    refine ⟨fun u q hm=>?_,fun u hm=>?_⟩
    ·
     rcases List.mem_cons.1 hm with hm | hm
     ·
      cases hm
      obtain ⟨o,h1,h2⟩:=ow.1 b1
      refine ⟨o,h1,h2,hall k (Array.getElem?_eq_some_iff.1 h1).1,fun j o' hjk hj hd hl=>?_⟩
      have hjl:j < ops.size:=(Array.getElem?_eq_some_iff.1 hj).1
      have:=List.all_eq_true.1 b3 j (List.mem_range.2 hjl)
      simp only [ow.2 ⟨o',hj,hd⟩,Bool.not_true,Bool.false_or,Bool.or_eq_true] at this
      rcases this with q | q
      ·
       exact absurd (Nat.eq_of_beq_eq_true q) hjk
      ·
       exact Nat.le_of_ble_eq_true q
     ·
      exact ih1 u q hm
    ·
     rcases List.mem_cons.1 hm with hm | hm
     ·
      cases hm
     ·
      exact ih2 u hm
   | none =>
    simp only [F7,Bool.and_eq_true] at hb
    obtain ⟨b3,b4⟩:=hb
    obtain ⟨ih1,ih2⟩:=ih b4
    refine ⟨fun u q hm=>?_,fun u hm=>?_⟩
    ·
     rcases List.mem_cons.1 hm with hm | hm
     ·
      cases hm
     ·
      exact ih1 u q hm
    ·
     rcases List.mem_cons.1 hm with hm | hm
     ·
      cases hm
      intro j o' hj hd
      have hjl:j < ops.size:=(Array.getElem?_eq_some_iff.1 hj).1
      have:=List.all_eq_true.1 b3 j (List.mem_range.2 hjl)
      simp only [ow.2 ⟨o',hj,hd⟩,Bool.not_true,Bool.or_self] at this
      cases this
     ·
      exact ih2 u hm
 exact tV h he key.1 key.2
inductive MJ (R:bU) (C:gV) (nt:Nat) (ops:Array Oper) (S:St) (e:Env) (o:Oper) (x:AV):Prop
 | val {v:AV} (hw:bC ops e o=some true) (ho:oper C (bB e) S o.op=some (.val v S)) (hl:Less x v)
 | call {f:Nat} {args:List AV} {v:AV} (hw:bC ops e o=some true) (ho:oper C (bB e) S o.op=some (.call f args)) (hs:je R C.P f args S (fun r=>r=(none,v,S))) (hl:Less x v)
 | no (hw:bC ops e o=some false) (hl:Less x (.tup []))
 | step (h:aj R C nt ops [o] e S (fun r=>∃ e' v,r=.go e' S∧(∀ t,o.dst=some t→AL.get e' t=some v∧Less x v)))
inductive Oq (R:bU) (C:gV) (nt:Nat) (ops:Array Oper) (S:St) (e:Env) (o:Oper) (Q:AV→St→Prop):Prop
 | val {v:AV} {S':St} (hw:bC ops e o=some true) (ho:oper C (bB e) S o.op=some (.val v S')) (hq:Q v S')
 | skip {S':St} (hw:bC ops e o=some true) (ho:oper C (bB e) S o.op=some (.skip S')) (hd:o.dst=none) (hq:Q .any S')
 | call {f:Nat} {args:List AV} (hw:bC ops e o=some true) (ho:oper C (bB e) S o.op=some (.call f args)) (hs:je R C.P f args S (fun r=>r.1=none∧Q r.2.1 r.2.2))
 | no (hw:bC ops e o=some false) (hq:Q (.tup []) S)
 | step (h:aj R C nt ops [o] e S (fun r=>∃ e' v S',r=.go e' S'∧(∀ t,o.dst=some t→AL.get e' t=some v)∧Q v S'))
theorem zw (hR:mI R C) {ops:Array Oper} {o:Oper} {e:Env} {S:St} {Q:Stp→Prop} (h:wY R C nt ops o e S Q) (hno:∀ r,Q r→∃ e' S',r=.go e' S') {cx:Cx} {w:World} {a:Act} (hS:bu R cx S w) (he:jE cx S w nt e a)
  {K:Act→World→Prop} {Kx:Exit→Act→World→Prop} (hk:∀ e' S' cx' w' u,Q (.go e' S')→bu R cx' S' w'→Ext cx S w cx' S' w'→jE cx' S' w' nt e' (a.put o.dst u)→K (a.put o.dst u) w') (hnx:∀ t,o.op ≠ .next (.tmp t) false) {i:Nat} (hi:ops[i]? = some o):wpOp C.P ops Kx i K a w:=by
 have hrefl:=Ext.refl (cx:=cx) w hS.wf
 rcases h with ⟨t,rs,h1,h2,h3⟩ | ⟨e2,hw,h1,h2⟩ | ⟨e2,e',hw,h1,h2,h3⟩
 ·
  exact absurd h1 (hnx t)
 ·
  have he2:=he.weak hw
  unfold wpOp
  rw [hi]
  simp only
  rw [if_pos (gP he h1)]
  left
  rcases h2 with ⟨v,S',e',h1,h2,h3⟩ | ⟨S',h1,h2,h3⟩ | ⟨f,args,h1,h2⟩ | ⟨t,x,y,ty,xs,b,el,hop,hx,hy,hu,hq⟩
  rotate_left 3
  ·
   have rx:=he2.eval x _ hx
   have ry:=he2.eval y _ hy
   obtain ⟨a0,n,c,ex,hnil⟩:=Dp rx.dd
   have ey:a.eval y=.slice none 0 0:=by
    have:=ry.dd.val rfl
    generalize a.eval y=z at this
    cases this
    rfl
   have hrun:(execOp a.eval o).run C.P w=.ok (.value (.bool a0.isNone)) w:=by
    obtain ⟨dst,op,ty',pos,after,guard⟩:=o
    simp only at hop
    subst hop
    exact rW (by
     rw [ex,ey]
     have hg:(eqGuard .eql t x y (.slice a0 n c) (.slice none 0 0)).run C.P w=.ok () w:=iC rfl
     simp only [Sem.run_bind,hg,Result.andThen_ok]
     exact Lib.run_eql_slice_nil w t el a0 n c 0 0 hu)
   obtain ⟨e',hp,hk'⟩:=hq a0.isNone (fun h=>hnil (by cases a0 with | none=>rfl | some a=>cases h))
   unfold Oper.wp
   rw [hrun]
   exact hk _ _ cx w _ hk' hS hrefl (he2.put hp (.of_bool _))
  ·
   obtain ⟨cx',w',u,k1,k2,k3,k4⟩:=iV hR hS he2.eval o h1
   unfold Oper.wp
   rw [k1]
   exact hk _ _ cx' w' u h3 k2 k3 ((he2.mono k3).put h2 k4)
  ·
   obtain ⟨cx',w',k1,k2,k3⟩:=iV hR hS he2.eval o h1
   unfold Oper.wp
   rw [k1]
   refine hk _ _ cx' w' undef h3 k2 k3 ?_
   rw [h2]
   exact he2.mono k3
  ·
   obtain ⟨us,k1,k2,k3⟩:=iV hR hS he2.eval o h1
   obtain ⟨⟨fn,f1,f2,f3⟩,hcalls⟩:=h2
   unfold Oper.wp
   rw [k3 fn f1 f2 f3]
   refine (hcalls cx w us hS k1 k2).mono (fun en w' hen=>?_)
   obtain ⟨⟨p,v,S'⟩,hq,cx',m1,m2,m3⟩:=hen
   cases p with
   | none =>
    obtain ⟨u,rfl,m3⟩:=m3
    obtain ⟨e',hp,hq⟩:=hq
    exact hk _ _ cx' _ _ hq m1 m2 ((he2.mono m2).put hp m3)
   | some p =>
    obtain ⟨_,_,hc⟩:=hno _ hq
    cases hc
 ·
  have he2:=he.weak hw
  unfold wpOp
  rw [hi]
  simp only
  rw [if_neg (by rw [gP he h1]; simp)]
  split at h2
  ·
   rename_i hd
   subst h2
   refine hk _ _ cx w _ h3 hS hrefl ?_
   rw [hd]
   exact he2
  ·
   rename_i t hd
   refine hk _ _ cx w _ h3 hS hrefl ?_
   rw [hd]
   exact he2.put h2 (.tup [] [] rfl (fun i x v hx=>by simp at hx))
theorem DR {cx:Cx} {S:St} {w:World} {a:Act} {e:Env} {t:Nat} {u:Value} {v:AV} (he:jE cx S w nt e (a.put (some t) u)) (hv:AL.get e t=some v):aT cx S w v u:=by
 obtain ⟨u',h1,h2⟩:=he.rel t v hv
 simp only [Act.put] at h1
 have hlt:t < a.tmps.size:=by
  have:=(Array.getElem?_eq_some_iff.1 h1).1
  simpa using this
 rw [Array.getElem?_setIfInBounds_self_of_lt hlt] at h1
 cases h1
 exact h2
theorem Gy (hR:mI R C) {ops:Array Oper} {o:Oper} {e:Env} {S:St} {x:AV} (h:MJ R C nt ops S e o x) {cx:Cx} {w:World} {a:Act} (hS:bu R cx S w) (he:jE cx S w nt e a)
  {K:Act→World→Prop} {Kx:Exit→Act→World→Prop} (hk:∀ cx' w' u,bu R cx' S w'→Ext cx S w cx' S w'→(∀ t,o.dst=some t→aT cx' S w' x u)→K (a.put o.dst u) w') (hnx:∀ t,o.op ≠ .next (.tmp t) false) {i:Nat} (hi:ops[i]? = some o):wpOp C.P ops Kx i K a w:=by
 have hrefl:=Ext.refl (cx:=cx) w hS.wf
 unfold wpOp
 rw [hi]
 simp only
 cases h with
 | val hw ho hl =>
  rw [if_pos (gP he hw)]
  left
  obtain ⟨cx',w',u,k1,k2,k3,k4⟩:=iV hR hS he.eval o ho
  unfold Oper.wp
  rw [k1]
  exact hk cx' w' u k2 k3 (fun _ _=>hl _ _ _ _ k4)
 | call hw ho hs hl =>
  rw [if_pos (gP he hw)]
  left
  obtain ⟨us,k1,k2,k3⟩:=iV hR hS he.eval o ho
  obtain ⟨⟨fn,f1,f2,f3⟩,hcalls⟩:=hs
  unfold Oper.wp
  rw [k3 fn f1 f2 f3]
  refine (hcalls cx w us hS k1 k2).mono (fun en w' hen=>?_)
  obtain ⟨r,rfl,cx',m1,m2,m3⟩:=hen
  obtain ⟨u,rfl,m3⟩:=m3
  exact hk cx' w' u m1 m2 (fun _ _=>hl _ _ _ _ m3)
 | no hw hl =>
  rw [if_neg (by rw [gP he hw]; simp)]
  have hv:aT cx S w x (.tuple #[]):=hl _ _ _ _ (.tup [] [] rfl (fun i x v hx=>by simp at hx))
  exact hk cx w _ hS hrefl (fun _ _=>hv)
 | step h =>
  obtain ⟨e2,S2,hw,h⟩:=h
  obtain ⟨cx2,gS,gx,ge⟩:=hw cx w a hS he
  have:=zw hR h (fun r hr=>by
   cases r with
   | go e' S'=>exact ⟨_,_,rfl⟩
   | stop v S'=>obtain ⟨_,_,hc,_⟩:=hr; cases hc) gS ge (K:=K) (Kx:=Kx) (fun e' S' cx' w' u hq q1 q2 q3=>?_) hnx hi
  ·
   unfold wpOp at this
   rw [hi] at this
   exact this
  ·
   obtain ⟨e3,hw3,e4,v,hq1,hq2⟩:=hq
   cases hq1
   refine hk cx' w' u q1 (gx.trans q2) (fun t ht=>?_)
   obtain ⟨g1,g2⟩:=hq2 t ht
   rw [ht] at q3
   exact g2 _ _ _ _ (DR (q3.weak hw3) g1)
theorem G7 (hR:mI R C) {ops:Array Oper} {o:Oper} {e:Env} {S:St} {Q:AV→St→Prop} (h:Oq R C nt ops S e o Q) {cx:Cx} {w:World} {a:Act} (hS:bu R cx S w) (he:jE cx S w nt e a)
  {K:Act→World→Prop} {Kx:Exit→Act→World→Prop} (hk:∀ v S' cx' w' u,Q v S'→bu R cx' S' w'→Ext cx S w cx' S' w'→(∀ t,o.dst=some t→aT cx' S' w' v u)→K (a.put o.dst u) w') (hnx:∀ t,o.op ≠ .next (.tmp t) false) {i:Nat} (hi:ops[i]? = some o):wpOp C.P ops Kx i K a w:=by
 have hrefl:=Ext.refl (cx:=cx) w hS.wf
 unfold wpOp
 rw [hi]
 simp only
 cases h with
 | val hw ho hq =>
  rw [if_pos (gP he hw)]
  left
  obtain ⟨cx',w',u,k1,k2,k3,k4⟩:=iV hR hS he.eval o ho
  unfold Oper.wp
  rw [k1]
  exact hk _ _ cx' w' u hq k2 k3 (fun _ _=>k4)
 | skip hw ho hd hq =>
  rw [if_pos (gP he hw)]
  left
  obtain ⟨cx',w',k1,k2,k3⟩:=iV hR hS he.eval o ho
  unfold Oper.wp
  rw [k1]
  exact hk _ _ cx' w' undef hq k2 k3 (fun _ _=>.any _)
 | call hw ho hs =>
  rw [if_pos (gP he hw)]
  left
  obtain ⟨us,k1,k2,k3⟩:=iV hR hS he.eval o ho
  obtain ⟨⟨fn,f1,f2,f3⟩,hcalls⟩:=hs
  unfold Oper.wp
  rw [k3 fn f1 f2 f3]
  refine (hcalls cx w us hS k1 k2).mono (fun en w' hen=>?_)
  obtain ⟨⟨p,v,S'⟩,⟨hp,hq⟩,cx',m1,m2,m3⟩:=hen
  simp only at hp
  subst hp
  obtain ⟨u,rfl,m3⟩:=m3
  exact hk _ _ cx' w' u hq m1 m2 (fun _ _=>m3)
 | no hw hq =>
  rw [if_neg (by rw [gP he hw]; simp)]
  exact hk _ _ cx w _ hq hS hrefl (fun _ _=>.tup [] [] rfl (fun i x v hx=>by simp at hx))
 | step h =>
  obtain ⟨e2,S2,hw,h⟩:=h
  obtain ⟨cx2,gS,gx,ge⟩:=hw cx w a hS he
  have:=zw hR h (fun r hr=>by
   cases r with
   | go e' S'=>exact ⟨_,_,rfl⟩
   | stop v S'=>obtain ⟨_,_,_,hc,_⟩:=hr; cases hc) gS ge (K:=K) (Kx:=Kx) (fun e' S' cx' w' u hq q1 q2 q3=>?_) hnx hi
  ·
   unfold wpOp at this
   rw [hi] at this
   exact this
  ·
   obtain ⟨e3,hw3,e4,v,S4,hq1,hq2,hq3⟩:=hq
   cases hq1
   refine hk v S' cx' w' u hq3 q1 (gx.trans q2) (fun t ht=>?_)
   have g1:=hq2 t ht
   rw [ht] at q3
   exact DR (q3.weak hw3) g1
inductive lT:List (Option AV)→List (Option AV)→Prop
 | nil:lT [] []
 | new {x:Option AV} {a b:List (Option AV)} (k:lT a b):lT (x :: a) (none :: b)
 | old {x y:AV} {a b:List (Option AV)} (h:Less y x) (k:lT a b):lT (some y :: a) (some x :: b)
theorem lT.get {a b:List (Option AV)} (h:lT a b):∀ {k:Nat} {x:AV},b[k]? = some (some x)→∃ y,a[k]? = some (some y)∧Less y x:=by
 induction h with
 | nil=>intro k x h; simp at h
 | new k ih =>
  intro k x h
  cases k with
  | zero=>simp at h
  | succ k=>simpa using ih (by simpa using h)
 | old h k ih =>
  intro k x hx
  cases k with
  | zero=>simp at hx; subst hx; exact ⟨_,rfl,h⟩
  | succ k=>simpa using ih (by simpa using hx)
theorem vO.step {ops:Array Oper} (hr:uJ ops=true) (hnt:∀ (k:Nat) (o:Oper) (t:Nat),ops[k]? = some o→o.dst=some t→t < nt) {e0:Env} {listed:Array Bool} (hsz:listed.size=ops.size) (hcl:Closed ops listed) {ws ws':List (Option AV)} {i:Nat} (hle:∀ k x,k ≠ i→ws[k]? = some (some x)→∃ y,ws'[k]? = some (some y)∧Less y x) {cx cx':Cx} {S S':St} {w w':World} {a:Act} (h:vO nt ops e0 listed ws cx S w a)
  {o:Oper} (hi:ops[i]? = some o) (hun:listed.getD i false=false) (ex:Ext cx S w cx' S' w') {u:Value} (hu:∀ t,o.dst=some t→∃ x,ws'[i]? = some (some x)∧aT cx' S' w' x u):vO nt ops e0 (listed.setIfInBounds i true) ws' cx' S' w' (a.put o.dst u):=by
 have hlt:i < ops.size:=(Array.getElem?_eq_some_iff.1 hi).1
 have size:nt ≤ (a.put o.dst u).tmps.size:=by
  cases hd:o.dst with
  | none=>exact h.size
  | some t=>simp only [Act.put,Array.size_setIfInBounds]; exact h.size
 have keep:∀ t,o.dst ≠ some t→(a.put o.dst u).tmps[t]? = a.tmps[t]?:=fun t ht=>by
  cases hd:o.dst with
  | none=>rfl
  | some d =>
   have:d ≠ t:=fun q=>ht (by rw [hd,q])
   simp only [Act.put]
   rw [Array.getElem?_setIfInBounds_ne this]
 refine ⟨size,fun k ok t hk hd hlk hlast=>?_,fun t x hx hno=>?_⟩
 ·
  by_cases hki:k=i
  ·
   subst hki
   rw [hi] at hk; cases hk
   obtain ⟨x,hx,hr⟩:=hu t hd
   refine ⟨x,hx,u,?_,hr⟩
   have htn:=hnt k o t hi hd
   have:=h.size
   rw [hd]
   simp only [Act.put]
   rw [Array.getElem?_setIfInBounds_self_of_lt (by omega)]
  ·
   have hlk':listed.getD k false=true:=by rwa [getD_set_ne false (fun q=>hki q.symm)] at hlk
   have hklt:k < ops.size:=(Array.getElem?_eq_some_iff.1 hk).1
   have hdi:o.dst ≠ some t:=fun hdi=>by
    have hik:=hlast i o (fun q=>hki q.symm) hi hdi (by have hlt':i < listed.size:=(by omega); simp [hlt'])
    obtain ⟨r1,r2,_⟩:=oP hr hk
    have:=r2 i o hik hi
    split at this
    ·
     rename_i hb
     have:=hcl k hlk' i hik hb
     rw [hun] at this; cases this
    ·
     simp only [Oper.apart,hdi,hd,Bool.and_eq_true] at this
     simp at this
   obtain ⟨x,hx,v,v1,v2⟩:=h.new k ok t hk hd hlk' (fun j o' hjk hj hdj hlj=>hlast j o' hjk hj hdj (by
    by_cases hji:i=j
    ·
     subst hji; rw [hun] at hlj; cases hlj
    ·
     rw [getD_set_ne false hji]; exact hlj))
   obtain ⟨y,hy,hyx⟩:=hle k x hki hx
   exact ⟨y,hy,v,by rw [keep t hdi]; exact v1,hyx _ _ _ _ (v2.mono ex)⟩
 ·
  have hdi:o.dst ≠ some t:=fun hdi=>by
   have:=hno i o hi hdi
   have hlt':i < listed.size:=by omega
   simp [hlt'] at this
  obtain ⟨v,v1,v2⟩:=h.old t x hx (fun j o' hj hdj=>by
   have:=hno j o' hj hdj
   by_cases hji:i=j
   ·
    subst hji; exact hun
   ·
    rwa [getD_set_ne false hji] at this)
  exact ⟨v,by rw [keep t hdi]; exact v1,v2.mono ex⟩
inductive RL (R:bU) (C:gV) (nt:Nat) (ops:Array Oper) (srcs:List Src) (e0:Env) (ws:List (Option AV)) (S:St):List Nat→Prop
 | nil:RL R C nt ops srcs e0 ws S []
 | cons {i:Nat} {o:Oper} {x:AV} {e:Env} {os:List Nat} (ho:ops[i]? = some o) (hx:ws[i]? = some (some x)) (he:qE ws e0 (srcs.getD i [])=some e) (h:MJ R C nt ops S e o x) (k:RL R C nt ops srcs e0 ws S os):RL R C nt ops srcs e0 ws S (i :: os)
theorem RL.get {ops:Array Oper} {srcs:List Src} {e0:Env} {ws:List (Option AV)} {S:St} {os:List Nat} (h:RL R C nt ops srcs e0 ws S os):∀ {i:Nat},i ∈ os→∃ o x e,ops[i]? = some o∧ws[i]? = some (some x)∧qE ws e0 (srcs.getD i [])=some e∧MJ R C nt ops S e o x:=by
 induction h with
 | nil=>intro i h; cases h
 | cons ho hx he h k ih =>
  intro i hi
  rcases List.mem_cons.1 hi with rfl | hi
  ·
   exact ⟨_,_,_,ho,hx,he,h⟩
  ·
   exact ih hi
def IJ (i:Nat) (l:List Nat):Bool:=l.any fun j=>Nat.beq j i
theorem zT {i:Nat} {l:List Nat}:IJ i l=true↔i ∈ l:=by
 simp only [IJ,List.any_eq_true]
 constructor
 ·
  rintro ⟨j,hj,hb⟩; rw [← Nat.eq_of_beq_eq_true hb]; exact hj
 ·
  intro h; exact ⟨i,h,Nat.beq_refl i⟩
def Ca (ops:Array Oper) (os done:List Nat) (w:Option Nat) (W:List Nat):Bool :=
 (os.all fun j=>!IJ j W) &&   (List.range ops.size).all fun i=>IJ i os || IJ i done || (done.any fun d=>Nat.testBit ((Region.before ops).getD d 0) i) || (match w with | some w=>Nat.beq i w || Nat.testBit ((Region.before ops).getD i 0) w | none=>false)
def Il (R:bU) (C:gV) (nt:Nat) (ops:Array Oper) (srcs:List Src) (fin:Src) (e0:Env) (Q:Env→St→Prop):List Nat→List Nat→List (Option AV)→St→Prop
 | [],done,ws,S=>∃ os,Ca ops os done none []=true∧RL R C nt ops srcs e0 ws S os∧∃ E,qE ws e0 fin=some E∧Q E S
 | i :: W,done,ws,S=>∃ os,Ca ops os done (some i) (i :: W)=true∧RL R C nt ops srcs e0 ws S os∧∃ o e,ops[i]? = some o∧qE ws e0 (srcs.getD i [])=some e ∧
   Oq R C nt ops S e o (fun v S'=>∃ ws',lT ws' ws∧(∀ t,o.dst=some t→∃ x,ws'[i]? = some (some x)∧Less x v)∧Il R C nt ops srcs fin e0 Q W (i :: done) ws' S')
def KE (ops:Array Oper) (nt:Nat) (srcs:List Src) (fin:Src):Bool :=
 uJ ops && F7 ops fin && (List.range ops.size).all fun i=>EM ops ((Region.before ops).getD i 0) i (srcs.getD i []) && (match ops[i]? with | some o=>(match o.dst with | some t=>Nat.blt t nt | none=>true) && (match o.op with | .next _ _=>false | _=>true) | none=>true)
theorem aD.jf (hR:mI R C) (hm:C.P.follows .mixedOrders=true) {id:Nat} {ops:Array Oper} (srcs:List Src) (fin:Src) (ht:KE ops nt srcs fin=true) (W:List Nat) (hWn:W.Nodup) {e0:Env} {S:St} (ws:List (Option AV)) {Q:vX→Prop}
  (h:Il R C nt ops srcs fin e0 (fun e' S'=>Q (.normal,e',S')) W [] ws S):aD R C.P nt (.region id ops true) e0 S Q:=by
 simp only [KE,Bool.and_eq_true] at ht
 obtain ⟨⟨hr,hfin⟩,hall⟩:=ht
 have hsrc:∀ i,i < ops.size→EM ops ((Region.before ops).getD i 0) i (srcs.getD i [])=true:=fun i hi=>by
  have:=List.all_eq_true.1 hall i (List.mem_range.2 hi)
  simp only [Bool.and_eq_true] at this
  exact this.1
 have hnt:∀ (k:Nat) (o:Oper) (t:Nat),ops[k]? = some o→o.dst=some t→t < nt:=fun k o t hk hd=>by
  have:=List.all_eq_true.1 hall k (List.mem_range.2 (Array.getElem?_eq_some_iff.1 hk).1)
  simp only [Bool.and_eq_true,hk,hd] at this
  exact Nat.le_of_ble_eq_true this.2.1
 have hnx:∀ (k:Nat) (o:Oper),ops[k]? = some o→∀ t,o.op ≠ .next (.tmp t) false:=fun k o hk t ho=>by
  have:=List.all_eq_true.1 hall k (List.mem_range.2 (Array.getElem?_eq_some_iff.1 hk).1)
  simp only [Bool.and_eq_true,hk,ho] at this
  cases this.2.2
 intro cx w a Kx hS he hk
 refine wp_region_any hm ?_
 obtain ⟨d1,d2⟩:=o5 hR.toObjOk hS
 let Inv:Array Bool→Act→World→Prop:=fun listed a' w'=>a'.defers=a.defers∧∃ W' done ws' S' cx',Il R C nt ops srcs fin e0 (fun e' S'=>Q (.normal,e',S')) W' done ws' S'∧(∀ i ∈ done,listed.getD i false=true)∧(∀ i ∈ W',listed.getD i false=false)∧W'.Nodup ∧
  bu R cx' S' w'∧Ext cx S w cx' S' w'∧vO nt ops e0 listed ws' cx' S' w' a'
 have repf:∀ i,(Array.replicate ops.size false).getD i false=false:=fun i=>Gz _ _
 refine JW hr Inv ?_ ?_ ops.size (Array.replicate ops.size false) (by simp) (fun j hj=>by rw [repf] at hj; cases hj) ?_ ?_
 ·
  intro listed a' w' i o K hsz hcl hun hi hclo ⟨hd,W',done,ws',S',cx',hD,hdone,hW',hnd,s1,x1,env⟩ hK
  have hlt:i < ops.size:=(Array.getElem?_eq_some_iff.1 hi).1
  have rstep:∀ os,RL R C nt ops srcs e0 ws' S' os→i ∈ os→i ∉ W'→wpOp C.P ops Kx i K a' w':=fun os hrl hio hiw=>by
   obtain ⟨o2,x,e,h1,h2,h3,h4⟩:=hrl.get hio
   rw [hi] at h1; cases h1
   have hrel:=Dq hr hcl env hlt hun hclo h3 (hsrc i hlt)
   refine Gy hR h4 s1 hrel (fun cx2 w2 u q1 q2 q3=>hK _ _ ⟨by rw [put_defers]; exact hd,W',done,ws',S',cx2,hD,fun j hj=>?_,fun j hj=>?_,hnd,q1,x1.trans q2,?_⟩) (hnx i o hi) hi
   ·
    by_cases hij:i=j
    ·
     subst hij; exact getD_set_true (hdone i hj)
    ·
     rw [getD_set_ne false hij]; exact hdone j hj
   ·
    have hij:i ≠ j:=fun q=>hiw (q ▸ hj)
    rw [getD_set_ne false hij]; exact hW' j hj
   ·
    exact vO.step hr hnt hsz hcl (fun k y _ hy=>⟨y,hy,.refl y⟩) env hi hun q2 (fun t ht=>⟨x,h2,q3 t ht⟩)
  have cov:∀ os w0,Ca ops os done w0 W'=true→(i ∈ os∧i ∉ W')∨∃ w1,w0=some w1∧(i=w1∨listed.getD w1 false=true):=fun os w0 hc=>by
   simp only [Ca,Bool.and_eq_true] at hc
   obtain ⟨c1,c2⟩:=hc
   have:=List.all_eq_true.1 c2 i (List.mem_range.2 hlt)
   simp only [Bool.or_eq_true] at this
   rcases this with ((q | q) | q) | q
   ·
    left
    have hio:=zT.1 q
    refine ⟨hio,fun hiw=>?_⟩
    have:=List.all_eq_true.1 c1 i hio
    rw [zT.2 hiw] at this; cases this
   ·
    have:=hdone i (zT.1 q)
    rw [hun] at this; cases this
   ·
    obtain ⟨d,hd1,hd2⟩:=List.any_eq_true.1 q
    have hl:=hdone d hd1
    have hdlt:d < ops.size:=by
     rcases Nat.lt_or_ge d ops.size with q | q
     ·
      exact q
     ·
      have:listed.getD d false=false:=by simp [show listed.size ≤ d by omega]
      rw [hl] at this; cases this
    have:=hcl d hl i (tL hr hdlt hd2) hd2
    rw [hun] at this; cases this
   ·
    right
    cases w0 with
    | none=>cases q
    | some w1 =>
     simp only [Bool.or_eq_true] at q
     refine ⟨w1,rfl,q.imp Nat.eq_of_beq_eq_true (fun q=>hclo w1 (tL hr hlt q) q)⟩
  cases W' with
  | nil =>
   obtain ⟨os,hc,hrl,_⟩:=_root_.id hD
   rcases cov os none hc with h | ⟨w1,h,_⟩
   ·
    exact rstep os hrl h.1 h.2
   ·
    cases h
  | cons w0 W2 =>
   obtain ⟨os,hc,hrl,o2,e,h1,h2,h3⟩:=_root_.id hD
   rcases cov os (some w0) hc with h | ⟨w1,h,hq⟩
   ·
    exact rstep os hrl h.1 h.2
   ·
    cases h
    rcases hq with rfl | hq
    ·
     rw [hi] at h1; cases h1
     have hrel:=Dq hr hcl env hlt hun hclo h2 (hsrc i hlt)
     refine G7 hR h3 s1 hrel (fun v S2 cx2 w2 u hqv q1 q2 q3=>?_) (hnx i o hi) hi
     obtain ⟨ws2,l1,l2,l3⟩:=hqv
     refine hK _ _ ⟨by rw [put_defers]; exact hd,W2,i :: done,ws2,S2,cx2,l3,fun j hj=>?_,fun j hj=>?_,(List.nodup_cons.1 hnd).2,q1,x1.trans q2,?_⟩
     ·
      by_cases hij:i=j
      ·
       subst hij
       have hlt':i < listed.size:=by omega
       simp [hlt']
      ·
       rw [getD_set_ne false hij]
       rcases List.mem_cons.1 hj with q | q
       ·
        exact absurd q.symm hij
       ·
        exact hdone j q
     ·
      have hij:i ≠ j:=fun q=>(List.nodup_cons.1 hnd).1 (q ▸ hj)
      rw [getD_set_ne false hij]; exact hW' j (List.mem_cons_of_mem _ hj)
     ·
      exact vO.step hr hnt hsz hcl (fun k y _ hy=>l1.get hy) env hi hun q2 (fun t ht=>by
       obtain ⟨x,k1,k2⟩:=l2 t ht
       exact ⟨x,k1,k2 _ _ _ _ (q3 t ht)⟩)
    ·
     have:=hW' w0 List.mem_cons_self
     rw [hq] at this; cases this
 ·
  intro listed a' w' hall' ⟨hd,W',done,ws',S',cx',hD,hdone,hW',hnd,s1,x1,env⟩
  cases W' with
  | nil =>
   obtain ⟨os,hc,hrl,E,hE,hQ⟩:=hD
   exact hk (.normal,E,S') hQ cx' a' w' s1 x1 (Ha hall' env hE hfin) hd
  | cons w0 W2 =>
   obtain ⟨os,hc,hrl,o2,e,h1,h2,h3⟩:=hD
   have:=hall' w0 (Array.getElem?_eq_some_iff.1 h1).1
   rw [hW' w0 List.mem_cons_self] at this; cases this
 ·
  have:((List.range ops.size).filter fun i=>!(Array.replicate ops.size false).getD i false)=List.range ops.size:=by
   rw [List.filter_eq_self]; intro i hi; rw [repf]; rfl
  rw [this]; simp
 ·
  refine ⟨rfl,W,[],ws,S,cx,h,fun i hi=>(by cases hi),fun i hi=>repf i,hWn,d1,d2,he.size,fun k o t _ _ hl _=>?_,fun t x hx _=>?_⟩
  ·
   rw [repf] at hl; cases hl
  ·
   obtain ⟨v,v1,v2⟩:=he.rel t x hx
   exact ⟨v,v1,v2.mono d2⟩
end
end Go.Ev
namespace Go.Ev
end Go.Ev

namespace Go.Ev
noncomputable section
open Go.Shelf Go.RowKit Go.Proofs
set_option linter.unusedVariables false
set_option linter.unusedSimpArgs false
theorem setCells_at:∀ (vs:List Value) (w:World) (b o:Nat) (arr:Array Value) (el:Nat) (fz:Nat × Nat),w.heap[b]? = some (.cells arr el fz) →
  (w.setCells b o vs).heap.size=w.heap.size∧(∀ c,c ≠ b→(w.setCells b o vs).heap[c]? = w.heap[c]?)∧(w.setCells b o vs).os=w.os∧(w.setCells b o vs).tape=w.tape∧(w.setCells b o vs).output=w.output ∧
   (w.setCells b o vs).heap[b]? = some (.cells (setAt arr.toList o vs).toArray el fz)
 | [],w,b,o,arr,el,fz,hb=>⟨rfl,fun _ _=>rfl,rfl,rfl,rfl,by simpa [setAt,World.setCells] using hb⟩
 | v :: vs,w,b,o,arr,el,fz,hb=>by
  have h1:(w.setCell ⟨b,o,none⟩ v).heap[b]? = some (.cells (arr.setIfInBounds o v) el fz):=by
   simp [World.setCell,Array.getElem?_modify,hb]
  obtain ⟨a1,a2,a3,a4,a5,a6⟩:=setCells_at vs (w.setCell ⟨b,o,none⟩ v) b (o + 1) _ el fz h1
  simp only [World.setCells]
  refine ⟨by rw [a1]; simp [World.setCell],fun c hc=>?_,a3,a4,a5,?_⟩
  ·
   rw [a2 c hc]
   simp [World.setCell,Array.getElem?_modify,Ne.symm hc]
  ·
   rw [a6]
   simp [setAt]
theorem vS {w:World} {need old e:Nat} (h:need ≤ 9223372036854775807):need ≤ grownCap w need old e∧grownCap w need old e ≤ 9223372036854775807:=by
 unfold grownCap
 simp only [Question.cut]
 have h2:(2:Nat) ^ 63=9223372036854775808:=by decide
 have h3:=Nat.mod_lt (w.tape w.drawn (.appendCap need old e)) (show 0 < 2 ^ 63 - need by omega)
 constructor <;> omega
def Jz (w:World) (b n c i m:Nat) (arr:Array Value) (el e3:Nat) (cs vs:List Value) (e:Ending) (w':World):Prop :=
 (w'.os=w.os∧w'.tape=w.tape∧w'.output=w.output) ∧
 ((n + m ≤ c∧e=.returned (.slice (some ⟨b,0,none⟩) (n + m) c)∧w'.heap.size=w.heap.size∧(∀ d,d ≠ b→w'.heap[d]? = w.heap[d]?) ∧
   ∃ arr',w'.heap[b]? = some (.cells arr' el (0,0))∧arr'.size=arr.size∧∀ (j:Nat) (v:Value),(cs.take i ++ vs ++ cs.drop i)[j]? = some v→arr'[j]? = some v) ∨
  (∃ nc arr',n + m ≤ nc∧nc ≤ 9223372036854775807∧e=.returned (.slice (some ⟨w.heap.size,0,none⟩) (n + m) nc)∧w'.heap.size=w.heap.size + 1∧(∀ d,d < w.heap.size→w'.heap[d]? = w.heap[d]?) ∧
   w'.heap[w.heap.size]? = some (.cells arr' e3 (0,0))∧arr'.size=nc∧∀ (j:Nat) (v:Value),(cs.take i ++ vs ++ cs.drop i)[j]? = some v→arr'[j]? = some v))
theorem yx {α:Type} (l cs vs:List α) (i m n:Nat) (hm:vs.length=m) (hn:cs.length=n) (hi:i ≤ n) (hl:n + m ≤ l.length) (h0:∀ (j:Nat) (v:α),j < i→cs[j]? = some v→l[j]? = some v) (j:Nat) (v:α)
  (h:(cs.take i ++ vs ++ cs.drop i)[j]? = some v):(setAt (setAt l (i + m) (cs.drop i)) i vs)[j]? = some v:=by
 have hlt:(cs.take i).length=i:=by simp; omega
 have hdl:(cs.drop i).length=n - i:=by simp; omega
 rw [eU _ _ _ _ (by rw [cO]; omega)]
 rw [List.getElem?_append,List.length_append,hlt,hm] at h
 by_cases h1:j < i + m
 ·
  rw [if_pos h1,List.getElem?_append,hlt] at h
  by_cases h2:j < i
  ·
   rw [if_pos h2,List.getElem?_take,if_pos h2] at h
   rw [if_neg (by omega),eU _ _ _ _ (by omega),if_neg (by omega)]
   exact h0 j v h2 h
  ·
   rw [if_neg h2] at h
   rw [if_pos (by omega)]; exact h
 ·
  rw [if_neg h1] at h
  have h3:j - (i + m) < (cs.drop i).length:=(List.getElem?_eq_some_iff.1 h).1
  rw [if_neg (by omega),eU _ _ _ _ (by omega),if_pos (by omega)]
  exact h
theorem Eh {α:Type} (l cs vs:List α) (i m n:Nat) (hm:vs.length=m) (hn:cs.length=n) (hi:i ≤ n) (hl:n + m ≤ l.length) (h0:∀ (j:Nat) (v:α),j < i→cs[j]? = some v→l[j]? = some v) (j:Nat) (v:α)
  (h:(cs.take i ++ vs ++ cs.drop i)[j]? = some v):(setAt (setAt l i vs) (i + m) (cs.drop i))[j]? = some v:=by
 have hlt:(cs.take i).length=i:=by simp; omega
 have hdl:(cs.drop i).length=n - i:=by simp; omega
 rw [eU _ _ _ _ (by rw [cO]; omega)]
 rw [List.getElem?_append,List.length_append,hlt,hm] at h
 by_cases h1:j < i + m
 ·
  rw [if_pos h1,List.getElem?_append,hlt] at h
  rw [if_neg (by omega),eU _ _ _ _ (by omega)]
  by_cases h2:j < i
  ·
   rw [if_pos h2,List.getElem?_take,if_pos h2] at h
   rw [if_neg (by omega)]
   exact h0 j v h2 h
  ·
   rw [if_neg h2] at h
   rw [if_pos (by omega)]; exact h
 ·
  rw [if_neg h1] at h
  have h3:j - (i + m) < (cs.drop i).length:=(List.getElem?_eq_some_iff.1 h).1
  rw [if_pos (by omega)]
  exact h
theorem BV {P:Program} {ρ:Ren} (L:Lays2.n21 P ρ) {w:World} {b n c i vb voff m vc:Nat} {arr arr2:Array Value} {el el2:Nat} {cs vs:List Value}
  (hb:w.heap[b]? = some (.cells arr el (0,0))) (hvb:w.heap[vb]? = some (.cells arr2 el2 (0,0))) (hne:vb ≠ b) (hi:i ≤ n) (hm:0 < m) (hnc:n ≤ c) (hca:c ≤ arr.size) (hc63:c ≤ 9223372036854775807)
  (hbig:(n + m) * 8 ≤ 140737488355328) (hcl:cs.length=n) (hvl:vs.length=m) (hcs:∀ (j:Nat) (v:Value),cs[j]? = some v→arr[j]? = some v) (hvs:∀ (j:Nat) (v:Value),vs[j]? = some v→arr2[voff + j]? = some v)
  (h1c:∀ v ∈ cs,v.oneCell'=true) (h1v:∀ v ∈ vs,v.oneCell'=true) :
  Calls P (ρ.f 21) #[.slice (some ⟨b,0,none⟩) n c,.int .i64 i,.slice (some ⟨vb,voff,none⟩) m vc] w (Jz w b n c i m arr el (ρ.t 3) cs vs):=by
 have hbl:b < w.heap.size:=by
  rcases Nat.lt_or_ge b w.heap.size with q | q
  ·
   exact q
  ·
   rw [Array.getElem?_eq_none q] at hb; cases hb
 have gcs:∀ (j:Nat) (v:Value),cs[j]? = some v→w.cell? ⟨b,0 + j,none⟩=some v:=fun j v h=>by rw [Nat.zero_add,cell_of hb]; exact hcs j v h
 have gvs:∀ (j:Nat) (v:Value),vs[j]? = some v→w.cell? ⟨vb,voff + j,none⟩=some v:=fun j v h=>by rw [cell_of hvb]; exact hvs j v h
 have gsp:∀ (o j:Nat),o + j < arr.size→(w.cell? ⟨b,o + j,none⟩).isSome=true:=fun o j h=>by rw [cell_of hb,Array.getElem?_eq_getElem h]; rfl
 have gfz:∀ (o:Nat),w.frozen? ⟨b,o,none⟩=false:=fun o=>by simp [World.frozen?,hb]
 have gfz2:∀ (o:Nat),w.frozen? ⟨vb,o,none⟩=false:=fun o=>by simp [World.frozen?,hvb]
 have hsb:w.shape? b=some (el,arr.size):=by simp [World.shape?,hb]
 have hsv:w.shape? vb=some (el2,arr2.size):=by simp [World.shape?,hvb]
 by_cases hroom:n + m ≤ c
 ·
  by_cases hin:i < n
  ·
   refine (Proofs.Any2.slices_Insert_int_shift L b 0 n c i vb voff m vc cs vs w hin hm hroom hc63 hne hcl hvl gcs (fun j hj=>gsp 0 j (by omega)) (fun j _=>gfz _) gvs h1c h1v el2 el arr2.size arr.size hsv hsb (by omega) (gfz2 _) (gfz2 _)).mono (fun e w' q=>?_)
   obtain ⟨rfl,rfl⟩:=q
   obtain ⟨a1,a2,a3,a4,a5,a6⟩:=setCells_at (cs.drop i) w.drew b (0 + (i + m)) arr el (0,0) hb
   obtain ⟨b1,b2,b3,b4,b5,b6⟩:=setCells_at vs _ b (0 + i) _ el (0,0) a6
   simp only [Nat.zero_add] at *
   refine ⟨⟨b3.trans a3,b4.trans a4,b5.trans a5⟩,.inl ⟨hroom,rfl,b1.trans a1,fun d hd=>(b2 d hd).trans (a2 d hd),_,b6,by simp [cO],fun j v h=>?_⟩⟩
   simp only [List.getElem?_toArray]
   exact yx arr.toList cs vs i m n hvl hcl hi (by simp; omega) (fun j v _ h=>by simpa using hcs j v h) j v h
  ·
   have hin:i=n:=by omega
   subst hin
   refine (Proofs.Any2.slices_Insert_int_end_room L b 0 i c vb voff m vc vs w hm hroom hc63 hvl (fun j hj=>by rw [Nat.zero_add]; exact gsp i j (by omega)) (fun j _=>gfz _) gvs h1v).mono (fun e w' q=>?_)
   obtain ⟨rfl,rfl⟩:=q
   obtain ⟨a1,a2,a3,a4,a5,a6⟩:=setCells_at vs w b (0 + i) arr el (0,0) hb
   simp only [Nat.zero_add] at *
   refine ⟨⟨a3,a4,a5⟩,.inl ⟨hroom,rfl,a1,a2,_,a6,by simp [cO],fun j v h=>?_⟩⟩
   simp only [List.getElem?_toArray]
   have:=yx arr.toList cs vs i m i hvl hcl hi (by simp; omega) (fun j v _ h=>by simpa using hcs j v h) j v h
   rw [← hcl,List.drop_length] at this
   rw [← hcl]
   simpa [setAt] using this
 ·
  obtain ⟨g1,g2⟩:=vS (w:=w) (need:=n + m) (old:=c) (e:=ρ.t 3) (by omega)
  by_cases hin:i < n
  ·
   refine (Proofs.Any2.slices_Insert_int_grow L b 0 n c i vb voff m vc cs vs w hin hm hnc (by omega) hbig hcl hvl gcs gvs h1c h1v).mono (fun e w' q=>?_)
   obtain ⟨rfl,rfl⟩:=q
   generalize hrow:(cs.take i).toArray ++ Builtin.zeroCells (Value.int .i64 0).cells (n + m - i) ++ Builtin.zeroCells (Value.int .i64 0).cells (grownCap w (n + m) c (ρ.t 3) - (n + m))=ROW
   have hrs:ROW.size=grownCap w (n + m) c (ρ.t 3):=by
    rw [← hrow]; simp [iX,Value.cells]; omega
   have h0:(w.alloc (.cells ROW (ρ.t 3))).drew.heap[w.heap.size]? = some (.cells ROW (ρ.t 3) (0,0)):=heap_alloc_new w _
   obtain ⟨a1,a2,a3,a4,a5,a6⟩:=setCells_at vs (w.alloc (.cells ROW (ρ.t 3))).drew w.heap.size i ROW (ρ.t 3) (0,0) h0
   obtain ⟨b1,b2,b3,b4,b5,b6⟩:=setCells_at (cs.drop i) (((w.alloc (.cells ROW (ρ.t 3))).drew.setCells w.heap.size i vs).drew) w.heap.size (i + m) _ (ρ.t 3) (0,0) a6
   refine ⟨⟨b3.trans a3,b4.trans a4,b5.trans a5⟩,.inr ⟨_,_,g1,g2,rfl,?_,fun d hd=>?_,b6,by simp [cO,hrs],fun j v h=>?_⟩⟩
   ·
    rw [b1]; show ((w.alloc (.cells ROW (ρ.t 3))).drew.setCells w.heap.size i vs).heap.size=_; rw [a1]; show (w.alloc (.cells ROW (ρ.t 3))).heap.size=_; rw [size_alloc]
   ·
    rw [b2 d (by omega)]; show ((w.alloc (.cells ROW (ρ.t 3))).drew.setCells w.heap.size i vs).heap[d]? = _; rw [a2 d (by omega)]; exact heap_alloc_old w _ hd
   ·
    simp only [List.getElem?_toArray]
    refine Eh ROW.toList cs vs i m n hvl hcl hi (by simp [hrs]; omega) (fun j v hj h=>?_) j v h
    rw [← hrow]
    simp only [Array.toList_append,List.append_assoc]
    rw [List.getElem?_append_left (by simp; omega)]
    simpa [List.getElem?_take,hj] using h
  ·
   have hin:i=n:=by omega
   subst hin
   refine (Proofs.Any2.slices_Insert_int_end_grow L (some ⟨b,0,none⟩) i c vb voff m vc cs vs w hm hnc (by omega) hbig hcl hvl (fun q=>by cases q) (fun a ha j v h=>by cases ha; rw [jG]; exact gcs j v h) gvs h1v).mono (fun e w' q=>?_)
   obtain ⟨rfl,rfl⟩:=q
   refine ⟨⟨rfl,rfl,rfl⟩,.inr ⟨_,_,g1,g2,rfl,size_alloc w.drew _,fun d hd=>heap_alloc_old w.drew _ hd,heap_alloc_new w.drew _,by simp [iX,Value.cells,hcl,hvl]; omega,fun j v h=>?_⟩⟩
   rw [← hcl,List.take_length,List.drop_length,List.append_nil] at h
   have hlt:=(List.getElem?_eq_some_iff.1 h).1
   rw [Array.getElem?_append_left (by simpa using hlt)]
   simpa using h
theorem insert_nil {P:Program} {ρ:Ren} (L:Lays2.n21 P ρ) {w:World} {vb voff m vc:Nat} {arr2:Array Value} {el2:Nat} {vs:List Value}
  (hvb:w.heap[vb]? = some (.cells arr2 el2 (0,0))) (hm:0 < m)
  (hbig:m * 8 ≤ 140737488355328) (hvl:vs.length=m) (hvs:∀ (j:Nat) (v:Value),vs[j]? = some v→arr2[voff + j]? = some v) (h1v:∀ v ∈ vs,v.oneCell'=true) :
  Calls P (ρ.f 21) #[.slice none 0 0,.int .i64 0,.slice (some ⟨vb,voff,none⟩) m vc] w fun e w'=>∃ nc rest,m ≤ nc∧nc ≤ 9223372036854775807∧rest.size=nc - m∧e=.returned (.slice (some ⟨w.heap.size,0,none⟩) m nc) ∧
   w'=w.drew.alloc (.cells (vs.toArray ++ rest) (ρ.t 3)):=by
 obtain ⟨g1,g2⟩:=vS (w:=w) (need:=0 + m) (old:=0) (e:=ρ.t 3) (by omega)
 have gvs:∀ (j:Nat) (v:Value),vs[j]? = some v→w.cell? ⟨vb,voff + j,none⟩=some v:=fun j v h=>by rw [cell_of hvb]; exact hvs j v h
 refine (Proofs.Any2.slices_Insert_int_end_grow L none 0 0 vb voff m vc [] vs w hm (Nat.le_refl _) (by omega) (by omega) rfl hvl (fun _=>rfl) (fun a ha=>by cases ha) gvs h1v).mono (fun e w' q=>?_)
 obtain ⟨rfl,rfl⟩:=q
 simp only [Nat.zero_add,List.nil_append] at *
 exact ⟨_,_,g1,g2,by simp [iX,Value.cells],rfl,rfl⟩
def og (args:List AV) (S:St):Option (AV × St) :=
 match args with
 | [.eF id g off len lim sz,.d (.int k i),.eF id2 g2 off2 len2 lim2 sz2] =>
  match S.look id g,S.look id2 g2 with
  | some cs,some vs =>
   if off=0∧sz=1∧sz2=1∧k=.i64∧id2 ≠ id∧0 ≤ i∧i.toNat ≤ len∧len ≤ cs.length∧0 < len2∧off2 + len2 ≤ vs.length∧(len + len2) * 8 ≤ 140737488355328 then
    some (.eF id (g + 1) 0 (len + len2) (len + len2) 1,{ S with H:=S.H.set id (.cells (g + 1) ((cs.take len).take i.toNat ++ (vs.drop off2).take len2 ++ (cs.take len).drop i.toNat)) })
   else none
  | _,_=>none
 | [.d .aO,.d (.int k i),.eF id2 g2 off2 len2 lim2 sz2] =>
  match S.look id2 g2 with
  | some vs =>
   if sz2=1∧k=.i64∧i=0∧0 < len2∧off2 + len2 ≤ vs.length∧len2 * 8 ≤ 140737488355328 then
    some (.eF S.nx 0 0 len2 len2 1,(jk S ((vs.drop off2).take len2)).2)
   else none
  | none=>none
 | _=>none
theorem Ao {R:bU} (hR:ObjOk R) {P:Program} {ρ:Ren} (L:Lays2.n21 P ρ) {args:List AV} {S S':St} {v:AV} (h:og args S=some (v,S')) {cx:Cx} {w:World} {us:List Value} (hS:bu R cx S w)
  (hl:us.length=args.length) (hr:∀ (i:Nat) (x:AV) (u:Value),args[i]? = some x→us[i]? = some u→aT cx S w x u) :
  Calls P (ρ.f 21) us.toArray w (fun e w'=>∃ cx',bu R cx' S' w'∧Ext cx S w cx' S' w'∧∃ u,e=.returned u∧aT cx' S' w' v u):=by
 unfold og at h
 split at h
 ·
  rename_i id g off len lim sz k i id2 g2 off2 len2 lim2 sz2
  split at h
  ·
   rename_i cs vs hlk hlk2
   split at h
   ·
    rename_i hc
    obtain ⟨rfl,rfl,rfl,rfl,hne,hi0,hil,hlc,hm,hov,hbig⟩:=hc
    simp only [Option.some.injEq,Prod.mk.injEq] at h
    obtain ⟨rfl,rfl⟩:=h
    match us,hl with
    | [u0,u1,u2],_ =>
    have r0:=hr 0 _ _ rfl rfl
    have r1:=hr 1 _ _ rfl rfl
    have r2:=hr 2 _ _ rfl rfl
    cases r1 with
    | d _ _ r1 =>
    have a1:=r1.val rfl; cases a1
    have hk:=lH hlk
    have hk2:=lH hlk2
    have hlive:cur S id=some g:=by simp [cur,hk]
    have hlive2:cur S id2=some g2:=by simp [cur,hk2]
    cases r0 with
    | eF _ _ _ _ _ _ b cap hn hll hcap h63 hp =>
    cases r2 with
    | eF _ _ _ _ _ _ b2 cap2 hn2 hll2 hcap2 h632 hp2 =>
    obtain ⟨rfl,p2,p3⟩:=hp hlive
    obtain ⟨rfl,q2,q3⟩:=hp2 hlive2
    obtain ⟨c1,c2,arr,el,c3,c4,c5⟩:=hS.cells id g cs hk
    obtain ⟨d1,d2,arr2,el2,d3,d4,d5⟩:=hS.cells id2 g2 vs hk2
    have hbne:cx.bm id2 ≠ cx.bm id:=fun q=>hne (hS.sep id2 id (cx.bm id) (by simp [live,hlive2]) (by simp [live,hlive]) ((d1 _).2 q.symm) ((c1 _).2 rfl))
    have pc:=qy c4.2.2 c5 0 len (by omega)
    have pv:=qy d4.2.2 d5 off2 len2 (by omega)
    simp only [List.drop_zero] at pc
    have hcV:(arr.toList.take len).length=len:=by simp; have:=c4.2.2; omega
    have hvV:((arr2.toList.drop off2).take len2).length=len2:=by simp; have:=d4.2.2; omega
    have pL:Pw (aT cx S w) ((cs.take len).take i.toNat ++ (vs.drop off2).take len2 ++ (cs.take len).drop i.toNat) ((arr.toList.take len).take i.toNat ++ (arr2.toList.drop off2).take len2 ++ (arr.toList.take len).drop i.toNat):=by
     refine Pw.append (Pw.append ?_ pv) ?_
     ·
      have:=pc.MB 0 i.toNat
      simpa using this
     ·
      have:=pc.MB i.toNat (len - i.toNat)
      have e1:((cs.take len).drop i.toNat).take (len - i.toNat)=(cs.take len).drop i.toNat:=List.take_of_length_le (by simp; omega)
      have e2:((arr.toList.take len).drop i.toNat).take (len - i.toNat)=(arr.toList.take len).drop i.toNat:=List.take_of_length_le (by rw [List.length_drop,hcV]; omega)
      rw [e1,e2] at this
      exact this
    have hLl:((cs.take len).take i.toNat ++ (vs.drop off2).take len2 ++ (cs.take len).drop i.toNat).length=len + len2:=by simp; omega
    generalize hLL:(cs.take len).take i.toNat ++ (vs.drop off2).take len2 ++ (cs.take len).drop i.toNat=LL at pL hLl ⊢
    generalize hVV:(arr.toList.take len).take i.toNat ++ (arr2.toList.drop off2).take len2 ++ (arr.toList.take len).drop i.toNat=VV at pL
    have hi:(Value.int .i64 i)=.int .i64 ((i.toNat:Nat):Int):=by rw [Int.toNat_of_nonneg hi0]
    rw [hi]
    have hcurn:cur { S with H:=S.H.set id (.cells (g + 1) LL) } id=some (g + 1):=by unfold cur; simp [AL.aP]
    have hnm:Names { S with H:=S.H.set id (.cells (g + 1) LL) } id (g + 1):=⟨hn.1,fun g' hg=>by rw [hcurn] at hg; simp at hg; omega⟩
    refine (BV L (i:=i.toNat) (c:=cap) (voff:=off2) (vc:=cap2) c3 d3 hbne hil hm (by omega) (by rw [c4.1]; omega) h63 hbig hcV hvV (fun j v hj=>by
     rw [List.getElem?_take] at hj
     split at hj
     ·
      simpa using hj
     ·
      cases hj) (fun j v hj=>by
     rw [List.getElem?_take] at hj
     split at hj
     ·
      rw [List.getElem?_drop] at hj; simpa using hj
     ·
      cases hj) (fun v hv=>pc.2.1 v hv) (fun v hv=>pv.2.1 v hv)).mono (fun e w' hpost=>?_)
    obtain ⟨⟨o1,o2,o3⟩,hpost⟩:=hpost
    rw [hVV] at hpost
    rcases hpost with ⟨hfit,rfl,s1,s2,arr',s3,s4,s5⟩ | ⟨nc,arr',g1,g2,rfl,s1,s2,s3,s4,s5⟩
    ·
     let cx':Cx:={ cx with nI:=fun i=>if i=id then len + len2 else cx.nI i }
     obtain ⟨k1,k2⟩:=uh hR (cx':=cx') (w':=w') (g':=g + 1) (cs':=LL) hS hk (by omega) (by omega) o1 o2 o3 (fun b _ hb=>s2 b hb) (fun _ _=>rfl) (fun _ _ _=>Iff.rfl) (fun i hi=>by simp [cx',hi]) (fun _ _=>rfl)
      (fun b hb=>.inl ((c1 b).1 hb)) (fun b o hf _=>hf) (fun b o hf=>hf) (fun b o hf=>by rw [s1]; exact hS.lt b o hf) (fun ext=>by
      refine ⟨c1,c2,arr',el,s3,⟨by rw [s4]; exact c4.1,by simp only [cx',if_true]; exact hLl,by rw [hLl,s4,c4.1]; omega⟩,fun j x hx=>?_⟩
      have hlt:j < VV.length:=by rw [pL.1]; exact (List.getElem?_eq_some_iff.1 hx).1
      have hu:=List.getElem?_eq_getElem hlt
      exact ⟨_,s5 j _ hu,(pL.2.2 j x _ hx hu).mono ext,pL.2.1 _ (List.getElem_mem hlt)⟩)
     exact ⟨cx',k1,k2,_,rfl,.eF id (g + 1) 0 (len + len2) (len + len2) _ _ cap hnm (Nat.le_refl _) hfit h63 (fun _=>⟨rfl,by simp only [cx',if_true,Nat.zero_add,Nat.mul_one]; exact hfit,p3⟩)⟩
    ·
     let cx':Cx:={ bm:=fun i=>if i=id then w.heap.size else cx.bm i,fp:=fun i b=>if i=id then b=w.heap.size else cx.fp i b,nI:=fun i=>if i=id then len + len2 else cx.nI i,tot:=fun i=>if i=id then nc else cx.tot i,fr:=fun b o=>b=w.heap.size∨cx.fr b o }
     obtain ⟨k1,k2⟩:=uh hR (cx':=cx') (w':=w') (g':=g + 1) (cs':=LL) hS hk (by omega) (by omega) o1 o2 o3
      (fun b hb _=>s2 b hb) (fun i hi=>by simp [cx',hi]) (fun i hi b=>by simp [cx',hi]) (fun i hi=>by simp [cx',hi]) (fun i hi=>by simp [cx',hi])
      (fun b hb=>.inr (by simp only [cx',if_true] at hb; subst hb; omega))
      (fun b o hf hlt q=>q.elim (fun q=>absurd q (by omega)) (fun q=>hf q)) (fun b o hf=>.inr hf) (fun b o q=>by rw [s1]; exact q.elim (fun q=>by rw [q]; exact Nat.lt_succ_self _) (fun q=>Nat.lt_succ_of_lt (hS.lt b o q)))
      (fun ext=>by
      refine ⟨fun b=>by simp [cx'],fun o=>by simp [cx'],arr',_,by simp only [cx',if_true]; exact s3,⟨by simp only [cx',if_true]; exact s4,by simp only [cx',if_true]; exact hLl,by rw [s4,hLl]; exact g1⟩,fun j x hx=>?_⟩
      have hlt:j < VV.length:=by rw [pL.1]; exact (List.getElem?_eq_some_iff.1 hx).1
      have hu:=List.getElem?_eq_getElem hlt
      exact ⟨_,s5 j _ hu,(pL.2.2 j x _ hx hu).mono ext,pL.2.1 _ (List.getElem_mem hlt)⟩)
     exact ⟨cx',k1,k2,_,rfl,.eF id (g + 1) 0 (len + len2) (len + len2) _ _ nc hnm (Nat.le_refl _) g1 g2 (fun _=>⟨by simp [cx'],by simp only [cx',if_true,Nat.zero_add,Nat.mul_one]; exact g1,by simp only [cx',if_true,Nat.zero_add,Nat.mul_one]; exact Nat.le_refl _⟩)⟩
   ·
    cases h
  ·
   cases h
 ·
  rename_i k i id2 g2 off2 len2 lim2 sz2
  split at h
  ·
   rename_i vs hlk2
   split at h
   ·
    rename_i hc
    obtain ⟨rfl,rfl,rfl,hm,hov,hbig⟩:=hc
    simp only [Option.some.injEq,Prod.mk.injEq] at h
    obtain ⟨rfl,rfl⟩:=h
    match us,hl with
    | [u0,u1,u2],_ =>
    have r0:=hr 0 _ _ rfl rfl
    have r1:=hr 1 _ _ rfl rfl
    have r2:=hr 2 _ _ rfl rfl
    cases r0 with
    | d _ _ r0 =>
    cases r1 with
    | d _ _ r1 =>
    have a0:=r0.val rfl; cases a0
    have a1:=r1.val rfl; cases a1
    have hk2:=lH hlk2
    have hlive2:cur S id2=some g2:=by simp [cur,hk2]
    cases r2 with
    | eF _ _ _ _ _ _ b2 cap2 hn2 hll2 hcap2 h632 hp2 =>
    obtain ⟨rfl,q2,q3⟩:=hp2 hlive2
    obtain ⟨d1,d2,arr2,el2,d3,d4,d5⟩:=hS.cells id2 g2 vs hk2
    have pv:=qy d4.2.2 d5 off2 len2 (by omega)
    have hvV:((arr2.toList.drop off2).take len2).length=len2:=by simp; have:=d4.2.2; omega
    refine (insert_nil L (voff:=off2) (vc:=cap2) d3 hm hbig hvV (fun j v hj=>by
     rw [List.getElem?_take] at hj
     split at hj
     ·
      rw [List.getElem?_drop] at hj; simpa using hj
     ·
      cases hj) (fun v hv=>pv.2.1 v hv)).mono (fun e w' hpost=>?_)
    obtain ⟨nc,rest,g1,g2,g3,rfl,rfl⟩:=hpost
    obtain ⟨hd1,hd2⟩:=o5 hR hS
    obtain ⟨cx',k1,k2,k3⟩:=nY hR hd1 _ _ rest (ρ.t 3) len2 1 nc (pv.mono hd2) (by rw [← pv.1,hvV,Nat.mul_one]) g1 g2 (by rw [g3,Nat.mul_one])
    exact ⟨cx',k1,hd2.trans k2,_,rfl,k3⟩
   ·
    cases h
  ·
   cases h
 ·
  cases h
end
end Go.Ev

namespace Go.Ev
noncomputable section
open Go.Shelf Go.RowKit Go.Proofs
set_option linter.unusedVariables false
set_option linter.unusedSimpArgs false
structure Mf (T e:Nat) (b:Nat) (p v:Value) (xs:List Value) (w:World):Prop where
 hp:p=.pointer none∨p=.pointer (some ⟨b,0,none⟩)
 blk:w.heap[b]? = some (.cells #[p,v] T (0,0))
 own:w.ownsRow 0 e 1 v xs.length xs
 ne:v.ownBlock ≠ some b
end
end Go.Ev

namespace Go.Ev
noncomputable section
open Go.Shelf Go.RowKit Go.Proofs
set_option linter.unusedVariables false
set_option linter.unusedSimpArgs false
def Lb (T e:Nat) (k:Nat) (x:D) (w:World) (b:Nat) (F:Nat→Prop):Prop :=
 k=1∧∃ l p v,x=.str l∧Mf T e b p v (Lib.byteCells l) w∧∀ c,F c↔(c=b∨v.ownBlock=some c)
def Mx (k:Nat) (w:World) (b:Nat) (F:Nat→Prop):Prop:=k=3∧b < w.heap.size∧∀ c,F c↔c=b
def MQ (T e:Nat) (G:World→(Nat→Nat→Prop)→Prop):bU:={ rel:=fun k x w b F=>Lb T e k x w b F∨Mx k w b F,G:=G }
def Jd (G:World→(Nat→Nat→Prop)→Prop):Prop :=
 ∀ (w w':World) (fr fr':Nat→Nat→Prop),G w fr→(∀ (b o:Nat) (v:Value),¬ fr b o→w.cell? ⟨b,o,none⟩=some v→w'.cell? ⟨b,o,none⟩=some v∧¬ fr' b o)→G w' fr'
theorem Gs {e:Nat} {v:Value} {n:Nat} {xs:List Value} {w w':World} (h:w.ownsRow 0 e 1 v n xs) (hk:∀ c,v.ownBlock=some c→w'.heap[c]? = w.heap[c]?):w'.ownsRow 0 e 1 v n xs:=by
 refine ⟨h.1,?_⟩
 rcases h.2 with q | ⟨g,cap,cur,rfl,q1,q2,q3⟩
 ·
  exact .inl q
 ·
  exact .inr ⟨g,cap,cur,rfl,q1,by rw [hk g rfl]; exact q2,q3⟩
theorem ME {T e:Nat} {G:World→(Nat→Nat→Prop)→Prop} (hG:Jd G):ObjOk (MQ T e G) where
 frame:=fun k x w w' b F h hF=>by
  rcases h with h | ⟨h1,h2,h3⟩
  ·
   obtain ⟨hk,l,p,v,hx,⟨h1,h2,h3,h4⟩,hf⟩:=h
   exact .inl ⟨hk,l,p,v,hx,⟨h1,by rw [hF b ((hf b).2 (.inl rfl))]; exact h2,Gs h3 (fun c hc=>hF c ((hf c).2 (.inr hc))),h4⟩,hf⟩
  ·
   refine .inr ⟨h1,?_,h3⟩
   have:=hF b ((h3 b).2 rfl)
   rcases Nat.lt_or_ge b w'.heap.size with q | q
   ·
    exact q
   ·
    rw [Array.getElem?_eq_none q,Array.getElem?_eq_getElem h2] at this; cases this
 lt:=fun k x w b F h=>by
  rcases h with h | ⟨h1,h2,h3⟩
  ·
   obtain ⟨hk,l,p,v,hx,⟨h1,h2,h3,h4⟩,hf⟩:=h
   refine ⟨fun c hc=>?_,(hf b).2 (.inl rfl)⟩
   rcases (hf c).1 hc with rfl | hc
   ·
    rcases Nat.lt_or_ge c w.heap.size with q | q
    ·
     exact q
    ·
     rw [Array.getElem?_eq_none q] at h2; cases h2
   ·
    exact (h3.lt c hc).2
  ·
   exact ⟨fun c hc=>by rw [(h3 c).1 hc]; exact h2,(h3 b).2 rfl⟩
 it:=fun x w b F=>by
  constructor
  ·
   rintro (⟨h,_⟩ | ⟨_,h1,h2⟩)
   ·
    cases h
   ·
    exact ⟨h1,h2⟩
  ·
   rintro ⟨h1,h2⟩
   exact .inr ⟨rfl,h1,h2⟩
 stat:=hG
end
end Go.Ev

namespace Go.Ev
noncomputable section
open Go.Shelf Go.RowKit Go.Proofs
set_option linter.unusedVariables false
set_option linter.unusedSimpArgs false
abbrev Prim:=List AV→St→Option (AV × St)
structure BU (R:bU) (P:Program) (f:Nat) (p:Prim):Prop where
 pure:∀ args S v S',p args S=some (v,S')→(mh args).isSome=true→(CB v).isSome=true→∀ S2,p args S2=some (v,S2)
 calls:∀ args S v S',p args S=some (v,S')→(∃ fn,P.funcs[f]? = some fn∧fn.body.isSome=true∧fn.name ≠ "runtime.NumGoroutine") ∧
  ∀ cx w (us:List Value),bu R cx S w→us.length=args.length→(∀ (i:Nat) (x:AV) (u:Value),args[i]? = some x→us[i]? = some u→aT cx S w x u) →
  Calls P f us.toArray w (fun e w'=>∃ cx',bu R cx' S' w'∧Ext cx S w cx' S' w'∧∃ u,e=.returned u∧aT cx' S' w' v u)
theorem Lx {R:bU} (hR:ObjOk R) {P:Program} {ρ:Shelf.Ren} (L:Proofs.Lays2.n21 P ρ):BU R P (ρ.f 21) og where
 pure:=fun args S v S' h h1=>by
  exfalso
  unfold og at h
  split at h
  ·
   simp [mh,Aa] at h1
  ·
   simp [mh,Aa] at h1
  ·
   cases h
 calls:=fun args S v S' h=>⟨⟨_,L.f21,rfl,by show ¬ ("slices.Insert[[]int,int]" = "runtime.NumGoroutine"); decide⟩,fun cx w us hS hl hr=>Ao hR L h hS hl hr⟩
end
end Go.Ev

namespace Go.Ev
noncomputable section
open Go.Shelf Go.RowKit Go.Proofs
set_option linter.unusedVariables false
set_option linter.unusedSimpArgs false
end
end Go.Ev

namespace Go.Ev
noncomputable section
set_option linter.unusedVariables false
def OC:World→(Nat→Nat→Prop)→Prop:=fun _ _=>True
theorem NV:Jd OC:=fun _ _ _ _ _ _=>trivial
end
end Go.Ev

namespace Go.Ev
noncomputable section
set_option linter.unusedVariables false
set_option linter.unusedSimpArgs false
def F4:Nat→Nat→Prop:=fun _ _=>False
structure oO (w:World) (ds:List D) (cs:List Value):Prop where
 len:cs.length=ds.length
 one:∀ v ∈ cs,v.oneCell'=true
 flat:∀ d ∈ ds,d.isAgg=false
 rel:∀ (i:Nat) (d:D) (v:Value),ds[i]? = some d→cs[i]? = some v→iK w F4 d [v]
theorem oO.nil {w:World}:oO w [] []:=⟨rfl,by simp,by simp,by simp⟩
theorem oO.append {w:World} {a b:List D} {x y:List Value} (h:oO w a x) (k:oO w b y):oO w (a ++ b) (x ++ y) where
 len:=by simp [h.len,k.len]
 one:=fun v hv=>by rcases List.mem_append.1 hv with q | q; exact h.one v q; exact k.one v q
 flat:=fun v hv=>by rcases List.mem_append.1 hv with q | q; exact h.flat v q; exact k.flat v q
 rel:=fun i d v hd hv=>by
  by_cases hi:i < a.length
  ·
   rw [List.getElem?_append_left hi] at hd
   rw [List.getElem?_append_left (by rw [h.len]; exact hi)] at hv
   exact h.rel i d v hd hv
  ·
   rw [List.getElem?_append_right (by omega)] at hd
   rw [List.getElem?_append_right (by rw [h.len]; omega),h.len] at hv
   exact k.rel _ d v hd hv
theorem oO.single {w:World} {d:D} {v:Value} (h:iK w F4 d [v]) (ho:v.oneCell'=true) (hd:d.isAgg=false):oO w [d] [v] where
 len:=rfl
 one:=by simpa using ho
 flat:=by simpa using hd
 rel:=fun i d' v' h1 h2=>by
  cases i with
  | zero=>simp at h1 h2; subst h1; subst h2; exact h
  | succ i=>simp at h1
theorem oO.Lm {w:World} {x:D} {cs:List Value} (h:oO w x.cells cs):iK w F4 x cs:=by
 cases hx:x.isAgg with
 | true =>
  cases x <;> simp [D.isAgg] at hx
  rename_i xs
  exact .agg xs cs h.len h.one h.flat h.rel
 | false =>
  have hc:x.cells=[x]:=by cases x <;> simp_all [D.isAgg,D.cells]
  rw [hc] at h
  have hl:=h.len
  match cs,hl with
  | [v],_=>exact h.rel 0 x v rfl rfl
def uH (P:Program) (t:Nat) {α:Type} (enc:α→D) (wf:α→Prop):Prop :=
 ∀ {H:Type} (en:TypeId × Value→H) (w:World) (base:Nat) (sp:Nat→Bool) (held:Bool) (fuel:Nat) (cs:List Value) (d:DataW H) (p:List MemPlace),
  DataW.trod en P w base sp held fuel t cs=some (d,p)→∃ x,wf x∧oO w (enc x).cells cs
theorem uH.int {P:Program} {t:Nat} {k:IntKind} (hu:P.underlying t=some (.int k)):uH P t (D.int k) (fun n=>(Lit.int k n).wf=true):=by
 intro H en w base sp held fuel cs d p h
 cases fuel with
 | zero=>cases h
 | succ fuel =>
  simp only [DataW.trod,hu] at h
  split at h <;> first | (simp_all; done) | skip
  rename_i k' k2 n heq
  simp only [Option.some.injEq,TypeDesc.int.injEq] at heq
  subst heq
  split at h
  ·
   rename_i hc
   obtain ⟨rfl,hw⟩:=hc
   exact ⟨n,hw,.single (.int _ _) rfl rfl⟩
  ·
   cases h
theorem wX {w:World} {base:Nat} {a:Addr} {n:Nat} {cs:List Value} (h:w.cells? base a n=some cs):cs.length=n∧∀ j v,cs[j]? = some v→w.cell? (a.add j)=some v:=by
 unfold World.cells? at h
 split at h
 ·
  have hl:=mapM_some_length h
  refine ⟨by simpa using hl,fun j v hj=>?_⟩
  have hlt:j < n:=by have:=(List.getElem?_eq_some_iff.1 hj).1; rw [hl] at this; simpa using this
  have:=mapM_some_get h j j (by simp [hlt])
  rw [this,hj]
 ·
  cases h
theorem uH.slice {P:Program} {t e:Nat} {α:Type} {enc:α→D} {wf:α→Prop} (hu:P.underlying t=some (.slice e)) (he:uH P e enc wf) (hsz:∀ x,(enc x).cells.length=P.cellsOf e) (h0:0 < P.cellsOf e) :
  uH P t (MK enc) (fun l=>l.length ≤ maxLen∧∀ x ∈ l,wf x):=by
 intro H en w base sp held fuel cs d p h
 cases fuel with
 | zero=>cases h
 | succ fuel =>
  simp only [DataW.trod,hu] at h
  split at h <;> first | (simp_all; done) | skip
  ·
   exact ⟨[],⟨by simp,by simp⟩,.single (.sl0 none 0 false (fun h=>by cases h)) rfl rfl⟩
  ·
   rename_i e' a len cap heq
   simp only [Option.some.injEq,TypeDesc.slice.injEq] at heq
   subst heq
   split at h
   ·
    rename_i hc
    simp only [Option.bind_eq_some_iff] at h
    obtain ⟨els,hels,h⟩:=h
    have hl:=mapM_some_length hels
    have each:∀ i,i < len→∃ x ci,wf x∧w.cells? base (a.add (i * P.cellsOf e)) (P.cellsOf e)=some ci∧oO w (enc x).cells ci:=fun i hi=>by
     have hg:=mapM_some_get hels i i (by simp [hi])
     have hlt:i < els.length:=by rw [hl]; simpa using hi
     rw [List.getElem?_eq_getElem hlt,Option.bind_eq_some_iff] at hg
     obtain ⟨ci,h1,h2⟩:=hg
     obtain ⟨x,hx,hr⟩:=he en w base sp held fuel ci _ _ h2
     exact ⟨x,ci,hx,h1,hr⟩
    by_cases hz:len=0
    ·
     subst hz
     exact ⟨[],⟨by simp,by simp⟩,.single (.sl0 (some a) cap false (fun h=>by cases h)) rfl rfl⟩
    ·
     have hpos:0 < len:=by omega
     have hspot:a.spot=none:=by
      obtain ⟨x,ci,_,h1,_⟩:=each 0 hpos
      obtain ⟨l1,l2⟩:=wX h1
      have hne:0 < ci.length:=by omega
      have:=l2 0 ci[0] (List.getElem?_eq_getElem hne)
      unfold World.cell? at this
      split at this
      ·
       split at this
       ·
        cases this
       ·
        rename_i hs; cases hsp:a.spot with
        | none=>rfl
        | some q=>simp [Addr.add,hsp] at hs
      ·
       cases this
     have:Inhabited α:=⟨(each 0 hpos).choose⟩
     let f:Nat→α:=fun i=>if hi:i < len then (each i hi).choose else default
     let g:Nat→List Value:=fun i=>if hi:i < len then (each i hi).choose_spec.choose else []
     have hfg:∀ i,i < len→wf (f i)∧w.cells? base (a.add (i * P.cellsOf e)) (P.cellsOf e)=some (g i)∧oO w (enc (f i)).cells (g i):=fun i hi=>by
      have:=(each i hi).choose_spec.choose_spec
      simp only [f,g,hi,dif_pos]
      exact this
     let l:=(List.range len).map f
     have hll:l.length=len:=by simp [l]
     have hli:∀ i x,l[i]? = some x→i < len∧x=f i:=fun i x hx=>by
      simp only [l,List.getElem?_map,Option.map_eq_some_iff] at hx
      obtain ⟨j,hj,rfl⟩:=hx
      have:=List.getElem?_eq_some_iff.1 hj
      obtain ⟨h1,h2⟩:=this
      simp at h1 h2
      subst h2
      exact ⟨h1,rfl⟩
     refine ⟨l,⟨by rw [hll]; omega,fun x hx=>?_⟩,?_⟩
     ·
      obtain ⟨i,hi,rfl⟩:=List.getElem_of_mem hx
      obtain ⟨h1,h2⟩:=hli i _ (List.getElem?_eq_getElem hi)
      rw [h2]; exact (hfg i h1).1
     ·
      have ha:a=⟨a.block,a.off,none⟩:=by rw [← hspot]
      refine .single ?_ rfl rfl
      rw [ha]
      have hlm:(l.map enc).length=len:=by simp [hll]
      have key:iK w F4 (.sl (l.map enc) false) [.slice (some ⟨a.block,a.off,none⟩) (l.map enc).length cap]:=by
       refine .sl (l.map enc) false a.block a.off cap (P.cellsOf e) g ?_ (by rw [hlm]; exact hc.2.1) (fun h=>by cases h) (fun i x hi=>?_) (fun i hi=>?_) (fun i x hi=>?_) (fun i j v hi hv=>?_)
       ·
        intro q; rw [q] at hlm; simp at hlm; omega
       ·
        rw [List.getElem?_map,Option.map_eq_some_iff] at hi
        obtain ⟨y,_,rfl⟩:=hi
        exact hsz y
       ·
        exact (wX (hfg i (by rw [hlm] at hi; exact hi)).2.1).1
       ·
        rw [List.getElem?_map,Option.map_eq_some_iff] at hi
        obtain ⟨y,hy,rfl⟩:=hi
        obtain ⟨h1,rfl⟩:=hli i y hy
        exact (hfg i h1).2.2.Lm
       ·
        rw [hlm] at hi
        have:=(wX (hfg i hi).2.1).2 j v hv
        refine ⟨?_,fun q=>q⟩
        rw [← this]
        congr 1
        have hz:∀ (b:Addr) (m:Nat),b.spot=none→b.add m=⟨b.block,b.off + m,none⟩:=fun b m hb=>by
         obtain ⟨b1,b2,b3⟩:=b
         cases hb
         cases m <;> simp [Addr.add]
        rw [hz a _ hspot,hz _ j rfl]
      rw [hlm] at key
      exact key
   ·
    cases h
def Bg (P:Program) (fs:List Field) (off tot:Nat) {β:Type} (enc:β→List D) (wf:β→Prop):Prop :=
 ∀ {H:Type} (en:TypeId × Value→H) (w:World) (base:Nat) (sp:Nat→Bool) (held:Bool) (fuel:Nat) (cs:List Value) (xs:List (DataW H × List MemPlace)),
  (fs.mapM fun f=>DataW.trod en P w base sp held fuel f.type ((cs.drop f.offset).take (P.cellsOf f.type)))=some xs→∃ y,wf y∧oO w (enc y) ((cs.drop off).take tot)
theorem Bg.nil {P:Program} {off:Nat}:Bg P [] off 0 (fun _:Unit=>[]) (fun _=>True) :=
 fun en w base sp held fuel cs xs h=>⟨(),trivial,by simpa using oO.nil⟩
theorem Bg.cons {P:Program} {f:Field} {fs:List Field} {off sz tot:Nat} {α β:Type} {enc:α→D} {wf:α→Prop} {enc2:β→List D} {wf2:β→Prop}
  (ho:f.offset=off) (hz:P.cellsOf f.type=sz) (h:uH P f.type enc wf) (k:Bg P fs (off + sz) tot enc2 wf2) :
  Bg P (f :: fs) off (sz + tot) (fun p:α × β=>(enc p.1).cells ++ enc2 p.2) (fun p=>wf p.1∧wf2 p.2):=by
 intro H en w base sp held fuel cs xs hx
 simp only [List.mapM_cons,Option.pure_def,Option.bind_eq_bind,Option.bind_eq_some_iff] at hx
 obtain ⟨x,hx,ys,hys,_⟩:=hx
 rw [ho,hz] at hx
 obtain ⟨a,a1,a2⟩:=h en w base sp held fuel _ x.1 x.2 hx
 obtain ⟨b,b1,b2⟩:=k en w base sp held fuel cs ys hys
 refine ⟨(a,b),⟨a1,b1⟩,?_⟩
 rw [List.take_add,List.drop_drop]
 exact a2.append b2
theorem uH.struct {P:Program} {t tot:Nat} {fs:Array Field} {α β:Type} {enc:α→D} {wf:α→Prop} {enc2:β→List D} {wf2:β→Prop} (hu:P.underlying t=some (.struct fs)) (hz:P.cellsOf t=tot)
  (h:Bg P fs.toList 0 tot enc2 wf2) (g:β→α) (hg:∀ y,(enc (g y)).cells=enc2 y) (hw:∀ y,wf2 y→wf (g y)):uH P t enc wf:=by
 intro H en w base sp held fuel cs d p hd
 cases fuel with
 | zero=>cases hd
 | succ fuel =>
  simp only [DataW.trod,hu] at hd
  split at hd
  ·
   rename_i hc
   simp only [Option.map_eq_some_iff] at hd
   obtain ⟨xs,hxs,_⟩:=hd
   obtain ⟨y,y1,y2⟩:=h en w base sp held fuel cs xs hxs
   refine ⟨g y,hw y y1,?_⟩
   rw [hg y]
   rw [hz] at hc
   simpa [← hc] using y2
  ·
   cases hd
theorem K5 {P:Program} {t:Nat} {fs:Array Field} {α:Type} {enc:α→D} {wf:α→Prop} (hu:P.underlying t=some (.struct fs)) (O:uH P t enc wf) (ha:∀ x,(enc x).isAgg=true)
  {H:Type} {en:TypeId × Value→H} {w:World} {base b0:Nat} {sp:Nat→Bool} {held:Bool} {v:Value} {d:DataW H} {p:List MemPlace} {r:Reach} (hval:Value.okWide P w r b0 t v) (hd:DataW.Trod en P w base sp held t v d p) :
  ∃ x,wf x∧bJ w F4 (enc x) v:=by
 unfold Value.okWide at hval
 rw [hu] at hval
 obtain ⟨cs,rfl,_,_⟩:=hval
 obtain ⟨fuel,hf⟩:=hd
 obtain ⟨x,x1,x2⟩:=O en w base sp held fuel _ d p hf
 exact ⟨x,x1,x2.Lm,ha x⟩
theorem MF {P:Program} {t:Nat} {α:Type} {enc:α→D} {wf:α→Prop} (O:uH P t enc wf) (ha:∀ x,(enc x).isAgg=false)
  {H:Type} {en:TypeId × Value→H} {w:World} {base b0:Nat} {sp:Nat→Bool} {held:Bool} {v:Value} {d:DataW H} {p:List MemPlace} (hval:vW v=false) (hd:DataW.Trod en P w base sp held t v d p) :
  ∃ x,wf x∧bJ w F4 (enc x) v:=by
 obtain ⟨fuel,hf⟩:=hd
 obtain ⟨x,x1,x2⟩:=O en w base sp held fuel _ d p hf
 exact ⟨x,x1,x2.Lm,by rw [hval]; exact ha x⟩
end
end Go.Ev

namespace Go.Ev
noncomputable section
set_option linter.unusedVariables false
set_option linter.unusedSimpArgs false
variable {R:bU} {C:gV} {P:Program}
theorem je.JI {f:Nat} {p:Prim} (h:BU R P f p) {args:List AV} {S S':St} {v:AV} (hp:p args S=some (v,S')):je R P f args S (fun r=>r=(none,v,S')):=by
 obtain ⟨h1,h2⟩:=h.calls args S v S' hp
 refine ⟨h1,fun cx w us q1 q2 q3=>(h2 cx w us q1 q2 q3).mono (fun e w' ⟨cx',k1,k2,u,k3,k4⟩=>⟨_,rfl,cx',k1,k2,u,k3,k4⟩)⟩
theorem Jr (hR:ObjOk R) {f:Nat} {ds:List D} {x:D} (h:fE R P f ds (.d x)) (w:World) (hG:R.G w (fun _ _=>False)) (us:List Value) (hl:us.length=ds.length)
  (hr:∀ (i:Nat) (y:D) (u:Value),ds[i]? = some y→us[i]? = some u→bJ w (fun _ _=>False) y u) :
  Calls P f us.toArray w (fun e w'=>∃ u,e=.returned u∧bJ w' (fun _ _=>False) x u∧RowKit.Below w.heap.size w w'):=by
 let cx:Cx:={ bm:=fun _=>0,fp:=fun _ _=>False,nI:=fun _=>0,tot:=fun _=>0,fr:=fun _ _=>False }
 have hS:bu R cx aL w:=⟨fun id hl=>absurd rfl hl,fun id b hb=>by simp [aL,AL.get] at hb,fun id g cs hb=>by simp [aL,AL.get] at hb,fun id es hb=>by simp [aL,AL.get] at hb,
  fun id k x hb=>by simp [aL,AL.get] at hb,fun id en hb=>by simp [aL,AL.get] at hb,fun id id' b hl=>absurd rfl hl,fun b o q=>q.elim,hG⟩
 have h2:=(h (ds.map .d) aL ⟨ds,Et ds,.refl ds⟩).2
 refine (h2 cx w us hS (by simp [hl]) (fun i y u hy hu=>?_)).mono (fun e w' he=>?_)
 ·
  simp only [List.getElem?_map,Option.map_eq_some_iff] at hy
  obtain ⟨z,hz,rfl⟩:=hy
  exact .d z u (hr i z u hz hu)
 ·
  obtain ⟨r,rfl,cx',k1,k2,k3⟩:=he
  obtain ⟨u,rfl,k3⟩:=k3
  obtain ⟨m1,m2,m3⟩:=A8 hR hS k2
  exact ⟨u,rfl,m3 _ _ k3.dd,⟨m2.os,m2.tape,m2.output,m2.size,fun b hb=>(k2.other b hb (fun id hl=>absurd rfl hl)).1⟩⟩
end
end Go.Ev

namespace Go.Ev
noncomputable section
set_option linter.unusedVariables false
set_option linter.unusedSimpArgs false
variable {R:bU} {P:Program} {B:St}
theorem nD {S:St} {id:Nat}:live S id↔S.H.get id ≠ none∨S.T.get id ≠ none:=by
 unfold live cur
 cases hH:S.H.get id with
 | none=>simp
 | some b=>cases b <;> simp
def without (S:St) (ids:List Nat):St:=ids.foldl (fun S id=>{ S with H:=S.H.del id,T:=S.T.del id }) S
theorem q8:∀ (ids:List Nat) (S:St),(without S ids).nx=S.nx
 | [],S=>rfl
 | id :: l,S=>q8 l { S with H:=S.H.del id,T:=S.T.del id }
theorem mM:∀ (ids:List Nat) (S:St) (k:Nat),(without S ids).H.get k=if k ∈ ids then none else S.H.get k
 | [],S,k=>by simp [without]
 | id :: l,S,k=>by
  show (without { S with H:=S.H.del id,T:=S.T.del id } l).H.get k=_
  rw [mM l]
  simp only [AL.yj]
  by_cases h1:k ∈ l
  ·
   simp [h1]
  ·
   by_cases h2:id=k
   ·
    subst h2; simp
   ·
    simp [h1,h2,Ne.symm h2]
theorem mH:∀ (ids:List Nat) (S:St) (k:Nat),(without S ids).T.get k=if k ∈ ids then none else S.T.get k
 | [],S,k=>by simp [without]
 | id :: l,S,k=>by
  show (without { S with H:=S.H.del id,T:=S.T.del id } l).T.get k=_
  rw [mH l]
  simp only [AL.yj]
  by_cases h1:k ∈ l
  ·
   simp [h1]
  ·
   by_cases h2:id=k
   ·
    subst h2; simp
   ·
    simp [h1,h2,Ne.symm h2]
theorem bA.there {S:St} {a:bA} (h:a.ok S):∀ id ∈ a.fp,S.H.get id ≠ none∨S.T.get id ≠ none:=fun id hid=>by
 cases a with
 | box i cs=>simp only [bA.fp,List.mem_singleton] at hid; subst hid; left; rw [show S.H.get id=_ from h]; simp
 | obj i k x=>simp only [bA.fp,List.mem_singleton] at hid; subst hid; left; rw [show S.H.get id=_ from h]; simp
 | map i m=>simp only [bA.fp,List.mem_singleton] at hid; subst hid; left; rw [show S.H.get id=_ from h]; simp
 | grow v xs =>
  cases v <;> simp only [bA.fp,List.not_mem_nil,List.mem_singleton] at hid
  subst hid
  right; rw [h.2.2.1]; simp
 | row sz v xs =>
  cases v <;> simp only [bA.fp,List.not_mem_nil,List.mem_singleton] at hid
  subst hid
  obtain ⟨cs,_,h8⟩:=h.2.2.2.2.2.2
  left; rw [h8]; simp
 | abs ids p=>obtain ⟨b,hb⟩:=h.1 id hid; left; rw [hb]; simp
theorem Has.frame {S:St} {l1 l2:List bA} (H:Has B S (l1 ++ l2)):∃ B',Has B' S l1∧∀ S' l1',Has B' S' l1'→(∀ id b,S'.H.get id=some b→S'.T.get id=none)→Has B S' (l1' ++ l2):=by
 let ids:=(l1.map bA.fp).flatten
 let B':=without S ids
 have hmem:∀ a ∈ l1,∀ id ∈ a.fp,id ∈ ids:=fun a ha id hid=>List.mem_flatten.2 ⟨_,List.mem_map.2 ⟨a,ha,rfl⟩,hid⟩
 have hnd:=H.nd
 rw [List.map_append,List.flatten_append,List.nodup_append] at hnd
 have hnot:∀ a ∈ l2,∀ id ∈ a.fp,id ∉ ids:=fun a ha id hid hq =>
  hnd.2.2 id hq id (List.mem_flatten.2 ⟨_,List.mem_map.2 ⟨a,ha,rfl⟩,hid⟩) rfl
 have hBids:∀ id ∈ ids,B.H.get id=none∧B.T.get id=none:=fun id hid=>by
  obtain ⟨jg,h1,h2⟩:=List.mem_flatten.1 hid
  obtain ⟨a,ha,rfl⟩:=List.mem_map.1 h1
  exact H.out a (List.mem_append_left _ ha) id h2
 have hwf:B'.Wf:=fun id hl=>by
  show id < B'.nx
  rw [q8]
  refine H.wf id (nD.2 ?_)
  rcases nD.1 hl with h | h
  ·
   rw [mM] at h
   split at h
   ·
    exact absurd rfl h
   ·
    exact .inl h
  ·
   rw [mH] at h
   split at h
   ·
    exact absurd rfl h
   ·
    exact .inr h
 refine ⟨B',⟨H.wf,fun a ha=>H.ok a (List.mem_append_left _ ha),hnd.1,hwf,⟨by rw [q8]; exact Nat.le_refl _,fun id b hb=>?_,fun id n hn=>?_⟩,fun a ha id hid=>?_⟩,fun S' l1' K hdis=>?_⟩
 ·
  rw [mM] at hb
  split at hb
  ·
   cases hb
  ·
   exact hb
 ·
  rw [mH] at hn
  split at hn
  ·
   cases hn
  ·
   exact hn
 ·
  have:=hmem a ha id hid
  rw [mM,mH,if_pos this,if_pos this]; exact ⟨rfl,rfl⟩
 ·
  have keepH:∀ id b,id ∉ ids→S.H.get id=some b→S'.H.get id=some b:=fun id b hn hb=>K.keeps.H id b (by rw [mM,if_neg hn]; exact hb)
  have keepT:∀ id n,id ∉ ids→S.T.get id=some n→S'.T.get id=some n:=fun id b hn hb=>K.keeps.T id b (by rw [mH,if_neg hn]; exact hb)
  have hok2:∀ a ∈ l2,a.ok S':=fun a ha=>by
   have hok:=H.ok a (List.mem_append_right _ ha)
   have hn:=hnot a ha
   cases a with
   | box id cs=>exact keepH _ _ (hn _ (by simp [bA.fp])) hok
   | obj id k x=>exact keepH _ _ (hn _ (by simp [bA.fp])) hok
   | map id m=>exact keepH _ _ (hn _ (by simp [bA.fp])) hok
   | grow v xs =>
    cases v with
    | tsl ys tok =>
     obtain ⟨h1,h2,h3,h4⟩:=hok
     have h3':=keepT _ _ (hn tok (by simp [bA.fp])) h3
     refine ⟨h1,h2,h3',?_⟩
     cases hb:S'.H.get tok with
     | none=>rfl
     | some b=>have:=hdis _ _ hb; rw [h3'] at this; cases this
    | d x=>cases x with
     | sl ys t=>cases t <;> exact hok
     | _=>exact hok
    | _=>exact hok
   | row sz v xs =>
    cases v with
    | eF id g off len lim sz' =>
     obtain ⟨h1,h2,h3,h4,h5,h6,cs,h7,h8⟩:=hok
     exact ⟨h1,h2,h3,h4,h5,h6,cs,h7,keepH _ _ (hn id (by simp [bA.fp])) h8⟩
    | d x=>cases x with
     | sl ys t=>cases ys <;> cases t <;> exact hok
     | _=>exact hok
    | _=>exact hok
   | abs ids' p=>exact bA.LJ hok (fun id b hid hb=>keepH _ _ (hn id hid) hb)
  refine ⟨K.wf,fun a ha=>?_,?_,H.bwf,⟨?_,fun id b hb=>?_,fun id n hn=>?_⟩,fun a ha id hid=>?_⟩
  ·
   rcases List.mem_append.1 ha with ha | ha
   ·
    exact K.ok a ha
   ·
    exact hok2 a ha
  ·
   rw [List.map_append,List.flatten_append,List.nodup_append]
   refine ⟨K.nd,hnd.2.1,fun a ha b hb hab=>?_⟩
   subst hab
   obtain ⟨jg,h1,h2⟩:=List.mem_flatten.1 ha
   obtain ⟨x,hx,rfl⟩:=List.mem_map.1 h1
   obtain ⟨jg,h3,h4⟩:=List.mem_flatten.1 hb
   obtain ⟨y,hy,rfl⟩:=List.mem_map.1 h3
   obtain ⟨o1,o2⟩:=K.out x hx a h2
   have hn:=hnot y hy a h4
   rw [mM,if_neg hn] at o1
   rw [mH,if_neg hn] at o2
   rcases bA.there (H.ok y (List.mem_append_right _ hy)) a h4 with q | q
   ·
    exact q o1
   ·
    exact q o2
  ·
   have:=K.keeps.nx
   rw [q8] at this
   exact Nat.le_trans H.keeps.nx this
  ·
   exact keepH id b (fun q=>by rw [(hBids id q).1] at hb; cases hb) (H.keeps.H id b hb)
  ·
   exact keepT id n (fun q=>by rw [(hBids id q).2] at hn; cases hn) (H.keeps.T id n hn)
  ·
   rcases List.mem_append.1 ha with ha | ha
   ·
    obtain ⟨o1,o2⟩:=K.out a ha id hid
    by_cases hq:id ∈ ids
    ·
     exact hBids id hq
    ·
     rw [mM,if_neg hq] at o1
     rw [mH,if_neg hq] at o2
     refine ⟨?_,?_⟩
     ·
      cases hb:B.H.get id with
      | none=>rfl
      | some b=>have:=H.keeps.H _ _ hb; rw [o1] at this; cases this
     ·
      cases hb:B.T.get id with
      | none=>rfl
      | some b=>have:=H.keeps.T _ _ hb; rw [o2] at this; cases this
   ·
    exact H.out a (List.mem_append_right _ ha) id hid
theorem Fx.iP {cx:Cx} {S2 S:St} {w:World} {p:Option AV} {v:AV} {e:Ending} (k:kT S2 S) (h:Fx cx S w p v e):Fx cx S2 w p v e:=by
 cases p with
 | none=>obtain ⟨u,h1,h2⟩:=h; exact ⟨u,h1,h2.iP k⟩
 | some p=>obtain ⟨u,h1,h2⟩:=h; exact ⟨u,h1,h2.iP k⟩
theorem Ext.Ch {cx cx':Cx} {S S' S2:St} {w w':World} (k:kT S2 S') (e:Ext cx S w cx' S' w'):Ext cx S w cx' S2 w' where
 size:=e.size
 os:=e.os
 tape:=e.tape
 output:=e.output
 nx:=by rw [k.nx]; exact e.nx
 prot:=e.prot
 other:=fun b hb hn=>e.other b hb (fun id hl hf=>by
  obtain ⟨h1,g,h2,h3⟩:=hn id hl hf
  exact ⟨h1,g,h2,k.isIt.1 h3⟩)
 own:=fun id b hl hf=>e.own id b (k.live.1 hl) hf
 back:=fun id g hid h=>e.back id g hid (k.isIt.1 h)
 keep:=fun id g b hid h0 h hf=>e.keep id g b hid h0 (k.isIt.1 h) hf
 curs:=fun id g hid hc=>e.curs id g hid (by rw [← k.cur]; exact hc)
theorem je.Ch {f:Nat} {args:List AV} {S:St} {Q:Out→Prop} (h:je R P f args S (fun o=>∃ S2,kT S2 o.2.2∧Q (o.1,o.2.1,S2))):je R P f args S Q :=
 ⟨h.1,fun cx w us h1 h2 h3=>(h.2 cx w us h1 h2 h3).mono fun e w' ⟨r,⟨S2,k,q⟩,cx',m1,m2,m3⟩=>⟨_,q,cx',m1.iP k,m2.Ch k,m3.iP k⟩⟩
def dz (R:bU) (P:Program) (f:Nat) (args:List AV) (ins:List bA) (res:AV→List bA→Prop):Prop :=
 ∀ B S,Has B S ins→je R P f args S (fun o=>o.1=none∧∃ v l,Less v o.2.1∧res v l∧Has B o.2.2 l)
section
variable {C:gV} {nt:Nat}
theorem dz.of_wp {f:Nat} {fn:Func} {c:Code} (hf:C.P.funcs[f]? = some fn) (hc:fn.body=some c) (hn:(fn.name == "runtime.NumGoroutine")=false) {args:List AV} (hle:Nat.ble args.length fn.ntmps=true) {ins:List bA} {res:AV→List bA→Prop}
  (h:∀ B S,Has B S ins→aD R C.P fn.ntmps c (q9 0 args) S (J4 C fn (fun o=>o.1=none∧∃ v l S2,kT S2 o.2.2∧Less v o.2.1∧res v l∧Has B S2 l))):dz R C.P f args ins res:=fun B S hB=>by
 refine je.Ch ((je.of_wp hf hc hn (Nat.le_of_ble_eq_true hle) (h B S hB)).mono fun o ho=>?_)
 obtain ⟨h1,v,l,S2,h2,h3,h4,h5⟩:=ho
 exact ⟨S2,h2,h1,v,l,h3,h4,h5⟩
section steps
variable {ops:Array Oper} {rest:List Oper} {e:Env} {S S':St} {Q:Stp→Prop} {l l':List bA} {t ty:Nat} {p:String} {af:Array Edge} {g:Option (Nat × Bool)} {x y:Operand} {v:AV}
theorem aj.bR {op:Op} {f:Nat} {args args':List AV} {ins more:List bA} {res:AV→List bA→Prop} (H:Has B S (ins ++ more)) (hw:bC ops e { dst:=some t,op:=op,type:=ty,pos:=p,after:=af,guard:=g }=some true) (ho:oper C (bB e) S op=some (.call f args)) (hs:dz R C.P f args' ins res) (ha:dS args' args) (ht:Nat.blt t nt=true)
  (k:∀ v S' l',res v l'→Has B S' (l' ++ more)→aj R C nt ops rest ((t,v) :: e) S' Q) :
  aj R C nt ops ({ dst:=some t,op:=op,type:=ty,pos:=p,after:=af,guard:=g } :: rest) e S Q:=by
 obtain ⟨B',h1,h2⟩:=H.frame
 refine aj.one hw (.inr (.inr (.inl ⟨f,args,ho,((hs B' S h1).Kw ha).uo.mono fun r hr=>?_⟩)))
 obtain ⟨p,w,S'⟩:=r
 obtain ⟨⟨q1,v,l',q2,q3,q4⟩,hd⟩:=hr
 simp only at q1 q2 q3 q4 hd
 subst q1
 exact ⟨_,by simp only [Env.put,ht,cond_true],aj.weak (au.top q2) (k v S' l' q3 (h2 S' l' q4 hd))⟩
end steps
end
theorem bF {C:gV} {ρ:Operand→Option AV} {S:St} {x:Operand} {i g o:Nat} (hx:ρ x=some (.ptr i g o)):oper C ρ S (.nilCheck x)=some (.val (.ptr i g o) S):=by simp only [oper,hx]
theorem Cr {P:Program} {t z i g o:Nat} (h:P.underlying t=some (.pointer z)):kC P t .eql (.ptr i g o) (.d .nilp)=some (.bool false):=by simp [kC,AV.eqv,h]
theorem lq {P:Program} {t z:Nat} (h:P.underlying t=some (.pointer z)):kC P t .eql (.d .nilp) (.d .nilp)=some (.bool true):=by simp [kC,AV.eqv,lN,h]
def Jp {α β:Type} (z:Option α) (a:Option β) (f:α→Option β):Option β:=match z with | none=>a | some x=>f x
theorem LV {α β:Type} {a:Option β} {f:α→Option β} {r:β} (h:Jp none a f=some r):a=some r:=h
theorem Mm {α β:Type} {x:α} {a:Option β} {f:α→Option β} {r:β} (h:Jp (some x) a f=some r):f x=some r:=h
end
end Go.Ev

namespace Go.Ev
noncomputable section
set_option linter.unusedVariables false
set_option linter.unusedSimpArgs false
variable {R:bU} {P:Program} {B:St}
theorem wf_set {S:St} (h:S.Wf) {id:Nat} (hid:id < S.nx) (b:yg):St.Wf { S with H:=S.H.set id b }:=fun j hl=>by
 rcases nD.1 hl with q | q
 ·
  simp only [AL.aP] at q
  by_cases hj:id=j
  ·
   subst hj; exact hid
  ·
   rw [if_neg hj] at q; exact h j (nD.2 (.inl q))
 ·
  exact h j (nD.2 (.inr q))
theorem BJ {S:St} (h:S.Wf) (b:yg):St.Wf (bW S b):=fun j hl=>by
 show j < S.nx + 1
 rcases nD.1 hl with q | q
 ·
  simp only [bW,AL.aP] at q
  by_cases hj:S.nx=j
  ·
   omega
  ·
   rw [if_neg hj] at q; have:=h j (nD.2 (.inl q)); omega
 ·
  have:=h j (nD.2 (.inr q)); omega
def jg (l:List bA):List Nat:=(l.map bA.fp).flatten
theorem rF (a b:List bA):jg (a ++ b)=jg a ++ jg b:=by simp [jg]
theorem jT {l:List bA} {id:Nat}:id ∈ jg l↔∃ a ∈ l,id ∈ a.fp:=by
 unfold jg
 constructor
 ·
  intro h; obtain ⟨q,h1,h2⟩:=List.mem_flatten.1 h; obtain ⟨a,h3,rfl⟩:=List.mem_map.1 h1; exact ⟨a,h3,h2⟩
 ·
  rintro ⟨a,h1,h2⟩; exact List.mem_flatten.2 ⟨_,List.mem_map.2 ⟨a,h1,rfl⟩,h2⟩
theorem Has.upd {S S':St} {l0 l bs:List bA} (H:Has B S (l0 ++ l)) (wf:S'.Wf) (nx:S.nx ≤ S'.nx)
  (same:∀ j,j ∉ jg l0→j < S.nx→S'.H.get j=S.H.get j∧S'.T.get j=S.T.get j)
  (ok:∀ x ∈ bs,x.ok S') (nd:(jg bs).Nodup) (ids:∀ id ∈ jg bs,id ∈ jg l0∨S.nx ≤ id):Has B S' (bs ++ l):=by
 have hnd:(jg (l0 ++ l)).Nodup:=H.nd
 rw [rF,List.nodup_append] at hnd
 have hlt:∀ a ∈ l,∀ id ∈ a.fp,id < S.nx:=fun a ha=>bA.lt H.wf (H.ok a (List.mem_append_right _ ha))
 have hout0:∀ id ∈ jg l0,B.H.get id=none∧B.T.get id=none:=fun id hid=>by
  obtain ⟨a,h1,h2⟩:=jT.1 hid
  exact H.out a (List.mem_append_left _ h1) id h2
 refine ⟨wf,fun a ha=>?_,?_,H.bwf,⟨Nat.le_trans H.keeps.nx nx,fun id b hb=>?_,fun id n hn=>?_⟩,fun a ha id hid=>?_⟩
 ·
  rcases List.mem_append.1 ha with ha | ha
  ·
   exact ok a ha
  ·
   have hn:∀ id ∈ a.fp,id ∉ jg l0:=fun id h1 h2=>hnd.2.2 id h2 id (jT.2 ⟨a,ha,h1⟩) rfl
   exact bA.keep (H.ok a (List.mem_append_right _ ha)) (fun id hid=>(same id (hn id hid) (hlt a ha id hid)).1) (fun id hid=>(same id (hn id hid) (hlt a ha id hid)).2)
 ·
  show (jg (bs ++ l)).Nodup
  rw [rF,List.nodup_append]
  refine ⟨nd,hnd.2.1,fun x hx y hy hxy=>?_⟩
  subst hxy
  rcases ids x hx with h | h
  ·
   exact hnd.2.2 x h x hy rfl
  ·
   obtain ⟨a,h1,h2⟩:=jT.1 hy
   have:=hlt a h1 x h2
   omega
 ·
  have h1:id ∉ jg l0:=fun q=>by rw [(hout0 id q).1] at hb; cases hb
  have h2:id < S.nx:=Nat.lt_of_lt_of_le (H.bwf.H hb) H.keeps.nx
  rw [(same id h1 h2).1]; exact H.keeps.H _ _ hb
 ·
  have h1:id ∉ jg l0:=fun q=>by rw [(hout0 id q).2] at hn; cases hn
  have h2:id < S.nx:=Nat.lt_of_lt_of_le (H.bwf id (uO hn)) H.keeps.nx
  rw [(same id h1 h2).2]; exact H.keeps.T _ _ hn
 ·
  rcases List.mem_append.1 ha with ha | ha
  ·
   rcases ids id (jT.2 ⟨a,ha,hid⟩) with h | h
   ·
    exact hout0 id h
   ·
    have hn:=H.keeps.nx
    refine ⟨?_,?_⟩
    ·
     cases hB:B.H.get id with
     | none=>rfl
     | some b=>have:=H.bwf.H hB; omega
    ·
     cases hB:B.T.get id with
     | none=>rfl
     | some b=>have:=H.bwf id (uO hB); omega
  ·
   exact H.out a (List.mem_append_right _ ha) id hid
theorem Has.qQ {S:St} {l0 l bs:List bA} (H:Has B S (l0 ++ l)) (ok:∀ x ∈ bs,x.ok S) (nd:(jg bs).Nodup) (ids:∀ id ∈ jg bs,id ∈ jg l0):Has B S (bs ++ l) :=
 H.upd H.wf (Nat.le_refl _) (fun _ _ _=>⟨rfl,rfl⟩) ok nd (fun id h=>.inl (ids id h))
theorem Has.nd0 {S:St} {l0 l:List bA} (H:Has B S (l0 ++ l)):(jg l0).Nodup:=by
 have hnd:(jg (l0 ++ l)).Nodup:=H.nd
 rw [rF,List.nodup_append] at hnd
 exact hnd.1
theorem Has.lt {S:St} {l:List bA} (H:Has B S l) {id:Nat} (h:id ∈ jg l):id < S.nx:=by
 obtain ⟨a,h1,h2⟩:=jT.1 h
 exact bA.lt H.wf (H.ok a h1) id h2
def aU:AV→List Nat
 | .eF id _ _ _ _ _=>[id]
 | _=>[]
def jL (n:Int):AV:=.d (.int .i64 n)
def jA (w:AV) (ys:List Int) (S:St):Prop:=match w with
 | .d .aO=>ys=[]
 | .eF id g off len lim sz=>off=0∧sz=1∧len=ys.length∧0 < lim∧∃ cs,S.H.get id=some (.cells g cs)∧cs.length=lim∧cs.take len=ys.map jL
 | _=>False
def aG (w:AV) (ys:List Int):bA:=.abs (aU w) (jA w ys)
theorem jA.keep {w:AV} {ys:List Int} {S S':St} (h:jA w ys S) (k:∀ id ∈ aU w,S'.H.get id=S.H.get id):jA w ys S':=by
 unfold jA at *
 split at h
 ·
  exact h
 ·
  obtain ⟨h1,h2,h3,h4,cs,h5,h6⟩:=h
  exact ⟨h1,h2,h3,h4,cs,by rw [k _ (by simp [aU])]; exact h5,h6⟩
 ·
  exact h.elim
theorem jA.live {w:AV} {ys:List Int} {S:St} (h:jA w ys S):∀ id ∈ aU w,∃ b,S.H.get id=some b:=by
 unfold jA at h
 split at h
 ·
  intro id hid; simp [aU] at hid
 ·
  obtain ⟨h1,h2,h3,h4,cs,h5,h6⟩:=h
  intro id hid
  simp only [aU,List.mem_singleton] at hid
  subst hid; exact ⟨_,h5⟩
 ·
  exact h.elim
theorem ib {w:AV} {ys:List Int} {S:St}:(aG w ys).ok S↔jA w ys S :=
 ⟨fun h=>h.2 S (fun _ _=>rfl),fun h=>⟨h.live,fun S' k=>h.keep k⟩⟩
theorem jA.plain {w:AV} {ys:List Int} {S:St} (h:jA w ys S):w.plain=true∧w.cells=[w]:=by
 unfold jA at h
 split at h
 ·
  exact ⟨rfl,rfl⟩
 ·
  exact ⟨rfl,rfl⟩
 ·
  exact h.elim
theorem tQ {S:St} {l:List bA} {i:Nat} {w:AV} {ys:List Int} (H:Has B S l) (hi:l[i]? = some (aG w ys)):w.plain=true∧w.cells=[w]:=(ib.1 (H.at hi)).plain
theorem Ce {S:St}:jA (.d .aO) [] S:=rfl
def ky (k:Nat) (ws:List AV):AV:=ws.getD k .any
def nC (sz k:Nat) (x:D) (ws:List AV):Prop:=x.cells.length=sz∧iH x.cells=true∧ws.length=sz∧dS ((x.cells.map AV.d).set k .any) ws
def bP (k:Nat):Option Nat→List (List AV)→List Nat
 | _,[]=>[]
 | some 0,_ :: l=>bP k none l
 | some (n + 1),ws :: l=>aU (ky k ws) ++ bP k (some n) l
 | none,ws :: l=>aU (ky k ws) ++ bP k none l
theorem jN {k:Nat}:∀ {wss:List (List AV)} {h:Option Nat} {id:Nat},id ∈ bP k h wss↔∃ i ws,wss[i]? = some ws∧h ≠ some i∧id ∈ aU (ky k ws)
 | [],h,id=>by simp [bP]
 | w :: l,none,id=>by
  simp only [bP,List.mem_append,jN (wss:=l)]
  constructor
  ·
   rintro (q | ⟨i,ws,h1,h2,h3⟩)
   ·
    exact ⟨0,w,rfl,by simp,q⟩
   ·
    exact ⟨i + 1,ws,h1,by simp,h3⟩
  ·
   rintro ⟨i,ws,h1,h2,h3⟩
   cases i with
   | zero=>simp at h1; subst h1; exact .inl h3
   | succ i=>exact .inr ⟨i,ws,by simpa using h1,by simp,h3⟩
 | w :: l,some 0,id=>by
  simp only [bP,jN (wss:=l)]
  constructor
  ·
   rintro ⟨i,ws,h1,h2,h3⟩; exact ⟨i + 1,ws,h1,by simp,h3⟩
  ·
   rintro ⟨i,ws,h1,h2,h3⟩
   cases i with
   | zero=>simp at h2
   | succ i=>exact ⟨i,ws,by simpa using h1,by simp,h3⟩
 | w :: l,some (n + 1),id=>by
  simp only [bP,List.mem_append,jN (wss:=l)]
  constructor
  ·
   rintro (q | ⟨i,ws,h1,h2,h3⟩)
   ·
    exact ⟨0,w,rfl,by simp,q⟩
   ·
    exact ⟨i + 1,ws,h1,by simpa using h2,h3⟩
  ·
   rintro ⟨i,ws,h1,h2,h3⟩
   cases i with
   | zero=>simp at h1; subst h1; exact .inl h3
   | succ i=>exact .inr ⟨i,ws,by simpa using h1,by simpa using h2,h3⟩
theorem lK {k:Nat}:∀ {wss:List (List AV)} {n:Nat} {ws:List AV},wss[n]? = some ws→(bP k none wss).Perm (aU (ky k ws) ++ bP k (some n) wss)
 | [],n,ws,h=>by simp at h
 | w :: l,0,ws,h=>by simp at h; subst h; exact List.Perm.refl _
 | w :: l,n + 1,ws,h=>by
  simp only [bP]
  have ih:=lK (k:=k) (wss:=l) (n:=n) (ws:=ws) (by simpa using h)
  refine (List.Perm.append_left _ ih).trans ?_
  rw [← List.append_assoc,← List.append_assoc]
  exact List.Perm.append_right _ List.perm_append_comm
theorem uW {k:Nat}:∀ {wss:List (List AV)} {n:Nat} {ws:List AV},bP k (some n) (wss.set n ws)=bP k (some n) wss
 | [],n,ws=>rfl
 | w :: l,0,ws=>rfl
 | w :: l,n + 1,ws=>by simp only [List.set_cons_succ,bP]; rw [uW]
theorem uQ {k:Nat} (ws:List AV):∀ (wss:List (List AV)),bP k none (wss ++ [ws])=bP k none wss ++ aU (ky k ws)
 | []=>by simp [bP]
 | w :: l=>by simp only [List.cons_append,bP]; rw [uQ ws l]; simp
theorem pY {k:Nat}:∀ {wss:List (List AV)} {n:Nat} {ws ws':List AV},wss[n]? = some ws→ky k ws'=ky k ws→∀ h,bP k h (wss.set n ws')=bP k h wss
 | [],n,ws,ws',h,e,o=>by simp at h
 | w :: l,0,ws,ws',h,e,o=>by
  simp at h; subst h
  cases o with
  | none=>simp only [List.set_cons_zero,bP,e]
  | some o=>cases o with
   | zero=>rfl
   | succ o=>simp only [List.set_cons_zero,bP,e]
 | w :: l,n + 1,ws,ws',h,e,o=>by
  have h:l[n]? = some ws:=by simpa using h
  cases o with
  | none=>simp only [List.set_cons_succ,bP]; rw [pY h e]
  | some o=>cases o with
   | zero=>simp only [List.set_cons_succ,bP]; rw [pY h e]
   | succ o=>simp only [List.set_cons_succ,bP]; rw [pY h e]
section
variable {α:Type} (enc:α→D) (kid:α→List Int) (sz k:Nat)
def lX (v:AV) (wss:List (List AV)) (xs:List α) (hole:Option Nat) (S:St):Prop :=
 wss.length=xs.length∧k < sz∧(∀ i x ws,xs[i]? = some x→wss[i]? = some ws→nC sz k (enc x) ws∧(hole ≠ some i→jA (ky k ws) (kid x) S)) ∧
 match v with
 | .d .aO=>xs=[]
 | .eF id g off len lim sz'=>off=0∧len=xs.length∧lim=xs.length∧sz'=sz∧S.H.get id=some (.cells g wss.flatten)
 | _=>False
def aA (v:AV) (wss:List (List AV)) (xs:List α) (hole:Option Nat):bA:=.abs (aU v ++ bP k hole wss) (lX enc kid sz k v wss xs hole)
end
section
variable {α:Type} {enc:α→D} {kid:α→List Int} {sz k:Nat} {v:AV} {wss:List (List AV)} {xs:List α} {hole:Option Nat} {S S':St}
theorem lX.keep (h:lX enc kid sz k v wss xs hole S) (e:∀ id ∈ aU v ++ bP k hole wss,S'.H.get id=S.H.get id):lX enc kid sz k v wss xs hole S':=by
 obtain ⟨h1,h2,h3,h4⟩:=h
 refine ⟨h1,h2,fun i x ws hx hw=>⟨(h3 i x ws hx hw).1,fun hn=>((h3 i x ws hx hw).2 hn).keep (fun id hid=>e id (List.mem_append_right _ (jN.2 ⟨i,ws,hw,hn,hid⟩)))⟩,?_⟩
 split
 ·
  exact h4
 ·
  obtain ⟨q1,q2,q3,q4,q5⟩:=h4
  exact ⟨q1,q2,q3,q4,by rw [e _ (List.mem_append_left _ (by simp [aU]))]; exact q5⟩
 ·
  rename_i hx1 hx2
  revert h4
  split
  ·
   exact (hx1 rfl).elim
  ·
   exact (hx2 _ _ _ _ _ _ rfl).elim
  ·
   exact id
theorem lX.live (h:lX enc kid sz k v wss xs hole S):∀ id ∈ aU v ++ bP k hole wss,∃ b,S.H.get id=some b:=by
 obtain ⟨h1,h2,h3,h4⟩:=h
 intro id hid
 rcases List.mem_append.1 hid with hid | hid
 ·
  revert h4
  split
  ·
   simp [aU] at hid
  ·
   simp only [aU,List.mem_singleton] at hid
   subst hid
   exact fun q=>⟨_,q.2.2.2.2⟩
  ·
   exact fun q=>q.elim
 ·
  obtain ⟨i,ws,hw,hn,hq⟩:=jN.1 hid
  have hi:i < xs.length:=by rw [← h1]; exact (List.getElem?_eq_some_iff.1 hw).1
  exact ((h3 i _ ws (List.getElem?_eq_getElem hi) hw).2 hn).live id hq
theorem gQ:(aA enc kid sz k v wss xs hole).ok S↔lX enc kid sz k v wss xs hole S :=
 ⟨fun h=>h.2 S (fun _ _=>rfl),fun h=>⟨h.live,fun S' e=>h.keep e⟩⟩
theorem lX.node (h:lX enc kid sz k v wss xs hole S) {n:Nat} {x:α} (hx:xs[n]? = some x):∃ ws,wss[n]? = some ws∧nC sz k (enc x) ws∧(hole ≠ some n→jA (ky k ws) (kid x) S)∧∃ id g,v=.eF id g 0 xs.length xs.length sz∧S.H.get id=some (.cells g wss.flatten):=by
 obtain ⟨h1,h2,h3,h4⟩:=h
 have hn:n < wss.length:=by rw [h1]; exact (List.getElem?_eq_some_iff.1 hx).1
 have hw:=List.getElem?_eq_getElem hn
 obtain ⟨q1,q2⟩:=h3 n x _ hx hw
 refine ⟨_,hw,q1,q2,?_⟩
 revert h4
 split
 ·
  intro q; subst q; simp at hx
 ·
  rintro ⟨rfl,rfl,rfl,rfl,q⟩; exact ⟨_,_,rfl,q⟩
 ·
  exact fun q=>q.elim
def jW (k:Nat) (wss:List (List AV)) (n:Nat):AV:=ky k (wss.getD n [])
theorem yn {n:Nat} {ws:List AV} (h:wss[n]? = some ws):jW k wss n=ky k ws:=by
 unfold jW; rw [List.getD_eq_getElem?_getD,h]; rfl
theorem Has.take {l:List bA} (H:Has B S (aA enc kid sz k v wss xs none :: l)) {n:Nat} {x:α} (hx:xs[n]? = some x):Has B S (aG (jW k wss n) (kid x) :: aA enc kid sz k v wss xs (some n) :: l):=by
 have hp:=gQ.1 (H.ok _ List.mem_cons_self)
 obtain ⟨ws,hw,hq1,hq2,_⟩:=hp.node hx
 have hs:=hq2 (by simp)
 rw [yn hw]
 have hnd:(jg [aA enc kid sz k v wss xs none]).Nodup:=Has.nd0 (l0:=[_]) H
 have hnd:(aU v ++ bP k none wss).Nodup:=by simpa [jg,aA,bA.fp] using hnd
 have hperm:(aU (ky k ws) ++ (aU v ++ bP k (some n) wss)).Perm (aU v ++ bP k none wss):=by
  refine List.Perm.trans ?_ (List.Perm.append_left _ (lK hw).symm)
  rw [← List.append_assoc,← List.append_assoc]
  exact List.Perm.append_right _ List.perm_append_comm
 refine Has.qQ (l0:=[_]) (bs:=[_,_]) H (fun a ha=>?_) ?_ (fun id hid=>?_)
 ·
  simp only [List.mem_cons,List.not_mem_nil,or_false] at ha
  rcases ha with rfl | rfl
  ·
   exact ib.2 hs
  ·
   refine gQ.2 ⟨hp.1,hp.2.1,fun i x ws h1 h2=>⟨(hp.2.2.1 i x ws h1 h2).1,fun _=>(hp.2.2.1 i x ws h1 h2).2 (by simp)⟩,hp.2.2.2⟩
 ·
  have:jg [aG (ky k ws) (kid x),aA enc kid sz k v wss xs (some n)]=aU (ky k ws) ++ (aU v ++ bP k (some n) wss):=by simp [jg,aG,aA,bA.fp]
  rw [this]; exact hperm.nodup_iff.2 hnd
 ·
  have e:jg [aG (ky k ws) (kid x),aA enc kid sz k v wss xs (some n)]=aU (ky k ws) ++ (aU v ++ bP k (some n) wss):=by simp [jg,aG,aA,bA.fp]
  rw [e] at hid
  have:=hperm.mem_iff.1 hid
  simpa [jg,aA,bA.fp] using this
theorem Has.Ls {l:List bA} {n:Nat} {x:α} (H:Has B S (aG (jW k wss n) (kid x) :: aA enc kid sz k v wss xs (some n) :: l)) (hx:xs[n]? = some x):Has B S (aA enc kid sz k v wss xs none :: l):=by
 have hp:=gQ.1 (H.ok (aA enc kid sz k v wss xs (some n)) (by simp))
 have hs:=ib.1 (H.ok (aG (jW k wss n) (kid x)) (by simp))
 obtain ⟨ws,hw,hq1,_,_⟩:=hp.node hx
 rw [yn hw] at hs H
 have hnd:(jg [aG (ky k ws) (kid x),aA enc kid sz k v wss xs (some n)]).Nodup:=Has.nd0 (l0:=[_,_]) H
 have e:jg [aG (ky k ws) (kid x),aA enc kid sz k v wss xs (some n)]=aU (ky k ws) ++ (aU v ++ bP k (some n) wss):=by simp [jg,aG,aA,bA.fp]
 have e2:jg [aA enc kid sz k v wss xs none]=aU v ++ bP k none wss:=by simp [jg,aA,bA.fp]
 have hperm:(aU (ky k ws) ++ (aU v ++ bP k (some n) wss)).Perm (aU v ++ bP k none wss):=by
  refine List.Perm.trans ?_ (List.Perm.append_left _ (lK hw).symm)
  rw [← List.append_assoc,← List.append_assoc]
  exact List.Perm.append_right _ List.perm_append_comm
 refine Has.qQ (l0:=[_,_]) (bs:=[_]) H (fun a ha=>?_) ?_ (fun id hid=>?_)
 ·
  simp only [List.mem_cons,List.not_mem_nil,or_false] at ha
  subst ha
  refine gQ.2 ⟨hp.1,hp.2.1,fun i y ws' h1 h2=>⟨(hp.2.2.1 i y ws' h1 h2).1,fun _=>?_⟩,hp.2.2.2⟩
  by_cases hi:n=i
  ·
   subst hi
   rw [h2] at hw; cases hw
   rw [h1] at hx; cases hx
   exact hs
  ·
   exact (hp.2.2.1 i y ws' h1 h2).2 (fun q=>hi (Option.some.inj q))
 ·
  rw [e2]; rw [e] at hnd; exact hperm.nodup_iff.1 hnd
 ·
  rw [e2] at hid; rw [e]; exact hperm.mem_iff.2 hid
end
end
end Go.Ev

namespace Go.Ev
noncomputable section
set_option linter.unusedVariables false
set_option linter.unusedSimpArgs false
variable {R:bU} {P:Program} {B:St}
theorem Gw {sz:Nat}:∀ {wss:List (List AV)},(∀ ws ∈ wss,ws.length=sz)→∀ {n:Nat} {ws:List AV},wss[n]? = some ws→∃ a b,wss.flatten=a ++ ws ++ b∧a.length=n * sz∧∀ ws',(wss.set n ws').flatten=a ++ ws' ++ b:=by
 intro wss
 induction wss with
 | nil=>intro _ n ws h; simp at h
 | cons y l ih =>
  intro hs n ws h
  cases n with
  | zero =>
   simp at h; subst h
   exact ⟨[],l.flatten,by simp,by simp,fun d'=>by simp⟩
  | succ n =>
   obtain ⟨a,b,h1,h2,h3⟩:=ih (fun x hx=>hs x (List.mem_cons_of_mem _ hx)) (n:=n) (by simpa using h)
   refine ⟨y ++ a,b,by rw [List.flatten_cons,h1]; simp,?_,fun d'=>by rw [List.set_cons_succ,List.flatten_cons,h3]; simp⟩
   rw [List.length_append,h2,hs y List.mem_cons_self,Nat.add_mul,Nat.one_mul]; omega
theorem Aw {k:Nat} {x:AV} (hx:∀ d,x ≠ .d d):∀ {l:List AV},l[k]? = some x→rE l=none:=by
 intro l
 induction l generalizing k with
 | nil=>intro h; simp at h
 | cons y l ih =>
  intro h
  cases k with
  | zero =>
   simp at h; subst h
   cases y with
   | d d=>exact (hx d rfl).elim
   | _=>rfl
  | succ k =>
   have:=ih (k:=k) (by simpa using h)
   cases y <;> simp [rE,this]
theorem zP {l:List AV} (h:rE l=none):Ev.gY l=.agg l:=by unfold Ev.gY; rw [h]
theorem JC (l:List D):Ev.gY (l.map AV.d)=.d (.agg l):=by
 unfold Ev.gY
 have:rE (l.map AV.d)=some l:=by
  induction l with
  | nil=>rfl
  | cons x l ih=>simp [rE,ih]
 rw [this]
def L9 (x:AV):Prop:=x=.d .aO∨∃ id g off len lim sz,x=.eF id g off len lim sz
theorem jA.kw {w:AV} {ys:List Int} {S:St} (h:jA w ys S):L9 w:=by
 unfold jA at h
 split at h
 ·
  exact .inl rfl
 ·
  exact .inr ⟨_,_,_,_,_,_,rfl⟩
 ·
  exact h.elim
theorem Less.KS {ds:List D} {ws:List AV} {k:Nat} {kw:AV} (h:dS ((ds.map AV.d).set k kw) ws) (hk:ws[k]? = some kw) (hf:iH ds=true) (hw:L9 kw):Less (Ev.gY ((ds.map AV.d).set k kw)) (Ev.gY ws):=by
 rcases hw with rfl | ⟨id,g,off,len,lim,sz,rfl⟩
 ·
  have e:(ds.map AV.d).set k (.d .aO)=(ds.set k .aO).map AV.d:=by rw [List.map_set]
  rw [e] at h ⊢
  have hf':iH (ds.set k .aO)=true:=wm (fun d hd=>by
   rcases List.mem_or_eq_of_mem_set hd with hd | rfl
   ·
    exact tY hf d hd
   ·
    rfl)
  rw [JC]
  exact Less.Ic h hf'
 ·
  have hl:=h.len
  have hlt:k < ws.length:=(List.getElem?_eq_some_iff.1 hk).1
  have hk2:((ds.map AV.d).set k (.eF id g off len lim sz))[k]? = some (.eF id g off len lim sz):=by
   rw [List.getElem?_set_self (by rw [← List.length_set,hl]; exact hlt)]
  rw [zP (Aw (fun d=>by simp) hk),zP (Aw (fun d=>by simp) hk2)]
  intro cx S w v hr
  cases hr with
  | agg _ vs hvl ho hh =>
   refine .agg _ vs (by rw [hvl,hl]) ho (fun i x u hx hu=>?_)
   have hi:i < ws.length:=by rw [← hvl]; exact (List.getElem?_eq_some_iff.1 hu).1
   have hy:=List.getElem?_eq_getElem hi
   exact h.get hx hy _ _ _ _ (hh i _ u hy hu)
theorem dS.NJ {ds:List AV} {ws:List AV} {k:Nat} {a kw:AV} (h:dS (ds.set k a) ws) (hk:ws[k]? = some kw):dS (ds.set k kw) ws:=by
 have:=h.set (Less.refl kw) k
 rw [List.set_set] at this
 have e:ws.set k kw=ws:=by
  obtain ⟨hlt,h2⟩:=List.getElem?_eq_some_iff.1 hk
  rw [← h2]; exact List.set_getElem_self hlt
 rwa [e] at this
theorem Dc {k:Nat} {ws:List AV} (h:k < ws.length):ws[k]? = some (ky k ws):=by
 unfold ky
 rw [List.getD_eq_getElem?_getD,List.getElem?_eq_getElem h]; rfl
section
variable {α:Type} {enc:α→D} {kid:α→List Int} {sz k:Nat} {v:AV} {wss:List (List AV)} {xs:List α} {hole:Option Nat} {S S':St}
theorem lX.lens (h:lX enc kid sz k v wss xs hole S):∀ ws ∈ wss,ws.length=sz:=fun ws hws=>by
 obtain ⟨i,hi,rfl⟩:=List.getElem_of_mem hws
 have:i < xs.length:=by rw [← h.1]; exact hi
 exact (h.2.2.1 i _ _ (List.getElem?_eq_getElem this) (List.getElem?_eq_getElem hi)).1.2.2.1
section
variable {C:gV} {ρ:Operand→Option AV} {l:List bA} {x y:Operand} {t:Nat} {n:Int} {z:α}
theorem Fj (h:lX enc kid sz k v wss xs hole S):nK v S'=some xs.length:=by
 obtain ⟨h1,h2,h3,h4⟩:=h
 revert h4
 split
 ·
  intro q; subst q; rfl
 ·
  rintro ⟨rfl,rfl,rfl,rfl,q⟩; rfl
 ·
  exact fun q=>q.elim
theorem Fb (h:lX enc kid sz k v wss xs hole S) (ht:(aZ C.P t).isSome=true):lG C t v=true:=by
 have hu:∃ e,C.P.underlying t=some (.slice e):=by
  unfold aZ at ht
  split at ht
  ·
   rename_i hu; exact ⟨_,hu⟩
  ·
   cases ht
 obtain ⟨e,hu⟩:=hu
 obtain ⟨h1,h2,h3,h4⟩:=h
 revert h4
 split
 ·
  intro q; simp [lG,hu]
 ·
  rintro _; simp [lG,hu]
 ·
  exact fun q=>q.elim
theorem um (H:Has B S l) {i:Nat} (hi:l[i]? = some (aA enc kid sz k v wss xs hole)) (h:ρ x=some v) (ht:(aZ C.P t).isSome=true):oper C ρ S (.call { callee:=.builtin .len,args:=#[x],argTypes:=#[t] })=some (.val (.d (.int .i64 (xs.length:Int))) S):=by
 have hp:=gQ.1 (H.at hi)
 exact mf h (Fb hp ht) (by rw [Fj hp])
theorem kP {w:AV} {ys:List Int} (H:Has B S l) {i:Nat} (hi:l[i]? = some (aG w ys)) (h:ρ x=some w) (ht:(aZ C.P t).isSome=true):oper C ρ S (.call { callee:=.builtin .len,args:=#[x],argTypes:=#[t] })=some (.val (.d (.int .i64 (ys.length:Int))) S):=by
 have hp:=ib.1 (H.at hi)
 have hu:∃ e,C.P.underlying t=some (.slice e):=by
  unfold aZ at ht
  split at ht
  ·
   rename_i hu; exact ⟨_,hu⟩
  ·
   cases ht
 obtain ⟨e,hu⟩:=hu
 unfold jA at hp
 split at hp
 ·
  subst hp; exact mf h (by simp [lG,hu]) rfl
 ·
  obtain ⟨_,_,h3,_⟩:=hp; subst h3; exact mf h (by simp [lG,hu]) (by simp [nK])
 ·
  exact hp.elim
theorem lX.ptr (h:lX enc kid sz k v wss xs hole S) (hz:idx xs n=some z) (off:Nat):∃ id g ws a b,wss[n.toNat]? = some ws∧nC sz k (enc z) ws∧v=.eF id g 0 xs.length xs.length sz∧dh v n.toNat off=.ptr id g (n.toNat * sz + off)∧S.H.get id=some (.cells g wss.flatten) ∧
  wss.flatten=a ++ ws ++ b∧a.length=n.toNat * sz∧(∀ ws',(wss.set n.toNat ws').flatten=a ++ ws' ++ b)∧n.toNat < xs.length:=by
 obtain ⟨ws,h1,h2,h3,id,g,rfl,h5⟩:=h.node (dN hz).2
 obtain ⟨a,b,q1,q2,q3⟩:=Gw h.lens h1
 exact ⟨id,g,ws,a,b,h1,h2,rfl,rfl,h5,q1,q2,q3,(List.getElem?_eq_some_iff.1 (dN hz).2).1⟩
theorem ig (H:Has B S l) {i:Nat} (hi:l[i]? = some (aA enc kid sz k v wss xs hole)) {kk:IntKind} {el:Nat} (hz:idx xs n=some z) (hx:ρ x=some v) (hy:ρ y=some (.d (.int kk n)))
  (he:aZ C.P t=some el) (ha:(eD C.P el).isSome=true) (hs:aM C.P el=sz):oper C ρ S (.indexAddr t x y)=some (.val (dh v n.toNat 0) S):=by
 obtain ⟨id,g,ws,a,b,h1,h2,rfl,h4,h5,h6,h7,h8,h9⟩:=(gQ.1 (H.at hi)).ptr hz 0
 rw [h4]
 refine bX hx hy ?_
 simp only [fZ,he,(dN hz).1,ha,decide_true,Bool.and_self,if_true]
 rw [if_pos ⟨h9,hs.symm⟩,hs]
 simp
theorem bz (H:Has B S l) {i:Nat} (hi:l[i]? = some (aA enc kid sz k v wss xs hole)) {s fld fo ft o' off:Nat} (hz:idx xs n=some z) (h:ρ x=some (dh v n.toNat off)) (hf:fw C.P s fld=some (fo,ft)) (hb:Nat.beq (aM C.P ft) 0=false) (ho:off + fo=o') :
  oper C ρ S (.fieldAddr s x fld)=some (.val (dh v n.toNat o') S):=by
 obtain ⟨id,g,ws,a,b,h1,h2,rfl,h4,h5,h6,h7,h8,h9⟩:=(gQ.1 (H.at hi)).ptr hz off
 rw [h4] at h
 rw [aF h hf hb rfl]
 subst ho
 simp [dh,Nat.add_assoc]
theorem tC (H:Has B S l) {i:Nat} (hi:l[i]? = some (aA enc kid sz k v wss xs hole)) {off:Nat} (hz:idx xs n=some z) (h:ρ x=some (dh v n.toNat off)) (ha:eD C.P t=some false) (ho:Nat.blt off sz=true) :
  ∃ ws,wss[n.toNat]? = some ws∧nC sz k (enc z) ws∧oper C ρ S (.load t x)=some (.val (ws.getD off .any) S):=by
 obtain ⟨id,g,ws,a,b,h1,h2,rfl,h4,h5,h6,h7,h8,h9⟩:=(gQ.1 (H.at hi)).ptr hz off
 rw [h4] at h
 refine ⟨ws,h1,h2,?_⟩
 have ho:off < sz:=by have:=Nat.le_of_ble_eq_true ho; omega
 have hl:off < ws.length:=by rw [h2.2.2.1]; exact ho
 have:part C.P t wss.flatten (n.toNat * sz + off)=some (ws.getD off .any):=by
  unfold part
  rw [ha]
  simp only
  rw [h6,List.append_assoc,List.getElem?_append_right (by omega),h7,show n.toNat * sz + off - n.toNat * sz=off by omega,List.getElem?_append_left hl,List.getD_eq_getElem?_getD,List.getElem?_eq_getElem hl]; rfl
 simp only [oper,h,mr,St.look,h5,Nat.beq_refl,cond_true,this,Option.map_some]
theorem yz (H:Has B S l) {i:Nat} (hi:l[i]? = some (aA enc kid sz k v wss xs hole)) {off:Nat} {d:D} (hz:idx xs n=some z) (h:ρ x=some (dh v n.toNat off)) (ha:eD C.P t=some false) (hk:Nat.beq k off=false) (hd:(enc z).cells[off]? = some d) :
  ∃ w,oper C ρ S (.load t x)=some (.val w S)∧Less (.d d) w:=by
 have hn:=gQ.1 (H.at hi)
 obtain ⟨ws0,g1,g2,_⟩:=hn.node (dN hz).2
 have ho:off < sz:=by rw [← g2.1]; exact (List.getElem?_eq_some_iff.1 hd).1
 obtain ⟨ws,h1,h2,h3⟩:=tC (C:=C) (ρ:=ρ) H hi (off:=off) hz h ha (by simp [Nat.blt]; omega)
 refine ⟨_,h3,?_⟩
 have hl:off < ws.length:=by rw [h2.2.2.1]; exact ho
 have hne:k ≠ off:=fun q=>by subst q; simp at hk
 have e1:(((enc z).cells.map AV.d).set k .any)[off]? = some (.d d):=by
  rw [List.getElem?_set_ne hne,List.getElem?_map,hd]; rfl
 have e2:ws[off]? = some (ws.getD off .any):=by rw [List.getD_eq_getElem?_getD,List.getElem?_eq_getElem hl]; rfl
 exact h2.2.2.2.get e1 e2
theorem iw (H:Has B S l) {i:Nat} (hi:l[i]? = some (aA enc kid sz k v wss xs hole)) (hz:idx xs n=some z) (h:ρ x=some (dh v n.toNat k)) (ha:eD C.P t=some false) :
  oper C ρ S (.load t x)=some (.val (jW k wss n.toNat) S):=by
 have hn:=gQ.1 (H.at hi)
 obtain ⟨ws,h1,h2,h3⟩:=tC (C:=C) (ρ:=ρ) H hi (off:=k) hz h ha (by have:=hn.2.1; simp [Nat.blt]; omega)
 rw [h3,yn h1]; rfl
theorem y8 (H:Has B S l) {i:Nat} (hi:l[i]? = some (aA enc kid sz k v wss xs none)) (hz:idx xs n=some z) (h:ρ x=some (dh v n.toNat 0)) (ha:eD C.P t=some true) (hs:aM C.P t=sz) :
  ∃ w,oper C ρ S (.load t x)=some (.val w S)∧Less (Ev.gY (((enc z).cells.map AV.d).set k (jW k wss n.toNat))) w:=by
 have hn:=gQ.1 (H.at hi)
 obtain ⟨id,g,ws,a,b,h1,h2,rfl,h4,h5,h6,h7,h8,h9⟩:=hn.ptr hz 0
 obtain ⟨_,w1,_,w3,_⟩:=hn.node (dN hz).2
 rw [h1] at w1; cases w1
 rw [h4] at h
 have hk:k < ws.length:=by rw [h2.2.2.1]; exact hn.2.1
 refine ⟨Ev.gY ws,?_,?_⟩
 ·
  have:part C.P t wss.flatten (n.toNat * sz + 0)=some (Ev.gY ws):=by
   unfold part
   rw [ha]
   simp only
   have e:(wss.flatten.drop (n.toNat * sz + 0)).take (aM C.P t)=ws:=by
    rw [h6,hs,Nat.add_zero,← h7,List.append_assoc,List.drop_left,← h2.2.2.1,List.take_left]
   rw [e,if_pos (by rw [h6,hs]; simp only [List.length_append]; have:=h2.2.2.1; omega)]
  simp only [oper,h,mr,St.look,h5,Nat.beq_refl,cond_true,this,Option.map_some]
 ·
  rw [yn h1]
  exact Less.KS (h2.2.2.2.NJ (Dc hk)) (Dc hk) h2.2.1 (w3 (by simp)).kw
end
end
end
end Go.Ev

namespace Go.Ev
noncomputable section
set_option linter.unusedVariables false
set_option linter.unusedSimpArgs false
variable {R:bU} {P:Program} {B:St}
section
variable {α:Type} {enc:α→D} {kid:α→List Int} {sz k:Nat} {v:AV} {wss:List (List AV)} {xs:List α} {hole:Option Nat} {S S':St}
theorem lX.set {id g:Nat} {n:Nat} {ws ws':List AV} {z z':α} (h:lX enc kid sz k (.eF id g 0 xs.length xs.length sz) wss xs hole S) (hw:wss[n]? = some ws) (hx:xs[n]? = some z) (hnode:nC sz k (enc z') ws') {hole':Option Nat}
  (hh:∀ m,m ≠ n→(hole'=some m↔hole=some m)) (hk:hole' ≠ some n→jA (ky k ws') (kid z') S) (hid:id ∉ bP k hole' (wss.set n ws')) :
  lX enc kid sz k (.eF id g 0 xs.length xs.length sz) (wss.set n ws') (xs.set n z') hole' { S with H:=S.H.set id (.cells g (wss.set n ws').flatten) }:=by
 obtain ⟨h1,h2,h3,h4⟩:=h
 have hn:n < wss.length:=(List.getElem?_eq_some_iff.1 hw).1
 refine ⟨by simp [h1],h2,fun i x u hx' hu=>?_,rfl,by simp,by simp,rfl,by simp only [AL.aP,if_true]⟩
 have hkeep:∀ {w:AV} {ys:List Int},jA w ys S→(∀ j ∈ aU w,j ≠ id)→jA w ys { S with H:=S.H.set id (.cells g (wss.set n ws').flatten) }:=fun q hq=>q.keep (fun j hj=>by simp only [AL.aP]; rw [if_neg (fun e=>hq j hj e.symm)])
 by_cases hi:n=i
 ·
  subst hi
  rw [List.getElem?_set_self (by rw [← h1]; exact hn)] at hx'
  rw [List.getElem?_set_self hn] at hu
  cases hx'; cases hu
  refine ⟨hnode,fun q=>hkeep (hk q) (fun j hj e=>?_)⟩
  subst e
  exact hid (jN.2 ⟨n,ws',by rw [List.getElem?_set_self hn],q,hj⟩)
 ·
  rw [List.getElem?_set_ne hi] at hx' hu
  obtain ⟨q1,q2⟩:=h3 i x u hx' hu
  refine ⟨q1,fun q=>hkeep (q2 (fun e=>q ((hh i (Ne.symm hi)).2 e))) (fun j hj e=>?_)⟩
  subst e
  exact hid (jN.2 ⟨i,u,by rw [List.getElem?_set_ne hi]; exact hu,q,hj⟩)
section
variable {l:List bA} {n:Nat} {z z':α} {ws ws':List AV} {id g:Nat}
theorem mU:jg [aA enc kid sz k v wss xs hole]=aU v ++ bP k hole wss:=by simp [jg,aA,bA.fp]
theorem Has.Mw (H:Has B S (aA enc kid sz k (.eF id g 0 xs.length xs.length sz) wss xs hole :: l)) (hw:wss[n]? = some ws) (hx:xs[n]? = some z) (hnode:nC sz k (enc z') ws') (hkw:ky k ws'=ky k ws) (hkid:kid z'=kid z) :
  Has B { S with H:=S.H.set id (.cells g (wss.set n ws').flatten) } (aA enc kid sz k (.eF id g 0 xs.length xs.length sz) (wss.set n ws') (xs.set n z') hole :: l):=by
 have hp:=gQ.1 (H.ok _ List.mem_cons_self)
 have hnd:(jg [aA enc kid sz k (.eF id g 0 xs.length xs.length sz) wss xs hole]).Nodup:=Has.nd0 (l0:=[_]) H
 rw [mU] at hnd
 have hidlt:id < S.nx:=Has.lt H (id:=id) (jT.2 ⟨_,List.mem_cons_self,by simp [aA,bA.fp,aU]⟩)
 have hs:=pY (k:=k) hw hkw hole
 have e:jg [aA enc kid sz k (.eF id g 0 xs.length xs.length sz) (wss.set n ws') (xs.set n z') hole]=aU (.eF id g 0 xs.length xs.length sz) ++ bP k hole wss:=by rw [mU,hs]
 refine Has.upd (l0:=[_]) (bs:=[_]) H (wf_set H.wf hidlt _) (Nat.le_refl _) (fun j hj _=>⟨?_,rfl⟩) (fun a ha=>?_) (by rw [e]; exact hnd) (fun j hj=>.inl (by rw [mU]; rw [e] at hj; exact hj))
 ·
  simp only [AL.aP]
  rw [if_neg (fun q=>hj (by subst q; rw [mU]; simp [aU]))]
 ·
  simp only [List.mem_cons,List.not_mem_nil,or_false] at ha
  subst ha
  refine gQ.2 (hp.set hw hx hnode (fun m _=>Iff.rfl) (fun q=>?_) ?_)
  ·
   rw [hkw,hkid]
   obtain ⟨u,h1,h2,h3,_⟩:=hp.node hx
   rw [hw] at h1; cases h1
   exact h3 q
  ·
   rw [hs]
   simp only [aU,List.singleton_append,List.nodup_cons] at hnd
   exact hnd.1
theorem Has.KA {pre:List bA} {w:AV} {ys:List Int} (hpre:jg pre=aU w) (H:Has B S (pre ++ aA enc kid sz k (.eF id g 0 xs.length xs.length sz) wss xs hole :: l)) (hh:hole=none∨hole=some n) (hs:jA w ys S)
  (hw:wss[n]? = some ws) (hx:xs[n]? = some z) (hnode:nC sz k (enc z') ws') (hkw:ky k ws'=w) (hkid:kid z'=ys) :
  Has B { S with H:=S.H.set id (.cells g (wss.set n ws').flatten) } (aA enc kid sz k (.eF id g 0 xs.length xs.length sz) (wss.set n ws') (xs.set n z') none :: l):=by
 have H2:Has B S ((pre ++ [aA enc kid sz k (.eF id g 0 xs.length xs.length sz) wss xs hole]) ++ l):=by simpa using H
 have hp:=gQ.1 (H.ok (aA enc kid sz k (.eF id g 0 xs.length xs.length sz) wss xs hole) (by simp))
 have hnd:=Has.nd0 H2
 rw [rF,mU,hpre] at hnd
 have hn:n < wss.length:=(List.getElem?_eq_some_iff.1 hw).1
 have hidlt:id < S.nx:=Has.lt H (id:=id) (jT.2 ⟨aA enc kid sz k (.eF id g 0 xs.length xs.length sz) wss xs hole,by simp,by simp [aA,bA.fp,aU]⟩)
 have hperm:(bP k none (wss.set n ws')).Perm (aU w ++ bP k (some n) wss):=by
  have:=lK (k:=k) (wss:=wss.set n ws') (n:=n) (ws:=ws') (by rw [List.getElem?_set_self hn])
  rwa [hkw,uW] at this
 have hsub:∃ q,(q ++ bP k (some n) wss).Perm (bP k hole wss):=by
  rcases hh with rfl | rfl
  ·
   exact ⟨_,(lK hw).symm⟩
  ·
   exact ⟨[],List.Perm.refl _⟩
 obtain ⟨q,hq⟩:=hsub
 have hnd2:(aU w ++ ([id] ++ (q ++ bP k (some n) wss))).Nodup:=by
  refine (List.Perm.nodup_iff ?_).1 hnd
  exact List.Perm.append_left _ (List.Perm.append_left _ hq.symm)
 have e:jg [aA enc kid sz k (.eF id g 0 xs.length xs.length sz) (wss.set n ws') (xs.set n z') none]=[id] ++ bP k none (wss.set n ws'):=by rw [mU]; rfl
 have hnd3:([id] ++ (aU w ++ bP k (some n) wss)).Nodup:=by
  have h1:(aU w ++ ([id] ++ bP k (some n) wss)).Nodup:=hnd2.sublist (List.Sublist.append_left (List.Sublist.append_left (List.sublist_append_right _ _) _) _)
  refine (List.Perm.nodup_iff ?_).1 h1
  rw [← List.append_assoc,← List.append_assoc]
  exact List.Perm.append_right _ List.perm_append_comm
 refine Has.upd (bs:=[_]) H2 (wf_set H.wf hidlt _) (Nat.le_refl _) (fun j hj _=>⟨?_,rfl⟩) (fun a ha=>?_) ?_ (fun j hj=>.inl ?_)
 ·
  simp only [AL.aP]
  rw [if_neg (fun q=>hj (by subst q; rw [rF,mU]; simp [aU]))]
 ·
  simp only [List.mem_cons,List.not_mem_nil,or_false] at ha
  subst ha
  refine gQ.2 (hp.set hw hx hnode (fun m hm=>?_) (fun _=>by rw [hkw,hkid]; exact hs) ?_)
  ·
   rcases hh with rfl | rfl
   ·
    simp
   ·
    simp [Ne.symm hm]
  ·
   intro hm
   have:=hperm.mem_iff.1 hm
   simp only [List.singleton_append,List.nodup_cons] at hnd3
   exact hnd3.1 this
 ·
  rw [e]
  exact (List.Perm.append_left _ hperm).nodup_iff.2 hnd3
 ·
  rw [e] at hj
  rw [rF,mU,hpre]
  rcases List.mem_append.1 hj with hj | hj
  ·
   exact List.mem_append_right _ (List.mem_append_left _ hj)
  ·
   rcases List.mem_append.1 (hperm.mem_iff.1 hj) with hj | hj
   ·
    exact List.mem_append_left _ hj
   ·
    exact List.mem_append_right _ (List.mem_append_right _ (hq.mem_iff.1 (List.mem_append_right _ hj)))
section
variable {C:gV} {ρ:Operand→Option AV} {x y:Operand} {t:Nat} {i:Int}
theorem uY (hp:lX enc kid sz k v wss xs hole S) {off:Nat} {vy:AV} {cv:List AV} (hz:idx xs i=some z) (h:ρ x=some (dh v i.toNat off)) (hy:ρ y=some vy) (hc:vy.cells=cv) (hpl:vy.plain=true) (hn:aM C.P t=cv.length) (hag:(eD C.P t).isSome=true) (hb:Nat.ble (off + cv.length) sz=true) :
  ∃ id g ws,v=.eF id g 0 xs.length xs.length sz∧wss[i.toNat]? = some ws∧nC sz k (enc z) ws∧oper C ρ S (.store t x y)=some (.skip { S with H:=S.H.set id (.cells g (wss.set i.toNat (setAt ws off cv)).flatten) }):=by
 obtain ⟨id,g,ws,a,b,h1,h2,rfl,h4,h5,h6,h7,h8,h9⟩:=hp.ptr hz off
 rw [h4] at h
 refine ⟨id,g,ws,rfl,h1,h2,?_⟩
 have hb:=Nat.le_of_ble_eq_true hb
 have hl:=h2.2.2.1
 subst hc
 have e:setAt wss.flatten (i.toNat * sz + off) vy.cells=(wss.set i.toNat (setAt ws off vy.cells)).flatten:=by
  rw [h8,h6,← h7]
  exact Dr (by omega)
 simp only [oper,h,hy,tX,h5]
 rw [if_pos ⟨hn.symm,hpl,hag⟩,if_pos trivial,if_pos (by rw [h6]; simp only [List.length_append]; omega),e]
 rfl
theorem nC.Oe {d d':D} {ws:List AV} {off:Nat} {vy:AV} (h:nC sz k d ws) (hk:Nat.beq k off=false) {dd:D} (hl:Less (.d dd) vy) (hs:d.cells.set off dd=d'.cells) (hf:dd.isAgg=false):nC sz k d' (ws.set off vy):=by
 have hne:k ≠ off:=fun q=>by subst q; simp at hk
 refine ⟨by rw [← hs]; simp [h.1],by
  rw [← hs]
  exact wm (fun c hc=>by
   rcases List.mem_or_eq_of_mem_set hc with hc | rfl
   ·
    exact tY h.2.1 c hc
   ·
    exact hf),by simp [h.2.2.1],?_⟩
 rw [← hs,List.map_set,List.set_comm _ _ (Ne.symm hne)]
 exact h.2.2.2.set hl off
theorem I1 {ws:List AV} {off:Nat} {vy:AV} (hk:Nat.beq k off=false):ky k (ws.set off vy)=ky k ws:=by
 have hne:k ≠ off:=fun q=>by subst q; simp at hk
 unfold ky
 rw [List.getD_eq_getElem?_getD,List.getElem?_set_ne (Ne.symm hne),← List.getD_eq_getElem?_getD]
theorem nC.LK {d d':D} {ws:List AV} {w:AV} {c:D} (h:nC sz k d ws) (hs:d.cells.set k c=d'.cells) (hf:c.isAgg=false):nC sz k d' (ws.set k w):=by
 refine ⟨by rw [← hs]; simp [h.1],by
  rw [← hs]
  exact wm (fun c hc=>by
   rcases List.mem_or_eq_of_mem_set hc with hc | rfl
   ·
    exact tY h.2.1 c hc
   ·
    exact hf),by simp [h.2.2.1],?_⟩
 rw [← hs,List.map_set,List.set_set]
 have:=h.2.2.2.set (Less.any w) k
 rwa [List.set_set] at this
theorem Gh {ws:List AV} {w:AV} (h:k < ws.length):ky k (ws.set k w)=w:=by
 unfold ky
 rw [List.getD_eq_getElem?_getD,List.getElem?_set_self h]; rfl
end
section
variable {C:gV} {nt:Nat} {ops:Array Oper} {rest:List Oper} {e:Env} {Q:Stp→Prop} {t ty:Nat} {p:String} {af:Array Edge} {gg:Option (Nat × Bool)} {x y:Operand} {i:Int}
theorem aj.qW {off tt:Nat} {vy:AV} {dd:D} (H:Has B S (aA enc kid sz k v wss xs hole :: l)) (hw:bC ops e { dst:=none,op:=.store tt x y,type:=ty,pos:=p,after:=af,guard:=gg }=some true) (hz:idx xs i=some z) (h:bB e x=some (dh v i.toNat off)) (hy:bB e y=some vy)
  (hc:vy.cells=[vy]) (hpl:vy.plain=true) (hl:Less (.d dd) vy) (hn:aM C.P tt=1) (hag:(eD C.P tt).isSome=true) (hb:Nat.ble (off + 1) sz=true) (hk:Nat.beq k off=false) (hs:(enc z).cells.set off dd=(enc z').cells) (hf:dd.isAgg=false) (hkid:kid z'=kid z)
  (kk:∀ wss' S',Has B S' (aA enc kid sz k v wss' (jl xs i z') hole :: l)→aj R C nt ops rest e S' Q) :
  aj R C nt ops ({ dst:=none,op:=.store tt x y,type:=ty,pos:=p,after:=af,guard:=gg } :: rest) e S Q:=by
 obtain ⟨id,g,ws,rfl,h1,h2,h3⟩:=uY (C:=C) (ρ:=bB e) (gQ.1 (H.ok _ List.mem_cons_self)) hz h hy hc hpl hn hag hb
 have:=Has.Mw H (ws':=ws.set off vy) h1 (dN hz).2 (h2.Oe hk hl hs hf) (I1 hk) hkid
 exact aj.skip hw h3 (kk (wss.set i.toNat (setAt ws off [vy])) _ this)
theorem aj.yQ {tt:Nat} {w:AV} {ys:List Int} {c:D} (H:Has B S (aG w ys :: aA enc kid sz k v wss xs hole :: l)) (hw:bC ops e { dst:=none,op:=.store tt x y,type:=ty,pos:=p,after:=af,guard:=gg }=some true) (hz:idx xs i=some z) (hh:hole=none∨hole=some i.toNat) (h:bB e x=some (dh v i.toNat k)) (hy:bB e y=some w)
  (hn:aM C.P tt=1) (hag:(eD C.P tt).isSome=true) (hs:(enc z).cells.set k c=(enc z').cells) (hf:c.isAgg=false) (hkid:kid z'=ys)
  (kk:∀ wss' S',Has B S' (aA enc kid sz k v wss' (jl xs i z') none :: l)→aj R C nt ops rest e S' Q) :
  aj R C nt ops ({ dst:=none,op:=.store tt x y,type:=ty,pos:=p,after:=af,guard:=gg } :: rest) e S Q:=by
 have hs0:=ib.1 (H.ok _ List.mem_cons_self)
 have hp:=gQ.1 (H.ok (aA enc kid sz k v wss xs hole) (by simp))
 obtain ⟨id,g,ws,rfl,h1,h2,h3⟩:=uY (C:=C) (ρ:=bB e) hp hz h hy hs0.plain.2 hs0.plain.1 hn hag (by have:=hp.2.1; exact Nat.ble_eq_true_of_le (by simp; omega))
 have:=Has.KA (pre:=[aG w ys]) (by simp [jg,aG,bA.fp]) H hh hs0 (ws':=ws.set k w) h1 (dN hz).2 (h2.LK hs hf) (Gh (by rw [h2.2.2.1]; exact hp.2.1)) hkid
 exact aj.skip hw h3 (kk (wss.set i.toNat (setAt ws k [w])) _ this)
theorem aj.yV {tt:Nat} {vy:AV} {cv:List AV} (H:Has B S (aA enc kid sz k v wss xs hole :: l)) (hw:bC ops e { dst:=none,op:=.store tt x y,type:=ty,pos:=p,after:=af,guard:=gg }=some true) (hz:idx xs i=some z) (hh:hole=none∨hole=some i.toNat) (h:bB e x=some (dh v i.toNat 0)) (hy:bB e y=some vy)
  (hc:vy.cells=cv) (hpl:vy.plain=true) (hn:aM C.P tt=sz) (hag:(eD C.P tt).isSome=true) (hcl:cv.length=sz) (hel:(enc z').cells.length=sz) (hef:iH (enc z').cells=true) (hle:dS (((enc z').cells.map AV.d).set k .any) cv) (hkw:ky k cv=.d .aO) (hkid:kid z'=[])
  (kk:∀ wss' S',Has B S' (aA enc kid sz k v wss' (jl xs i z') none :: l)→aj R C nt ops rest e S' Q) :
  aj R C nt ops ({ dst:=none,op:=.store tt x y,type:=ty,pos:=p,after:=af,guard:=gg } :: rest) e S Q:=by
 have hp:=gQ.1 (H.ok _ List.mem_cons_self)
 obtain ⟨id,g,ws,rfl,h1,h2,h3⟩:=uY (C:=C) (ρ:=bB e) hp hz h hy hc hpl (by rw [hn,hcl]) hag (Nat.ble_eq_true_of_le (by omega))
 have e1:setAt ws 0 cv=cv:=by
  have:=qA cv [] ws [] (by rw [hcl,h2.2.2.1])
  simpa using this
 have:=Has.KA (pre:=[]) (w:=.d .aO) (ys:=[]) (by simp [jg,aU]) H hh Ce (ws':=cv) h1 (dN hz).2 ⟨hel,hef,hcl,hle⟩ hkw hkid
 rw [e1] at h3
 exact aj.skip hw h3 (kk (wss.set i.toNat cv) _ this)
end
end
end
end
end Go.Ev

namespace Go.Ev
noncomputable section
set_option linter.unusedVariables false
set_option linter.unusedSimpArgs false
variable {R:bU} {P:Program} {B:St}
theorem GL {cx:Cx} {S:St} {w:World} (h:bu R cx S w) {id g sz:Nat} {xs:List D} {cs0:List AV} (hcs0:∀ (i j:Nat) (x c:D),xs[i]? = some x→x.cells[j]? = some c→j < sz→∃ y,cs0[i * sz + j]? = some y∧Less (.d c) y) {lim:Nat} (hid:S.H.get id=some (.cells g cs0)) (hpos:0 < sz) (hsz:∀ x ∈ xs,x.cells.length=sz∧iH x.cells=true)
  {fr':Nat→Nat→Prop} (hp:∀ (b o:Nat) (v:Value),¬ cx.fr b o→w.cell? ⟨b,o,none⟩=some v→w.cell? ⟨b,o,none⟩=some v∧¬ fr' b o) (hfr:∀ o,¬ fr' (cx.bm id) o) {u:Value} (hu:aT cx S w (.eF id g 0 xs.length lim sz) u):bJ w fr' (.sl xs false) u:=by
 cases hu with
 | eF _ _ _ _ _ _ b cap hn hl hcap h63 hq =>
  obtain ⟨hb,_,_⟩:=hq (by unfold cur; rw [hid])
  subst hb
  obtain ⟨c1,c2,arr,el,c3,⟨c4,c5,c6⟩,c7⟩:=h.cells id g _ hid
  refine ⟨?_,rfl⟩
  by_cases hne:xs=[]
  ·
   subst hne; exact .sl0 _ cap false (fun q=>by cases q)
  have hcap:xs.length ≤ cap:=Nat.le_trans hl hcap
  let vs:Nat→List Value:=fun i=>(List.range sz).map fun j=>(arr[i * sz + j]?).getD default
  have hcell:∀ (i j:Nat) (x:D),xs[i]? = some x→j < sz→∃ c v,x.cells[j]? = some c∧arr[i * sz + j]? = some v∧aT cx S w (.d c) v∧v.oneCell'=true:=fun i j x hx hj=>by
   have hxl:=(hsz x (List.mem_of_getElem? hx)).1
   have hc:x.cells[j]? = some x.cells[j]:=List.getElem?_eq_getElem (by omega)
   obtain ⟨y,y1,y2⟩:=hcs0 i j x _ hx hc hj
   obtain ⟨v,v1,v2,v3⟩:=c7 (i * sz + j) _ y1
   exact ⟨_,v,hc,v1,y2 _ _ _ _ v2,v3⟩
  have hvs:∀ (i j:Nat) (v:Value),(vs i)[j]? = some v→j < sz∧(arr[i * sz + j]?).getD default=v:=fun i j v hv=>by
   simp only [vs,List.getElem?_map,Option.map_eq_some_iff] at hv
   obtain ⟨k,hk,rfl⟩:=hv
   rw [List.getElem?_eq_some_iff] at hk
   obtain ⟨hlt,hk⟩:=hk
   simp at hlt hk
   subst hk
   exact ⟨hlt,rfl⟩
  refine .sl xs false (cx.bm id) 0 cap sz vs hne hcap (fun q=>by cases q) (fun i x hx=>(hsz x (List.mem_of_getElem? hx)).1) (fun i hi=>by simp [vs]) (fun i x hx=>?_) (fun i j v hi hv=>?_)
  ·
   have hm:=hsz x (List.mem_of_getElem? hx)
   refine iK.of_cells hm.2 (by simp [vs,hm.1]) (fun v hv=>?_) (fun j c v hc hv=>?_)
   ·
    obtain ⟨j,hj,rfl⟩:=List.getElem_of_mem hv
    have hj':=List.getElem?_eq_getElem hj
    obtain ⟨k1,k2⟩:=hvs i j _ hj'
    obtain ⟨c,v,_,v1,_,v3⟩:=hcell i j x hx k1
    rw [v1] at k2
    rw [← k2]; exact v3
   ·
    obtain ⟨k1,k2⟩:=hvs i j v hv
    obtain ⟨c',v',h1,v1,v2,v3⟩:=hcell i j x hx k1
    rw [v1] at k2
    simp at k2
    subst k2
    rw [hc] at h1; cases h1
    have:=(v2.dd.mono hp).1
    rw [(mX v3).1] at this
    exact this
  ·
   obtain ⟨k1,k2⟩:=hvs i j v hv
   obtain ⟨c',v',h1,v1,v2,v3⟩:=hcell i j xs[i] (List.getElem?_eq_getElem hi) k1
   rw [v1] at k2
   simp at k2
   subst k2
   refine ⟨?_,hfr _⟩
   simp only [World.cell?,c3,Nat.zero_add]
   simp [v1]
def JD (sz n:Nat) (v:AV) (cs:List AV) (S:St):Prop:=∃ id g,v=.eF id g 0 n n sz∧S.H.get id=some (.cells g cs)∧cs.length=n * sz
def ic (sz n:Nat) (v:AV) (cs:List AV):bA:=.abs (aU v) (JD sz n v cs)
theorem wO {sz n:Nat} {v:AV} {cs:List AV} {S:St}:(ic sz n v cs).ok S↔JD sz n v cs S:=by
 constructor
 ·
  exact fun h=>h.2 S (fun _ _=>rfl)
 ·
  rintro ⟨id,g,rfl,h1,h2⟩
  refine ⟨fun j hj=>?_,fun S' k=>⟨id,g,rfl,by rw [k id (by simp [aU])]; exact h1,h2⟩⟩
  simp only [aU,List.mem_singleton] at hj
  subst hj; exact ⟨_,h1⟩
theorem JF {S:St} {v:AV} {c:Int} (h:JD 1 1 v [jL c] S):jA v [c] S:=by
 obtain ⟨id,g,rfl,h1,h2⟩:=h
 exact ⟨rfl,rfl,rfl,by decide,_,h1,rfl,rfl⟩
section
variable {S:St} {l:List bA}
theorem Has.Oc {v:AV} {c:Int} (H:Has B S (ic 1 1 v [jL c] :: l)):Has B S (aG v [c] :: l):=by
 refine Has.qQ (l0:=[_]) (bs:=[_]) H (fun a ha=>?_) ?_ (fun id hid=>by simpa [jg,aG,ic,bA.fp] using hid)
 ·
  simp only [List.mem_cons,List.not_mem_nil,or_false] at ha
  subst ha
  exact ib.2 (JF (wO.1 (H.ok _ List.mem_cons_self)))
 ·
  have:=Has.nd0 (l0:=[_]) H
  simpa [jg,aG,ic,bA.fp] using this
theorem Has.HY (H:Has B S l):Has B S (aG (.d .aO) [] :: l):=by
 refine Has.qQ (l0:=[]) (bs:=[_]) H (fun a ha=>?_) (by simp [jg,aG,bA.fp,aU]) (fun id hid=>by simp [jg,aG,bA.fp,aU] at hid)
 simp only [List.mem_cons,List.not_mem_nil,or_false] at ha
 subst ha
 exact ib.2 Ce
theorem Has.JG {α:Type} (enc:α→D) (kid:α→List Int) (sz k:Nat) (hk:Nat.blt k sz=true) (H:Has B S l):Has B S (aA enc kid sz k (.d .aO) [] ([]:List α) none :: l):=by
 refine Has.qQ (l0:=[]) (bs:=[_]) H (fun a ha=>?_) (by simp [jg,aA,bA.fp,aU,bP]) (fun id hid=>by simp [jg,aA,bA.fp,aU,bP] at hid)
 simp only [List.mem_cons,List.not_mem_nil,or_false] at ha
 subst ha
 exact gQ.2 ⟨rfl,by have:=Nat.le_of_ble_eq_true hk; omega,fun i x ws h=>by simp at h,rfl⟩
section
variable {C:gV} {ρ:Operand→Option AV} {x y:Operand} {t:Nat}
theorem Ap {n el sz:Nat} {ps:Array (Nat × Operand)} {zd:D} {vs:List AV} {cs:List (List AV)} (H:Has B S l) (hr:C.rowT t=true) (he:aZ C.P t=some el) (ha:(eD C.P el).isSome=true) (hz:zeroOf C.P el=some zd) (hs:aM C.P el=sz) (hzl:zd.cells.length=sz) (hb:n * sz ≤ 16777216∧0 < n * sz)
  (hv:qd sz vs cs) (hn:vs.length=n) (hev:pz ρ ps=some (rR 0 vs)):∃ v S',oper C ρ S (.buildSlice t n ps)=some (.val v S')∧Has B S' (ic sz n v cs.flatten :: l):=by
 obtain ⟨k1,k2⟩:=hv.len
 subst hs
 have hn0:n ≠ 0:=fun q=>by subst q; simp at hb
 have f1:=xP hv [] ((List.replicate n zd.cells).flatten.map .d) (by simp) (by
  rw [List.length_map,List.length_flatten,List.map_replicate,List.sum_replicate_nat,hzl,hn])
 simp only [List.flatten_nil,List.nil_append,List.length_nil] at f1
 have hrow:rZ C t n=true:=by
  simp only [rZ,hr,Bool.true_and]
  cases hq:Nat.beq n 0
  ·
   rfl
  ·
   exact absurd (Nat.eq_of_beq_eq_true hq) hn0
 have hlen:∀ (cs:List (List AV)),(∀ c ∈ cs,c.length=aM C.P el)→cs.flatten.length=cs.length * aM C.P el:=fun cs=>by
  induction cs with
  | nil=>intro _; simp
  | cons c cs ih=>intro h; rw [List.flatten_cons,List.length_append,ih (fun d hd=>h d (List.mem_cons_of_mem _ hd)),h c List.mem_cons_self,List.length_cons,Nat.add_mul]; omega
 refine ⟨.eF S.nx 0 0 n n (aM C.P el),bW S (.cells 0 cs.flatten),?_,H.new (.cells 0 cs.flatten) (a:=ic (aM C.P el) n (.eF S.nx 0 0 n n (aM C.P el)) cs.flatten) rfl (wO.2 ⟨_,_,rfl,by simp only [bW,AL.aP,if_true],?_⟩)⟩
 ·
  simp only [oper,hrow,cond_true,hev,o8,he,hz]
  rw [if_pos ⟨hzl,hb.2,hb.1,ha⟩]
  simp only [H.yT,cond_false,f1,Option.map_some]
  rfl
 ·
  rw [hlen cs k2,← k1,hn]
theorem tT {el nb n:Nat} (hb:n * nb ≤ bound) (hnb:bytesOf C.P el=nb) (h0:(Nat.blt 0 nb && Nat.ble nb 65536)=true) (hz:fu C el=true):nP C el n=true:=by
 subst hnb
 simp only [Bool.and_eq_true] at h0
 simp only [nP,hz,Bool.and_true,Bool.and_eq_true]
 exact ⟨⟨Nat.ble_eq_true_of_le hb,h0.1⟩,h0.2⟩
theorem BM {sz n:Nat} {v:AV} {cs:List AV} (h:JD sz n v cs S) (hpos:0 < sz):jb S sz v=some (cs,n):=by
 obtain ⟨id,g,rfl,h1,h2⟩:=h
 simp only [jb,mV,St.look,h1,Nat.beq_refl,cond_true]
 rw [if_pos ⟨trivial,hpos,by omega⟩,List.drop_zero,← h2,List.take_length]
section
variable {α:Type} {enc:α→D} {kid:α→List Int} {sz k:Nat} {v rv:AV} {wss:List (List AV)} {xs:List α} {z:α} {c:List AV}
theorem xU {u el nb:Nat} {r:List α} (H:Has B S (ic sz 1 rv c :: aA enc kid sz k v wss xs none :: l)) (hx:ρ x=some v) (hy:ρ y=some rv) (hnr:C.rowT t=true) (hu:jd C u=true) (he:aZ C.P t=some el) (hs:aM C.P el=sz)
  (hr:app nb xs [z]=some r) (hnb:bytesOf C.P el=nb) (h0:(Nat.blt 0 nb && Nat.ble nb 65536)=true) (hz:fu C el=true) (hnode:nC sz k (enc z) c) (hkw:ky k c=.d .aO) (hkid:kid z=[]) :
  ∃ v' S',oper C ρ S (.call { callee:=.builtin .append,args:=#[x,y],argTypes:=#[t,u] })=some (.val v' S')∧∃ wss',Has B S' (aA enc kid sz k v' wss' r none :: l):=by
 obtain ⟨hb,rfl⟩:=mq hr
 subst hs
 have hm:iF ρ [x,y]=some [v,rv]:=by simp only [iF,hx,hy,Option.map_some]
 have hp:=gQ.1 (H.ok (aA enc kid (aM C.P el) k v wss xs none) (by simp))
 have hraw:=wO.1 (H.ok (ic (aM C.P el) 1 rv c) (by simp))
 have hpos:0 < aM C.P el:=by have:=hp.2.1; omega
 have hsrc:=BM hraw hpos
 have hg:nP C el (xs.length + 1)=true:=tT (by simpa using hb) hnb h0 hz
 have H2:Has B S ([ic (aM C.P el) 1 rv c,aA enc kid (aM C.P el) k v wss xs none] ++ l):=H
 have hnd:=Has.nd0 H2
 have e2:jg [ic (aM C.P el) 1 rv c,aA enc kid (aM C.P el) k v wss xs none]=aU rv ++ (aU v ++ bP k none wss):=by simp [jg,aA,ic,bA.fp]
 rw [e2] at hnd
 have hsub:bP k none (wss ++ [c])=bP k none wss:=by rw [uQ,hkw]; simp [aU]
 simp only [oper,hm,fB,List.getElem?_toArray,List.getElem?_cons_zero,List.getElem?_cons_succ,hu,if_true,he]
 obtain ⟨h1,h2,h3,h4⟩:=id hp
 have hnodes:∀ (i:Nat) (y:α) (ws:List AV),(xs ++ [z])[i]? = some y→(wss ++ [c])[i]? = some ws→nC (aM C.P el) k (enc y) ws∧((wss[i]? = some ws∧jA (ky k ws) (kid y) S)∨(ky k ws=.d .aO∧kid y=[])):=fun i y ws hy hw=>by
  by_cases hi:i < xs.length
  ·
   rw [List.getElem?_append_left hi] at hy
   rw [List.getElem?_append_left (by omega)] at hw
   exact ⟨(h3 i y ws hy hw).1,.inl ⟨hw,(h3 i y ws hy hw).2 (by simp)⟩⟩
  ·
   have hi':i=xs.length:=by
    have:=(List.getElem?_eq_some_iff.1 hy).1
    simp at this; omega
   subst hi'
   rw [List.getElem?_append_right (Nat.le_refl _)] at hy
   rw [← h1,List.getElem?_append_right (Nat.le_refl _)] at hw
   simp at hy hw
   subst hy; subst hw
   exact ⟨hnode,.inr ⟨hkw,hkid⟩⟩
 have finish:∀ (v':AV) (id g:Nat) (S':St),v'=.eF id g 0 (xs.length + 1) (xs.length + 1) (aM C.P el)→S'.H.get id=some (.cells g (wss ++ [c]).flatten)→(∀ j,j ≠ id→S'.H.get j=S.H.get j)→S'.T=S.T→S'.Wf→S.nx ≤ S'.nx→(id ∈ aU v∨S.nx ≤ id)→id ∉ bP k none wss →
   ∃ wss',Has B S' (aA enc kid (aM C.P el) k v' wss' (xs ++ [z]) none :: l):=fun v' id g S' hv hH hsame hT wf nx hin hout=>by
  subst hv
  refine ⟨wss ++ [c],Has.upd (bs:=[_]) H2 wf nx (fun j hj hlt=>⟨hsame j (fun q=>?_),by rw [hT]⟩) (fun a ha=>?_) ?_ (fun j hj=>?_)⟩
  ·
   subst q
   rcases hin with h | h
   ·
    exact hj (by rw [e2]; exact List.mem_append_right _ (List.mem_append_left _ h))
   ·
    omega
  ·
   simp only [List.mem_cons,List.not_mem_nil,or_false] at ha
   subst ha
   refine gQ.2 ⟨by simp [h1],h2,fun i y ws hy hw=>⟨(hnodes i y ws hy hw).1,fun _=>?_⟩,rfl,by simp,by simp,rfl,hH⟩
   rcases (hnodes i y ws hy hw).2 with ⟨q1,q2⟩ | ⟨q1,q2⟩
   ·
    refine q2.keep (fun j hj=>hsame j (fun q=>?_))
    subst q
    exact hout (jN.2 ⟨i,ws,q1,by simp,hj⟩)
   ·
    rw [q1,q2]; exact Ce
  ·
   rw [mU,hsub]
   simp only [aU,List.singleton_append,List.nodup_cons]
   refine ⟨hout,?_⟩
   have:=(List.nodup_append.1 hnd).2.1
   exact (List.nodup_append.1 this).2.1
  ·
   rw [mU,hsub] at hj
   rw [e2]
   simp only [aU,List.singleton_append,List.mem_cons] at hj
   rcases hj with rfl | hj
   ·
    rcases hin with h | h
    ·
     exact .inl (List.mem_append_right _ (List.mem_append_left _ h))
    ·
     exact .inr h
   ·
    exact .inl (List.mem_append_right _ (List.mem_append_right _ hj))
 have hltsub:∀ j ∈ bP k none wss,j < S.nx:=fun j hj=>Has.lt H (jT.2 ⟨aA enc kid (aM C.P el) k v wss xs none,by simp,by simp [aA,bA.fp,hj]⟩)
 revert h4
 split
 ·
  intro hxs
  subst hxs
  have hw0:wss=[]:=List.eq_nil_of_length_eq_zero (by simpa using h1)
  subst hw0
  refine ⟨.eF S.nx 0 0 1 1 (aM C.P el),{ S with H:=S.H.set S.nx (.cells 0 c),nx:=S.nx + 1 },?_,?_⟩
  ·
   simp only [hnr,cond_true,gq,hsrc]
   rw [if_neg (by decide),if_pos ⟨by decide,hpos,rfl,by simpa using hg⟩]
   simp
  ·
   exact finish _ S.nx 0 _ rfl (by simp [AL.aP]) (fun j hj=>by simp only [AL.aP]; rw [if_neg (Ne.symm hj)]) rfl (BJ H.wf _) (Nat.le_succ _) (.inr (Nat.le_refl _)) (by simp [bP])
 ·
  rename_i id g off len lim sz'
  rintro ⟨rfl,rfl,rfl,rfl,hH⟩
  have hfl:∀ (q:List (List AV)),(∀ ws ∈ q,ws.length=aM C.P el)→q.flatten.length=q.length * aM C.P el:=fun q=>by
   induction q with
   | nil=>intro _; simp
   | cons a q ih=>intro hq; rw [List.flatten_cons,List.length_append,ih (fun w hw=>hq w (List.mem_cons_of_mem _ hw)),hq a List.mem_cons_self,List.length_cons,Nat.add_mul]; omega
  have hlen:wss.flatten.length=xs.length * aM C.P el:=by rw [hfl wss hp.lens,h1]
  have hlt:id < S.nx:=Has.lt H (jT.2 ⟨aA enc kid (aM C.P el) k (.eF id g 0 xs.length xs.length (aM C.P el)) wss xs none,by simp,by simp [aA,bA.fp,aU]⟩)
  refine ⟨.eF id (g + 1) 0 (xs.length + 1) (xs.length + 1) (aM C.P el),{ S with H:=S.H.set id (.cells (g + 1) (wss.flatten.take (xs.length * aM C.P el) ++ c)) },?_,?_⟩
  ·
   simp only [ji,hsrc,St.look,hH,Nat.beq_refl,cond_true]
   rw [if_pos ⟨trivial,hpos,by omega⟩,if_neg (by decide),if_neg (by omega),if_pos ⟨trivial,hg⟩]
   rfl
  ·
   refine finish _ id (g + 1) _ rfl ?_ (fun j hj=>by simp only [AL.aP]; rw [if_neg (Ne.symm hj)]) rfl (wf_set H.wf hlt _) (Nat.le_refl _) (.inl (by simp [aU])) ?_
   ·
    simp only [AL.aP,if_true]
    rw [← hlen,List.take_length,List.flatten_append]; simp
   ·
    have:=(List.nodup_append.1 hnd).2.1
    simp only [aU,List.singleton_append,List.nodup_cons] at this
    exact this.1
 ·
  exact fun q=>q.elim
end
section
variable {w rv:AV} {ys r:List Int} {n:Int}
theorem zh {u el nb:Nat} (H:Has B S (ic 1 1 rv [jL n] :: aG w ys :: l)) (hx:ρ x=some w) (hy:ρ y=some rv) (hnr:C.rowT t=true) (hu:jd C u=true) (he:aZ C.P t=some el) (hs:aM C.P el=1)
  (hr:app nb ys [n]=some r) (hnb:bytesOf C.P el=nb) (h0:(Nat.blt 0 nb && Nat.ble nb 65536)=true) (hz:fu C el=true) :
  ∃ w' S',oper C ρ S (.call { callee:=.builtin .append,args:=#[x,y],argTypes:=#[t,u] })=some (.val w' S')∧Has B S' (aG w' r :: l):=by
 obtain ⟨hb,rfl⟩:=mq hr
 have hm:iF ρ [x,y]=some [w,rv]:=by simp only [iF,hx,hy,Option.map_some]
 have hp:=ib.1 (H.ok (aG w ys) (by simp))
 have hraw:=wO.1 (H.ok (ic 1 1 rv [jL n]) (by simp))
 have hsrc:=BM hraw (by decide)
 have hg:nP C el (ys.length + 1)=true:=tT (by simpa using hb) hnb h0 hz
 have H2:Has B S ([ic 1 1 rv [jL n],aG w ys] ++ l):=H
 have e2:jg [ic 1 1 rv [jL n],aG w ys]=aU rv ++ aU w:=by simp [jg,aG,ic,bA.fp]
 have finish:∀ (w':AV) (id g lim:Nat) (cs:List AV) (S':St),w'=.eF id g 0 (ys.length + 1) lim 1→0 < lim→cs.length=lim→cs.take (ys.length + 1)=(ys ++ [n]).map jL→S'.H.get id=some (.cells g cs)→(∀ j,j ≠ id→S'.H.get j=S.H.get j)→S'.T=S.T→S'.Wf→S.nx ≤ S'.nx→(id ∈ aU w∨S.nx ≤ id) →
   Has B S' (aG w' (ys ++ [n]) :: l):=fun w' id g lim cs S' hv hl hcl hct hH hsame hT wf nx hin=>by
  subst hv
  refine Has.upd (bs:=[_]) H2 wf nx (fun j hj hlt=>⟨hsame j (fun q=>?_),by rw [hT]⟩) (fun a ha=>?_) (by simp [jg,aG,bA.fp,aU]) (fun j hj=>?_)
  ·
   subst q
   rcases hin with h | h
   ·
    exact hj (by rw [e2]; exact List.mem_append_right _ h)
   ·
    omega
  ·
   simp only [List.mem_cons,List.not_mem_nil,or_false] at ha
   subst ha
   exact ib.2 ⟨rfl,rfl,by simp,hl,cs,hH,hcl,hct⟩
  ·
   have:j=id:=by simpa [jg,aG,bA.fp,aU] using hj
   subst this
   rcases hin with h | h
   ·
    exact .inl (by rw [e2]; exact List.mem_append_right _ h)
   ·
    exact .inr h
 simp only [oper,hm,fB,List.getElem?_toArray,List.getElem?_cons_zero,List.getElem?_cons_succ,hu,if_true,he]
 unfold jA at hp
 split at hp
 ·
  subst hp
  refine ⟨.eF S.nx 0 0 1 1 1,{ S with H:=S.H.set S.nx (.cells 0 [jL n]),nx:=S.nx + 1 },?_,?_⟩
  ·
   simp only [hnr,cond_true,gq,hs,hsrc]
   rw [if_neg (by decide),if_pos ⟨by decide,by decide,rfl,by simpa using hg⟩]
   rfl
  ·
   exact finish _ S.nx 0 1 _ _ rfl (by decide) rfl rfl (by simp [AL.aP]; rfl) (fun j hj=>by simp only [AL.aP]; rw [if_neg (Ne.symm hj)]) rfl (BJ H.wf _) (Nat.le_succ _) (.inr (Nat.le_refl _))
 ·
  rename_i id g off len lim sz'
  obtain ⟨rfl,rfl,rfl,hlim,cs,hH,hcl,hct⟩:=hp
  have hle:ys.length ≤ cs.length:=by have:=congrArg List.length hct; simp at this; omega
  have hlt:id < S.nx:=Has.lt H (jT.2 ⟨aG (.eF id g 0 ys.length lim 1) ys,by simp,by simp [aG,bA.fp,aU]⟩)
  by_cases hroom:ys.length + 1 ≤ cs.length
  ·
   refine ⟨.eF id g 0 (ys.length + 1) lim 1,{ S with H:=S.H.set id (.cells g (cs.set ys.length (jL n))) },?_,?_⟩
   ·
    simp only [ji,hs,hsrc,St.look,hH,Nat.beq_refl,cond_true]
    rw [if_pos ⟨trivial,by decide,by omega⟩,if_neg (by decide),if_pos (by omega)]
    simp only [Option.map_some,setAt]
    rw [show 0 + ys.length * 1=ys.length by omega,show max lim (ys.length + 1)=lim by omega]
   ·
    refine finish _ id g lim (cs.set ys.length (jL n)) _ rfl hlim (by simp [hcl]) ?_ (by simp only [AL.aP,if_true]) (fun j hj=>by simp only [AL.aP]; rw [if_neg (Ne.symm hj)]) rfl (wf_set H.wf hlt _) (Nat.le_refl _) (.inl (by simp [aU]))
    rw [List.take_add_one,List.take_set_of_le (Nat.le_refl _),hct,List.getElem?_set_self (by omega)]
    simp
  ·
   refine ⟨.eF id (g + 1) 0 (ys.length + 1) (ys.length + 1) 1,{ S with H:=S.H.set id (.cells (g + 1) (cs.take (ys.length * 1) ++ [jL n])) },?_,?_⟩
   ·
    simp only [ji,hs,hsrc,St.look,hH,Nat.beq_refl,cond_true]
    rw [if_pos ⟨trivial,by decide,by omega⟩,if_neg (by decide),if_neg (by omega),if_pos ⟨trivial,hg⟩]
    rfl
   ·
    refine finish _ id (g + 1) (ys.length + 1) (cs.take (ys.length * 1) ++ [jL n]) _ rfl (by omega) (by simp; omega) ?_ (by simp only [AL.aP,if_true]) (fun j hj=>by simp only [AL.aP]; rw [if_neg (Ne.symm hj)]) rfl (wf_set H.wf hlt _) (Nat.le_refl _) (.inl (by simp [aU]))
    rw [Nat.mul_one,hct,List.take_of_length_le (by simp)]
    simp
 ·
  exact hp.elim
theorem sD {el:Nat} {i:Int} {kk:IntKind} {q:Nat} (H:Has B S l) (hi:l[q]? = some (aG w ys)) (hz:idx ys i=some n) (hx:ρ x=some w) (hy:ρ y=some (.d (.int kk i)))
  (he:aZ C.P t=some el) (ha:(eD C.P el).isSome=true) (hs:aM C.P el=1):oper C ρ S (.indexAddr t x y)=some (.val (dh w i.toNat 0) S):=by
 have hp:=ib.1 (H.at hi)
 obtain ⟨h0,h1⟩:=dN hz
 unfold jA at hp
 split at hp
 ·
  subst hp; simp at h1
 ·
  rename_i id g off len lim sz'
  obtain ⟨rfl,rfl,rfl,hlim,cs,hH,hcl,hct⟩:=hp
  refine bX hx hy ?_
  simp only [fZ,he,h0,ha,decide_true,Bool.and_self,if_true]
  rw [if_pos ⟨(List.getElem?_eq_some_iff.1 h1).1,hs.symm⟩,hs]
  simp [dh]
 ·
  exact hp.elim
theorem qM {i:Int} {q:Nat} (H:Has B S l) (hi:l[q]? = some (aG w ys)) (hz:idx ys i=some n) (h:ρ x=some (dh w i.toNat 0)) (ha:eD C.P t=some false):oper C ρ S (.load t x)=some (.val (.d (.int .i64 n)) S):=by
 have hp:=ib.1 (H.at hi)
 obtain ⟨h0,h1⟩:=dN hz
 unfold jA at hp
 split at hp
 ·
  subst hp; simp at h1
 ·
  rename_i id g off len lim sz'
  obtain ⟨rfl,rfl,rfl,hlim,cs,hH,hcl,hct⟩:=hp
  have hlt:=(List.getElem?_eq_some_iff.1 h1).1
  have hc:cs[i.toNat]? = some (jL n):=by
   have:(cs.take ys.length)[i.toNat]? = some (jL n):=by rw [hct,List.getElem?_map,h1]; rfl
   rwa [List.getElem?_take_of_lt hlt] at this
  have:part C.P t cs (i.toNat * 1 + 0)=some (jL n):=by
   unfold part; rw [ha]; simpa using hc
  simp only [dh] at h
  simp only [oper,h,mr,St.look,hH,Nat.beq_refl,cond_true,this,Option.map_some]
  rfl
 ·
  exact hp.elim
theorem Db {el:Nat} {i:Int} {kk:IntKind} {hi:Operand} (H:Has B S (aG w ys :: l)) (hx:ρ x=some w) (hh:ρ hi=some (.d (.int kk i))) (he:aZ C.P t=some el) (hu:(C.P.underlying el).isSome=true) (hs:aM C.P el=1) (hc:cut ys 0 i=some r) :
  ∃ w',oper C ρ S (.slice t x none (some hi) none)=some (.val w' S)∧Has B S (aG w' r :: l):=by
 have hp:=ib.1 (H.ok _ List.mem_cons_self)
 obtain ⟨⟨_,h0,h1⟩,rfl⟩:=sj hc
 have again:∀ w',aU w'=aU w→jA w' ((ys.take i.toNat).drop (0:Int).toNat) S→Has B S (aG w' ((ys.take i.toNat).drop (0:Int).toNat) :: l):=fun w' e q=>by
  refine Has.qQ (l0:=[_]) (bs:=[_]) H (fun a ha=>?_) ?_ (fun id hid=>?_)
  ·
   simp only [List.mem_cons,List.not_mem_nil,or_false] at ha
   subst ha; exact ib.2 q
  ·
   have:=Has.nd0 (l0:=[_]) H
   simpa [jg,aG,bA.fp,e] using this
  ·
   simpa [jg,aG,bA.fp,e] using hid
 unfold jA at hp
 split at hp
 ·
  subst hp
  have hi0:i=0:=by simp at h1; omega
  subst hi0
  refine ⟨.d .aO,?_,again _ rfl rfl⟩
  simp [oper,hx,wP,hh,lS,uC,he,wZ,hu,iM,asNat]
 ·
  rename_i id g off len lim sz'
  obtain ⟨rfl,rfl,rfl,hlim,cs,hH,hcl,hct⟩:=hp
  have hle:ys.length ≤ cs.length:=by have:=congrArg List.length hct; simp at this; omega
  refine ⟨.eF id g 0 i.toNat lim 1,?_,again _ rfl ⟨rfl,rfl,by simp; omega,hlim,cs,hH,hcl,?_⟩⟩
  ·
   simp only [oper,hx,wP,hh,lS,qN,he,iM,asNat,if_pos h0]
   rw [if_pos ⟨hs.symm,hu,by decide⟩,if_pos ⟨Nat.zero_le _,by omega⟩,if_neg (by omega)]
   simp
  ·
   simp only [Int.toNat_zero,List.drop_zero,List.map_take]
   rw [← hct,List.take_take,Nat.min_eq_left (by omega)]
 ·
  exact hp.elim
theorem EJ.OP {q:Nat} (H:Has B S l) (hi:l[q]? = some (aG w ys)):EJ R S w (.sl (ys.map (D.int .i64)) false):=by
 intro cx ww u h1 h2
 have hp:=ib.1 (H.at hi)
 unfold jA at hp
 split at hp
 ·
  subst hp; exact (K4 _ _ _ _ h2).dd.Kn
 ·
  rename_i id g off len lim sz'
  obtain ⟨rfl,rfl,rfl,hlim,cs,hH,hcl,hct⟩:=hp
  have e:ys.length=(ys.map (D.int .i64)).length:=by simp
  rw [e] at h2
  refine GL h1 (cs0:=cs) (sz:=1) (fun i j x c hx hc hj=>?_) hH (by decide) (fun x hx=>?_) (fun b o v q1 q2=>⟨q2,fun q=>q⟩) (fun o q=>q) h2
  ·
   rw [List.getElem?_map,Option.map_eq_some_iff] at hx
   obtain ⟨n,hn,rfl⟩:=hx
   have hj0:j=0:=by omega
   subst hj0
   have hc:D.int .i64 n=c:=by simpa [D.cells] using hc
   subst hc
   refine ⟨jL n,?_,.refl _⟩
   have hlt:=(List.getElem?_eq_some_iff.1 hn).1
   have:(cs.take ys.length)[i]? = some (jL n):=by rw [hct,List.getElem?_map,hn]; rfl
   rw [List.getElem?_take_of_lt hlt] at this
   simpa using this
  ·
   obtain ⟨n,hn,rfl⟩:=List.mem_map.1 hx
   exact ⟨rfl,rfl⟩
 ·
  exact hp.elim
end
end
end
end
end Go.Ev

namespace Go.Ev
noncomputable section
set_option linter.unusedVariables false
set_option linter.unusedSimpArgs false
variable {R:bU} {P:Program} {B:St}
section steps
variable {C:gV} {nt:Nat} {ops:Array Oper} {rest:List Oper} {e:Env} {S:St} {Q:Stp→Prop} {l:List bA} {t ty:Nat} {p:String} {af:Array Edge} {g:Option (Nat × Bool)} {x y:Operand}
section
variable {α:Type} {enc:α→D} {kid:α→List Int} {sz k:Nat} {v:AV} {wss:List (List AV)} {xs:List α} {hole:Option Nat} {z:α} {n:Int} {tt:Nat}
theorem aj.ko {q off:Nat} {d:D} (H:Has B S l) (hw:bC ops e { dst:=some t,op:=.load tt x,type:=ty,pos:=p,after:=af,guard:=g }=some true) (hi:l[q]? = some (aA enc kid sz k v wss xs hole)) (hz:idx xs n=some z) (h:bB e x=some (dh v n.toNat off)) (ha:eD C.P tt=some false) (hk:Nat.beq k off=false) (hd:(enc z).cells[off]? = some d) (ht:Nat.blt t nt=true)
  (kk:aj R C nt ops rest ((t,.d d) :: e) S Q) :
  aj R C nt ops ({ dst:=some t,op:=.load tt x,type:=ty,pos:=p,after:=af,guard:=g } :: rest) e S Q:=by
 obtain ⟨w,h1,h2⟩:=yz (C:=C) (ρ:=bB e) H hi hz h ha hk hd
 exact aj.val hw h1 ht (aj.less h2 kk)
theorem aj.A7 {q:Nat} {cs:List AV} (H:Has B S l) (hw:bC ops e { dst:=some t,op:=.load tt x,type:=ty,pos:=p,after:=af,guard:=g }=some true) (hi:l[q]? = some (aA enc kid sz k v wss xs none)) (hz:idx xs n=some z) (h:bB e x=some (dh v n.toNat 0)) (ha:eD C.P tt=some true) (hs:aM C.P tt=sz) (hc:((enc z).cells.map AV.d).set k (jW k wss n.toNat)=cs) (ht:Nat.blt t nt=true)
  (kk:aj R C nt ops rest ((t,Ev.gY cs) :: e) S Q) :
  aj R C nt ops ({ dst:=some t,op:=.load tt x,type:=ty,pos:=p,after:=af,guard:=g } :: rest) e S Q:=by
 subst hc
 obtain ⟨w,h1,h2⟩:=y8 (C:=C) (ρ:=bB e) H hi hz h ha hs
 exact aj.val hw h1 ht (aj.less h2 kk)
theorem aj.qG {m el:Nat} {ps:Array (Nat × Operand)} {zd:D} {vs:List AV} {cs:List (List AV)} (H:Has B S l) (hw:bC ops e { dst:=some t,op:=.buildSlice tt m ps,type:=ty,pos:=p,after:=af,guard:=g }=some true) (hr:C.rowT tt=true) (he:aZ C.P tt=some el) (ha:(eD C.P el).isSome=true) (hz:zeroOf C.P el=some zd) (hs:aM C.P el=sz) (hzl:zd.cells.length=sz) (hb:m * sz ≤ 16777216∧0 < m * sz)
  (hv:qd sz vs cs) (hn:vs.length=m) (hev:pz (bB e) ps=some (rR 0 vs)) (ht:Nat.blt t nt=true)
  (kk:∀ v S',Has B S' (ic sz m v cs.flatten :: l)→aj R C nt ops rest ((t,v) :: e) S' Q) :
  aj R C nt ops ({ dst:=some t,op:=.buildSlice tt m ps,type:=ty,pos:=p,after:=af,guard:=g } :: rest) e S Q:=by
 obtain ⟨v',S',h1,h2⟩:=Ap (C:=C) (ρ:=bB e) H hr he ha hz hs hzl hb hv hn hev
 exact aj.val hw h1 ht (kk v' S' h2)
theorem aj.Ez {t1 u el nb:Nat} {r:List α} {rv:AV} {c:List AV} (H:Has B S (ic sz 1 rv c :: aA enc kid sz k v wss xs none :: l)) (hw:bC ops e { dst:=some t,op:=.call { callee:=.builtin .append,args:=#[x,y],argTypes:=#[t1,u] },type:=ty,pos:=p,after:=af,guard:=g }=some true)
  (hx:bB e x=some v) (hy:bB e y=some rv) (hnr:C.rowT t1=true) (hu:jd C u=true) (he:aZ C.P t1=some el) (hs:aM C.P el=sz)
  (hr:Ev.app nb xs [z]=some r) (hnb:bytesOf C.P el=nb) (h0:(Nat.blt 0 nb && Nat.ble nb 65536)=true) (hz:fu C el=true) (hnode:nC sz k (enc z) c) (hkw:ky k c=.d .aO) (hkid:kid z=[]) (ht:Nat.blt t nt=true)
  (kk:∀ v' wss' S',Has B S' (aA enc kid sz k v' wss' r none :: l)→aj R C nt ops rest ((t,v') :: e) S' Q) :
  aj R C nt ops ({ dst:=some t,op:=.call { callee:=.builtin .append,args:=#[x,y],argTypes:=#[t1,u] },type:=ty,pos:=p,after:=af,guard:=g } :: rest) e S Q:=by
 obtain ⟨v',S',h1,wss',h2⟩:=xU (C:=C) (ρ:=bB e) H hx hy hnr hu he hs hr hnb h0 hz hnode hkw hkid
 exact aj.val hw h1 ht (kk v' wss' S' h2)
end
section
variable {w:AV} {ys r:List Int} {n:Int} {tt:Nat}
theorem aj.Bb {t1 u el nb:Nat} {rv:AV} (H:Has B S (ic 1 1 rv [jL n] :: aG w ys :: l)) (hw:bC ops e { dst:=some t,op:=.call { callee:=.builtin .append,args:=#[x,y],argTypes:=#[t1,u] },type:=ty,pos:=p,after:=af,guard:=g }=some true)
  (hx:bB e x=some w) (hy:bB e y=some rv) (hnr:C.rowT t1=true) (hu:jd C u=true) (he:aZ C.P t1=some el) (hs:aM C.P el=1)
  (hr:Ev.app nb ys [n]=some r) (hnb:bytesOf C.P el=nb) (h0:(Nat.blt 0 nb && Nat.ble nb 65536)=true) (hz:fu C el=true) (ht:Nat.blt t nt=true)
  (kk:∀ w' S',Has B S' (aG w' r :: l)→aj R C nt ops rest ((t,w') :: e) S' Q) :
  aj R C nt ops ({ dst:=some t,op:=.call { callee:=.builtin .append,args:=#[x,y],argTypes:=#[t1,u] },type:=ty,pos:=p,after:=af,guard:=g } :: rest) e S Q:=by
 obtain ⟨v',S',h1,h2⟩:=zh (C:=C) (ρ:=bB e) H hx hy hnr hu he hs hr hnb h0 hz
 exact aj.val hw h1 ht (kk v' S' h2)
theorem aj.La {el:Nat} {i:Int} {kk:IntKind} {hi:Operand} (H:Has B S (aG w ys :: l)) (hw:bC ops e { dst:=some t,op:=.slice tt x none (some hi) none,type:=ty,pos:=p,after:=af,guard:=g }=some true) (hx:bB e x=some w) (hh:bB e hi=some (.d (.int kk i))) (he:aZ C.P tt=some el) (hu:(C.P.underlying el).isSome=true) (hs:aM C.P el=1) (hc:cut ys 0 i=some r) (ht:Nat.blt t nt=true)
  (k:∀ w',Has B S (aG w' r :: l)→aj R C nt ops rest ((t,w') :: e) S Q) :
  aj R C nt ops ({ dst:=some t,op:=.slice tt x none (some hi) none,type:=ty,pos:=p,after:=af,guard:=g } :: rest) e S Q:=by
 obtain ⟨v',h1,h2⟩:=Db (C:=C) (ρ:=bB e) H hx hh he hu hs hc
 exact aj.val hw h1 ht (k v' h2)
end
end steps
def Jj (ys:List Int) (i c:Int):Option (List Int):=if 0 ≤ i∧i.toNat ≤ ys.length∧(ys.length + 1) * 8 ≤ 140737488355328 then some (ys.take i.toNat ++ c :: ys.drop i.toNat) else none
theorem dz.ins {f:Nat} (h:BU R P f og) {w rv:AV} {ys r:List Int} {i c:Int} (hr:Jj ys i c=some r):dz R P f [w,.d (.int .i64 i),rv] [ic 1 1 rv [jL c],aG w ys] (fun v l=>l=[aG v r]):=by
 intro B S H
 unfold Jj at hr
 split at hr
 rotate_left 1
 ·
  cases hr
 rename_i hc
 cases hr
 obtain ⟨h0,h1,h2⟩:=hc
 have hp:=ib.1 (H.ok (aG w ys) (by simp))
 obtain ⟨id2,g2,rfl,hH2,hl2⟩:=wO.1 (H.ok (ic 1 1 rv [jL c]) (by simp))
 have H2:Has B S ([ic 1 1 (.eF id2 g2 0 1 1 1) [jL c],aG w ys] ++ []):=by simpa using H
 have e2:jg [ic 1 1 (.eF id2 g2 0 1 1 1) [jL c],aG w ys]=id2 :: aU w:=by simp [jg,aG,ic,bA.fp,aU]
 have hnd:=Has.nd0 H2
 rw [e2,List.nodup_cons] at hnd
 have finish:∀ (w':AV) (id g:Nat) (cs:List AV) (S':St),og [w,.d (.int .i64 i),.eF id2 g2 0 1 1 1] S=some (w',S')→w'=.eF id g 0 (ys.length + 1) (ys.length + 1) 1→cs=(ys.take i.toNat ++ c :: ys.drop i.toNat).map jL→S'.H.get id=some (.cells g cs)→(∀ j,j ≠ id→S'.H.get j=S.H.get j)→S'.T=S.T→S'.Wf→S.nx ≤ S'.nx→(id ∈ aU w∨S.nx ≤ id) →
   je R P f [w,.d (.int .i64 i),.eF id2 g2 0 1 1 1] S (fun o=>o.1=none∧∃ v l,Less v o.2.1∧l=[aG v (ys.take i.toNat ++ c :: ys.drop i.toNat)]∧Has B o.2.2 l):=fun w' id g cs S' hprim hv hcs hH hsame hT wf nx hin=>by
  subst hv
  refine (je.JI h hprim).mono (fun o ho=>?_)
  subst ho
  refine ⟨rfl,_,_,.refl _,rfl,?_⟩
  have:=Has.upd (bs:=[aG (.eF id g 0 (ys.length + 1) (ys.length + 1) 1) (ys.take i.toNat ++ c :: ys.drop i.toNat)]) H2 wf nx (fun j hj hlt=>⟨hsame j (fun q=>?_),by rw [hT]⟩) (fun a ha=>?_) (by simp [jg,aG,bA.fp,aU]) (fun j hj=>?_)
  ·
   simpa using this
  ·
   subst q
   rcases hin with h | h
   ·
    exact hj (by rw [e2]; exact List.mem_cons_of_mem _ h)
   ·
    omega
  ·
   simp only [List.mem_cons,List.not_mem_nil,or_false] at ha
   subst ha
   have hl:(ys.take i.toNat ++ c :: ys.drop i.toNat).length=ys.length + 1:=by simp; omega
   refine ib.2 ⟨rfl,rfl,hl.symm,by omega,cs,hH,by rw [hcs,List.length_map,hl],?_⟩
   rw [hcs,List.take_of_length_le (by rw [List.length_map,hl]; omega)]
  ·
   have:j=id:=by simpa [jg,aG,bA.fp,aU] using hj
   subst this
   rcases hin with h | h
   ·
    exact .inl (by rw [e2]; exact List.mem_cons_of_mem _ h)
   ·
    exact .inr h
 unfold jA at hp
 split at hp
 ·
  subst hp
  have hi0:i=0:=by simp at h1; omega
  subst hi0
  refine finish _ S.nx 0 [jL c] { S with H:=S.H.set S.nx (.cells 0 [jL c]),nx:=S.nx + 1 } ?_ rfl rfl (by simp [AL.aP]) (fun j hj=>by simp only [AL.aP]; rw [if_neg (Ne.symm hj)]) rfl (BJ H.wf _) (Nat.le_succ _) (.inr (Nat.le_refl _))
  simp only [og,St.look,hH2,Nat.beq_refl,cond_true]
  rw [if_pos ⟨trivial,trivial,trivial,by decide,by simp,by decide⟩]
  rfl
 ·
  rename_i id g off len lim sz'
  obtain ⟨rfl,rfl,rfl,hlim,cs,hH,hcl,hct⟩:=hp
  have hle:ys.length ≤ cs.length:=by have:=congrArg List.length hct; simp at this; omega
  have hne:id2 ≠ id:=fun q=>hnd.1 (by subst q; simp [aU])
  have hlt:id < S.nx:=Has.lt H (jT.2 ⟨aG (.eF id g 0 ys.length lim 1) ys,by simp,by simp [aG,bA.fp,aU]⟩)
  refine finish _ id (g + 1) ((cs.take ys.length).take i.toNat ++ ([jL c].drop 0).take 1 ++ (cs.take ys.length).drop i.toNat) { S with H:=S.H.set id (.cells (g + 1) ((cs.take ys.length).take i.toNat ++ ([jL c].drop 0).take 1 ++ (cs.take ys.length).drop i.toNat)) } ?_ rfl ?_ (by simp only [AL.aP,if_true]) (fun j hj=>by simp only [AL.aP]; rw [if_neg (Ne.symm hj)]) rfl (wf_set H.wf hlt _) (Nat.le_refl _) (.inl (by simp [aU]))
  ·
   simp only [og,St.look,hH,hH2,Nat.beq_refl,cond_true]
   rw [if_pos ⟨trivial,trivial,trivial,trivial,hne,h0,h1,hle,by decide,by simp,h2⟩]
  ·
   rw [hct]
   simp
 ·
  exact hp.elim
def ng (w:AV) (i:Nat):AV:=match w with
 | .eF id g off len lim sz=>.eF id g off i lim sz
 | x=>x
def pQ (w:AV) (j:Nat):AV:=match w with
 | .eF id g off len lim sz=>if j=lim then .d (.sl [] false) else .eF id g (off + j * sz) (len - j) (lim - j) sz
 | x=>x
def uM (w:AV) (i j:Nat):AV:=match w with
 | .eF id g off len lim sz=>if i=lim then .d (.sl [] false) else .eF id g (off + i * sz) (j - i) (lim - i) sz
 | x=>x
def FK (w:AV) (n m:Nat):Prop:=∃ id g lim,w=.eF id g 0 n lim 1∧n ≤ m∧m ≤ lim
def Gb (ys:List Int) (i j:Int):Option (List Int):=if 0 ≤ i∧i < j∧j ≤ ys.length then some (ys.take i.toNat ++ ys.drop j.toNat) else none
section
variable {C:gV} {ρ:Operand→Option AV} {S:St} {l:List bA} {x lo hi mx:Operand} {t el q:Nat} {w:AV} {ys:List Int} {i j:Int} {k1 k2 k3:IntKind}
theorem jA.eF {n:Int} (h:jA w ys S) (hn:0 < ys.length):∃ id g lim cs,w=.eF id g 0 ys.length lim 1∧0 < lim∧S.H.get id=some (.cells g cs)∧cs.length=lim∧cs.take ys.length=ys.map jL∧ys.length ≤ lim:=by
 unfold jA at h
 split at h
 ·
  subst h; simp at hn
 ·
  obtain ⟨rfl,rfl,rfl,h4,cs,h5,h6,h7⟩:=h
  exact ⟨_,_,_,cs,rfl,h4,h5,h6,h7,by have:=congrArg List.length h7; simp at this; omega⟩
 ·
  exact h.elim
theorem Ef (H:Has B S l) (hq:l[q]? = some (aG w ys)) (hx:ρ x=some w) (hh:ρ hi=some (.d (.int k1 i))) (he:aZ C.P t=some el) (hu:(C.P.underlying el).isSome=true) (hs:aM C.P el=1) (hb:0 ≤ i∧i < j∧j ≤ ys.length) :
  oper C ρ S (.slice t x none (some hi) none)=some (.val (ng w i.toNat) S):=by
 obtain ⟨id,g,lim,cs,rfl,h1,h2,h3,h4,h5⟩:=(ib.1 (H.at hq)).eF (n:=0) (by omega)
 simp only [oper,hx,wP,hh,lS,qN,he,iM,asNat,if_pos hb.1]
 rw [if_pos ⟨hs.symm,hu,by decide⟩,if_pos ⟨Nat.zero_le _,by omega⟩,if_neg (by omega)]
 simp [ng]
theorem Cj (H:Has B S l) (hq:l[q]? = some (aG w ys)) (hx:ρ x=some w) (hh:ρ lo=some (.d (.int k1 j))) (he:aZ C.P t=some el) (hu:(C.P.underlying el).isSome=true) (hs:aM C.P el=1) (hb:0 ≤ i∧i < j∧j ≤ ys.length) :
  oper C ρ S (.slice t x (some lo) none none)=some (.val (pQ w j.toNat) S):=by
 obtain ⟨id,g,lim,cs,rfl,h1,h2,h3,h4,h5⟩:=(ib.1 (H.at hq)).eF (n:=0) (by omega)
 simp only [oper,hx,wP,hh,lS,qN,he,iM,asNat,if_pos (show (0:Int) ≤ j by omega)]
 rw [if_pos ⟨hs.symm,hu,by decide⟩,if_pos ⟨by omega,by omega⟩]
 simp only [pQ,Option.map_some]
 split <;> rfl
theorem FZ (H:Has B S l) (hq:l[q]? = some (aG w ys)) (hx:ρ x=some w) (hl:ρ lo=some (.d (.int k1 i))) (hh:ρ hi=some (.d (.int k2 j))) (hm:ρ mx=some (.d (.int k3 (ys.length:Int)))) (he:aZ C.P t=some el) (hu:(C.P.underlying el).isSome=true) (hs:aM C.P el=1) (hb:0 ≤ i∧i < j∧j ≤ ys.length) :
  oper C ρ S (.slice t x (some lo) (some hi) (some mx))=some (.val .any S):=by
 obtain ⟨id,g,lim,cs,rfl,h1,h2,h3,h4,h5⟩:=(ib.1 (H.at hq)).eF (n:=0) (by omega)
 simp only [oper,hx,wP,hl,hh,hm,lS,qN,he,iM,asNat,if_pos hb.1,if_pos (show (0:Int) ≤ j by omega),if_pos (show (0:Int) ≤ (ys.length:Int) by omega)]
 rw [if_pos ⟨hs.symm,hu,by decide⟩]
 show (Option.map _ (if _ then _ else _))=_
 rw [if_pos ⟨rfl,by omega,by omega,by simpa using h5⟩,if_neg (by omega)]
 rfl
theorem DL (H:Has B S l) (hq:l[q]? = some (aG w ys)) (hx:ρ x=some w) (hl:ρ lo=some (.d (.int k1 (ys.length:Int)))) (hh:ρ hi=some (.d (.int k2 j))) (he:aZ C.P t=some el) (hu:(C.P.underlying el).isSome=true) (hs:aM C.P el=1) (h0:0 ≤ j) (hb:FK w ys.length j.toNat) :
  oper C ρ S (.slice t x (some lo) (some hi) none)=some (.val (uM w ys.length j.toNat) S):=by
 obtain ⟨id,g,lim,rfl,h1,h2⟩:=hb
 simp only [oper,hx,wP,hl,hh,lS,qN,he,iM,asNat,if_pos h0,if_pos (show (0:Int) ≤ (ys.length:Int) by omega)]
 rw [if_pos ⟨hs.symm,hu,by decide⟩]
 simp only [Int.toNat_natCast]
 rw [if_pos ⟨by omega,h2⟩]
 simp only [uM,Option.map_some]
 split <;> rfl
end
section
variable {C:gV} {nt:Nat} {ops:Array Oper} {rest:List Oper} {e:Env} {S:St} {Q:Stp→Prop} {l:List bA} {t ty:Nat} {p:String} {af:Array Edge} {g:Option (Nat × Bool)} {x y:Operand} {w:AV} {ys r:List Int} {i j:Int}
theorem aj.KV {t1 u el:Nat} (H:Has B S (aG w ys :: l)) (hw:bC ops e { dst:=some t,op:=.call { callee:=.builtin .append,args:=#[x,y],argTypes:=#[t1,u] },type:=ty,pos:=p,after:=af,guard:=g }=some true)
  (hx:bB e x=some (ng w i.toNat)) (hy:bB e y=some (pQ w j.toNat)) (hu:jd C u=true) (he:aZ C.P t1=some el) (hs:aM C.P el=1) (hr:Gb ys i j=some r) (ht:Nat.blt t nt=true)
  (k:∀ S',Has B S' (aG (ng w r.length) r :: l)→FK (ng w r.length) r.length ys.length→aj R C nt ops rest ((t,ng w r.length) :: e) S' Q) :
  aj R C nt ops ({ dst:=some t,op:=.call { callee:=.builtin .append,args:=#[x,y],argTypes:=#[t1,u] },type:=ty,pos:=p,after:=af,guard:=g } :: rest) e S Q:=by
 unfold Gb at hr
 split at hr
 rotate_left 1
 ·
  cases hr
 rename_i hb
 cases hr
 obtain ⟨b0,b1,b2⟩:=hb
 obtain ⟨id,gg,lim,cs,rfl,h1,h2,h3,h4,h5⟩:=(ib.1 (H.ok _ List.mem_cons_self)).eF (n:=0) (by omega)
 have hlen:(ys.take i.toNat ++ ys.drop j.toNat).length=i.toNat + (ys.length - j.toNat):=by simp; omega
 have hlt:id < S.nx:=Has.lt H (jT.2 ⟨aG (.eF id gg 0 ys.length lim 1) ys,by simp,by simp [aG,bA.fp,aU]⟩)
 have hm:iF (bB e) [x,y]=some [.eF id gg 0 i.toNat lim 1,pQ (.eF id gg 0 ys.length lim 1) j.toNat]:=by simp only [iF,hx,hy,Option.map_some,ng]
 have hfact:FK (ng (.eF id gg 0 ys.length lim 1) (ys.take i.toNat ++ ys.drop j.toNat).length) (ys.take i.toNat ++ ys.drop j.toNat).length ys.length:=⟨id,gg,lim,rfl,by omega,h5⟩
 have hop:∃ S' cs',oper C (bB e) S (.call { callee:=.builtin .append,args:=#[x,y],argTypes:=#[t1,u] })=some (.val (.eF id gg 0 (i.toNat + (ys.length - j.toNat)) lim 1) S')∧S'.H.get id=some (.cells gg cs')∧(∀ j,j ≠ id→S'.H.get j=S.H.get j)∧S'.T=S.T∧S'.Wf∧S'.nx=S.nx∧cs'.length=lim∧cs'.take (i.toNat + (ys.length - j.toNat))=(ys.take i.toNat ++ ys.drop j.toNat).map jL:=by
  have htk:cs.take i.toNat=(ys.take i.toNat).map jL:=by
   rw [List.map_take,← h4,List.take_take,Nat.min_eq_left (by omega)]
  have hzero:∀ S2:St,S2.H.get id=some (.cells gg cs)→ys.length=j.toNat→cs.take (i.toNat + (ys.length - j.toNat))=(ys.take i.toNat ++ ys.drop j.toNat).map jL:=fun S2 _ hjl=>by
   rw [show i.toNat + (ys.length - j.toNat)=i.toNat by omega,htk,List.drop_of_length_le (by omega),List.append_nil]
  by_cases hj:j.toNat=lim
  ·
   have hjl:ys.length=j.toNat:=by omega
   refine ⟨S,cs,?_,h2,fun _ _=>rfl,rfl,H.wf,rfl,h3,hzero S h2 hjl⟩
   simp only [oper,hm,fB,List.getElem?_toArray,List.getElem?_cons_zero,List.getElem?_cons_succ,hu,if_true,he,pQ,if_pos hj]
   simp only [ji,jb,mV,jP,sizes,if_true,List.map_nil,List.flatten_nil,List.length_nil,St.look,h2,Nat.beq_refl,cond_true]
   rw [if_pos ⟨hs.symm,by decide,by omega⟩]
   rw [show i.toNat + (ys.length - j.toNat)=i.toNat by omega]
   rfl
  ·
   have hfrom:pQ (.eF id gg 0 ys.length lim 1) j.toNat=.eF id gg (0 + j.toNat * 1) (ys.length - j.toNat) (lim - j.toNat) 1:=by simp only [pQ,if_neg hj]
   rw [hfrom] at hm
   have hsrc:jb S 1 (.eF id gg (0 + j.toNat * 1) (ys.length - j.toNat) (lim - j.toNat) 1)=some ((cs.drop (0 + j.toNat * 1)).take ((ys.length - j.toNat) * 1),ys.length - j.toNat):=by
    simp only [jb,mV,St.look,h2,Nat.beq_refl,cond_true]
    rw [if_pos ⟨trivial,by decide,by omega⟩]
   by_cases hn:ys.length - j.toNat=0
   ·
    have hjl:ys.length=j.toNat:=by omega
    refine ⟨S,cs,?_,h2,fun _ _=>rfl,rfl,H.wf,rfl,h3,hzero S h2 hjl⟩
    simp only [oper,hm,fB,List.getElem?_toArray,List.getElem?_cons_zero,List.getElem?_cons_succ,hu,if_true,he]
    simp only [ji,hsrc,St.look,h2,Nat.beq_refl,cond_true]
    rw [if_pos ⟨hs.symm,by decide,by omega⟩,if_pos hn]
    rw [show i.toNat + (ys.length - j.toNat)=i.toNat by omega]
    rfl
   ·
    refine ⟨{ S with H:=S.H.set id (.cells gg (setAt cs i.toNat ((cs.drop j.toNat).take (ys.length - j.toNat)))) },setAt cs i.toNat ((cs.drop j.toNat).take (ys.length - j.toNat)),?_,by simp only [AL.aP,if_true],fun j hj=>by simp only [AL.aP]; rw [if_neg (Ne.symm hj)],rfl,wf_set H.wf hlt _,rfl,by rw [cO,h3],?_⟩
    ·
     simp only [oper,hm,fB,List.getElem?_toArray,List.getElem?_cons_zero,List.getElem?_cons_succ,hu,if_true,he]
     simp only [ji,hsrc,St.look,h2,Nat.beq_refl,cond_true]
     rw [if_pos ⟨hs.symm,by decide,by omega⟩,if_neg hn,if_pos (by omega)]
     simp only [Option.map_some,Nat.zero_add,Nat.mul_one]
     rw [show max lim (i.toNat + (ys.length - j.toNat))=lim by omega]
    ·
     have hsl:((cs.drop j.toNat).take (ys.length - j.toNat)).length=ys.length - j.toNat:=by simp; omega
     have hsplit:setAt cs i.toNat ((cs.drop j.toNat).take (ys.length - j.toNat))=cs.take i.toNat ++ (cs.drop j.toNat).take (ys.length - j.toNat) ++ cs.drop (i.toNat + (ys.length - j.toNat)):=by
      have e0:cs=cs.take i.toNat ++ (cs.drop i.toNat).take (ys.length - j.toNat) ++ cs.drop (i.toNat + (ys.length - j.toNat)):=by
       rw [List.append_assoc,← List.drop_drop,List.take_append_drop,List.take_append_drop]
      have hl1:(cs.take i.toNat).length=i.toNat:=by simp; omega
      have:=qA ((cs.drop j.toNat).take (ys.length - j.toNat)) (cs.take i.toNat) ((cs.drop i.toNat).take (ys.length - j.toNat)) (cs.drop (i.toNat + (ys.length - j.toNat))) (by rw [hsl]; simp; omega)
      rw [hl1,← e0] at this
      exact this
     rw [hsplit,List.take_append_of_le_length (by simp; omega),List.take_of_length_le (by simp; omega),htk]
     rw [List.map_append]
     congr 1
     rw [List.map_drop,← h4,List.drop_take]
 obtain ⟨S',cs',k1,k2,k3,k4,k5,k6,k7,k8⟩:=hop
 have hw2:ng (.eF id gg 0 ys.length lim 1) (ys.take i.toNat ++ ys.drop j.toNat).length=.eF id gg 0 (i.toNat + (ys.length - j.toNat)) lim 1:=by simp only [ng,hlen]
 refine aj.val hw (by rw [hw2]; exact k1) ht (k S' ?_ hfact)
 rw [hw2]
 refine Has.upd (l0:=[_]) (bs:=[_]) H k5 (by rw [k6]; exact Nat.le_refl _) (fun j hj hlt=>⟨k3 j (fun q=>?_),by rw [k4]⟩) (fun a ha=>?_) (by simp [jg,aG,bA.fp,aU]) (fun j hj=>.inl (by simpa [jg,aG,bA.fp,aU] using hj))
 ·
  subst q; exact hj (by simp [jg,aG,bA.fp,aU])
 ·
  simp only [List.mem_cons,List.not_mem_nil,or_false] at ha
  subst ha
  exact ib.2 ⟨rfl,rfl,hlen.symm,h1,cs',k2,k7,k8⟩
theorem aj.Hq {t1 el:Nat} {zd:D} {jj:Nat} (H:Has B S (aG w ys :: l)) (hw:bC ops e { dst:=none,op:=.call { callee:=.builtin .clear,args:=#[x],argTypes:=#[t1] },type:=ty,pos:=p,after:=af,guard:=g }=some true)
  (hx:bB e x=some (uM w ys.length jj)) (he:aZ C.P t1=some el) (hz:zeroOf C.P el=some zd) (hzl:zd.cells.length=1) (hb:FK w ys.length jj)
  (k:∀ S',Has B S' (aG w ys :: l)→aj R C nt ops rest e S' Q) :
  aj R C nt ops ({ dst:=none,op:=.call { callee:=.builtin .clear,args:=#[x],argTypes:=#[t1] },type:=ty,pos:=p,after:=af,guard:=g } :: rest) e S Q:=by
 obtain ⟨id,gg,lim,rfl,b1,b2⟩:=hb
 have hp:=ib.1 (H.ok _ List.mem_cons_self)
 obtain ⟨_,_,_,hlim,cs,hH,hcl,hct⟩:=hp
 have hlt:id < S.nx:=Has.lt H (jT.2 ⟨aG (.eF id gg 0 ys.length lim 1) ys,by simp,by simp [aG,bA.fp,aU]⟩)
 have hm:iF (bB e) [x]=some [uM (.eF id gg 0 ys.length lim 1) ys.length jj]:=by simp only [iF,hx,Option.map_some]
 by_cases hl:ys.length=lim
 ·
  refine aj.KX hw (v:=.tup []) (S':=S) ?_ (k S H)
  simp only [oper,hm,fB,List.getElem?_toArray,List.getElem?_cons_zero,he,uM,if_pos hl,uj]
 ·
  by_cases h0:jj - ys.length=0
  ·
   refine aj.KX hw (v:=.tup []) (S':=S) ?_ (k S H)
   simp only [oper,hm,fB,List.getElem?_toArray,List.getElem?_cons_zero,he,uM,if_neg hl,uj,if_pos h0]
  ·
   refine aj.KX hw (v:=.tup []) (S':={ S with H:=S.H.set id (.cells gg (setAt cs (0 + ys.length * 1) (((List.replicate (jj - ys.length) zd.cells).flatten).map .d))) }) ?_ (k _ ?_)
   ·
    simp only [oper,hm,fB,List.getElem?_toArray,List.getElem?_cons_zero,he,uM,if_neg hl,uj,if_neg h0,St.look,hH,Nat.beq_refl,cond_true,hz]
    rw [if_pos ⟨hzl,by decide,by omega⟩]
   ·
    refine Has.upd (l0:=[_]) (bs:=[_]) H (wf_set H.wf hlt _) (Nat.le_refl _) (fun j hj _=>⟨?_,rfl⟩) (fun a ha=>?_) (by simp [jg,aG,bA.fp,aU]) (fun j hj=>.inl (by simpa [jg,aG,bA.fp,aU] using hj))
    ·
     simp only [AL.aP]
     rw [if_neg (fun q=>hj (by subst q; simp [jg,aG,bA.fp,aU]))]
    ·
     simp only [List.mem_cons,List.not_mem_nil,or_false] at ha
     subst ha
     refine ib.2 ⟨rfl,rfl,rfl,hlim,_,by simp only [AL.aP,if_true]; rfl,by rw [cO,hcl],?_⟩
     rw [← hct]
     have hfl:((List.replicate (jj - ys.length) zd.cells).flatten.map AV.d).length=jj - ys.length:=by
      rw [List.length_map,List.length_flatten,List.map_replicate,List.sum_replicate_nat,hzl,Nat.mul_one]
     apply List.ext_getElem?
     intro m
     by_cases hmm:m < ys.length
     ·
      rw [List.getElem?_take_of_lt hmm,List.getElem?_take_of_lt hmm,eU _ _ _ _ (by rw [hfl]; omega),if_neg (by omega)]
     ·
      rw [List.getElem?_take_eq_none (by omega),List.getElem?_take_eq_none (by omega)]
end
end
end Go.Ev

namespace Go.Ev
noncomputable section
set_option linter.unusedVariables false
set_option linter.unusedSimpArgs false
variable {R:bU} {P:Program} {B:St}
section
variable {α:Type} {enc:α→D} {kid:α→List Int} {sz k:Nat} {v:AV} {wss:List (List AV)} {xs:List α} {hole:Option Nat} {z:α} {n:Int} {S:St}
variable {C:gV} {ρ:Operand→Option AV} {l:List bA} {x y:Operand} {t ty q off:Nat}
theorem xN (H:Has B S l) (hi:l[q]? = some (aA enc kid sz k v wss xs hole)) (hz:idx xs n=some z) (off:Nat):∃ id g o,dh v n.toNat off=.ptr id g o:=by
 obtain ⟨id,g,ws,a,b,h1,h2,rfl,h4,_⟩:=(gQ.1 (H.at hi)).ptr hz off
 exact ⟨_,_,_,rfl⟩
theorem bL (H:Has B S l) (hi:l[q]? = some (aA enc kid sz k v wss xs hole)) (hz:idx xs n=some z) (h:ρ x=some (dh v n.toNat off)):oper C ρ S (.nilCheck x)=some (.val (dh v n.toNat off) S):=by
 obtain ⟨id,g,o,e⟩:=xN H hi hz off
 rw [e] at h ⊢
 exact bF h
theorem kW (H:Has B S l) (hi:l[q]? = some (aA enc kid sz k v wss xs hole)) (hz:idx xs n=some z) (h:ρ x=some (dh v n.toNat off)) (hy:ρ y=some (.d .nilp)) {e:Nat} (hu:C.P.underlying t=some (.pointer e)):oper C ρ S (.binOp .eql t x y ty)=some (.val (.d (.bool false)) S):=by
 obtain ⟨id,g,o,e⟩:=xN H hi hz off
 rw [e] at h
 exact aH h hy (Cr hu)
end
section
variable {C:gV} {nt:Nat} {ops:Array Oper} {rest:List Oper} {e:Env} {S:St} {Q:Stp→Prop} {l:List bA} {t ty:Nat} {p:String} {af:Array Edge} {g:Option (Nat × Bool)} {x y:Operand} {w:AV} {ys r:List Int}
theorem aj.Hz {tt ty2 el:Nat} (H:Has B S (aG w ys :: l)) (hw:bC ops e { dst:=some t,op:=.binOp .eql tt x y ty2,type:=ty,pos:=p,after:=af,guard:=g }=some true) (hx:bB e x=some w) (hy:bB e y=some (.d .aO)) (hu:C.P.underlying tt=some (.slice el)) (ht:Nat.blt t nt=true)
  (k:∀ b:Bool,(b=true→ys=[])→(b=false→w ≠ .d .aO)→aj R C nt ops rest ((t,.d (.bool b)) :: e) S Q) :
  aj R C nt ops ({ dst:=some t,op:=.binOp .eql tt x y ty2,type:=ty,pos:=p,after:=af,guard:=g } :: rest) e S Q:=by
 have hp:=ib.1 (H.ok _ List.mem_cons_self)
 unfold jA at hp
 split at hp
 ·
  refine aj.val hw (aH hx hy (r:=.bool true) ?_) ht (k true (fun _=>hp) (fun h=>by cases h))
  simp [kC,AV.eqv,lN,hu]
 ·
  refine aj.val hw (aH hx hy (r:=.bool false) ?_) ht (k false (fun h=>by cases h) (fun _=>by simp))
  simp [kC,AV.eqv,hu]
 ·
  exact hp.elim
theorem KG:∀ (r:List Int),(((r.map (D.int .i64)).map D.cells).flatten.map AV.d)=r.map jL
 | []=>rfl
 | a :: l=>by simp only [List.map_cons,List.flatten_cons,List.map_append,KG l]; rfl
theorem aj.Jm {t1 u el nb:Nat} (H:Has B S (aG w ys :: l)) (hw:bC ops e { dst:=some t,op:=.call { callee:=.builtin .append,args:=#[x,y],argTypes:=#[t1,u] },type:=ty,pos:=p,after:=af,guard:=g }=some true)
  (hne:w ≠ .d .aO) (hx:bB e x=some (.d (.sl [] true))) (hy:bB e y=some w) (hnr:C.rowT t1=true) (hu:jd C u=true) (he:aZ C.P t1=some el) (hs:aM C.P el=1) (hr:Ev.app nb [] ys=some r) (hnb:bytesOf C.P el=nb) (h0:(Nat.blt 0 nb && Nat.ble nb 65536)=true) (hz:fu C el=true) (ht:Nat.blt t nt=true)
  (k:∀ v S',Has B S' (.row 1 v (r.map (D.int .i64)) :: aG w ys :: l)→aj R C nt ops rest ((t,v) :: e) S' Q) :
  aj R C nt ops ({ dst:=some t,op:=.call { callee:=.builtin .append,args:=#[x,y],argTypes:=#[t1,u] },type:=ty,pos:=p,after:=af,guard:=g } :: rest) e S Q:=by
 obtain ⟨hb,hr'⟩:=mq hr
 rw [List.nil_append] at hr'
 subst hr'
 have hp:=ib.1 (H.ok _ List.mem_cons_self)
 have hm:iF (bB e) [x,y]=some [.d (.sl [] true),w]:=by simp only [iF,hx,hy,Option.map_some]
 have hinfo:(C.P.info? el).isSome=true:=by
  unfold fu at hz
  cases hq:C.P.info? el with
  | none=>rw [hq] at hz; cases hz
  | some x=>rfl
 have hg:nP C el (0 + r.length)=true:=tT (by simpa using hb) hnb h0 hz
 unfold jA at hp
 split at hp
 ·
  exact (hne rfl).elim
 ·
  rename_i id gg off len lim sz'
  obtain ⟨rfl,rfl,rfl,hlim,cs,hH,hcl,hct⟩:=hp
  have hle:r.length ≤ cs.length:=by have:=congrArg List.length hct; simp at this; omega
  have hsrc:jb S 1 (.eF id gg 0 r.length lim 1)=some (cs.take r.length,r.length):=by
   simp only [jb,mV,St.look,hH,Nat.beq_refl,cond_true]
   rw [if_pos ⟨trivial,by decide,by omega⟩,List.drop_zero,Nat.mul_one]
  by_cases hn:r.length=0
  ·
   have hr0:r=[]:=List.eq_nil_of_length_eq_zero hn
   refine aj.val hw (v:=.d (.sl [] true)) (S':=S) ?_ ht (k _ _ (by subst hr0; exact H.Iu 1))
   simp only [oper,hm,fB,List.getElem?_toArray,List.getElem?_cons_zero,List.getElem?_cons_succ,hu,if_true,he,hnr,cond_true,gq,hs,hsrc]
   rw [if_pos hn,if_pos hinfo]
   rfl
  ·
   refine aj.val hw (v:=.eF S.nx 0 0 r.length r.length 1) (S':=bW S (.cells 0 (r.map jL))) ?_ ht (k _ _ (H.new (.cells 0 (r.map jL)) (a:=.row 1 (.eF S.nx 0 0 r.length r.length 1) (r.map (D.int .i64))) rfl ⟨rfl,by simp,by simp,rfl,by decide,fun z hz=>?_,r.map jL,?_,by simp only [bW,AL.aP,if_true]⟩))
   ·
    simp only [oper,hm,fB,List.getElem?_toArray,List.getElem?_cons_zero,List.getElem?_cons_succ,hu,if_true,he,hnr,cond_true,gq,hs,hsrc]
    rw [if_neg hn,if_pos ⟨hn,by decide,rfl,by simpa using hg⟩,hct]
    simp [bW]
   ·
    obtain ⟨n,hn,rfl⟩:=List.mem_map.1 hz
    exact ⟨rfl,rfl⟩
   ·
    rw [KG]; exact .refl _
 ·
  exact hp.elim
end
end
end Go.Ev
namespace Go.Ev
theorem EI {ys r:List Int} {i j:Int} (h:Gb ys i j=some r):0 ≤ i∧i < j∧j ≤ ys.length:=by
 unfold Gb at h
 split at h
 ·
  assumption
 ·
  cases h
theorem zN {B S:St} {α:Type} {enc:α→D} {kid:α→List Int} {sz k:Nat} {v:AV} {wss:List (List AV)} {xs:List α} {hole:Option Nat} {l:List bA} {i:Nat} (H:Has B S l) (hi:l[i]? = some (aA enc kid sz k v wss xs hole)):v.plain=true∧v.cells=[v]:=by
 have h:=(gQ.1 (H.at hi)).2.2.2
 revert h
 split
 ·
  exact fun _=>⟨rfl,rfl⟩
 ·
  exact fun _=>⟨rfl,rfl⟩
 ·
  exact fun q=>q.elim
end Go.Ev
namespace Go.Ev
theorem nk {B S:St} {C:gV} {fn:Func} {e:Env} {l:List bA} (H:Has B S l) {a t i id u:Nat} {cs:List AV} {v y:AV} (hf:fn.results = #[.cell a t,.tmp u]) (ha:AL.get e a=some (.ptr id 0 0)) (hi:l[i]? = some (.box id cs)) (hp:part C.P t cs 0=some v) (hu:AL.get e u=some y):ni C fn e S=some (.tup [v,y]):=by
 have hb:S.H.get id=some (.cells 0 cs):=H.at hi
 simp only [ni,hf,iF,za,ha,mr,St.look,hb,Nat.beq_refl,cond_true,hp,hu,Option.map_some]
theorem Less.Mo {a a' b b':AV} (h:Less a a') (k:Less b b'):Less (.tup [a,b]) (.tup [a',b']):=fun cx S w v hr=>by
 cases hr with
 | tup _ vs hl hh =>
  refine .tup _ vs hl (fun i x u hx hu=>?_)
  match i with
  | 0=>simp at hx; subst hx; exact h _ _ _ _ (hh 0 _ u rfl hu)
  | 1=>simp at hx; subst hx; exact k _ _ _ _ (hh 1 _ u rfl hu)
  | n + 2=>simp at hx
end Go.Ev
namespace Go.Ev
end Go.Ev

namespace Go.Ev
noncomputable section
set_option linter.unusedVariables false
set_option linter.unusedSimpArgs false
set_option linter.unusedSectionVars false
variable {R:bU} {P:Program} {B:St}
section
variable {κ:Type} [BEq κ] [LawfulBEq κ]
def Ee (ek:κ→D):Nat→List (κ × List Int)→List AV→List (D × AV × Nat)
 | i,(k,_) :: l,w :: ws=>(ek k,w,i) :: Ee ek (i + 1) l ws
 | _,_,_=>[]
def xg (w:AV) (ys:List Int) (S:St):Prop:=match w with
 | .d .aO=>ys=[]
 | .d (.sl [] _)=>ys=[]
 | .eF id g off len lim sz=>sz=1∧len=ys.length∧len ≤ lim∧∃ cs,S.H.get id=some (.cells g cs)∧(cs.drop off).take len=ys.map jL
 | _=>False
theorem jA.rd {w:AV} {ys:List Int} {S:St} (h:jA w ys S):xg w ys S:=by
 unfold jA at h
 split at h
 ·
  exact h
 ·
  obtain ⟨rfl,rfl,rfl,h4,cs,h5,h6,h7⟩:=h
  exact ⟨rfl,rfl,by have:=congrArg List.length h7; simp at this; omega,cs,h5,by simpa using h7⟩
 ·
  exact h.elim
theorem xg.keep {w:AV} {ys:List Int} {S S':St} (h:xg w ys S) (k:∀ id ∈ aU w,S'.H.get id=S.H.get id):xg w ys S':=by
 unfold xg at *
 split at h
 ·
  exact h
 ·
  exact h
 ·
  obtain ⟨h1,h2,h3,cs,h4,h5⟩:=h
  exact ⟨h1,h2,h3,cs,by rw [k _ (by simp [aU])]; exact h4,h5⟩
 ·
  exact h.elim
theorem xg.live {w:AV} {ys:List Int} {S:St} (h:xg w ys S):∀ id ∈ aU w,∃ b,S.H.get id=some b:=by
 unfold xg at h
 split at h
 ·
  intro id hid; simp [aU] at hid
 ·
  intro id hid; simp [aU] at hid
 ·
  obtain ⟨h1,h2,h3,cs,h4,h5⟩:=h
  intro id hid
  simp only [aU,List.mem_singleton] at hid
  subst hid; exact ⟨_,h4⟩
 ·
  exact h.elim
theorem xg.plain {w:AV} {ys:List Int} {S:St} (h:xg w ys S):w.plain=true:=by
 unfold xg at h
 split at h <;> first | rfl | exact h.elim
def vP (gr:Bool) (w:AV) (ys:List Int) (S:St):Prop:=if gr=true then jA w ys S else xg w ys S
theorem vP.rd {gr:Bool} {w:AV} {ys:List Int} {S:St} (h:vP gr w ys S):xg w ys S:=by
 unfold vP at h; split at h
 ·
  exact h.rd
 ·
  exact h
theorem vP.keep {gr:Bool} {w:AV} {ys:List Int} {S S':St} (h:vP gr w ys S) (k:∀ id ∈ aU w,S'.H.get id=S.H.get id):vP gr w ys S':=by
 unfold vP at *; split at h
 ·
  rename_i e; rw [if_pos e]; exact h.keep k
 ·
  rename_i e; rw [if_neg e]; exact h.keep k
def jM (hole:Option Nat) (ws:List AV):List Nat:=bP 0 hole (ws.map ([·]))
theorem oD {hole:Option Nat} {ws:List AV} {id:Nat}:id ∈ jM hole ws↔∃ i w,ws[i]? = some w∧hole ≠ some i∧id ∈ aU w:=by
 unfold jM
 rw [jN]
 constructor
 ·
  rintro ⟨i,q,h1,h2,h3⟩
  rw [List.getElem?_map,Option.map_eq_some_iff] at h1
  obtain ⟨w,h4,rfl⟩:=h1
  exact ⟨i,w,h4,h2,h3⟩
 ·
  rintro ⟨i,w,h1,h2,h3⟩
  exact ⟨i,[w],by rw [List.getElem?_map,h1]; rfl,h2,h3⟩
theorem rA {ws:List AV} {n:Nat} {w:AV} (h:ws[n]? = some w):(jM none ws).Perm (aU w ++ jM (some n) ws) :=
 lK (k:=0) (wss:=ws.map ([·])) (n:=n) (ws:=[w]) (by rw [List.getElem?_map,h]; rfl)
theorem Gm {ws:List AV} {n:Nat} {w:AV}:jM (some n) (ws.set n w)=jM (some n) ws:=by
 unfold jM; rw [List.map_set,uW]
theorem GM (ws:List AV) (w:AV):jM none (ws ++ [w])=jM none ws ++ aU w:=by
 unfold jM; rw [List.map_append]; exact uQ [w] _
def Kz (ek:κ→D) (b:Nat) (kvs:List (κ × List Int)) (ws:List AV) (gr:Bool) (hole:Option Nat) (S:St):Prop :=
 ws.length=kvs.length∧S.H.get b=some (.map { es:=Ee ek 0 kvs ws,clk:=kvs.length })∧∀ (i:Nat) (x:κ × List Int) (w:AV),kvs[i]? = some x→ws[i]? = some w→hole ≠ some i→vP gr w x.2 S
def dQ (ek:κ→D) (b:Nat) (kvs:List (κ × List Int)) (ws:List AV) (gr:Bool) (hole:Option Nat):bA:=.abs (b :: jM hole ws) (Kz ek b kvs ws gr hole)
variable {ek:κ→D} {b:Nat} {kvs:List (κ × List Int)} {ws:List AV} {gr:Bool} {hole:Option Nat} {S S':St}
theorem mo:(dQ ek b kvs ws gr hole).ok S↔Kz ek b kvs ws gr hole S:=by
 constructor
 ·
  exact fun h=>h.2 S (fun _ _=>rfl)
 ·
  intro h
  obtain ⟨h1,h2,h3⟩:=id h
  refine ⟨fun id hid=>?_,fun S' e=>⟨h1,by rw [e b List.mem_cons_self]; exact h2,fun i x w hx hw hn=>(h3 i x w hx hw hn).keep (fun id hid=>e id (List.mem_cons_of_mem _ (oD.2 ⟨i,w,hw,hn,hid⟩)))⟩⟩
  rcases List.mem_cons.1 hid with rfl | hid
  ·
   exact ⟨_,h2⟩
  ·
   obtain ⟨i,w,hw,hn,hq⟩:=oD.1 hid
   have hi:i < kvs.length:=by rw [← h1]; exact (List.getElem?_eq_some_iff.1 hw).1
   exact (h3 i _ w (List.getElem?_eq_getElem hi) hw hn).rd.live id hq
theorem qV:jg [dQ ek b kvs ws gr hole]=b :: jM hole ws:=by simp [jg,dQ,bA.fp]
def mw (kvs:List (κ × List Int)) (ws:List AV) (k:κ):AV:=match gZ k kvs 0 with
 | some (i,_)=>ws.getD i .any
 | none=>.d .aO
def yo (kvs:List (κ × List Int)) (k:κ):Option Nat:=(gZ k kvs 0).map (·.1)
theorem zB {P:Program} {t:Nat} (K:rO P t ek) (k:κ):∀ (m:List (κ × List Int)) (ws:List AV) (i j:Nat),ws.length=m.length→kY P t (ek k) (Ee ek i m ws) j=some ((gZ k m j).map fun r=>(r.1,ws.getD (r.1 - j) .any))
 | [],[],i,j,_=>rfl
 | (a,b) :: l,w :: ws,i,j,h=>by
  simp only [Ee,kY,K.eq,gZ]
  cases hb:k == a with
  | true =>
   have:=eq_of_beq hb
   subst this
   simp [K.same]
  | false =>
   simp only [zB K k l ws (i + 1) (j + 1) (by simpa using h)]
   cases hf:gZ k l (j + 1) with
   | none=>rfl
   | some r =>
    have:=(qK k l (j + 1) r.1 r.2 hf).1
    simp only [Option.map_some,Bool.false_eq_true,if_false,Option.some.injEq,Prod.mk.injEq,true_and]
    rw [show r.1 - j=(r.1 - (j + 1)) + 1 by omega]; rfl
theorem wR (k:κ):∀ (m:List (κ × List Int)) (i j:Nat) (v:List Int),gZ k m i=some (j,v)→m[j - i]? = some (k,v)
 | [],i,j,v,h=>by simp [gZ] at h
 | (a,b) :: l,i,j,v,h=>by
  simp only [gZ] at h
  split at h
  ·
   rename_i e
   have:=eq_of_beq e; subst this
   simp only [Option.some.injEq,Prod.mk.injEq] at h; obtain ⟨rfl,rfl⟩:=h; simp
  ·
   have h1:=wR k l (i + 1) j v h
   have:=(qK k l (i + 1) j v h).1
   rw [show j - i=(j - (i + 1)) + 1 by omega]; simpa using h1
section
variable {C:gV} {ρ:Operand→Option AV} {l:List bA} {x y:Operand} {t1 kt et q:Nat} {k:κ}
theorem rD (H:Has B S l) (hi:l[q]? = some (dQ ek b kvs ws gr hole)) (hm:ρ x=some (.map b)) (hky:ρ y=some (.d (ek k))) (hk:ql C t1=some (kt,et)) (K:rO C.P kt ek) (hz:zeroOf C.P et=some .aO) :
  oper C ρ S (.lookup t1 x y false)=some (.val (mw kvs ws k) S):=by
 obtain ⟨h1,h2,h3⟩:=mo.1 (H.at hi)
 have:oH C t1 S (.map b) (ek k) false=some (mw kvs ws k):=by
  simp only [oH,hk,mapOf,h2,K.ok,if_true,zB K k kvs ws 0 0 h1]
  unfold mw
  cases gZ k kvs 0 with
  | none=>simp [hz]
  | some r=>simp
 simp only [oper,hm,hky,this,Option.map_some]
theorem Has.MS {m:wF} (hm:m = { es:=[],clk:=0 }) (H:Has B S (.map b m :: l)):Has B S (dQ ek b [] [] true none :: l):=by
 subst hm
 refine Has.qQ (l0:=[_]) (bs:=[_]) H (fun a ha=>?_) (by simp [jg,dQ,bA.fp,jM,bP]) (fun id hid=>by simpa [jg,dQ,bA.fp,jM,bP] using hid)
 simp only [List.mem_cons,List.not_mem_nil,or_false] at ha
 subst ha
 exact mo.2 ⟨rfl,H.ok _ List.mem_cons_self,fun i x w h=>by simp at h⟩
theorem Has.LX (H:Has B S (dQ ek b kvs ws true none :: l)):Has B S (dQ ek b kvs ws false none :: l):=by
 refine Has.qQ (l0:=[_]) (bs:=[_]) H (fun a ha=>?_) (by have:=Has.nd0 (l0:=[_]) H; rwa [qV] at this ⊢) (fun id hid=>by rw [qV] at hid ⊢; exact hid)
 simp only [List.mem_cons,List.not_mem_nil,or_false] at ha
 subst ha
 obtain ⟨h1,h2,h3⟩:=mo.1 (H.ok _ List.mem_cons_self)
 exact mo.2 ⟨h1,h2,fun i x w hx hw hn=>(h3 i x w hx hw hn).rd⟩
theorem Has.Ml (H:Has B S (dQ ek b kvs ws true none :: l)) (k:κ):Has B S (aG (mw kvs ws k) (jr kvs k []) :: dQ ek b kvs ws true (yo kvs k) :: l):=by
 obtain ⟨h1,h2,h3⟩:=mo.1 (H.ok _ List.mem_cons_self)
 unfold mw jr Cu yo
 cases hf:gZ k kvs 0 with
 | none=>exact H.HY
 | some r =>
  obtain ⟨i,v⟩:=r
  have hg:=wR k kvs 0 i v hf
  rw [Nat.sub_zero] at hg
  have hi:i < ws.length:=by rw [h1]; exact (List.getElem?_eq_some_iff.1 hg).1
  have hw:=List.getElem?_eq_getElem hi
  have hwd:ws.getD i .any=ws[i]:=by rw [List.getD_eq_getElem?_getD,hw]; rfl
  have hv:=h3 i _ _ hg hw (by simp)
  simp only [Option.map_some,Option.getD_some]
  rw [hwd]
  have hnd:=Has.nd0 (l0:=[_]) H
  rw [qV] at hnd
  have hperm:=rA hw
  have e:jg [aG ws[i] v,dQ ek b kvs ws true (some i)]=aU ws[i] ++ (b :: jM (some i) ws):=by simp [jg,aG,dQ,bA.fp]
  have hp2:(aU ws[i] ++ (b :: jM (some i) ws)).Perm (b :: jM none ws):=List.perm_middle.trans (List.Perm.cons _ hperm.symm)
  refine Has.qQ (l0:=[_]) (bs:=[_,_]) H (fun a ha=>?_) (by rw [e]; exact hp2.nodup_iff.2 hnd) (fun id hid=>by rw [qV]; rw [e] at hid; exact hp2.mem_iff.1 hid)
  simp only [List.mem_cons,List.not_mem_nil,or_false] at ha
  rcases ha with rfl | rfl
  ·
   exact ib.2 hv
  ·
   exact mo.2 ⟨h1,h2,fun j x w hx hw' _=>h3 j x w hx hw' (by simp)⟩
def qz (kvs:List (κ × List Int)) (ws:List AV) (k:κ) (w:AV):List AV:=match gZ k kvs 0 with
 | some (i,_)=>ws.set i w
 | none=>ws ++ [w]
theorem FB:∀ (m:List (κ × List Int)) (ws:List AV) (i j:Nat) (k:κ) (v:List Int) (w:AV),ws.length=m.length→(Ee ek i m ws).modify j (fun p=>(ek k,w,p.2.2))=Ee ek i (m.set j (k,v)) (ws.set j w)
 | [],[],i,j,k,v,w,h=>by simp [Ee]
 | (a,c) :: l,u :: ws,i,0,k,v,w,h=>by simp [Ee]
 | (a,c) :: l,u :: ws,i,j + 1,k,v,w,h=>by
  have:=FB l ws (i + 1) j k v w (by simpa using h)
  simp only [Ee,List.set_cons_succ,List.modify_succ_cons,this]
theorem FV:∀ (m:List (κ × List Int)) (ws:List AV) (i:Nat) (k:κ) (v:List Int) (w:AV),ws.length=m.length→Ee ek i m ws ++ [(ek k,w,i + m.length)]=Ee ek i (m ++ [(k,v)]) (ws ++ [w])
 | [],[],i,k,v,w,h=>rfl
 | (a,c) :: l,u :: ws,i,k,v,w,h=>by
  have:=FV l ws (i + 1) k v w (by simpa using h)
  simp only [Ee,List.cons_append,List.length_cons]
  rw [show i + (l.length + 1)=i + 1 + l.length by omega,this]
theorem DN (K:rO C.P kt ek) (hk:ql C t1=some (kt,et)) (h1:ws.length=kvs.length) (h2:S.H.get b=some (.map { es:=Ee ek 0 kvs ws,clk:=kvs.length })) {w:AV} (hp:w.plain=true) (v:List Int) :
  pJ C t1 S (.map b) (ek k) w=some { S with H:=S.H.set b (.map { es:=Ee ek 0 (kM kvs k v) (qz kvs ws k w),clk:=(kM kvs k v).length }) }:=by
 simp only [pJ,hk,h2,K.ok,hp,Bool.and_self,if_true,zB K k kvs ws 0 0 h1]
 unfold kM qz
 cases hf:gZ k kvs 0 with
 | none =>
  have:=FV (ek:=ek) kvs ws 0 k v w h1
  rw [Nat.zero_add] at this
  simp [this]
 | some r=>simp [FB (ek:=ek) kvs ws 0 r.1 k v w h1]
theorem F8 (h1:ws.length=kvs.length) (v:List Int) (w:AV):(qz kvs ws k w).length=(kM kvs k v).length:=by
 unfold qz kM
 cases gZ k kvs 0 with
 | none=>simp [h1]
 | some r=>simp [h1]
end
end
end
end Go.Ev

namespace Go.Ev
noncomputable section
set_option linter.unusedVariables false
set_option linter.unusedSimpArgs false
set_option linter.unusedSectionVars false
variable {R:bU} {P:Program} {B:St}
section
variable {κ:Type} [BEq κ] [LawfulBEq κ] {ek:κ→D} {b:Nat} {kvs:List (κ × List Int)} {ws:List AV} {gr:Bool} {hole:Option Nat} {S S':St} {k:κ}
theorem Iw {v:List Int}:∀ {i:Nat} {x:κ × List Int} {w u:AV},(kM kvs k v)[i]? = some x→(qz kvs ws k u)[i]? = some w→ws.length=kvs.length →
  (w=u∧x.2=v∧(yo kvs k=some i∨yo kvs k=none∧i=kvs.length))∨(kvs[i]? = some x∧ws[i]? = some w∧yo kvs k ≠ some i):=by
 intro i x w u hx hw h1
 unfold kM at hx
 unfold qz at hw
 unfold yo
 cases hf:gZ k kvs 0 with
 | none =>
  rw [hf] at hx hw
  simp only at hx hw
  by_cases hi:i < kvs.length
  ·
   rw [List.getElem?_append_left hi] at hx
   rw [List.getElem?_append_left (by omega)] at hw
   exact .inr ⟨hx,hw,by simp⟩
  ·
   have hi':i=kvs.length:=by
    have:=(List.getElem?_eq_some_iff.1 hx).1
    simp at this; omega
   subst hi'
   rw [List.getElem?_append_right (Nat.le_refl _)] at hx
   rw [← h1,List.getElem?_append_right (Nat.le_refl _)] at hw
   simp at hx hw
   subst hx; subst hw
   exact .inl ⟨rfl,rfl,.inr ⟨rfl,rfl⟩⟩
 | some r =>
  rw [hf] at hx hw
  simp only at hx hw
  by_cases hi:r.1=i
  ·
   subst hi
   have hlt:r.1 < kvs.length:=by have:=(List.getElem?_eq_some_iff.1 hx).1; simpa using this
   rw [List.getElem?_set_self hlt] at hx
   rw [List.getElem?_set_self (by omega)] at hw
   cases hx; cases hw
   exact .inl ⟨rfl,rfl,.inl rfl⟩
  ·
   rw [List.getElem?_set_ne hi] at hx hw
   exact .inr ⟨hx,hw,by simp [hi]⟩
theorem Dv {u:AV} (h1:ws.length=kvs.length):(jM none (qz kvs ws k u)).Perm (aU u ++ jM (yo kvs k) ws):=by
 unfold qz yo
 cases hf:gZ k kvs 0 with
 | none=>simp only [Option.map_none]; rw [GM]; exact List.perm_append_comm
 | some r =>
  simp only [Option.map_some]
  have hg:=(qK k kvs 0 r.1 r.2 hf).2
  have:=rA (ws:=ws.set r.1 u) (n:=r.1) (w:=u) (by rw [List.getElem?_set_self (by omega)])
  rwa [Gm] at this
section
variable {C:gV} {ρ:Operand→Option AV} {l:List bA} {x y:Operand} {t1 kt et q el:Nat} {n:Int} {kk:IntKind}
theorem zg (H:Has B S l) (hi:l[q]? = some (dQ ek b kvs ws gr none)) (k:κ):xg (mw kvs ws k) (jr kvs k []) S:=by
 obtain ⟨h1,h2,h3⟩:=mo.1 (H.at hi)
 unfold mw jr Cu
 cases hf:gZ k kvs 0 with
 | none=>exact (rfl:xg (.d .aO) [] S)
 | some r =>
  obtain ⟨i,v⟩:=r
  have hg:=wR k kvs 0 i v hf
  rw [Nat.sub_zero] at hg
  have hlt:i < ws.length:=by rw [h1]; exact (List.getElem?_eq_some_iff.1 hg).1
  have hw:=List.getElem?_eq_getElem hlt
  have hwd:ws.getD i .any=ws[i]:=by rw [List.getD_eq_getElem?_getD,hw]; rfl
  simp only [Option.map_some,Option.getD_some]
  rw [hwd]
  exact (h3 i _ _ hg hw (by simp)).rd
variable {w:AV} {ys:List Int}
theorem Ew (h:xg w ys S) (hx:ρ x=some w) (ht:(aZ C.P t1).isSome=true):oper C ρ S (.call { callee:=.builtin .len,args:=#[x],argTypes:=#[t1] })=some (.val (.d (.int .i64 (ys.length:Int))) S):=by
 have hu:∃ e,C.P.underlying t1=some (.slice e):=by
  unfold aZ at ht
  split at ht
  ·
   rename_i hu; exact ⟨_,hu⟩
  ·
   cases ht
 obtain ⟨e,hu⟩:=hu
 unfold xg at h
 split at h
 ·
  subst h; exact mf hx (by simp [lG,hu]) rfl
 ·
  subst h; exact mf hx (by simp [lG,hu]) rfl
 ·
  obtain ⟨_,h2,_⟩:=h; subst h2; exact mf hx (by simp [lG,hu]) rfl
 ·
  exact h.elim
def Ie (w:AV) (n:Nat):AV:=match w with
 | .eF id g off _ _ sz=>.ptr id g (off + n * sz)
 | _=>.any
theorem EB (h:xg w ys S) {z:Int} (hz:idx ys n=some z) (hx:ρ x=some w) (hy:ρ y=some (.d (.int kk n))) (he:aZ C.P t1=some el) (ha:(eD C.P el).isSome=true) (hs:aM C.P el=1):oper C ρ S (.indexAddr t1 x y)=some (.val (Ie w n.toNat) S):=by
 obtain ⟨h0,h1⟩:=dN hz
 unfold xg at h
 split at h
 ·
  subst h; simp at h1
 ·
  subst h; simp at h1
 ·
  obtain ⟨rfl,rfl,h3,cs,h4,h5⟩:=h
  refine bX hx hy ?_
  simp only [fZ,he,h0,ha,decide_true,Bool.and_self,if_true]
  rw [if_pos ⟨(List.getElem?_eq_some_iff.1 h1).1,hs.symm⟩,hs]
  rfl
 ·
  exact h.elim
theorem Dy (h:xg w ys S) {z:Int} (hz:idx ys n=some z) (hx:ρ x=some (Ie w n.toNat)) (ha:eD C.P t1=some false):oper C ρ S (.load t1 x)=some (.val (.d (.int .i64 z)) S):=by
 obtain ⟨h0,h1⟩:=dN hz
 unfold xg at h
 split at h
 ·
  subst h; simp at h1
 ·
  subst h; simp at h1
 ·
  rename_i id g off len lim sz
  obtain ⟨rfl,rfl,h3,cs,h4,h5⟩:=h
  have hlt:=(List.getElem?_eq_some_iff.1 h1).1
  have hc:cs[off + n.toNat]? = some (jL z):=by
   have:((cs.drop off).take ys.length)[n.toNat]? = some (jL z):=by rw [h5,List.getElem?_map,h1]; rfl
   rw [List.getElem?_take_of_lt hlt,List.getElem?_drop] at this
   exact this
  have:part C.P t1 cs (off + n.toNat * 1)=some (jL z):=by
   unfold part; rw [ha,Nat.mul_one]; exact hc
  simp only [Ie] at hx
  simp only [oper,hx,mr,St.look,h4,Nat.beq_refl,cond_true,this,Option.map_some]
  rfl
 ·
  exact h.elim
def rq (w:AV) (j:Nat):AV:=match w with
 | .eF id g off len lim sz=>if j=lim then .d (.sl [] false) else .eF id g (off + j * sz) (len - j) (lim - j) sz
 | x=>x
theorem Ej (w:AV) (j:Nat):∀ id ∈ aU (rq w j),id ∈ aU w:=by
 unfold rq
 split
 ·
  split
  ·
   intro id h; simp [aU] at h
  ·
   intro id h; simpa [aU] using h
 ·
  exact fun _ h=>h
theorem GI {j:Int} {r:List Int} (h:xg w ys S) (hc:cut ys j (ys.length:Int)=some r) (hj:0 < ys.length):xg (rq w j.toNat) r S:=by
 obtain ⟨⟨h0,h1,_⟩,rfl⟩:=sj hc
 unfold xg at h
 split at h
 ·
  subst h; simp at hj
 ·
  subst h; simp at hj
 ·
  rename_i id g off len lim sz
  obtain ⟨rfl,rfl,h3,cs,h4,h5⟩:=h
  unfold rq
  simp only
  split
  ·
   rename_i e
   show ((ys.take ((ys.length:Int)).toNat).drop j.toNat)=[]
   rw [Int.toNat_natCast,List.take_length]
   exact List.drop_of_length_le (by omega)
  ·
   refine ⟨rfl,by simp,by simp; omega,cs,h4,?_⟩
   rw [Int.toNat_natCast,List.take_length,List.map_drop,← h5,List.drop_take,List.drop_drop]
   simp
 ·
  exact h.elim
theorem Dl {j:Int} {r:List Int} {lo:Operand} (h:xg w ys S) (hc:cut ys j (ys.length:Int)=some r) (hj:0 < ys.length) (hx:ρ x=some w) (hl:ρ lo=some (.d (.int kk j))) (he:aZ C.P t1=some el) (hu:(C.P.underlying el).isSome=true) (hs:aM C.P el=1) :
  oper C ρ S (.slice t1 x (some lo) none none)=some (.val (rq w j.toNat) S):=by
 obtain ⟨⟨h0,h1,_⟩,_⟩:=sj hc
 unfold xg at h
 split at h
 ·
  subst h; simp at hj
 ·
  subst h; simp at hj
 ·
  rename_i id g off len lim sz
  obtain ⟨rfl,rfl,h3,cs,h4,h5⟩:=h
  simp only [oper,hx,wP,hl,lS,qN,he,iM,asNat,if_pos h0]
  rw [if_pos ⟨hs.symm,hu,by decide⟩,if_pos ⟨by omega,by omega⟩]
  simp only [rq,Option.map_some]
  split <;> rfl
 ·
  exact h.elim
end
section
variable {C:gV} {nt:Nat} {ops:Array Oper} {rest:List Oper} {e:Env} {Q:Stp→Prop} {l:List bA} {ty:Nat} {p:String} {af:Array Edge} {g:Option (Nat × Bool)} {x y z:Operand} {w:AV} {ys:List Int} {t1 kt et:Nat}
theorem Has.I6 {pre:List bA} {H0:List Nat} (hpre:jg pre=H0) (H:Has B S (pre ++ dQ ek b kvs ws gr hole :: l)) (hh:hole=none∨hole=yo kvs k) (hids:∀ id ∈ aU w,id ∈ H0∨(hole=none∧∃ i u,yo kvs k=some i∧ws[i]? = some u∧id ∈ aU u)) (hnw:(aU w).Nodup) (hv:vP gr w ys S) :
  Has B { S with H:=S.H.set b (.map { es:=Ee ek 0 (kM kvs k ys) (qz kvs ws k w),clk:=(kM kvs k ys).length }) } (dQ ek b (kM kvs k ys) (qz kvs ws k w) gr none :: l):=by
 subst hpre
 have H2:Has B S ((pre ++ [dQ ek b kvs ws gr hole]) ++ l):=by simpa using H
 obtain ⟨h1,h2,h3⟩:=mo.1 (H.ok (dQ ek b kvs ws gr hole) (by simp))
 have hnd:=Has.nd0 H2
 have efp:jg (pre ++ [dQ ek b kvs ws gr hole])=jg pre ++ (b :: jM hole ws):=by rw [rF,qV]
 rw [efp] at hnd
 have hlt:b < S.nx:=Has.lt H (jT.2 ⟨dQ ek b kvs ws gr hole,by simp,by simp [dQ,bA.fp]⟩)
 have hnd3:=(List.nodup_append.1 hnd).2.1
 have hb:=(List.nodup_cons.1 hnd3).1
 have hsub:∀ id ∈ jM (yo kvs k) ws,id ∈ jM hole ws:=fun id hid=>by
  rcases hh with rfl | rfl
  ·
   obtain ⟨i,u,q1,q2,q3⟩:=oD.1 hid; exact oD.2 ⟨i,u,q1,by simp,q3⟩
  ·
   exact hid
 have hndk:(jM (yo kvs k) ws).Nodup:=by
  rcases hh with rfl | rfl
  ·
   cases hm:yo kvs k with
   | none=>exact (List.nodup_cons.1 hnd3).2
   | some i =>
    by_cases hi:i < ws.length
    ·
     have:=rA (List.getElem?_eq_getElem hi)
     exact (List.nodup_append.1 (this.nodup_iff.1 (List.nodup_cons.1 hnd3).2)).2.1
    ·
     unfold yo at hm
     cases hf:gZ k kvs 0 with
     | none=>rw [hf] at hm; cases hm
     | some r =>
      rw [hf] at hm; simp at hm; subst hm
      have:=(qK k kvs 0 r.1 r.2 hf).2
      omega
  ·
   exact (List.nodup_cons.1 hnd3).2
 have hdis:∀ id ∈ aU w,id ∉ jM (yo kvs k) ws∧id ≠ b:=fun id hid=>by
  rcases hids id hid with h | ⟨rfl,i,u,hm,hu,hq⟩
  ·
   have hd:=(List.nodup_append.1 hnd).2.2 id h
   exact ⟨fun q=>hd id (List.mem_cons_of_mem _ (hsub id q)) rfl,fun q=>hd id (by rw [q]; exact List.mem_cons_self) rfl⟩
  ·
   have:=rA hu
   have hn:=this.nodup_iff.1 (List.nodup_cons.1 hnd3).2
   refine ⟨fun q=>?_,fun q=>hb (by rw [← q]; exact this.mem_iff.2 (List.mem_append_left _ hq))⟩
   rw [hm] at q
   exact (List.nodup_append.1 hn).2.2 id hq id q rfl
 have hperm:=Dv (k:=k) (u:=w) h1
 have hidin:∀ id ∈ b :: jM none (qz kvs ws k w),id ∈ jg (pre ++ [dQ ek b kvs ws gr hole]):=fun id hid=>by
  rw [efp]
  rcases List.mem_cons.1 hid with rfl | hid
  ·
   exact List.mem_append_right _ List.mem_cons_self
  ·
   rcases List.mem_append.1 (hperm.mem_iff.1 hid) with hid | hid
   ·
    rcases hids id hid with h | ⟨rfl,i,u,hm,hu,hq⟩
    ·
     exact List.mem_append_left _ h
    ·
     exact List.mem_append_right _ (List.mem_cons_of_mem _ (oD.2 ⟨i,u,hu,by simp,hq⟩))
   ·
    exact List.mem_append_right _ (List.mem_cons_of_mem _ (hsub id hid))
 have hbw:b ∉ jM none (qz kvs ws k w):=fun q=>by
  rcases List.mem_append.1 (hperm.mem_iff.1 q) with q | q
  ·
   exact (hdis b q).2 rfl
  ·
   exact hb (hsub b q)
 have hkeep:∀ {u:AV} {vs:List Int},vP gr u vs S→b ∉ aU u→vP gr u vs { S with H:=S.H.set b (.map { es:=Ee ek 0 (kM kvs k ys) (qz kvs ws k w),clk:=(kM kvs k ys).length }) }:=fun q hq=>q.keep (fun id hid=>by simp only [AL.aP]; rw [if_neg (fun (e:b=id)=>hq (by rw [e]; exact hid))])
 refine Has.upd (bs:=[_]) H2 (wf_set H.wf hlt _) (Nat.le_refl _) (fun j hj _=>⟨?_,rfl⟩) (fun a ha=>?_) ?_ (fun j hj=>.inl ?_)
 ·
  simp only [AL.aP]
  rw [if_neg (fun q=>hj (by rw [efp,← q]; exact List.mem_append_right _ List.mem_cons_self))]
 ·
  simp only [List.mem_cons,List.not_mem_nil,or_false] at ha
  subst ha
  refine mo.2 ⟨F8 h1 ys w,by simp only [AL.aP,if_true],fun i x u hx hu _=>?_⟩
  have hbu:b ∉ aU u:=fun q=>hbw (oD.2 ⟨i,u,hu,by simp,q⟩)
  rcases Iw hx hu h1 with ⟨rfl,e2,_⟩ | ⟨q1,q2,q3⟩
  ·
   rw [e2]; exact hkeep hv hbu
  ·
   refine hkeep (h3 i x u q1 q2 ?_) hbu
   rcases hh with rfl | rfl
   ·
    simp
   ·
    exact q3
 ·
  rw [qV]
  refine List.nodup_cons.2 ⟨hbw,hperm.nodup_iff.2 (List.nodup_append.2 ⟨hnw,hndk,fun a ha c hc hac=>?_⟩)⟩
  subst hac; exact (hdis a ha).1 hc
 ·
  rw [qV] at hj; exact hidin j hj
theorem wy (w:AV):(aU w).Nodup:=by unfold aU; split <;> simp
theorem aj.Kj (H:Has B S (aG w ys :: dQ ek b kvs ws true (yo kvs k) :: l)) (hw:bC ops e { dst:=none,op:=.mapUpdate t1 x y z,type:=ty,pos:=p,after:=af,guard:=g }=some true) (hm:bB e x=some (.map b)) (hky:bB e y=some (.d (ek k))) (hv:bB e z=some w) (hk:ql C t1=some (kt,et)) (K:rO C.P kt ek)
  (kk:∀ ws' S',Has B S' (dQ ek b (kM kvs k ys) ws' true none :: l)→aj R C nt ops rest e S' Q) :
  aj R C nt ops ({ dst:=none,op:=.mapUpdate t1 x y z,type:=ty,pos:=p,after:=af,guard:=g } :: rest) e S Q:=by
 have hs:=ib.1 (H.ok _ List.mem_cons_self)
 obtain ⟨h1,h2,h3⟩:=mo.1 (H.ok (dQ ek b kvs ws true (yo kvs k)) (by simp))
 have hupd:=DN (C:=C) (k:=k) (ws:=ws) (v:=ys) K hk h1 h2 hs.rd.plain
 have:=Has.I6 (pre:=[aG w ys]) (H0:=aU w) (by simp [jg,aG,bA.fp]) H (.inr rfl) (fun id hid=>.inl hid) (wy w) (by unfold vP; exact hs)
 exact aj.skip hw (by simp only [oper,hm,hky,hv,hupd,Option.map_some]) (kk _ _ this)
theorem aj.JQ {j:Int} {r:List Int} (H:Has B S (dQ ek b kvs ws false none :: l)) (hw:bC ops e { dst:=none,op:=.mapUpdate t1 x y z,type:=ty,pos:=p,after:=af,guard:=g }=some true) (hm:bB e x=some (.map b)) (hky:bB e y=some (.d (ek k))) (hc:cut (jr kvs k []) j ((jr kvs k []).length:Int)=some r) (hpos:0 < (jr kvs k []).length) (hv:bB e z=some (rq (mw kvs ws k) j.toNat)) (hk:ql C t1=some (kt,et)) (K:rO C.P kt ek)
  (kk:∀ ws' S',Has B S' (dQ ek b (kM kvs k r) ws' false none :: l)→aj R C nt ops rest e S' Q) :
  aj R C nt ops ({ dst:=none,op:=.mapUpdate t1 x y z,type:=ty,pos:=p,after:=af,guard:=g } :: rest) e S Q:=by
 have hrow:=zg H (q:=0) rfl k
 have hr:=GI hrow hc hpos
 obtain ⟨h1,h2,h3⟩:=mo.1 (H.ok _ List.mem_cons_self)
 have hupd:=DN (C:=C) (k:=k) (ws:=ws) (v:=r) K hk h1 h2 hr.plain
 have:=Has.I6 (pre:=[]) (k:=k) (w:=rq (mw kvs ws k) j.toNat) (ys:=r) (H0:=[]) rfl H (.inl rfl) (fun id hid=>.inr ⟨rfl,by
  have h0:=Ej _ _ id hid
  unfold mw at h0
  unfold yo
  cases hf:gZ k kvs 0 with
  | none=>rw [hf] at h0; simp [aU] at h0
  | some q =>
   rw [hf] at h0
   have hlt:=(qK k kvs 0 q.1 q.2 hf).2
   have hwi:=List.getElem?_eq_getElem (l:=ws) (i:=q.1) (by omega)
   refine ⟨q.1,_,rfl,hwi,?_⟩
   simp only [List.getD_eq_getElem?_getD,hwi] at h0
   exact h0⟩) (wy _) (by unfold vP; exact hr)
 exact aj.skip hw (by simp only [oper,hm,hky,hv,hupd,Option.map_some]) (kk _ _ this)
end
end
end
end Go.Ev
namespace Go.Ev
theorem FC {α:Type} {l:List α} {n:Int} {x:α} (h:idx l n=some x):0 < l.length:=by
 have:=(List.getElem?_eq_some_iff.1 (dN h).2).1
 omega
theorem Mv {P:Program} {t:Nat} {xs ys:List D} (h:P.eqGuardType P.depth t=false):AV.eqv P t (.d (.agg xs)) (.d (.agg ys))=lN P 20 t (.agg xs) (.agg ys):=by simp [AV.eqv,h]
theorem BI {P:Program} {t:Nat} {fs:Array Field} {xs:List D} (hu:P.underlying t=some (.struct fs)) (h1:xs.all mW=true) (h2:(fs.all fun f=>f.name != "_" && l7 P f.type && (iT P f.type xs f.offset).isSome)=true):nW P t (.agg xs)=true:=by
 simp only [nW,hu,h1,h2,Bool.and_self]
end Go.Ev

namespace Go.Ev
noncomputable section
set_option linter.unusedVariables false
set_option linter.unusedSimpArgs false
variable {R:bU} {P:Program} {B:St}
section
variable {α:Type} {enc:α→D} {C:gV} {S:St} {l:List bA} {v rv:AV} {xs r:List α} {z:α} {c:List AV} {sz:Nat} {x y:Operand} {t el nb u:Nat}
theorem xS {ρ:Operand→Option AV} (H:Has B S (ic sz 1 rv c :: .row sz v (xs.map enc) :: l)) (hx:ρ x=some v) (hy:ρ y=some rv) (hnr:C.rowT t=true) (hu:jd C u=true) (he:aZ C.P t=some el) (hs:aM C.P el=sz) (hpos:Nat.blt 0 sz=true)
  (hr:Ev.app nb xs [z]=some r) (hnb:bytesOf C.P el=nb) (h0:(Nat.blt 0 nb && Nat.ble nb 65536)=true) (hz:fu C el=true) (hle:dS ((enc z).cells.map .d) c) (hzl:(enc z).cells.length=sz) (hzf:iH (enc z).cells=true) :
  ∃ v' S',oper C ρ S (.call { callee:=.builtin .append,args:=#[x,y],argTypes:=#[t,u] })=some (.val v' S')∧Has B S' (.row sz v' (r.map enc) :: l):=by
 obtain ⟨hb,rfl⟩:=mq hr
 subst hs
 have hpos:0 < aM C.P el:=Nat.le_of_ble_eq_true hpos
 have hm:iF ρ [x,y]=some [v,rv]:=by simp only [iF,hx,hy,Option.map_some]
 have hraw:=wO.1 (H.ok (ic (aM C.P el) 1 rv c) (by simp))
 have hcl:c.length=aM C.P el:=by obtain ⟨_,_,_,_,q⟩:=hraw; omega
 have hsrc:=BM hraw hpos
 have hg:nP C el (xs.length + 1)=true:=tT (by simpa using hb) hnb h0 hz
 have hp:=H.ok (.row (aM C.P el) v (xs.map enc)) (by simp)
 have H2:Has B S ([ic (aM C.P el) 1 rv c,.row (aM C.P el) v (xs.map enc)] ++ l):=H
 have e2:jg [ic (aM C.P el) 1 rv c,.row (aM C.P el) v (xs.map enc)]=aU rv ++ (bA.row (aM C.P el) v (xs.map enc)).fp:=by simp [jg,ic,bA.fp]
 have finish:∀ (id g:Nat) (cs:List AV) (S':St),dS ((((xs ++ [z]).map enc).map D.cells).flatten.map .d) cs→(∀ w ∈ (xs ++ [z]).map enc,w.cells.length=aM C.P el∧iH w.cells=true)→S'.H.get id=some (.cells g cs)→(∀ j,j ≠ id→S'.H.get j=S.H.get j)→S'.T=S.T→S'.Wf→S.nx ≤ S'.nx→(id ∈ (bA.row (aM C.P el) v (xs.map enc)).fp∨S.nx ≤ id) →
   Has B S' (.row (aM C.P el) (.eF id g 0 (xs.length + 1) (xs.length + 1) (aM C.P el)) ((xs ++ [z]).map enc) :: l):=fun id g cs S' hl hw hH hsame hT wf nx hin=>by
  refine Has.upd (bs:=[_]) H2 wf nx (fun j hj hlt=>⟨hsame j (fun q=>?_),by rw [hT]⟩) (fun a ha=>?_) (by simp [jg,bA.fp]) (fun j hj=>?_)
  ·
   subst q
   rcases hin with h | h
   ·
    exact hj (by rw [e2]; exact List.mem_append_right _ h)
   ·
    omega
  ·
   simp only [List.mem_cons,List.not_mem_nil,or_false] at ha
   subst ha
   exact ⟨rfl,by simp,by simp,rfl,hpos,hw,cs,hl,hH⟩
  ·
   have:j=id:=by simpa [jg,bA.fp] using hj
   subst this
   rcases hin with h | h
   ·
    exact .inl (by rw [e2]; exact List.mem_append_right _ h)
   ·
    exact .inr h
 have first:∀ w,(w=.d .aO∨w=.d (.sl [] true))→xs=[]→∃ v' S',(gq C el S w [] rv).map (fun r=>G9.val r.1 r.2)=some (.val v' S')∧Has B S' (.row (aM C.P el) v' ((xs ++ [z]).map enc) :: l):=fun w hw hxs=>by
  subst hxs
  refine ⟨.eF S.nx 0 0 1 1 (aM C.P el),{ S with H:=S.H.set S.nx (.cells 0 c),nx:=S.nx + 1 },?_,?_⟩
  ·
   simp only [gq,hsrc]
   rw [if_neg (by decide),if_pos ⟨by decide,hpos,rfl,by simpa using hg⟩]
   rfl
  ·
   exact finish S.nx 0 c _ (by simpa using hle) (fun w hw=>by simp at hw; subst hw; exact ⟨hzl,hzf⟩) (by simp [AL.aP]) (fun j hj=>by simp only [AL.aP]; rw [if_neg (Ne.symm hj)]) rfl (BJ H.wf _) (Nat.le_succ _) (.inr (Nat.le_refl _))
 simp only [oper,hm,fB,List.getElem?_toArray,List.getElem?_cons_zero,List.getElem?_cons_succ,hu,if_true,he]
 simp only [bA.ok] at hp
 split at hp
 ·
  simp only [hnr,cond_true]; exact first _ (.inl rfl) (by simpa using hp)
 ·
  simp only [hnr,cond_true]; exact first _ (.inr rfl) (by simpa using hp)
 ·
  rename_i id g off len lim sz'
  obtain ⟨rfl,rfl,rfl,rfl,_,hsz,cs,hcs,hid⟩:=hp
  have hlen:cs.length=xs.length * aM C.P el:=by
   have:=hcs.len
   rw [List.length_map,zV (fun x hx=>(hsz x hx).1)] at this
   simpa using this.symm
  have hlt:id < S.nx:=Has.lt H (jT.2 ⟨.row (aM C.P el) (.eF id g 0 (xs.map enc).length (xs.map enc).length (aM C.P el)) (xs.map enc),by simp,by simp [bA.fp]⟩)
  refine ⟨.eF id (g + 1) 0 (xs.length + 1) (xs.length + 1) (aM C.P el),{ S with H:=S.H.set id (.cells (g + 1) (cs.take ((xs.map enc).length * aM C.P el) ++ c)) },?_,?_⟩
  ·
   simp only [ji,hsrc,St.look,hid,Nat.beq_refl,cond_true,List.length_map]
   rw [if_pos ⟨trivial,hpos,by omega⟩,if_neg (by decide),if_neg (by omega),if_pos ⟨trivial,hg⟩]
   rfl
  ·
   refine finish id (g + 1) (cs.take ((xs.map enc).length * aM C.P el) ++ c) _ ?_ (fun w hw=>?_) (by simp only [AL.aP,if_true]) (fun j hj=>by simp only [AL.aP]; rw [if_neg (Ne.symm hj)]) rfl (wf_set H.wf hlt _) (Nat.le_refl _) (.inl (by simp [bA.fp]))
   ·
    rw [List.length_map,← hlen,List.take_length]
    simp only [List.map_append,List.flatten_append,List.map_cons,List.map_nil,List.flatten_cons,List.flatten_nil,List.append_nil]
    exact hcs.append hle
   ·
    rw [List.map_append] at hw
    rcases List.mem_append.1 hw with hw | hw
    ·
     exact hsz w hw
    ·
     simp at hw; subst hw; exact ⟨hzl,hzf⟩
 ·
  exact hp.elim
end
section
variable {α:Type} {enc:α→D} {C:gV} {nt:Nat} {ops:Array Oper} {rest:List Oper} {e:Env} {S:St} {Q:Stp→Prop} {l:List bA} {t ty:Nat} {p:String} {af:Array Edge} {g:Option (Nat × Bool)} {x y:Operand} {v rv:AV} {xs r:List α} {z:α} {c:List AV} {sz t1 u el nb:Nat}
theorem aj.yU (H:Has B S (ic sz 1 rv c :: .row sz v (xs.map enc) :: l)) (hw:bC ops e { dst:=some t,op:=.call { callee:=.builtin .append,args:=#[x,y],argTypes:=#[t1,u] },type:=ty,pos:=p,after:=af,guard:=g }=some true)
  (hx:bB e x=some v) (hy:bB e y=some rv) (hnr:C.rowT t1=true) (hu:jd C u=true) (he:aZ C.P t1=some el) (hs:aM C.P el=sz) (hpos:Nat.blt 0 sz=true)
  (hr:Ev.app nb xs [z]=some r) (hnb:bytesOf C.P el=nb) (h0:(Nat.blt 0 nb && Nat.ble nb 65536)=true) (hz:fu C el=true) (hle:dS ((enc z).cells.map .d) c) (hzl:(enc z).cells.length=sz) (hzf:iH (enc z).cells=true) (ht:Nat.blt t nt=true)
  (kk:∀ v' S',Has B S' (.row sz v' (r.map enc) :: l)→aj R C nt ops rest ((t,v') :: e) S' Q) :
  aj R C nt ops ({ dst:=some t,op:=.call { callee:=.builtin .append,args:=#[x,y],argTypes:=#[t1,u] },type:=ty,pos:=p,after:=af,guard:=g } :: rest) e S Q:=by
 obtain ⟨v',S',h1,h2⟩:=xS (C:=C) (ρ:=bB e) H hx hy hnr hu he hs hpos hr hnb h0 hz hle hzl hzf
 exact aj.val hw h1 ht (kk v' S' h2)
end
end
end Go.Ev

namespace Go.Ev
namespace Pr
set_option linter.unusedVariables false
set_option linter.unusedSimpArgs false
structure Attr where
 Name:Str
 Value:Str
 deriving DecidableEq
def ay (x:Attr):D:=.agg [(.str x.Name),(.str x.Value)]
theorem Attr.eq (x:Attr):ay x=.agg [(.str x.Name),(.str x.Value)]:=rfl
theorem Attr.cells (x:Attr):(ay x).cells=[(.str x.Name),(.str x.Value)]:=by rw [Attr.eq]; rfl
theorem Attr.agg (x:Attr):(ay x).isAgg=true:=by rw [Attr.eq]; rfl
theorem Attr.len (x:Attr):(ay x).cells.length=2:=by rw [Attr.cells]; rfl
theorem Attr.cn (x:Attr):(ay x).cn=ay x:=by
 rw [Attr.eq]
 exact IA (by
  intro d hd
  simp only [List.mem_cons,List.not_mem_nil,or_false] at hd
  rcases hd with rfl | rfl
  ·
   exact rfl
  ·
   exact rfl)
theorem Attr.pR {P:Program} {t:Nat} {x:Attr} (ha:eD P t=some true) (hz:aM P t=2):iT P t (ay x).cells 0=some (ay x):=by
 rw [Attr.cells,wS ha hz rfl,Attr.eq]; rfl
def Attr.beq (x y:Attr):Bool:=((x.Name == y.Name) && ((x.Value == y.Value) && true))
structure bf where
 Tag:Str
 Key:Str
 Text:Str
 aI:(List Attr)
def bS (x:bf):D:=.agg [(.str x.Tag),(.str x.Key),(.str x.Text),(.sl ((x.aI).map ay) false),.aO]
theorem bf.eq (x:bf):bS x=.agg [(.str x.Tag),(.str x.Key),(.str x.Text),(.sl ((x.aI).map ay) false),.aO]:=rfl
theorem bf.cells (x:bf):(bS x).cells=[(.str x.Tag),(.str x.Key),(.str x.Text),(.sl ((x.aI).map ay) false),.aO]:=by rw [bf.eq]; rfl
theorem bf.dx (x:bf):(AV.d (bS x)).cells=[.d (.str x.Tag),.d (.str x.Key),.d (.str x.Text),.d (.sl ((x.aI).map ay) false),.d .aO]:=by rw [bf.eq]; rfl
theorem bf.agg (x:bf):(bS x).isAgg=true:=by rw [bf.eq]; rfl
theorem bf.len (x:bf):(bS x).cells.length=5:=by rw [bf.cells]; rfl
theorem bf.pR {P:Program} {t:Nat} {x:bf} (ha:eD P t=some true) (hz:aM P t=5):iT P t (bS x).cells 0=some (bS x):=by
 rw [bf.cells,wS ha hz rfl,bf.eq]; rfl
structure aK where
 lives:Bool
 tag:Str
 key:Str
 text:Str
 attrs:(List Attr)
 parent:Int
def gG (x:aK):D:=.agg [(.bool x.lives),(.str x.tag),(.str x.key),(.str x.text),(.sl ((x.attrs).map ay) false),.aO,(.int .i64 x.parent)]
theorem aK.eq (x:aK):gG x=.agg [(.bool x.lives),(.str x.tag),(.str x.key),(.str x.text),(.sl ((x.attrs).map ay) false),.aO,(.int .i64 x.parent)]:=rfl
theorem aK.dx (x:aK):(AV.d (gG x)).cells=[.d (.bool x.lives),.d (.str x.tag),.d (.str x.key),.d (.str x.text),.d (.sl ((x.attrs).map ay) false),.d .aO,.d (.int .i64 x.parent)]:=by rw [aK.eq]; rfl
structure ah where
 lives:Bool
 tag:Str
 key:Str
 text:Str
 attrs:(List Attr)
 kids:(List Int)
 parent:Int
def ae (x:ah):D:=.agg [(.bool x.lives),(.str x.tag),(.str x.key),(.str x.text),(.sl ((x.attrs).map ay) false),(.sl ((x.kids).map (D.int .i64)) false),(.int .i64 x.parent)]
structure aB where
 l:(List ah)
 freed:(List Int)
inductive Tree where
 | mk (Tag:Str) (Key:Str) (Text:Str) (aI:(List Attr)) (Kids:(List Tree))
def Tree.Tag:Tree→Str | .mk x _ _ _ _=>x
def Tree.Key:Tree→Str | .mk _ x _ _ _=>x
def Tree.Text:Tree→Str | .mk _ _ x _ _=>x
def Tree.aI:Tree→(List Attr) | .mk _ _ _ x _=>x
def Tree.Kids:Tree→(List Tree) | .mk _ _ _ _ x=>x
mutual
def ai:Tree→D
 | .mk x0 x1 x2 x3 x4=>.agg [(.str x0),(.str x1),(.str x2),(.sl ((x3).map ay) false),.sl (pq x4) false]
def pq:List Tree→List D
 | []=>[]
 | x :: l=>ai x :: pq l
end
theorem vC:∀ (l:List Tree),pq l=l.map ai
 | []=>rfl
 | x :: l=>by rw [pq,vC l]; rfl
theorem Tree.eq (x:Tree):ai x=.agg [(.str x.Tag),(.str x.Key),(.str x.Text),(.sl ((x.aI).map ay) false),(.sl ((x.Kids).map ai) false)]:=by
 cases x
 rw [ai,vC]
 rfl
theorem Tree.cells (x:Tree):(ai x).cells=[(.str x.Tag),(.str x.Key),(.str x.Text),(.sl ((x.aI).map ay) false),(.sl ((x.Kids).map ai) false)]:=by rw [Tree.eq]; rfl
theorem Tree.dx (x:Tree):(AV.d (ai x)).cells=[.d (.str x.Tag),.d (.str x.Key),.d (.str x.Text),.d (.sl ((x.aI).map ay) false),.d (.sl ((x.Kids).map ai) false)]:=by rw [Tree.eq]; rfl
theorem Tree.agg (x:Tree):(ai x).isAgg=true:=by rw [Tree.eq]; rfl
theorem Tree.flat (x:Tree):iH (ai x).cells=true:=by rw [Tree.cells]; rfl
theorem Tree.len (x:Tree):(ai x).cells.length=5:=by rw [Tree.cells]; rfl
mutual
theorem Tree.cn:∀ (x:Tree),(ai x).cn=ai x
 | .mk x0 x1 x2 x3 x4=>by
  rw [ai]
  exact IA (by
   intro d hd
   simp only [List.mem_cons,List.not_mem_nil,or_false] at hd
   rcases hd with rfl | rfl | rfl | rfl | rfl
   ·
    exact rfl
   ·
    exact rfl
   ·
    exact rfl
   ·
    exact Mk Attr.cn _ _
   ·
    exact congrArg (D.sl · false) (Tree.GU x4))
theorem Tree.GU:∀ (l:List Tree),D.GU (pq l)=pq l
 | []=>rfl
 | x :: l=>by rw [pq,D.GU,Tree.cn x,Tree.GU l]
end
theorem Tree.pR {P:Program} {t:Nat} {x:Tree} (ha:eD P t=some true) (hz:aM P t=5):iT P t (ai x).cells 0=some (ai x):=by
 rw [Tree.cells,wS ha hz rfl,Tree.eq]; rfl
structure fA where
 Under:(List Int)
 Kinds:(List Int)
 Keys:(List Int)
 Texts:(List Int)
def dL (x:fA):D:=.agg [(.sl ((x.Under).map (D.int .i64)) false),(.sl ((x.Kinds).map (D.int .i64)) false),(.sl ((x.Keys).map (D.int .i64)) false),(.sl ((x.Texts).map (D.int .i64)) false)]
theorem fA.eq (x:fA):dL x=.agg [(.sl ((x.Under).map (D.int .i64)) false),(.sl ((x.Kinds).map (D.int .i64)) false),(.sl ((x.Keys).map (D.int .i64)) false),(.sl ((x.Texts).map (D.int .i64)) false)]:=rfl
theorem fA.dx (x:fA):(AV.d (dL x)).cells=[.d (.sl ((x.Under).map (D.int .i64)) false),.d (.sl ((x.Kinds).map (D.int .i64)) false),.d (.sl ((x.Keys).map (D.int .i64)) false),.d (.sl ((x.Texts).map (D.int .i64)) false)]:=by rw [fA.eq]; rfl
theorem fA.agg (x:fA):(dL x).isAgg=true:=by rw [fA.eq]; rfl
structure bg where
 tag:Str
 key:Str
 deriving DecidableEq
def aQ (x:bg):D:=.agg [(.str x.tag),(.str x.key)]
theorem bg.eq (x:bg):aQ x=.agg [(.str x.tag),(.str x.key)]:=rfl
theorem bg.dx (x:bg):(AV.d (aQ x)).cells=[.d (.str x.tag),.d (.str x.key)]:=by rw [bg.eq]; rfl
def bg.beq (x y:bg):Bool:=((x.tag == y.tag) && ((x.key == y.key) && true))
def jV (self:Tree→Option Int) (a1:Tree):Nat→Int→Int→Option Int
 | 0,_,_=>none
 | k15 + 1,x13,x14 =>
  (if (decide (x14 < ((a1.Kids).length:Int)))=true then ((idx a1.Kids x14).bind fun z17=>((self z17).bind fun z23=>((jV self a1 k15) ((IntKind.wrap .i64 (x13 + z23))) ((IntKind.wrap .i64 (x14 + 1)))))) else (some x13))
def ny:Nat→Tree→Option Int
 | 0,_=>none
 | n + 1,a1 =>
  (jV (ny n) a1 n (1) (0))
def kG (n:Nat) (a2:aB) (a6:aK):Option (Int × aB) :=
 (if (decide ((IntKind.wrap .i64 (((a2.freed).length:Int) - 1)) < 0))=true then ((app 112 a2.l [(ah.mk (aK.mk true a6.tag a6.key a6.text a6.attrs a6.parent).lives (aK.mk true a6.tag a6.key a6.text a6.attrs a6.parent).tag (aK.mk true a6.tag a6.key a6.text a6.attrs a6.parent).key (aK.mk true a6.tag a6.key a6.text a6.attrs a6.parent).text (aK.mk true a6.tag a6.key a6.text a6.attrs a6.parent).attrs [] (aK.mk true a6.tag a6.key a6.text a6.attrs a6.parent).parent)]).bind fun z17=>(some (((z17).length:Int),(aB.mk z17 a2.freed)))) else ((idx a2.freed (IntKind.wrap .i64 (((a2.freed).length:Int) - 1))).bind fun z38=>((cut a2.freed 0 (IntKind.wrap .i64 (((a2.freed).length:Int) - 1))).bind fun z39=>((idx a2.l (IntKind.wrap .i64 (z38 - 1))).bind fun z46=>(some (z38,(aB.mk (jl a2.l (IntKind.wrap .i64 (z38 - 1)) (ah.mk (aK.mk true a6.tag a6.key a6.text a6.attrs a6.parent).lives (aK.mk true a6.tag a6.key a6.text a6.attrs a6.parent).tag (aK.mk true a6.tag a6.key a6.text a6.attrs a6.parent).key (aK.mk true a6.tag a6.key a6.text a6.attrs a6.parent).text (aK.mk true a6.tag a6.key a6.text a6.attrs a6.parent).attrs [] (aK.mk true a6.tag a6.key a6.text a6.attrs a6.parent).parent)) z39)))))))
def kL (n:Nat) (a2:aB) (a6:Str):Option (Int × aB) :=
 ((kG n a2 (aK.mk false [] [] a6 [] 0)).bind fun z7=>(some (z7.1,z7.2)))
def iG (n:Nat) (a2:aB) (a6:Str) (a7:Str):Option (Int × aB) :=
 (if (a6 == [])=true then ((kL n a2 []).bind fun z9=>(some (z9.1,z9.2))) else ((kG n a2 (aK.mk false a6 a7 [] [] 0)).bind fun z16=>(some (z16.1,z16.2))))
def ui (n:Nat)  : Option (Option aB) :=
 ((iG n (aB.mk [] []) [114,111,111,116] []).bind fun z7=>(some (some z7.2)))
def gD (x17:Int) (again18:(List Int)→Int→Option (List Int)) (x22:(List Int)):Option (List Int) :=
 (again18 (x22) ((IntKind.wrap .i64 (x17 + 1))))
def dD (a2:aB):Nat→(List Int)→Int→Option (List Int)
 | 0,_,_=>none
 | k18 + 1,x15,x17 =>
  (if (decide (x17 < ((a2.l).length:Int)))=true then ((idx a2.l x17).bind fun z25=>(if ((z25.lives && (z25.parent == 0)) && ((IntKind.wrap .i64 (x17 + 1)) != 1))=true then ((app 8 x15 [(IntKind.wrap .i64 (x17 + 1))]).bind fun z34=>(gD x17 (dD a2 k18) (z34))) else (gD x17 (dD a2 k18) (x15)))) else (some x15))
def j3 (n:Nat) (a2:aB):Option (List Int) :=
 (dD a2 n ([]) (0))
def gL (n:Nat) (a2:aB) (a6:Int):Option Bool :=
 ((if ((decide (a6 < 1)) || (decide (((a2.l).length:Int) < a6)))=true then some true else ((idx a2.l (IntKind.wrap .i64 (a6 - 1))).bind fun z8=>(some (!z8.lives)))).bind fun z9=>(if z9=true then (some false) else ((idx a2.l (IntKind.wrap .i64 (a6 - 1))).bind fun z12=>(some true))))
def jD (n:Nat) (a2:aB) (a6:Int):Option Int :=
 ((gL n a2 a6).bind fun z7=>(if z7=true then ((idx a2.l (IntKind.wrap .i64 (a6 - 1))).bind fun z15=>(some z15.parent)) else (some 0)))
def bQ (n:Nat) (a1:(List Attr)):Option (List Attr):=app 32 [] a1
def fq (self:aB→Int→Option Tree) (a2:aB) (z10:ah) (z16:(List Attr)):Nat→(List Tree)→Int→Option Tree
 | 0,_,_=>none
 | k41 + 1,x38,x40 =>
  (if (decide (x40 < ((z10.kids).length:Int)))=true then ((idx z10.kids x40).bind fun z43=>((self a2 z43).bind fun z48=>((app 96 x38 [z48]).bind fun z52=>((fq self a2 z10 z16 k41) (z52) ((IntKind.wrap .i64 (x40 + 1))))))) else (some (Tree.mk z10.tag z10.key z10.text z16 x38)))
def gK:Nat→aB→Int→Option Tree
 | 0,_,_=>none
 | n + 1,a2,a6 =>
  ((idx a2.l (IntKind.wrap .i64 (a6 - 1))).bind fun z10=>((bQ n z10.attrs).bind fun z16=>(fq (gK n) a2 z10 z16 n ([]) (0))))
def fP (n:Nat) (a2:aB) (a6:Int):Option (Tree × Bool) :=
 ((gL n a2 a6).bind fun z10=>(if z10=true then ((idx a2.l (IntKind.wrap .i64 (a6 - 1))).bind fun z20=>((gK n a2 a6).bind fun z21=>(some (z21,true)))) else (some ((Tree.mk [] [] [] [] []),false))))
def eP (a2:Int) (x7:Int):Option Int :=
 (some (IntKind.wrap .i64 (a2 + x7)))
def df (n:Nat) (a1:Int) (a2:Int) (a3:Int):Option Int :=
 ((Gf .i64 a1 (IntKind.wrap .i64 ((IntKind.wrap .i64 (a3 - a2)) + 1))).bind fun z4=>(if (decide (z4 < 0))=true then (eP a2 ((IntKind.wrap .i64 ((IntKind.wrap .i64 ((IntKind.wrap .i64 (z4 + a3)) - a2)) + 1)))) else (eP a2 (z4))))
def cu (a1:(List Int)) (a2:(List Int)):Nat→Int→Option Bool
 | 0,_=>none
 | k12 + 1,x11 =>
  (if (decide (x11 < ((a1).length:Int)))=true then ((idx a1 x11).bind fun z14=>((idx a2 x11).bind fun z15=>(if (z14 != z15)=true then (some false) else ((cu a1 a2 k12) ((IntKind.wrap .i64 (x11 + 1))))))) else (some true))
def iy (n:Nat) (a1:(List Int)) (a2:(List Int)):Option Bool :=
 (if (((a1).length:Int) != ((a2).length:Int))=true then (some false) else (cu a1 a2 n (0)))
def eB (a2:aB) (a7:Int):Nat→Int→Option Bool
 | 0,_=>none
 | k16 + 1,x15 =>
  (if ((x15 != 0) && (x15 != a7))=true then ((idx a2.l (IntKind.wrap .i64 (x15 - 1))).bind fun z19=>((eB a2 a7 k16) (z19.parent))) else (some (x15 == a7)))
def kD (n:Nat) (a2:aB) (a6:Int) (a7:Int):Option Bool :=
 (eB a2 a7 n (a6))
def bO (a1:(List Int)) (a2:Int):Nat→Int→Option Int
 | 0,_=>none
 | k11 + 1,x10 =>
  (if (decide (x10 < ((a1).length:Int)))=true then ((idx a1 x10).bind fun z13=>(if (a2 == z13)=true then (some x10) else ((bO a1 a2 k11) ((IntKind.wrap .i64 (x10 + 1)))))) else (some (-1)))
def gH (n:Nat) (a1:(List Int)) (a2:Int):Option Int :=
 (bO a1 a2 n (0))
def gy (n:Nat) (a1:(List Int)) (a3:Int) (a4:Int):Option (List Int) :=
 ((Gb a1 a3 a4).bind fun z5=>(if (a3 == a4)=true then (some a1) else (some z5)))
def j6 (n:Nat) (a2:aB) (a6:Int):Option aB :=
 ((idx a2.l (IntKind.wrap .i64 (a6 - 1))).bind fun z7=>(if (z7.parent == 0)=true then (some a2) else ((idx a2.l (IntKind.wrap .i64 (z7.parent - 1))).bind fun z9=>((idx a2.l (IntKind.wrap .i64 (z7.parent - 1))).bind fun z10=>((gH n z10.kids a6).bind fun z11=>((gy n z10.kids z11 (IntKind.wrap .i64 (z11 + 1))).bind fun z14=>((idx (jl a2.l (IntKind.wrap .i64 (z7.parent - 1)) (ah.mk z10.lives z10.tag z10.key z10.text z10.attrs z14 z10.parent)) (IntKind.wrap .i64 (a6 - 1))).bind fun z27=>(some (aB.mk (jl (jl a2.l (IntKind.wrap .i64 (z7.parent - 1)) (ah.mk z10.lives z10.tag z10.key z10.text z10.attrs z14 z10.parent)) (IntKind.wrap .i64 (a6 - 1)) (ah.mk z27.lives z27.tag z27.key z27.text z27.attrs z27.kids 0)) a2.freed)))))))))
def gI (n:Nat) (a2:aB) (a6:Int) (a7:Int) (a8:Int):Option (Bool × aB) :=
 ((gL n a2 a6).bind fun z9=>(if z9=true then ((gL n a2 a7).bind fun z25=>(if z25=true then ((idx a2.l (IntKind.wrap .i64 (a6 - 1))).bind fun z34=>((idx a2.l (IntKind.wrap .i64 (a7 - 1))).bind fun z35=>(if ((z34.tag == []) || (a7 == 1))=true then (some (false,a2)) else ((kD n a2 a6 a7).bind fun z38=>(if z38=true then (some (false,a2)) else ((j6 n a2 a7).bind fun z43=>((idx z43.l (IntKind.wrap .i64 (a6 - 1))).bind fun z49=>((Jj z49.kids (zJ 0 (EZ a8 ((z49.kids).length:Int))) a7).bind fun z56=>((idx (jl z43.l (IntKind.wrap .i64 (a6 - 1)) (ah.mk z49.lives z49.tag z49.key z49.text z49.attrs z56 z49.parent)) (IntKind.wrap .i64 (a7 - 1))).bind fun z85=>(some (true,(aB.mk (jl (jl z43.l (IntKind.wrap .i64 (a6 - 1)) (ah.mk z49.lives z49.tag z49.key z49.text z49.attrs z56 z49.parent)) (IntKind.wrap .i64 (a7 - 1)) (ah.mk z85.lives z85.tag z85.key z85.text z85.attrs z85.kids a6)) z43.freed)))))))))))) else ((idx a2.l (IntKind.wrap .i64 (a6 - 1))).bind fun z32=>(some (false,a2))))) else ((gL n a2 a7).bind fun z16=>(if z16=true then (some (false,a2)) else (some (false,a2))))))
def j5 (n:Nat) (a2:aB) (a6:Int) (a7:(List Attr)):Option (Bool × aB) :=
 ((gL n a2 a6).bind fun z8=>(if z8=true then ((idx a2.l (IntKind.wrap .i64 (a6 - 1))).bind fun z16=>(if (z16.tag == [])=true then (some (false,a2)) else ((bQ n a7).bind fun z18=>(some (true,(aB.mk (jl a2.l (IntKind.wrap .i64 (a6 - 1)) (ah.mk z16.lives z16.tag z16.key z16.text z18 z16.kids z16.parent)) a2.freed)))))) else (some (false,a2))))
def fK (n:Nat) (self:aB→Tree→Option (Int × aB)) (a6:Tree) (z18:(Int × aB)):Nat→aB→Int→Option (Int × aB)
 | 0,_,_=>none
 | k47 + 1,x42,x46 =>
  (if (decide (x46 < ((a6.Kids).length:Int)))=true then ((idx a6.Kids x46).bind fun z49=>((self x42 z49).bind fun z55=>((gI n z55.2 z18.1 z55.1 x46).bind fun z62=>((fK n self a6 z18 k47) (z62.2) ((IntKind.wrap .i64 (x46 + 1))))))) else (some (z18.1,x42)))
def eO:Nat→aB→Tree→Option (Int × aB)
 | 0,_,_=>none
 | n + 1,a2,a6 =>
  (if (a6.Tag == [])=true then ((kL n a2 a6.Text).bind fun z11=>(some (z11.1,z11.2))) else ((iG n a2 a6.Tag a6.Key).bind fun z18=>((j5 n z18.2 z18.1 a6.aI).bind fun z25=>(fK n (eO n) a6 z18 n (z25.2) (0)))))
def bI (a1:(List Attr)) (a2:(List Attr)):Nat→Int→Option Bool
 | 0,_=>none
 | k12 + 1,x11 =>
  (if (decide (x11 < ((a1).length:Int)))=true then ((idx a1 x11).bind fun z14=>((idx a2 x11).bind fun z15=>(if (!(Attr.beq z14 z15))=true then (some false) else ((bI a1 a2 k12) ((IntKind.wrap .i64 (x11 + 1))))))) else (some true))
def fD (n:Nat) (a1:(List Attr)) (a2:(List Attr)):Option Bool :=
 (if (((a1).length:Int) != ((a2).length:Int))=true then (some false) else (bI a1 a2 n (0)))
def dG (self:Tree→Tree→Option Bool) (a1:Tree) (a2:Tree):Nat→Int→Option Bool
 | 0,_=>none
 | k24 + 1,x23 =>
  (if (decide (x23 < ((a1.Kids).length:Int)))=true then ((idx a1.Kids x23).bind fun z26=>((idx a2.Kids x23).bind fun z27=>((self z26 z27).bind fun z28=>(if (!z28)=true then (some false) else ((dG self a1 a2 k24) ((IntKind.wrap .i64 (x23 + 1)))))))) else (some true))
def cZ:Nat→Tree→Tree→Option Bool
 | 0,_,_=>none
 | n + 1,a1,a2 =>
  ((if (((!(a1.Tag == a2.Tag)) || (!(a1.Key == a2.Key))) || (!(a1.Text == a2.Text)))=true then some true else ((fD n a1.aI a2.aI).bind fun z11=>(some (!z11)))).bind fun z12=>(if (z12 || (((a1.Kids).length:Int) != ((a2.Kids).length:Int)))=true then (some false) else (dG (cZ n) a1 a2 n (0))))
def kr (n:Nat)  : Option (List Str) :=
 (some [[97],[98],[105,116,101,109],[120,32,121],[37],[97,47,98],[46,46],[122],[49],[108,105,115,116],[255],[63,61,38]])
def fe (n:Nat) (a1:(List Int)) (a2:Int):Option Int :=
 (if (((a1).length:Int) == 0)=true then (some 0) else ((Gf .i64 a2 ((a1).length:Int)).bind fun z4=>((idx a1 z4).bind fun z5=>(some z5))))
def dB (a1:(List Int)):Nat→Int→Int→Option Int
 | 0,_,_=>none
 | k13 + 1,x11,x12 =>
  (if ((decide (0 ≤ x11)) && (decide (x12 < 99)))=true then ((idx a1 x11).bind fun z16=>((dB a1 k13) (z16) ((IntKind.wrap .i64 (x12 + 1))))) else (some x12))
def jI (n:Nat) (a1:(List Int)) (a2:Int):Option Int :=
 (dB a1 n (a2) (0))
def eY (x24:Int) (again25:(List Tree)→Int→Option Tree) (x29:(List Tree)):Option Tree :=
 (again25 (x29) ((IntKind.wrap .i64 (x24 + 1))))
def bV (self:(List bf)→(List Int)→Int→Option Tree) (a1:(List bf)) (a2:(List Int)) (a3:Int) (z7:bf):Nat→(List Tree)→Int→Option Tree
 | 0,_,_=>none
 | k25 + 1,x22,x24 =>
  (if (decide (x24 < ((a1).length:Int)))=true then ((idx a2 x24).bind fun z32=>(if (z32 == a3)=true then ((self a1 a2 x24).bind fun z34=>((app 96 x22 [z34]).bind fun z35=>(eY x24 (bV self a1 a2 a3 z7 k25) (z35)))) else (eY x24 (bV self a1 a2 a3 z7 k25) (x22)))) else (some (Tree.mk z7.Tag z7.Key z7.Text z7.aI x22)))
def bY:Nat→(List bf)→(List Int)→Int→Option Tree
 | 0,_,_,_=>none
 | n + 1,a1,a2,a3 =>
  ((idx a1 a3).bind fun z7=>(bV (bY n) a1 a2 a3 z7 n ([]) (0)))
def dO (x20:(List bf)) (x22:(List Int)) (x24:Int) (again25:(List bf)→(List Int)→Int→Option Tree) (x44:Str) (x45:Str) (x46:Str) (x47:(List Attr)) (x51:Int):Option Tree :=
 ((app 96 x20 [(bf.mk x44 x45 x46 x47)]).bind fun z53=>((app 8 x22 [x51]).bind fun z57=>(again25 (z53) (z57) ((IntKind.wrap .i64 (x24 + 1))))))
def dn (n:Nat) (x20:(List bf)) (x22:(List Int)) (x24:Int) (again25:(List bf)→(List Int)→Int→Option Tree) (x32:Int) (x44:Str) (x45:Str) (x46:Str) (x47:(List Attr)):Option Tree :=
 ((jI n x22 x32).bind fun z61=>(if (decide (6 < z61))=true then (dO x20 x22 x24 again25 x44 x45 x46 x47 (0)) else (dO x20 x22 x24 again25 x44 x45 x46 x47 (x32))))
def dP (n:Nat) (a1:fA) (z8:(List Str)) (x20:(List bf)) (x22:(List Int)) (x24:Int) (again25:(List bf)→(List Int)→Int→Option Tree) (x32:Int) (z66:Str) (x71:Str):Option Tree :=
 ((fe n a1.Texts x24).bind fun z73=>(if ((K7 .i64 z73 1) == 1)=true then ((fe n a1.Texts (IntKind.wrap .i64 (x24 + 1))).bind fun z75=>((df n z75 0 (IntKind.wrap .i64 (((z8).length:Int) - 1))).bind fun z76=>((idx z8 z76).bind fun z77=>(dn n x20 x22 x24 again25 x32 ((bf.mk z66 [] [] []).Tag) (x71) ((bf.mk z66 [] [] []).Text) ([(Attr.mk [120] z77)]))))) else (dn n x20 x22 x24 again25 x32 ((bf.mk z66 [] [] []).Tag) (x71) ((bf.mk z66 [] [] []).Text) ((bf.mk z66 [] [] []).aI))))
def di (n:Nat) (a1:fA) (z8:(List Str)) (x20:(List bf)) (x22:(List Int)) (x24:Int) (again25:(List bf)→(List Int)→Int→Option Tree) (x32:Int):Option Tree :=
 ((fe n a1.Texts x24).bind fun z34=>((df n z34 0 (IntKind.wrap .i64 (((z8).length:Int) - 1))).bind fun z35=>((idx z8 z35).bind fun z36=>((fe n a1.Kinds x24).bind fun z63=>((df n z63 0 5).bind fun z64=>(if (decide (z64 < 4))=true then ((idx [[97],[98],[108,105],[111,117,116,108,101,116]] z64).bind fun z66=>((fe n a1.Keys x24).bind fun z83=>((df n z83 0 6).bind fun z84=>(if (decide (z84 < 4))=true then (dP n a1 z8 x20 x22 x24 again25 x32 z66 ((([(IntKind.wrap .u8 (IntKind.wrap .i64 (48 + z84)))]).map fun (n:Int)=>UInt8.ofNat n.toNat))) else (dP n a1 z8 x20 x22 x24 again25 x32 z66 ((bf.mk z66 [] [] []).Key)))))) else (dn n x20 x22 x24 again25 x32 ((bf.mk [] [] z36 []).Tag) ((bf.mk [] [] z36 []).Key) ((bf.mk [] [] z36 []).Text) ((bf.mk [] [] z36 []).aI))))))))
def aV (n:Nat) (a1:fA) (z8:(List Str)):Nat→(List bf)→(List Int)→Int→Option Tree
 | 0,_,_,_=>none
 | k25 + 1,x20,x22,x24 =>
  (if ((decide (x24 < ((a1.Under).length:Int))) && (decide (x24 < 12)))=true then ((idx a1.Under x24).bind fun z28=>((df n z28 0 (IntKind.wrap .i64 (((x20).length:Int) - 1))).bind fun z29=>((idx x20 z29).bind fun z88=>(if (z88.Tag == [])=true then (di n a1 z8 x20 x22 x24 (aV n a1 z8 k25) (0)) else (di n a1 z8 x20 x22 x24 (aV n a1 z8 k25) (z29)))))) else ((bY n x20 x22 0).bind fun z90=>(some z90)))
def fH (n:Nat) (a1:fA):Option Tree :=
 ((kr n).bind fun z8=>(aV n a1 z8 n ([(bf.mk [100,105,118] [] [] [])]) ([(-1)]) (0)))
def iO (n:Nat) (a1:(List Int)):Option (List Int):=app 8 [] a1
def iN (n:Nat) (a2:aB) (a6:Int):Option (List Int) :=
 ((gL n a2 a6).bind fun z7=>(if z7=true then ((idx a2.l (IntKind.wrap .i64 (a6 - 1))).bind fun z15=>((iO n z15.kids).bind fun z16=>(some z16))) else (some [])))
def jm (n:Nat) (a2:aB):Option Int :=
 (some 1)
def fT (self:aB→Int→Option Int) (a2:aB) (z23:(List Int)):Nat→Int→Option Int
 | 0,_=>none
 | k35 + 1,x34 =>
  (if (decide (x34 < ((z23).length:Int)))=true then ((idx z23 x34).bind fun z37=>((self a2 z37).bind fun z38=>(if (decide (0 < z38))=true then (some z38) else ((fT self a2 z23 k35) ((IntKind.wrap .i64 (x34 + 1))))))) else (some 0))
def bN:Nat→aB→Int→Option Int
 | 0,_,_=>none
 | n + 1,a2,a6 =>
  ((fP n a2 a6).bind fun z7=>(if (!z7.2)=true then (some 0) else ((jm n a2).bind fun z17=>(if ((a6 == z17) || (z7.1.Tag == [111,117,116,108,101,116]))=true then (some a6) else ((iN n a2 a6).bind fun z23=>(fT (bN n) a2 z23 n (0)))))))
def gU (n:Nat) (a2:aB) (a6:Int) (a7:Int):Option (Bool × aB) :=
 ((bN n a2 a6).bind fun z8=>(if (decide (0 < z8))=true then ((iN n a2 z8).bind fun z13=>(if (((z13).length:Int) == 0)=true then ((gI n a2 z8 a7 0).bind fun z18=>(some (z18.1,z18.2))) else (some (false,a2)))) else (some (false,a2))))
def jv (n:Nat) (a2:aB) (a6:Int):Option Int :=
 ((bN n a2 a6).bind fun z7=>((iN n a2 z7).bind fun z11=>(if (((z11).length:Int) == 0)=true then (some 0) else ((idx z11 0).bind fun z16=>(some z16)))))
def jJ (n:Nat) (a2:aB) (a6:Int):Option (Bool × aB) :=
 ((gL n a2 a6).bind fun z7=>(if z7=true then ((idx a2.l (IntKind.wrap .i64 (a6 - 1))).bind fun z15=>(if (z15.parent == 0)=true then (some (false,a2)) else ((j6 n a2 a6).bind fun z17=>(some (true,z17))))) else (some (false,a2))))
def tH (n:Nat) (a2:aB) (a6:Int) (a7:Str):Option (Bool × aB) :=
 ((gL n a2 a6).bind fun z8=>(if z8=true then ((idx a2.l (IntKind.wrap .i64 (a6 - 1))).bind fun z16=>(if (!(z16.tag == []))=true then (some (false,a2)) else (some (true,(aB.mk (jl a2.l (IntKind.wrap .i64 (a6 - 1)) (ah.mk z16.lives z16.tag z16.key a7 z16.attrs z16.kids z16.parent)) a2.freed))))) else (some (false,a2))))
def pg (n:Nat) (a1:Tree):Option bg :=
 (some (bg.mk a1.Tag a1.Key))
def iY (x82:Int) (again83:(List (bg × List Int))→(List Int)→Int→Option (List Int)) (x87:(List (bg × List Int))) (x89:(List Int)):Option (List Int) :=
 (again83 (x87) (x89) ((IntKind.wrap .i64 (x82 + 1))))
def eH (n:Nat) (a2:(List Tree)):Nat→(List (bg × List Int))→(List Int)→Int→Option (List Int)
 | 0,_,_,_=>none
 | k83 + 1,x78,x80,x82 =>
  (if (decide (x82 < ((a2).length:Int)))=true then ((idx a2 x82).bind fun z92=>((pg n z92).bind fun z98=>(if (((jr x78 z98 []).length:Int) == 0)=true then ((app 8 x80 [(-1)]).bind fun z104=>(iY x82 (eH n a2 k83) (x78) (z104))) else ((idx (jr x78 z98 []) 0).bind fun z110=>((app 8 x80 [z110]).bind fun z115=>((pg n z92).bind fun z121=>((cut (jr x78 z98 []) 1 ((jr x78 z98 []).length:Int)).bind fun z122=>(iY x82 (eH n a2 k83) ((kM x78 z98 z122)) (z115))))))))) else (some x80))
def gB (n:Nat) (a1:(List Tree)) (a2:(List Tree)):Nat→(List (bg × List Int))→Int→Option (List Int)
 | 0,_,_=>none
 | k20 + 1,x17,x19 =>
  (if (decide (x19 < ((a1).length:Int)))=true then ((idx a1 x19).bind fun z22=>((pg n z22).bind fun z28=>((app 8 (jr x17 z28 []) [x19]).bind fun z36=>((gB n a1 a2 k20) ((kM x17 z28 z36)) ((IntKind.wrap .i64 (x19 + 1))))))) else (eH n a2 n (x17) ([]) (0)))
def mQ (n:Nat) (a1:(List Tree)) (a2:(List Tree)):Option (List Int) :=
 (gB n a1 a2 n ([]) (0))
def fC (self:aB→Int→Option aB) (z7:ah):Nat→aB→Int→Option aB
 | 0,_,_=>none
 | k42 + 1,x38,x41 =>
  (if (decide (x41 < ((z7.kids).length:Int)))=true then ((idx z7.kids x41).bind fun z44=>((self x38 z44).bind fun z45=>((fC self z7 k42) (z45) ((IntKind.wrap .i64 (x41 + 1)))))) else (some x38))
def gN:Nat→aB→Int→Option aB
 | 0,_,_=>none
 | n + 1,a2,a6 =>
  ((idx a2.l (IntKind.wrap .i64 (a6 - 1))).bind fun z7=>((app 8 a2.freed [a6]).bind fun z20=>(fC (gN n) z7 n ((aB.mk (jl a2.l (IntKind.wrap .i64 (a6 - 1)) (ah.mk (aK.mk false [] [] [] [] 0).lives (aK.mk false [] [] [] [] 0).tag (aK.mk false [] [] [] [] 0).key (aK.mk false [] [] [] [] 0).text (aK.mk false [] [] [] [] 0).attrs [] (aK.mk false [] [] [] [] 0).parent)) z20)) (0))))
def lV (n:Nat) (a2:aB) (a6:Int):Option (Bool × aB) :=
 ((gL n a2 a6).bind fun z7=>(if z7=true then ((idx a2.l (IntKind.wrap .i64 (a6 - 1))).bind fun z15=>(if ((a6 == 1) || (z15.parent != 0))=true then (some (false,a2)) else ((gN n a2 a6).bind fun z18=>(some (true,z18))))) else (some (false,a2))))
def kg (n:Nat) (a2:aB):Option Int :=
 (some (IntKind.wrap .i64 (((a2.l).length:Int) - ((a2.freed).length:Int))))
def oN (n:Nat) (a2:aB) (a6:Int):Option (Int × aB) :=
 ((jm n a2).bind fun z7=>(if (a6 == z7)=true then (some (0,a2)) else ((kg n a2).bind fun z12=>((jJ n a2 a6).bind fun z16=>((lV n z16.2 a6).bind fun z22=>((kg n z22.2).bind fun z28=>(some ((IntKind.wrap .i64 (z12 - z28)),z22.2))))))))
def gJ (n:Nat) (a2:aB) (a6:(List Int)):Nat→(List Tree)→Int→Option (List Tree)
 | 0,_,_=>none
 | k19 + 1,x16,x18 =>
  (if (decide (x18 < ((a6).length:Int)))=true then ((idx a6 x18).bind fun z21=>((fP n a2 z21).bind fun z22=>((app 96 x16 [z22.1]).bind fun z31=>((gJ n a2 a6 k19) (z31) ((IntKind.wrap .i64 (x18 + 1))))))) else (some x16))
def oG (n:Nat) (a2:aB) (a6:(List Int)):Option (List Tree) :=
 (gJ n a2 a6 n ([]) (0))
def iZ (x32:Int) (again33:(List Int)→Int→Option (List Int)) (x37:(List Int)):Option (List Int) :=
 (again33 (x37) ((IntKind.wrap .i64 (x32 + 1))))
def eG (a1:Int) (x14:(List (Int × Int))):Nat→(List Int)→Int→Option (List Int)
 | 0,_,_=>none
 | k33 + 1,x30,x32 =>
  (if (decide (x32 < (zJ a1 0)))=true then (if ((jr x14 x32 0) == 0)=true then ((app 8 x30 [x32]).bind fun z41=>(iZ x32 (eG a1 x14 k33) (z41))) else (iZ x32 (eG a1 x14 k33) (x30))) else (some x30))
def gM (n:Nat) (a1:Int) (a2:(List Int)):Nat→(List (Int × Int))→Int→Option (List Int)
 | 0,_,_=>none
 | k16 + 1,x14,x15 =>
  (if (decide (x15 < ((a2).length:Int)))=true then ((idx a2 x15).bind fun z18=>((gM n a1 a2 k16) ((kM x14 z18 (IntKind.wrap .i64 ((jr x14 z18 0) + 1)))) ((IntKind.wrap .i64 (x15 + 1))))) else (eG a1 x14 n ([]) (0)))
def o9 (n:Nat) (a1:Int) (a2:(List Int)):Option (List Int) :=
 (gM n a1 a2 n ([]) (0))
def kz (x88:Int) (again89:aB→Int→Option (Bool × aB)) (x93:aB):Option (Bool × aB) :=
 (again89 (x93) ((IntKind.wrap .i64 (x88 + 1))))
def fM (n:Nat) (self:aB→Int→Tree→Option (Bool × aB)) (a6:Int) (a7:Tree) (z36:(List Int)) (z44:(List Int)):Nat→aB→Int→Option (Bool × aB)
 | 0,_,_=>none
 | k89 + 1,x84,x88 =>
  (if (decide (x88 < ((a7.Kids).length:Int)))=true then ((idx a7.Kids x88).bind fun z98=>((idx z44 x88).bind fun z104=>(if (decide (z104 < 0))=true then ((eO n x84 z98).bind fun z106=>((gI n z106.2 a6 z106.1 x88).bind fun z113=>(kz x88 (fM n self a6 a7 z36 z44 k89) (z113.2)))) else ((idx z44 x88).bind fun z119=>((idx z36 z119).bind fun z120=>((gI n x84 a6 z120 x88).bind fun z121=>((idx z44 x88).bind fun z127=>((idx z36 z127).bind fun z128=>((self z121.2 z128 z98).bind fun z129=>(kz x88 (fM n self a6 a7 z36 z44 k89) (z129.2))))))))))) else (some (true,x84)))
def iq (n:Nat) (self:aB→Int→Tree→Option (Bool × aB)) (a6:Int) (a7:Tree) (z36:(List Int)) (z44:(List Int)) (z48:(List Int)):Nat→aB→Int→Option (Bool × aB)
 | 0,_,_=>none
 | k63 + 1,x59,x62 =>
  (if (decide (x62 < ((z48).length:Int)))=true then ((idx z48 x62).bind fun z65=>((idx z36 z65).bind fun z66=>((oN n x59 z66).bind fun z67=>((iq n self a6 a7 z36 z44 z48 k63) (z67.2) ((IntKind.wrap .i64 (x62 + 1))))))) else (fM n self a6 a7 z36 z44 n (x59) (0)))
def eZ:Nat→aB→Int→Tree→Option (Bool × aB)
 | 0,_,_,_=>none
 | n + 1,a2,a6,a7 =>
  ((fP n a2 a6).bind fun z11=>(if (((!z11.2) || (!(z11.1.Tag == a7.Tag))) || (!(z11.1.Key == a7.Key)))=true then (some (false,a2)) else (if (a7.Tag == [])=true then ((tH n a2 a6 a7.Text).bind fun z24=>(some (z24.1,z24.2))) else ((j5 n a2 a6 a7.aI).bind fun z30=>((iN n z30.2 a6).bind fun z36=>((oG n z30.2 z36).bind fun z40=>((mQ n z40 a7.Kids).bind fun z44=>((o9 n ((z36).length:Int) z44).bind fun z48=>(iq n (eZ n) a6 a7 z36 z44 z48 n (z30.2) (0))))))))))
def il (n:Nat) (a2:aB) (a6:Int) (a7:Tree):Option (Bool × aB) :=
 ((bN n a2 a6).bind fun z11=>((jv n a2 a6).bind fun z15=>((jJ n a2 z15).bind fun z19=>((eZ n z19.2 a6 a7).bind fun z25=>(if (!z25.1)=true then ((gI n z25.2 z11 z15 0).bind fun z33=>(some (false,z33.2))) else ((gU n z25.2 a6 z15).bind fun z39=>(some (true,z39.2))))))))
def eQ (n:Nat) (a1:(List Tree)):Option (List Tree):=app 96 [] a1
def jK (self:Tree→Option Tree) (a1:Tree) (z8:(List Attr)) (z11:(List Tree)):Nat→(List Tree)→Int→Option Tree
 | 0,_,_=>none
 | k29 + 1,x27,x28 =>
  (if (decide (x28 < ((z11).length:Int)))=true then ((idx x27 x28).bind fun z31=>((self z31).bind fun z37=>((idx x27 x28).bind fun z38=>((jK self a1 z8 z11 k29) ((jl x27 x28 z37)) ((IntKind.wrap .i64 (x28 + 1))))))) else (some (Tree.mk a1.Tag a1.Key a1.Text z8 x27)))
def lF:Nat→Tree→Option Tree
 | 0,_=>none
 | n + 1,a1 =>
  ((bQ n a1.aI).bind fun z8=>((eQ n a1.Kids).bind fun z11=>(jK (lF n) a1 z8 z11 n (z11) (0))))
def jh (n:Nat) (self:Tree→Tree→Option (Tree × Bool)) (a1:Tree) (a2:Tree):Nat→Int→Option (Tree × Bool)
 | 0,_=>none
 | k28 + 1,x27 =>
  (if (decide (x27 < ((a1.Kids).length:Int)))=true then ((idx a1.Kids x27).bind fun z30=>((self z30 a2).bind fun z36=>(if z36.2=true then ((eQ n a1.Kids).bind fun z43=>((idx z43 x27).bind fun z51=>(some ((Tree.mk a1.Tag a1.Key a1.Text a1.aI (jl z43 x27 z36.1)),true)))) else ((jh n self a1 a2 k28) ((IntKind.wrap .i64 (x27 + 1))))))) else (some (a1,false)))
def kF:Nat→Tree→Tree→Option (Tree × Bool)
 | 0,_,_=>none
 | n + 1,a1,a2 =>
  (if (a1.Tag == [111,117,116,108,101,116])=true then (some ((Tree.mk a1.Tag a1.Key a1.Text a1.aI [a2]),true)) else (jh n (kF n) a1 a2 n (0)))
def iU (x17:Str) (x18:Str) (x19:Str) (x20:(List Attr)) (x21:(List Tree)):Option Tree :=
 (some (Tree.mk x17 x18 x19 x20 x21))
def jC:Nat→(List Tree)→Option Tree
 | 0,_=>none
 | n + 1,a1 =>
  (if (((a1).length:Int) == 0)=true then (some (Tree.mk [] [] [] [] [])) else ((idx a1 0).bind fun z8=>((lF n z8).bind fun z9=>(if (decide (1 < ((a1).length:Int)))=true then ((cut a1 1 ((a1).length:Int)).bind fun z26=>(((jC n) z26).bind fun z27=>((kF n z9 z27).bind fun z28=>(iU (z28.1.Tag) (z28.1.Key) (z28.1.Text) (z28.1.aI) (z28.1.Kids))))) else (iU (z9.Tag) (z9.Key) (z9.Text) (z9.aI) (z9.Kids))))))
def iE (n:Nat)  : Option Bool :=
 ((ui n).bind fun z1=>(Jp z1 (some false) (fun x7=>((eO n x7 (Tree.mk [109,97,105,110] [] [] [] [(Tree.mk [111,117,116,108,101,116] [] [] [] [])])).bind fun z18=>((eO n z18.2 (Tree.mk [112] [] [] [] [])).bind fun z25=>((gU n z25.2 z18.1 z25.1).bind fun z32=>((il n z32.2 z18.1 (Tree.mk [98] [] [] [] [])).bind fun z38=>((il n z38.2 z18.1 (Tree.mk [109,97,105,110] [] [] [] [(Tree.mk [108,105] [] [] [] []),(Tree.mk [111,117,116,108,101,116] [] [] [] [])])).bind fun z45=>((fP n z45.2 z18.1).bind fun z52=>(if ((z32.1 && (!z38.1)) && z45.1)=true then ((jv n z45.2 z18.1).bind fun z64=>((if (z64 == z25.1)=true then ((cZ n z52.1 (Tree.mk [109,97,105,110] [] [] [] [(Tree.mk [108,105] [] [] [] []),(Tree.mk [111,117,116,108,101,116] [] [] [] [(Tree.mk [112] [] [] [] [])])])).bind fun z68=>(some z68)) else some false).bind fun z69=>(if z69=true then ((bN n z45.2 1).bind fun z72=>(some (z72 == 1))) else (some false)))) else (some false)))))))))))
def aY (x72:aB) (x76:Bool):Option Bool :=
 (some x76)
def iD (n:Nat) (a1:fA) (a2:Int):Option Bool :=
 ((ui n).bind fun z6=>(Jp z6 (some false) (fun x12=>((eO n x12 (Tree.mk [109,97,105,110] [] [] [] [(Tree.mk [111,117,116,108,101,116] [] [] [] [])])).bind fun z18=>((fH n a1).bind fun z25=>((eO n z18.2 z25).bind fun z26=>((gU n z26.2 z18.1 z26.1).bind fun z33=>(if (!z33.1)=true then (some false) else ((il n z33.2 z18.1 (Tree.mk [109,97,105,110] [] [] [] [])).bind fun z40=>(if (!z40.1)=true then (some false) else ((fP n z40.2 z26.1).bind fun z48=>((eO n z40.2 (Tree.mk [98] [] [] [] [(Tree.mk [] [] [120] [] [])])).bind fun z57=>((df n a2 0 99).bind fun z64=>(if z48.2=true then ((fH n a1).bind fun z79=>((cZ n z48.1 z79).bind fun z80=>(if z80=true then ((jD n z57.2 z26.1).bind fun z82=>(if (z82 == 0)=true then ((j3 n z57.2).bind fun z90=>((iy n z90 [z18.1,z57.1,z26.1]).bind fun z94=>(if z94=true then ((bN n z57.2 z57.1).bind fun z102=>(if (z102 == 0)=true then ((gU n z57.2 z57.1 z26.1).bind fun z116=>(if (!z116.1)=true then ((bN n z116.2 (IntKind.wrap .i64 (500 + z64))).bind fun z137=>(if (z137 == 0)=true then ((jv n z116.2 (IntKind.wrap .i64 (500 + z64))).bind fun z159=>(if (z159 == 0)=true then ((il n z116.2 (IntKind.wrap .i64 (500 + z64)) (Tree.mk [98] [] [] [] [])).bind fun z184=>(if (!z184.1)=true then ((jC n [(Tree.mk [98] [] [] [] []),(Tree.mk [99] [] [] [] [])]).bind fun z218=>((cZ n z218 (Tree.mk [98] [] [] [] [])).bind fun z219=>(if z219=true then ((iE n).bind fun z247=>(aY (z184.2) (z247))) else (aY (z184.2) (false))))) else (aY (z184.2) (false)))) else (aY (z116.2) (false)))) else (aY (z116.2) (false)))) else (aY (z116.2) (false)))) else (aY (z57.2) (false)))) else (aY (z57.2) (false))))) else (aY (z57.2) (false)))) else (aY (z57.2) (false))))) else (aY (z57.2) (false))))))))))))))))
end Pr
end Go.Ev

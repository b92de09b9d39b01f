import Derived.Test.YtdcagjnahedliaaDoorPartA
import Derived.MapKept
import Derived.Orders
import Derived.Laws.IdiomRangeMap
import Derived.Below
import Derived.Lib.SliceRun
import Derived.Lib.SlTrimSet
import Derived.Lib.Bytealg
import Derived.Lib.Join
namespace Go.Ev
noncomputable section
set_option linter.unusedVariables false
set_option linter.unusedSimpArgs false
theorem Du {R:dm} (hR:ObjOk R) {cx:Cx} {S:St} {w w':World} (h:bD R cx S w) {id:Nat} {M M':xO} (hg:S.H.get id=some (.map M))
  (hs:w'.heap.size=w.heap.size) (ho:∀ b,b ≠ cx.bm id→w'.heap[b]? = w.heap[b]?) (h1:w'.os=w.os) (h2:w'.tape=w.tape) (h3:w'.output=w.output)
  {ms':Array MapEntry} {clk':Nat} (hb:w'.heap[cx.bm id]? = some (.map ms' clk')) (hd:ms'.size=M'.es.length∧clk'=M'.clk∧∀ (i:Nat) (p:D × AV × Nat) (m:MapEntry),M'.es[i]? = some p→ms'[i]? = some m→m.born=p.2.2)
  (hv:∀ (i:Nat) (p:D × AV × Nat) (m:MapEntry),M'.es[i]? = some p→ms'[i]? = some m→bT w cx.fr p.1 m.key∧aQ cx S w p.2.1 m.val) :
  bD R cx { S with H:=S.H.set id (.map M') } w'∧Ext cx S w cx { S with H:=S.H.set id (.map M') } w':=by
 obtain ⟨c1,c2,ms0,clk0,c3,c4,c5⟩:=h.maps id M hg
 have hlive:live S id:=by simp [live,cur,hg]
 have hcur:∀ i,cur { S with H:=S.H.set id (.map M') } i=cur S i:=fun i=>by
  unfold cur
  simp only [AL.bq]
  by_cases hi:id=i
  ·
   subst hi; simp [hg]
  ·
   simp [hi]
 have e:Ext cx S w cx { S with H:=S.H.set id (.map M') } w':=by
  refine ⟨by omega,h1,h2,h3,Nat.le_refl _,fun b o v hf hc=>?_,fun b hlt hn=>?_,fun i b hl hf=>?_,fun i gi _ hi=>⟨gi,by
   unfold isIt at *
   simp only [AL.bq] at hi
   split at hi
   ·
    cases hi
   ·
    exact hi⟩,fun _ _ _ _ _ _ hf=>hf,fun i g' hi hg'=>?_⟩
  ·
   have hne:b ≠ cx.bm id:=fun q=>hf (by rw [q]; exact c2 o)
   exact ⟨qz (ho b hne) hc,hf⟩
  ·
   have hne:b ≠ cx.bm id:=fun q=>EL hg (by simp) (hn id hlive ((c1 b).2 q))
   exact ⟨ho b hne,fun _=>Iff.rfl⟩
  ·
   have hl':live S i:=by unfold live at *; rwa [hcur i] at hl
   exact ⟨fun _=>⟨hl',.inl hf⟩,fun hge=>absurd (h.wf i hl') (by show ¬ i < S.nx; omega)⟩
  ·
   rw [hcur i] at hg'
   exact ⟨g',hg',Nat.le_refl _,fun _=>⟨rfl,rfl,rfl⟩⟩
 have hl':∀ i,live { S with H:=S.H.set id (.map M') } i→live S i:=fun i hl=>by unfold live at *; rwa [hcur i] at hl
 have hne:∀ i,live S i→i ≠ id→∀ b,cx.fp i b→b ≠ cx.bm id:=fun i hi hne b hf hq=>hne (h.sep i id b hi hlive hf ((c1 b).2 hq))
 refine ⟨⟨fun i hi=>h.wf i (hl' i hi),fun i b hi=>?_,fun i g' cs1 hi=>?_,fun i es hi=>?_,fun i k x hi=>?_,fun i en hi=>?_,fun i i' b a1 a2 f1 f2=>h.sep i i' b (hl' i a1) (hl' i' a2) f1 f2,fun b o hf=>by rw [hs]; exact h.lt b o hf,hR.stat _ _ _ _ h.stat e.prot (h.still e)⟩,e⟩
 ·
  simp only [AL.bq] at hi
  by_cases q:id=i
  ·
   subst q; exact h.tK id _ hg
  ·
   rw [if_neg q] at hi; exact h.tK i b hi
 ·
  simp only [AL.bq] at hi
  by_cases q:id=i
  ·
   subst q; simp at hi
  ·
   rw [if_neg q] at hi
   obtain ⟨d1,d2,arr2,el2,d3,d4,d5⟩:=h.cells i g' cs1 hi
   refine ⟨d1,d2,arr2,el2,?_,d4,fun j x hx=>by
    obtain ⟨v,v1,v2,v3⟩:=d5 j x hx
    exact ⟨v,v1,v2.mono e,v3⟩⟩
   rw [ho _ (hne i (by simp [live,cur,hi]) (Ne.symm q) _ ((d1 _).2 rfl))]; exact d3
 ·
  simp only [AL.bq] at hi
  by_cases q:id=i
  ·
   subst q
   simp only [if_true,Option.some.injEq,uS.map.injEq] at hi
   subst hi
   exact ⟨c1,c2,ms',clk',hb,hd,fun j p m hp hm=>by
    obtain ⟨v1,v2⟩:=hv j p m hp hm
    exact ⟨v1.mono e.prot,v2.mono e⟩⟩
  ·
   rw [if_neg q] at hi
   obtain ⟨d1,d2,ms,clk,d3,d4,d5⟩:=h.maps i es hi
   refine ⟨d1,d2,ms,clk,?_,d4,fun j p m hp hm=>by
    obtain ⟨v1,v2⟩:=d5 j p m hp hm
    exact ⟨v1.mono e.prot,v2.mono e⟩⟩
   rw [ho _ (hne i (by simp [live,cur,hi]) (Ne.symm q) _ ((d1 _).2 rfl))]; exact d3
 ·
  simp only [AL.bq] at hi
  by_cases q:id=i
  ·
   subst q; simp at hi
  ·
   rw [if_neg q] at hi
   obtain ⟨d1,d2⟩:=h.objs i k x hi
   exact ⟨hR.frame k x w w' _ _ d1 (fun c hc=>ho c (hne i (by simp [live,cur,hi]) (Ne.symm q) c hc)),d2⟩
 ·
  obtain ⟨d1,d2,arr2,el2,fz,d3,d4,d5,d6⟩:=h.toks i en hi
  have q:i ≠ id:=fun q=>by subst q; have:=h.tK i _ hg; rw [this] at hi; cases hi
  have hli:live S i:=by
   unfold live cur
   cases hH:S.H.get i with
   | some b=>have:=h.tK i b hH; rw [this] at hi; cases hi
   | none=>simp [hi]
  refine ⟨d1,d2,arr2,el2,fz,?_,d4,d5,d6⟩
  rw [ho _ (hne i hli q _ ((d1 _).2 rfl))]; exact d3
theorem CV {R:dm} (hR:ObjOk R) {cx:Cx} {S:St} {w:World} (h:bD R cx S w) :
  ∃ cx',bD R cx' { S with H:=S.H.set S.nx (.map { es:=[],clk:=0 }),nx:=S.nx + 1 } (w.alloc (.map #[] 0))∧Ext cx S w cx' { S with H:=S.H.set S.nx (.map { es:=[],clk:=0 }),nx:=S.nx + 1 } (w.alloc (.map #[] 0)) ∧
   aQ cx' { S with H:=S.H.set S.nx (.map { es:=[],clk:=0 }),nx:=S.nx + 1 } (w.alloc (.map #[] 0)) (.map S.nx) (.map (some w.heap.size)):=by
 obtain ⟨nH,nT⟩:=ow h
 generalize hS':({ S with H:=S.H.set S.nx (.map { es:=[],clk:=0 }),nx:=S.nx + 1 }:St)=S'
 have hH:∀ id,id ≠ S.nx→S'.H.get id=S.H.get id:=fun id hid=>by rw [← hS']; simp [AL.bq,Ne.symm hid]
 have hT:∀ id,id ≠ S.nx→S'.T.get id=S.T.get id:=fun id hid=>by rw [← hS']
 have hnx:S'.nx=S.nx + 1:=by rw [← hS']
 have nT':S'.T.get S.nx=none:=by rw [← hS']; exact nT
 have hc:∀ id,id ≠ S.nx→cur S' id=cur S id:=fun id hid=>by unfold cur; rw [hH id hid,hT id hid]
 have hnew:S'.H.get S.nx=some (.map { es:=[],clk:=0 }):=by rw [← hS']; simp [AL.bq]
 have e:=Ext.fresh (S':=S') h (.map #[] 0) 0 0 (fun _=>True) hnx hc hH
 refine ⟨cx.new S.nx w.heap.size 0 0 (fun _=>True),bD.fresh hR h _ 0 0 _ hnx hH hT (fun b _=>nT') (fun g cs' hg=>?_) (fun es hg=>?_) (fun k x hg=>?_) (fun en hg=>?_),e,?_⟩
 ·
  rw [hnew] at hg; cases hg
 ·
  rw [hnew] at hg
  simp only [Option.some.injEq,uS.map.injEq] at hg
  subst hg
  exact ⟨fun c=>by simp [Cx.new],fun o=>by simp [Cx.new],#[],0,by simp only [Cx.new,if_true]; exact heap_alloc_new w _,⟨rfl,rfl,fun i p m hp=>by simp at hp⟩,fun i p m hp=>by simp at hp⟩
 ·
  rw [hnew] at hg; cases hg
 ·
  rw [nT'] at hg; cases hg
 ·
  exact .map S.nx w.heap.size ⟨by rw [hnx]; exact Nat.lt_succ_self _,fun g' _=>Nat.zero_le _⟩ (fun _=>by simp [Cx.new])
theorem nP {C:gG} {t k e:Nat} (h:uQ C t=some (k,e)):C.P.underlying t=some (.map k e):=by
 unfold uQ at h
 split at h
 ·
  rename_i k' e' hu
  simp only [Option.some.injEq,Prod.mk.injEq] at h
  rw [hu,h.1,h.2]
 ·
  cases h
theorem uL {R:dm} {cx:Cx} {S:St} {w:World} (hS:bD R cx S w) {id:Nat} {M:xO} (hg:S.H.get id=some (.map M)) {b:Nat} (hx:aQ cx S w (.map id) (.map (some b))) :
  b=cx.bm id∧∃ ms,w.heap[cx.bm id]? = some (.map ms M.clk)∧LB w cx.fr M.es ms.toList∧(∀ (i:Nat) (p:D × AV × Nat) (m:MapEntry),M.es[i]? = some p→ms[i]? = some m→m.born=p.2.2∧bT w cx.fr p.1 m.key∧aQ cx S w p.2.1 m.val)∧ms.size=M.es.length:=by
 obtain ⟨c1,c2,ms,clk,c3,⟨c4,c4',c4''⟩,c5⟩:=hS.maps id M hg
 subst c4'
 cases hx with
 | map _ _ hn hp =>
  refine ⟨hp (by simp [cur,hg]),ms,c3,⟨by simpa using c4,fun i p m hp hm=>(c5 i p m hp (by simpa using hm)).1⟩,fun i p m hp hm=>⟨c4'' i p m hp hm,(c5 i p m hp hm).1,(c5 i p m hp hm).2⟩,c4⟩
theorem uE {cx:Cx} {S:St} {w:World} {P:Program} {t:Nat} {k:D} {es:List (D × AV × Nat)} {ms:Array MapEntry} (hval:∀ (i:Nat) (p:D × AV × Nat) (m:MapEntry),es[i]? = some p→ms[i]? = some m→aQ cx S w p.2.1 m.val) {i:Nat} {v:AV} {o:Option (Nat × Value)}
  (hf:ni P t k es 0=some (some (i,v))) (ho:Found ms.toList 0 (some (i,v)) o):∃ b m,es[i]? = some (k,v,b)∧ms[i]? = some m∧o=some (i,m.val)∧aQ cx S w v m.val:=by
 obtain ⟨b,_,h2⟩:=zR hf
 obtain ⟨m,_,m2,m3⟩:=ho
 rw [Nat.sub_zero] at h2 m2
 have m2':ms[i]? = some m:=by simpa using m2
 exact ⟨b,m,h2,m2',m3,hval i _ m h2 m2'⟩
theorem Da {R:dm} {C:gG} {cx:Cx} {S:St} {w:World} (hS:bD R cx S w) {t:Nat} {m v:AV} {k:D} {ok:Bool} {mv kv:Value} (h:oI C t S m k ok=some v) (hm:aQ cx S w m mv) (hk:bT w cx.fr k kv) :
  ∃ u,(Instr.lookup t mv kv ok).run C.P w=.ok u w∧aQ cx S w v u:=by
 unfold oI at h
 split at h
 ·
  rename_i kt et M hkt hM
  have hu:=nP hkt
  split at h
  ·
   rename_i hkey
   have hchk:=uH hkey hk
   have fin:∀ (ms:Array MapEntry),LB w cx.fr M.es ms.toList→(∀ (i:Nat) (p:D × AV × Nat) (m:MapEntry),M.es[i]? = some p→ms[i]? = some m→aQ cx S w p.2.1 m.val) →
     ∃ u:Value × Bool,∃ o,(Instr.findKey kt kv ms.toList).run C.P w=.ok o w∧aQ cx S w v (if ok then .tuple #[u.1,.bool u.2] else u.1) ∧
      ((∃ i,o=some (i,u.1)∧u.2=true)∨(o=none∧(zeroValue et).run C.P w=.ok u.1 w∧u.2=false)):=by
    intro ms hE hval
    have two:∀ {y:AV} {x:Value} {b:Bool},aQ cx S w y x→aQ cx S w (if ok=true then .tup [y,.d (.bool b)] else y) (if ok=true then .tuple #[x,.bool b] else x):=by
     intro y x b hy
     cases ok
     ·
      exact hy
     ·
      refine .tup [y,.d (.bool b)] [x,.bool b] rfl (fun i a c ha hc=>?_)
      match i,ha,hc with
      | 0,ha,hc=>simp at ha hc; subst ha; subst hc; exact hy
      | 1,ha,hc=>simp at ha hc; subst ha; subst hc; exact .of_bool b
    split at h
    ·
     rename_i i y hf
     simp only [Option.some.injEq] at h; subst h
     obtain ⟨o,o1,o2⟩:=ji (P:=C.P) hkey hk hE hf
     obtain ⟨b,m',_,_,q3,q4⟩:=uE hval hf o2
     exact ⟨(m'.val,true),o,o1,two q4,.inl ⟨i,q3,rfl⟩⟩
    ·
     rename_i hf
     simp only [Option.map_eq_some_iff] at h
     obtain ⟨z,hz,rfl⟩:=h
     obtain ⟨o,o1,o2⟩:=ji (P:=C.P) hkey hk hE hf
     obtain ⟨zv,z1,z2⟩:=mo hz w cx.fr
     have:o=none:=o2
     exact ⟨(zv,false),o,o1,two (.d z zv z2),.inr ⟨this,z1,rfl⟩⟩
    ·
     cases h
   have go:∀ (ms:Array MapEntry) (u:Value × Bool) (o:Option (Nat × Value)),(Instr.findKey kt kv ms.toList).run C.P w=.ok o w→((∃ i,o=some (i,u.1)∧u.2=true)∨(o=none∧(zeroValue et).run C.P w=.ok u.1 w∧u.2=false)) →
     ((mv=.map none∧ms = #[])∨∃ r c,mv=.map (some r)∧w.heap[r]? = some (.map ms c))→(Instr.lookup t mv kv ok).run C.P w=.ok (if ok then .tuple #[u.1,.bool u.2] else u.1) w:=by
    intro ms u o ho hor hmv
    obtain ⟨u1,u2⟩:=u
    rcases hmv with ⟨rfl,rfl⟩ | ⟨r,c,rfl,hr⟩ <;> rcases hor with ⟨i,rfl,hb⟩ | ⟨rfl,hz,hb⟩ <;> simp only at hb <;> subst hb
    ·
     simp only [Instr.lookup,Sem.run_bind,bg w hu,Result.andThen_ok,Sem.run_pure,hchk,ho]
    ·
     simp only at hz
     simp only [Instr.lookup,Sem.run_bind,bg w hu,Result.andThen_ok,Sem.run_pure,hchk,ho,hz]
    ·
     simp only [Instr.lookup,Sem.run_bind,bg w hu,Result.andThen_ok,Sem.run_pure,hchk,ho,MapKept.run_getObj_map hr]
    ·
     simp only at hz
     simp only [Instr.lookup,Sem.run_bind,bg w hu,Result.andThen_ok,Sem.run_pure,hchk,ho,hz,MapKept.run_getObj_map hr]
   unfold mapOf at hM
   split at hM
   ·
    simp only [Option.some.injEq] at hM; subst hM
    have:=hm.dd.val rfl; cases this
    obtain ⟨u,o,f1,f2,f3⟩:=fin #[] ⟨rfl,by simp⟩ (by simp)
    exact ⟨_,go #[] u o f1 f3 (.inl ⟨rfl,rfl⟩),f2⟩
   ·
    rename_i id
    split at hM
    ·
     rename_i M' hg
     simp only [Option.some.injEq] at hM; subst hM
     cases hm with
     | map _ b hn hp =>
      obtain ⟨p1,ms,p2,p3,p4,p5⟩:=uL hS hg (.map id b hn hp)
      subst p1
      obtain ⟨u,o,f1,f2,f3⟩:=fin ms p3 (fun i p m hp hm=>(p4 i p m hp hm).2.2)
      exact ⟨_,go ms u o f1 f3 (.inr ⟨_,_,rfl,p2⟩),f2⟩
    ·
     cases hM
   ·
    cases hM
  ·
   cases h
 ·
  cases h
theorem kg {R:dm} (hR:ObjOk R) {P:Program} {cx:Cx} {S:St} {w:World} (h:bD R cx S w) {id:Nat} {M M':xO} (hg:S.H.get id=some (.map M)) {ms ms':Array MapEntry} {c c':Nat} (hb:w.heap[cx.bm id]? = some (.map ms c))
  (hd:ms'.size=M'.es.length∧c'=M'.clk)
  (hv:∀ (i:Nat) (p:D × AV × Nat) (m:MapEntry),M'.es[i]? = some p→ms'[i]? = some m→m.born=p.2.2∧bT w cx.fr p.1 m.key∧aQ cx S w p.2.1 m.val) :
  ∃ w',(setObj (cx.bm id) (.map ms' c')).run P w=.ok () w'∧bD R cx { S with H:=S.H.set id (.map M') } w'∧Ext cx S w cx { S with H:=S.H.set id (.map M') } w':=by
 have hlt:cx.bm id < w.heap.size:=by
  rcases Nat.lt_or_ge (cx.bm id) w.heap.size with q | q
  ·
   exact q
  ·
   rw [Array.getElem?_eq_none q] at hb; cases hb
 refine ⟨_,MapKept.run_setObj_map _ hb,Du hR h hg (by simp) (fun b hne=>?_) rfl rfl rfl (ms':=ms') (clk':=c') ?_ ⟨hd.1,hd.2,fun i p m hp hm=>(hv i p m hp hm).1⟩ (fun i p m hp hm=>(hv i p m hp hm).2)⟩
 ·
  simp only [Array.getElem?_setIfInBounds]
  rw [if_neg (Ne.symm hne)]
 ·
  simp only [Array.getElem?_setIfInBounds,hlt,if_true]
theorem yo {P:Program} {w:World} {fr:Nat→Nat→Prop} {t:Nat} {k:D} {v u:Value} (hk:qX P t k=true) (h1:bT w fr k v) (h2:bT w fr k u):(Instr.keyThatStays v u).run P w=.ok u w:=by
 have:=MM hk h1 h2; subst this
 unfold Instr.keyThatStays
 rw [if_pos (Km hk h1 9999)]
 rfl
theorem wJ {cx:Cx} {S:St} {w:World} {es:List (D × AV × Nat)} {ms:Array MapEntry} {p0:D × AV × Nat} {m0:MapEntry} (hsz:ms.size=es.length) (h:∀ (i:Nat) (p:D × AV × Nat) (m:MapEntry),es[i]? = some p→ms[i]? = some m→m.born=p.2.2∧bT w cx.fr p.1 m.key∧aQ cx S w p.2.1 m.val)
  (h0:m0.born=p0.2.2∧bT w cx.fr p0.1 m0.key∧aQ cx S w p0.2.1 m0.val):∀ (i:Nat) (p:D × AV × Nat) (m:MapEntry),(es ++ [p0])[i]? = some p→(ms.push m0)[i]? = some m→m.born=p.2.2∧bT w cx.fr p.1 m.key∧aQ cx S w p.2.1 m.val:=by
 intro i p m hp hm
 rw [Array.getElem?_push] at hm
 rw [List.getElem?_append] at hp
 by_cases hi:i=ms.size
 ·
  rw [if_pos hi] at hm
  rw [if_neg (by omega),show i - es.length=0 by omega] at hp
  simp at hp hm; subst hp; subst hm; exact h0
 ·
  rw [if_neg hi] at hm
  have hlt:i < ms.size:=(Array.getElem?_eq_some_iff.1 hm).1
  rw [if_pos (by omega)] at hp
  exact h i p m hp hm
theorem qw {cx:Cx} {S:St} {w:World} {es:List (D × AV × Nat)} {ms:Array MapEntry} {j:Nat} {f:D × AV × Nat→D × AV × Nat} {g:MapEntry→MapEntry} (h:∀ (i:Nat) (p:D × AV × Nat) (m:MapEntry),es[i]? = some p→ms[i]? = some m→m.born=p.2.2∧bT w cx.fr p.1 m.key∧aQ cx S w p.2.1 m.val)
  (h0:∀ (p:D × AV × Nat) (m:MapEntry),es[j]? = some p→ms[j]? = some m→(g m).born=(f p).2.2∧bT w cx.fr (f p).1 (g m).key∧aQ cx S w (f p).2.1 (g m).val):∀ (i:Nat) (p:D × AV × Nat) (m:MapEntry),(es.modify j f)[i]? = some p→(ms.modify j g)[i]? = some m→m.born=p.2.2∧bT w cx.fr p.1 m.key∧aQ cx S w p.2.1 m.val:=by
 intro i p m hp hm
 rw [Array.getElem?_modify] at hm
 rw [List.getElem?_modify] at hp
 by_cases hi:j=i
 ·
  subst hi
  simp only [if_true,Option.map_eq_map,Option.map_eq_some_iff] at hp hm
  obtain ⟨p1,q1,q2⟩:=hp
  obtain ⟨m1,r1,r2⟩:=hm
  have q2':f p1=p:=by simpa using q2
  subst q2'; subst r2
  exact h0 p1 m1 q1 r1
 ·
  rw [if_neg hi] at hm
  simp only [Option.map_eq_map,Option.map_eq_some_iff] at hp
  obtain ⟨p1,q1,q2⟩:=hp
  have q2':p1=p:=by simpa [hi] using q2
  subst q2'
  exact h i p1 m q1 hm
theorem wB {R:dm} (hR:ObjOk R) {C:gG} {cx:Cx} {S S':St} {w:World} (hS:bD R cx S w) {t:Nat} {m v:AV} {k:D} {mv kv vv:Value} (h:uy C t S m k v=some S') (hm:aQ cx S w m mv) (hk:bT w cx.fr k kv) (hv:aQ cx S w v vv) :
  ∃ w',(Instr.mapUpdate t mv kv vv).run C.P w=.ok () w'∧bD R cx S' w'∧Ext cx S w cx S' w':=by
 unfold uy at h
 split at h
 ·
  rename_i kt et id hkt
  have hu:=nP hkt
  split at h
  ·
   rename_i M hg
   split at h
   ·
    rename_i hc
    simp only [Bool.and_eq_true] at hc
    obtain ⟨hkey,hpl⟩:=hc
    have hchk:=uH hkey hk false
    cases hm with
    | map _ b hn hp =>
    obtain ⟨p1,ms,p2,p3,p4,p5⟩:=uL hS hg (.map id b hn hp)
    subst p1
    split at h
    ·
     rename_i i y hf
     simp only [Option.some.injEq] at h; subst h
     obtain ⟨o,o1,o2⟩:=ji (P:=C.P) hkey hk p3 hf
     obtain ⟨bn,m',q1,q2,q3,q4⟩:=uE (fun i p m hp hm=>(p4 i p m hp hm).2.2) hf o2
     subst q3
     obtain ⟨w',k1,k2,k3⟩:=kg hR (P:=C.P) (M':={ M with es:=M.es.modify i fun p=>(k,v,p.2.2) }) (ms':=ms.modify i fun e=>{ e with key:=kv,val:=vv }) (c':=M.clk) hS hg p2 ⟨by simp [p5],rfl⟩
      (qw p4 (fun p m hp hm=>⟨(p4 i p m hp hm).1,hk,hv⟩))
     refine ⟨w',?_,k2,k3⟩
     have hst:=yo hkey (p4 i _ m' q1 q2).2.1 hk
     simp only [Instr.mapUpdate,Sem.run_bind,bg w hu,Result.andThen_ok,MapKept.run_getObj_map p2,hchk,o1,q2,Option.map_some,Option.getD_some,hst]
     exact k1
    ·
     rename_i hf
     simp only [Option.some.injEq] at h; subst h
     obtain ⟨o,o1,o2⟩:=ji (P:=C.P) hkey hk p3 hf
     have:o=none:=o2
     subst this
     obtain ⟨w',k1,k2,k3⟩:=kg hR (P:=C.P) (M':={ es:=M.es ++ [(k,v,M.clk)],clk:=M.clk + 1 }) (ms':=ms.push { key:=kv,val:=vv,born:=M.clk }) (c':=M.clk + 1) hS hg p2 ⟨by simp [p5],rfl⟩
      (wJ p5 p4 ⟨rfl,hk,hv⟩)
     refine ⟨w',?_,k2,k3⟩
     simp only [Instr.mapUpdate,Sem.run_bind,bg w hu,Result.andThen_ok,MapKept.run_getObj_map p2,hchk,o1]
     exact k1
    ·
     cases h
   ·
    cases h
  ·
   cases h
 ·
  cases h
theorem qh {R:dm} {cx:Cx} {S:St} {w w':World} {id:Nat} {b:uS} (hg:S.H.get id=some b) (h1:bD R cx { S with H:=S.H.set id b } w') (h2:Ext cx S w cx { S with H:=S.H.set id b } w'):bD R cx S w'∧Ext cx S w cx S w':=by
 have hH:∀ i,({ S with H:=S.H.set id b }:St).H.get i=S.H.get i:=fun i=>by
  simp only [AL.bq]
  by_cases q:id=i
  ·
   subst q; simp [hg]
  ·
   simp [q]
 have hcur:∀ i,cur { S with H:=S.H.set id b } i=cur S i:=fun i=>by unfold cur; rw [hH i]
 have hl:∀ i,live { S with H:=S.H.set id b } i↔live S i:=fun i=>by unfold live; rw [hcur i]
 have e2:Ext cx { S with H:=S.H.set id b } w' cx S w':=by
  refine ⟨Nat.le_refl _,rfl,rfl,rfl,Nat.le_refl _,fun _ _ _ q1 q2=>⟨q2,q1⟩,fun _ _ _=>⟨rfl,fun _=>Iff.rfl⟩,fun i b hi hf=>⟨fun _=>⟨(hl i).2 hi,.inl hf⟩,fun hge=>absurd (h1.wf i ((hl i).2 hi)) (by show ¬ i < S.nx; exact Nat.not_lt.2 hge)⟩,fun i g _ hi=>⟨g,by unfold isIt at *; rw [hH i]; exact hi⟩,fun _ _ _ _ _ _ hf=>hf,fun i g hi hg'=>⟨g,by rw [hcur i]; exact hg',Nat.le_refl _,fun _=>⟨rfl,rfl,rfl⟩⟩⟩
 refine ⟨⟨fun i hi=>h1.wf i ((hl i).2 hi),fun i b hi=>h1.tK i b (by rw [hH i]; exact hi),fun i g cs hi=>?_,fun i es hi=>?_,fun i k x hi=>h1.objs i k x (by rw [hH i]; exact hi),fun i n hi=>h1.toks i n hi,fun i i' b a1 a2=>h1.sep i i' b ((hl i).2 a1) ((hl i').2 a2),h1.lt,h1.stat⟩,h2.trans e2⟩
 ·
  obtain ⟨d1,d2,arr2,el2,d3,d4,d5⟩:=h1.cells i g cs (by rw [hH i]; exact hi)
  exact ⟨d1,d2,arr2,el2,d3,d4,fun j x hx=>by
   obtain ⟨v,v1,v2,v3⟩:=d5 j x hx
   exact ⟨v,v1,v2.mono e2,v3⟩⟩
 ·
  obtain ⟨d1,d2,ms,clk,d3,d4,d5⟩:=h1.maps i es (by rw [hH i]; exact hi)
  exact ⟨d1,d2,ms,clk,d3,d4,fun j p m hp hm=>by
   obtain ⟨v1,v2⟩:=d5 j p m hp hm
   exact ⟨v1,v2.mono e2⟩⟩
theorem Fj {R:dm} (hR:ObjOk R) {C:gG} {cx:Cx} {S:St} {w:World} (hS:bD R cx S w) {t:Nat} {m:AV} {k:D} {r:AV × St} {mv kv:Value} (h:CJ C t S m k=some r) (hm:aQ cx S w m mv) (hk:bT w cx.fr k kv) :
  ∃ w' u,(Instr.mapEntry t mv kv).run C.P w=.ok u w'∧bD R cx r.2 w'∧Ext cx S w cx r.2 w'∧aQ cx r.2 w' r.1 u:=by
 have two:∀ {S':St} {w':World} {y:AV} {x:Value} {n:Nat},aQ cx S' w' y x→aQ cx S' w' (.tup [y,.d (.int .i64 (n:Nat))]) (.tuple #[x,goInt n]):=by
  intro S' w' y x n hy
  refine .tup [y,.d (.int .i64 n)] [x,goInt n] rfl (fun i a c ha hc=>?_)
  match i,ha,hc with
  | 0,ha,hc=>simp at ha hc; subst ha; subst hc; exact hy
  | 1,ha,hc=>simp at ha hc; subst ha; subst hc; exact .of_int _ _
 unfold CJ at h
 split at h
 ·
  rename_i kt et id hkt
  have hu:=nP hkt
  split at h
  ·
   rename_i M hg
   split at h
   ·
    rename_i hkey
    have hchk:=uH hkey hk false
    cases hm with
    | map _ b hn hp =>
    obtain ⟨p1,ms,p2,p3,p4,p5⟩:=uL hS hg (.map id b hn hp)
    subst p1
    split at h
    ·
     rename_i i y hf
     split at h
     ·
      rename_i p hpi
      simp only [Option.some.injEq] at h; subst h
      obtain ⟨o,o1,o2⟩:=ji (P:=C.P) hkey hk p3 hf
      obtain ⟨bn,m',q1,q2,q3,q4⟩:=uE (fun i p m hp hm=>(p4 i p m hp hm).2.2) hf o2
      subst q3
      rw [hpi] at q1
      simp only [Option.some.injEq] at q1; subst q1
      have hsame:M.es.modify i (fun p=>(k,p.2.1,p.2.2))=M.es:=by
       apply List.ext_getElem?
       intro j
       rw [List.getElem?_modify]
       by_cases hj:i=j
       ·
        subst hj; rw [hpi]; simp
       ·
        simp [hj]
      obtain ⟨w',k1,k2,k3⟩:=kg hR (P:=C.P) (M':={ M with es:=M.es.modify i fun p=>(k,p.2.1,p.2.2) }) (ms':=ms.modify i fun e=>{ e with key:=kv }) (c':=M.clk) hS hg p2 ⟨by simp [p5],rfl⟩
       (qw p4 (fun p m hp hm=>⟨(p4 i p m hp hm).1,hk,(p4 i p m hp hm).2.2⟩))
      rw [hsame] at k2 k3
      have hback:bD R cx S w'∧Ext cx S w cx S w':=qh hg k2 k3
      have hborn:=(p4 i _ m' hpi q2).1
      refine ⟨w',.tuple #[m'.val,goInt m'.born],?_,hback.1,hback.2,?_⟩
      ·
       have hst:=yo hkey (p4 i _ m' hpi q2).2.1 hk
       simp only [Instr.mapEntry,Sem.run_bind,bg w hu,Result.andThen_ok,MapKept.run_getObj_map p2,hchk,o1,q2,Option.map_some,Option.getD_some,hst]
       rw [k1]; rfl
      ·
       rw [hborn]
       exact two (q4.mono hback.2)
     ·
      cases h
    ·
     rename_i hf
     simp only [Option.map_eq_some_iff] at h
     obtain ⟨z,hz,rfl⟩:=h
     obtain ⟨o,o1,o2⟩:=ji (P:=C.P) hkey hk p3 hf
     have:o=none:=o2
     subst this
     obtain ⟨zv,z1,z2⟩:=mo hz w cx.fr
     obtain ⟨w',k1,k2,k3⟩:=kg hR (P:=C.P) (M':={ es:=M.es ++ [(k,.d z,M.clk)],clk:=M.clk + 1 }) (ms':=ms.push { key:=kv,val:=zv,born:=M.clk }) (c':=M.clk + 1) hS hg p2 ⟨by simp [p5],rfl⟩
      (wJ p5 p4 ⟨rfl,hk,.d z zv z2⟩)
     refine ⟨w',.tuple #[zv,goInt M.clk],?_,k2,k3,two ((aQ.d z zv z2).mono k3)⟩
     simp only [Instr.mapEntry,Sem.run_bind,bg w hu,Result.andThen_ok,MapKept.run_getObj_map p2,hchk,o1,z1]
     rw [k1]; rfl
    ·
     cases h
   ·
    cases h
  ·
   cases h
 ·
  cases h
theorem rz {n:Nat}:∀ {es:List (D × AV × Nat)} {i0 i:Nat},qy n es i0=some i→i0 ≤ i∧(∃ p,es[i - i0]? = some p∧p.2.2=n)∧∀ j p,i0 ≤ j→j < i→es[j - i0]? = some p→p.2.2 ≠ n
 | [],i0,i,h=>by simp [qy] at h
 | (x,v,b) :: l,i0,i,h=>by
  simp only [qy] at h
  cases hb:Nat.beq b n with
  | true =>
   rw [hb] at h
   simp only [cond_true,Option.some.injEq] at h
   subst h
   exact ⟨Nat.le_refl _,⟨(x,v,b),by simp,Nat.eq_of_beq_eq_true hb⟩,fun j p h1 h2=>by omega⟩
  | false =>
   rw [hb] at h
   simp only [cond_false] at h
   obtain ⟨h1,⟨p,h2,h3⟩,h4⟩:=rz h
   refine ⟨by omega,⟨p,?_,h3⟩,fun j q hj1 hj2 hq=>?_⟩
   ·
    rw [show i - i0=(i - (i0 + 1)) + 1 by omega]; simpa using h2
   ·
    by_cases hj:j=i0
    ·
     subst hj
     simp at hq; subst hq
     intro e
     simp only at e
     rw [e] at hb
     simp at hb
    ·
     refine h4 j q (by omega) hj2 ?_
     rw [show j - i0=(j - (i0 + 1)) + 1 by omega] at hq
     simpa using hq
theorem xq {R:dm} (hR:ObjOk R) {C:gG} {cx:Cx} {S S':St} {w:World} (hS:bD R cx S w) {t:Nat} {m v:AV} {st:D} {mv sv vv:Value} (h:sJ S m st v=some S') (hm:aQ cx S w m mv) (hs:bT w cx.fr st sv) (hv:aQ cx S w v vv) :
  ∃ w',(Instr.entryStore t mv sv vv).run C.P w=.ok () w'∧bD R cx S' w'∧Ext cx S w cx S' w':=by
 unfold sJ at h
 split at h
 ·
  rename_i id n
  split at h
  ·
   rename_i M hg
   split at h
   ·
    rename_i hc
    obtain ⟨hn0,hpl⟩:=hc
    have:=hs.val rfl; cases this
    cases hm with
    | map _ b hn hp =>
    obtain ⟨p1,ms,p2,p3,p4,p5⟩:=uL hS hg (.map id b hn hp)
    subst p1
    split at h
    ·
     rename_i i hf
     simp only [Option.some.injEq] at h; subst h
     obtain ⟨_,⟨p,f2,f3⟩,f4⟩:=rz hf
     rw [Nat.sub_zero] at f2
     have hil:i < ms.size:=by rw [p5]; exact (List.getElem?_eq_some_iff.1 f2).1
     have hidx:ms.findIdx? (fun e=>(e.born:Int) == n)=some i:=by
      rw [Array.findIdx?_eq_some_iff_getElem]
      refine ⟨hil,?_,fun j hj=>?_⟩
      ·
       have:=(p4 i p ms[i] f2 (by simp [hil])).1
       rw [this,f3]
       simp [Int.toNat_of_nonneg hn0]
      ·
       have hjl:j < M.es.length:=by omega
       have hq:=List.getElem?_eq_getElem hjl
       have hb:=(p4 j M.es[j] ms[j] hq (by simp [show j < ms.size by omega])).1
       have hne:=f4 j M.es[j] (Nat.zero_le _) hj (by rw [Nat.sub_zero]; exact hq)
       simp only [beq_iff_eq]
       rw [hb]
       intro e
       apply hne
       omega
     obtain ⟨w',k1,k2,k3⟩:=kg hR (P:=C.P) (M':={ M with es:=M.es.modify i fun p=>(p.1,v,p.2.2) }) (ms':=ms.modify i fun e=>{ e with val:=vv }) (c':=M.clk) hS hg p2 ⟨by simp [p5],rfl⟩
      (qw p4 (fun p m hp hm=>⟨(p4 i p m hp hm).1,(p4 i p m hp hm).2.1,hv⟩))
     refine ⟨w',?_,k2,k3⟩
     have hint:(asInt (.int .i64 n)).run C.P w=.ok n w:=by simp [asInt,asIntOf]
     simp only [Instr.entryStore,Sem.run_bind,Sem.run_pure,Result.andThen_ok,MapKept.run_getObj_map p2,hint,hidx]
     exact k1
    ·
     cases h
   ·
    cases h
  ·
   cases h
 ·
  cases h
theorem Bo {cx:Cx} {S:St} {w:World} {es:List (D × AV × Nat)} {ms:Array MapEntry} {j:Nat} (h:∀ (i:Nat) (p:D × AV × Nat) (m:MapEntry),es[i]? = some p→ms[i]? = some m→m.born=p.2.2∧bT w cx.fr p.1 m.key∧aQ cx S w p.2.1 m.val) :
  ∀ (i:Nat) (p:D × AV × Nat) (m:MapEntry),(es.eraseIdx j)[i]? = some p→(ms.eraseIdxIfInBounds j)[i]? = some m→m.born=p.2.2∧bT w cx.fr p.1 m.key∧aQ cx S w p.2.1 m.val:=by
 intro i p m hp hm
 have hm':(ms.toList.eraseIdx j)[i]? = some m:=by
  rw [← Array.getElem?_toList] at hm
  simpa using hm
 rw [List.getElem?_eraseIdx] at hp hm'
 split at hp
 ·
  rename_i hlt
  rw [if_pos hlt] at hm'
  exact h i p m hp (by simpa using hm')
 ·
  rename_i hlt
  rw [if_neg hlt] at hm'
  exact h (i + 1) p m hp (by simpa using hm')
theorem Dj {R:dm} (hR:ObjOk R) {C:gG} {cx:Cx} {S S':St} {w:World} (hS:bD R cx S w) {t ty:Nat} {m:AV} {k:D} {mv kv:Value} (h:zK C t S m k=some S') (hm:aQ cx S w m mv) (hk:bT w cx.fr k kv) :
  ∃ w',(Builtin.delete_ #[t] ty #[mv,kv]).run C.P w=.ok (.tuple #[]) w'∧bD R cx S' w'∧Ext cx S w cx S' w':=by
 unfold zK at h
 split at h
 ·
  rename_i kt et id hkt
  have hu:=nP hkt
  split at h
  ·
   rename_i M hg
   split at h
   ·
    rename_i hkey
    cases hm with
    | map _ b hn hp =>
    obtain ⟨p1,ms,p2,p3,p4,p5⟩:=uL hS hg (.map id b hn hp)
    subst p1
    have hchk:=uH hkey hk ms.isEmpty
    split at h
    ·
     rename_i i y hf
     simp only [Option.some.injEq] at h; subst h
     obtain ⟨o,o1,o2⟩:=ji (P:=C.P) hkey hk p3 hf
     obtain ⟨bn,m',q1,q2,q3,q4⟩:=uE (fun i p m hp hm=>(p4 i p m hp hm).2.2) hf o2
     subst q3
     obtain ⟨w',k1,k2,k3⟩:=kg hR (P:=C.P) (M':={ M with es:=M.es.eraseIdx i }) (ms':=ms.eraseIdxIfInBounds i) (c':=M.clk) hS hg p2 ⟨by
       have e1:(ms.eraseIdxIfInBounds i).toList=ms.toList.eraseIdx i:=by simp
       rw [← Array.length_toList,e1,List.length_eraseIdx,List.length_eraseIdx,Array.length_toList,p5],rfl⟩ (Bo p4)
     refine ⟨w',?_,k2,k3⟩
     simp only [Builtin.delete_,List.getElem?_toArray,List.getElem?_cons_zero,List.getElem?_cons_succ,Sem.run_bind,bg w hu,Result.andThen_ok,MapKept.run_getObj_map p2,hchk,o1,k1,Sem.run_pure]
    ·
     rename_i hf
     simp only [Option.some.injEq] at h; subst h
     obtain ⟨o,o1,o2⟩:=ji (P:=C.P) hkey hk p3 hf
     have:o=none:=o2
     subst this
     obtain ⟨w',k1,k2,k3⟩:=kg hR (P:=C.P) (M':=M) (ms':=ms) (c':=M.clk) hS hg p2 ⟨p5,rfl⟩ p4
     obtain ⟨k2,k3⟩:=qh hg k2 k3
     refine ⟨w',?_,k2,k3⟩
     simp only [Builtin.delete_,List.getElem?_toArray,List.getElem?_cons_zero,List.getElem?_cons_succ,Sem.run_bind,bg w hu,Result.andThen_ok,MapKept.run_getObj_map p2,hchk,o1,k1,Sem.run_pure]
    ·
     cases h
   ·
    cases h
  ·
   cases h
 ·
  cases h
end
end Go.Ev

namespace Go.Ev
noncomputable section
set_option linter.unusedVariables false
set_option linter.unusedSimpArgs false
theorem IC {R:dm} (hR:ObjOk R) {cx cx':Cx} {S S':St} {w w':World} (h:bD R cx S w) {id k0:Nat} {x0:D} (hg:S.H.get id=some (.obj k0 x0)) (hmo:∀ k x,S'.H.get id=some (.obj k x)→Bc x0 ≤ Bc x) (hbk:∀ g,isIt S' id g→∃ g',isIt S id g') (hdi:∀ g,isIt S id g→¬ isIt S' id g)
  (hT:S'.T=S.T) (hnx:S'.nx=S.nx) (hH:∀ i,i ≠ id→S'.H.get i=S.H.get i) (hHid:S'.H.get id=none∨∃ k x,S'.H.get id=some (.obj k x)∧R.rel k x w' (cx'.bm id) (cx'.fp id))
  (hs:w.heap.size ≤ w'.heap.size) (h1:w'.os=w.os) (h2:w'.tape=w.tape) (h3:w'.output=w.output)
  (hoth:∀ b,b < w.heap.size→¬ cx.fp id b→w'.heap[b]? = w.heap[b]?)
  (hbm:∀ i,cx'.bm i=cx.bm i) (hfp:∀ i,i ≠ id→∀ b,(cx'.fp i b↔cx.fp i b)) (htsz:∀ i,cx'.tsz i=cx.tsz i) (htot:∀ i,cx'.tot i=cx.tot i)
  (hfpt:∀ b,cx'.fp id b→cx.fp id b∨(w.heap.size ≤ b∧b < w'.heap.size)) (hfpf:∀ b o,cx'.fp id b→cx'.fr b o)
  (hfr1:∀ b o,¬ cx.fr b o→b < w.heap.size→¬ cx'.fr b o) (hfr2:∀ b o,cx.fr b o→cx'.fr b o) (hfr3:∀ b o,cx'.fr b o→b < w'.heap.size) :
  bD R cx' S' w'∧Ext cx S w cx' S' w':=by
 obtain ⟨t1,t2⟩:=h.objs id k0 x0 hg
 have hlive:live S id:=by simp [live,cur,hg]
 have hcur:∀ i,i ≠ id→cur S' i=cur S i:=fun i hi=>by
  unfold cur; rw [hH i hi,hT]
 have hcurt:∀ g,cur S' id=some g→Bc x0 ≤ g:=fun g hc=>by
  unfold cur at hc
  rcases hHid with q | ⟨k,x,q,_⟩
  ·
   rw [q,hT,h.tK id _ hg] at hc; cases hc
  ·
   have:=hmo k x q
   rw [q] at hc
   simp only [Option.some.injEq] at hc
   omega
 have hl':∀ i,live S' i→live S i:=fun i hl=>by
  by_cases hi:i=id
  ·
   subst hi; exact hlive
  ·
   unfold live at *; rwa [hcur i hi] at hl
 have e:Ext cx S w cx' S' w':=by
  refine ⟨hs,h1,h2,h3,by rw [hnx]; exact Nat.le_refl _,fun b o v hf hcl=>⟨?_,hfr1 b o hf (sH hcl)⟩,fun b hb hn=>?_,fun i b hl hf=>?_,fun i gi _ hi=>?_,fun i gi b _ h0 h2 hf=>?_,fun i gg hi hgg=>?_⟩
  ·
   exact qz (hoth b (sH hcl) (fun q=>hf (t2 b o q))) hcl
  ·
   exact ⟨hoth b hb (fun q=>by obtain ⟨_,g,z1,z2⟩:=hn id hlive q; exact hdi g z1 z2),fun o=>⟨fun q=>Classical.byContradiction fun q'=>hfr1 b o q' hb q,hfr2 b o⟩⟩
  ·
   refine ⟨fun _=>⟨hl' i hl,?_⟩,fun hge=>absurd (h.wf i (hl' i hl)) (by show ¬ i < S.nx; omega)⟩
   by_cases hi:i=id
   ·
    subst hi
    rcases hfpt b hf with q | q
    ·
     exact .inl q
    ·
     exact .inr q.1
   ·
    exact .inl ((hfp i hi b).1 hf)
  ·
   by_cases q:i=id
   ·
    subst q; exact hbk gi hi
   ·
    exact ⟨gi,by unfold isIt at *; rwa [hH i q] at hi⟩
  ·
   have q:i ≠ id:=fun q=>by subst q; exact hdi gi h0 h2
   exact (hfp i q b).2 hf
  ·
   by_cases hi':i=id
   ·
    subst hi'
    have:=hcurt gg hgg
    exact ⟨Bc x0,by simp [cur,hg],this,fun _=>⟨hbm i,htsz i,htot i⟩⟩
   ·
    rw [hcur i hi'] at hgg
    exact ⟨gg,hgg,Nat.le_refl _,fun _=>⟨hbm i,htsz i,htot i⟩⟩
 have hne:∀ i,live S i→i ≠ id→∀ b,cx.fp i b→¬ cx.fp id b:=fun i hi hne b hf hq=>hne (h.sep i id b hi hlive hf hq)
 refine ⟨⟨fun i hi=>by rw [hnx]; exact h.wf i (hl' i hi),fun i b hi=>?_,fun i gg cs2 hi=>?_,fun i es hi=>?_,fun i k x hi=>?_,fun i n hi=>?_,fun i i' b a1 a2 f1 f2=>?_,hfr3,hR.stat _ _ _ _ h.stat e.prot (h.still e)⟩,e⟩
 ·
  rw [hT]
  by_cases q:i=id
  ·
   subst q; exact h.tK i _ hg
  ·
   rw [hH i q] at hi; exact h.tK i b hi
 ·
  by_cases q:i=id
  ·
   subst q
   rcases hHid with z | ⟨k,x,z,_⟩
   ·
    rw [z] at hi; cases hi
   ·
    rw [z] at hi; cases hi
  ·
   rw [hH i q] at hi
   obtain ⟨d1,d2,arr2,el2,d3,d4,d5⟩:=h.cells i gg cs2 hi
   have hb:=hne i (by simp [live,cur,hi]) q _ ((d1 _).2 rfl)
   refine ⟨fun b=>by rw [hfp i q,hbm i]; exact d1 b,fun o=>by rw [hbm i]; exact hfr2 _ _ (d2 o),arr2,el2,?_,by rw [htsz i,htot i]; exact d4,fun j x hx=>by
    obtain ⟨v,v1,v2,v3⟩:=d5 j x hx
    exact ⟨v,v1,v2.mono e,v3⟩⟩
   rw [hbm i,hoth _ (h.lt _ 0 (d2 0)) hb]; exact d3
 ·
  by_cases q:i=id
  ·
   subst q
   rcases hHid with z | ⟨k,x,z,_⟩
   ·
    rw [z] at hi; cases hi
   ·
    rw [z] at hi; cases hi
  ·
   rw [hH i q] at hi
   obtain ⟨d1,d2,ms,clk,d3,d4,d5⟩:=h.maps i es hi
   have hb:=hne i (by simp [live,cur,hi]) q _ ((d1 _).2 rfl)
   refine ⟨fun b=>by rw [hfp i q,hbm i]; exact d1 b,fun o=>by rw [hbm i]; exact hfr2 _ _ (d2 o),ms,clk,?_,d4,fun j p m hp hm=>by
    obtain ⟨v1,v2⟩:=d5 j p m hp hm
    exact ⟨v1.mono e.prot,v2.mono e⟩⟩
   rw [hbm i,hoth _ (h.lt _ 0 (d2 0)) hb]; exact d3
 ·
  by_cases q:i=id
  ·
   subst q
   rcases hHid with z | ⟨k',x',z,hr⟩
   ·
    rw [z] at hi; cases hi
   ·
    rw [z] at hi; cases hi
    exact ⟨hr,hfpf⟩
  ·
   rw [hH i q] at hi
   obtain ⟨d1,d2⟩:=h.objs i k x hi
   have hf:cx'.fp i=cx.fp i:=funext fun b=>propext (hfp i q b)
   rw [hbm i,hf]
   have hb:=hne i (by simp [live,cur,hi]) q
   exact ⟨hR.frame k x w w' _ _ d1 (fun c hc=>hoth c ((hR.lt k x w _ _ d1).1 c hc) (hb c hc)),fun b o hbf=>hfr2 b o (d2 b o hbf)⟩
 ·
  rw [hT] at hi
  have q:i ≠ id:=fun q=>by subst q; have:=h.tK i _ hg; rw [this] at hi; cases hi
  obtain ⟨hci,hHi⟩:=Ep h hi
  obtain ⟨d1,d2,arr2,el2,fz,d3,d4,d5,d6⟩:=h.toks i n hi
  have hb:=hne i (by simp [live,hci]) q _ ((d1 _).2 rfl)
  have hlt:cx.bm i < w.heap.size:=h.lt _ _ (d2 _ (Nat.le_refl _))
  refine ⟨fun b=>by rw [hfp i q,hbm i]; exact d1 b,fun o ho=>?_,arr2,el2,fz,?_,?_,?_,?_⟩
  ·
   rw [htsz i] at ho; rw [hbm i]; exact hfr2 _ _ (d2 o ho)
  ·
   rw [hbm i,hoth _ hlt hb]; exact d3
  ·
   rw [htsz i,htot i]; exact d4
  ·
   rw [htot i]; exact d5
  ·
   rw [htsz i]; exact d6
 ·
  by_cases q:i=id <;> by_cases q':i'=id
  ·
   omega
  ·
   exfalso
   subst q
   have f2':=(hfp i' q' b).1 f2
   rcases hfpt b f1 with z | z
   ·
    exact hne i' (hl' i' a2) q' b f2' z
   ·
    have:=h.yD hR (hl' i' a2) f2'; omega
  ·
   exfalso
   subst q'
   have f1':=(hfp i q b).1 f1
   rcases hfpt b f2 with z | z
   ·
    exact hne i (hl' i a1) q b f1' z
   ·
    have:=h.yD hR (hl' i a1) f1'; omega
  ·
   exact h.sep i i' b (hl' i a1) (hl' i' a2) ((hfp i q b).1 f1) ((hfp i' q' b).1 f2)
theorem yx {R:dm} (hR:ObjOk R) {cx:Cx} {S:St} {w:World} (hS:bD R cx S w) (m:Option Nat) (since st:Nat) (seen:Array Nat) :
  ∃ cx',bD R cx' (bZ S (.obj 3 (.int .i64 0))) (w.alloc (.mapIter m since seen st))∧Ext cx S w cx' (bZ S (.obj 3 (.int .i64 0))) (w.alloc (.mapIter m since seen st)) ∧
   Names (bZ S (.obj 3 (.int .i64 0))) S.nx 0∧(w.heap.size=cx'.bm S.nx∧cx'.fp S.nx w.heap.size∧(∀ i,cur (bZ S (.obj 3 (.int .i64 0))) i ≠ none→cx'.fp i w.heap.size→i=S.nx) ∧
    (w.alloc (.mapIter m since seen st)).heap[w.heap.size]? = some (.mapIter m since seen st)):=by
 obtain ⟨cx',k1,k2,k3⟩:=wN hR hS 3 (.int .i64 0) (.mapIter m since seen st) rfl ((hR.it _ _ _ _).2 ⟨by rw [size_alloc]; omega,fun c=>Iff.rfl⟩)
 have hget:(bZ S (.obj 3 (.int .i64 0))).H.get S.nx=some (.obj 3 (.int .i64 0)):=by simp [bZ,AL.bq]
 have hcur:cur (bZ S (.obj 3 (.int .i64 0))) S.nx=some 0:=by unfold cur; rw [hget]; rfl
 cases k3 with
 | ptr _ _ _ _ hn hp =>
 have hb:=hp hcur
 have hf:cx'.fp S.nx w.heap.size:=((((hR.it _ _ _ _).1 (k1.objs _ _ _ hget).1).2) _).2 hb
 exact ⟨cx',k1,k2,hn,hb,hf,fun i hi hfi=>k1.sep i S.nx _ hi (by simp [live,hcur]) hfi hf,heap_alloc_new w _⟩
theorem DW {R:dm} (hR:ObjOk R) {C:gG} {cx:Cx} {S:St} {w:World} (hS:bD R cx S w) {t id:Nat} {kt:Nat × Nat} {M:xO} {v:Value} (ht:uQ C t=some kt) (hg:S.H.get id=some (.map M)) (hx:aQ cx S w (.map id) v) :
  ∃ cx' w' u,(Instr.range t v).run C.P w=.ok u w'∧bD R cx' (bZ S (.obj 3 (.int .i64 0))) w'∧Ext cx S w cx' (bZ S (.obj 3 (.int .i64 0))) w'∧aQ cx' (bZ S (.obj 3 (.int .i64 0))) w' (.it S.nx 0 (some id) M.clk [] M.clk) u:=by
 have hu:=nP (k:=kt.1) (e:=kt.2) ht
 cases hx with
 | map _ b hn hp =>
 obtain ⟨p1,ms,p2,p3,p4,p5⟩:=uL hS hg (.map id b hn hp)
 subst p1
 obtain ⟨cx',k1,k2,k3,k4⟩:=yx hR hS (some (cx.bm id)) M.clk M.clk #[]
 refine ⟨cx',_,.pointer (some ⟨w.heap.size,0,none⟩),?_,k1,k2,?_⟩
 ·
  simp only [Instr.range,Sem.run_bind,bg w hu,Result.andThen_ok,MapKept.run_getObj_map p2,Sem.run_pure]
  rfl
 ·
  refine .it S.nx 0 id M.clk M.clk w.heap.size (cx.bm id) [] k3 (hn.mono k2) (fun hc=>?_) (fun _=>k4)
  exact (hn.pos k2 hc).2.1.symm
theorem yR {R:dm} (hR:ObjOk R) {C:gG} {cx:Cx} {S:St} {w:World} (hS:bD R cx S w) {t:Nat} {kt:Nat × Nat} {v:Value} (ht:uQ C t=some kt) (hx:aQ cx S w (.d .nilm) v) :
  ∃ cx' w' u,(Instr.range t v).run C.P w=.ok u w'∧bD R cx' (bZ S (.obj 3 (.int .i64 0))) w'∧Ext cx S w cx' (bZ S (.obj 3 (.int .i64 0))) w'∧aQ cx' (bZ S (.obj 3 (.int .i64 0))) w' (.it S.nx 0 none 0 [] 0) u:=by
 have hu:=nP (k:=kt.1) (e:=kt.2) ht
 have:=hx.dd.val rfl
 cases this
 obtain ⟨cx',k1,k2,k3,k4⟩:=yx hR hS none 0 0 #[]
 refine ⟨cx',_,.pointer (some ⟨w.heap.size,0,none⟩),?_,k1,k2,.it0 S.nx 0 0 0 w.heap.size [] k3 (fun _=>k4)⟩
 simp only [Instr.range,Sem.run_bind,bg w hu,Result.andThen_ok,Sem.run_pure]
 rfl
theorem Dr {R:dm} {C:gG} {cx:Cx} {S:St} {w:World} (hS:bD R cx S w) {k g id since st n i:Nat} {seen:List Nat} {M:xO} {p:D × AV × Nat} {v:Value} (hx:aQ cx S w (.it k g (some id) since seen st) v)
  (hg:S.H.get id=some (.map M)) (hl:seen.getLast? = some n) (hk:isIt S k g) (hc:M.clk=st) (hf:qy n M.es 0=some i) (hp:M.es[i]? = some p) :
  ∃ u,(Instr.entry v).run C.P w=.ok u w∧aQ cx S w (.tup [.d p.1,p.2.1]) u:=by
 cases hx with
 | it _ _ _ _ _ b m _ hn hni hm hpos =>
 obtain ⟨_,_,_,hb⟩:=hpos hk
 have hm:=hm (by simp [cur,hg])
 subst hm
 obtain ⟨c1,c2,ms,clk,c3,⟨c4,c4',c4''⟩,c5⟩:=hS.maps id M hg
 subst c4'
 have hlt:i < ms.size:=by rw [c4]; exact (List.getElem?_eq_some_iff.1 hp).1
 have hmi:ms[i]? = some ms[i]:=Array.getElem?_eq_getElem hlt
 obtain ⟨r1,r2⟩:=c5 i p _ hp hmi
 obtain ⟨_,⟨q,f2,f3⟩,f4⟩:=rz hf
 rw [Nat.sub_zero] at f2
 have hqp:q=p:=by rw [hp] at f2; exact (Option.some.inj f2).symm
 subst hqp
 have hfind:ms.find? (fun e=>e.born == n)=some ms[i]:=by
  rw [Array.find?_eq_some_iff_getElem]
  refine ⟨by simp [c4'' i q _ hp hmi,f3],i,hlt,rfl,fun j hj=>?_⟩
  have hjl:j < M.es.length:=by rw [← c4]; omega
  have hq:=List.getElem?_eq_getElem hjl
  have hbj:=c4'' j M.es[j] ms[j] hq (Array.getElem?_eq_getElem (by omega))
  have hne:=f4 j M.es[j] (Nat.zero_le _) hj (by rw [Nat.sub_zero]; exact hq)
  simp [hbj,hne]
 have hgo:(getObj b).run C.P w=.ok (.mapIter (some (cx.bm id)) since seen.toArray st) w:=by simp [getObj,Sem.run,hb]
 have hback:seen.toArray.back? = some n:=by simpa using hl
 refine ⟨.tuple #[ms[i].key,ms[i].val],?_,?_⟩
 ·
  simp only [Instr.entry,Sem.run_bind,Sem.run_pure,Result.andThen_ok,hgo,hback,MapKept.run_getObj_map c3,hc]
  rw [if_neg (by simp)]
  simp only [hfind,Sem.run_pure]
 ·
  refine .tup _ [ms[i].key,ms[i].val] rfl (fun j x u hx hu=>?_)
  match j,hx,hu with
  | 0,hx,hu=>simp at hx hu; subst hx; subst hu; exact .d _ _ r1
  | 1,hx,hu=>simp at hx hu; subst hx; subst hu; exact r2
end
end Go.Ev

namespace Go.Ev
noncomputable section
set_option linter.unusedVariables false
set_option linter.unusedSimpArgs false
def oF (R:dm) (C:gG) (cx:Cx) (S:St) (w:World) (σ:Operand→Value) (o:Oper):vE→Prop
 | .val v S'=>∃ cx' w' u,(execOp σ o).run C.P w=.ok (.value u) w'∧bD R cx' S' w'∧Ext cx S w cx' S' w'∧aQ cx' S' w' v u
 | .skip S'=>∃ cx' w',(execOp σ o).run C.P w=.ok .skip w'∧bD R cx' S' w'∧Ext cx S w cx' S' w'
 | .call f args=>∃ us:List Value,us.length=args.length∧(∀ (i:Nat) (x:AV) (v:Value),args[i]? = some x→us[i]? = some v→aQ cx S w x v) ∧
   ∀ fn,C.P.funcs[f]? = some fn→fn.body.isSome=true→fn.name ≠ "runtime.NumGoroutine" → (execOp σ o).run C.P w=.ok (.enter f us.toArray) w
 | .panic _=>False
theorem uz {P:Program} {w w':World} {s:Sem Value} {u:Value} (h:s.run P w=.ok u w'):(do pure (.value (← s)):Sem Next).run P w=.ok (.value u) w':=by
 rw [Sem.run_bind,h]; rfl
theorem Ob {P:Program} {w w':World} {s:Sem Unit} (h:s.run P w=.ok () w'):(do s; pure .skip:Sem Next).run P w=.ok .skip w':=by
 rw [Sem.run_bind,h]; rfl
section
variable {R:dm} {C:gG} {cx:Cx} {S:St} {w:World} {σ:Operand→Value} {o:Oper}
theorem oF.pure {v:AV} {u:Value} (hS:bD R cx S w) (h:(execOp σ o).run C.P w=.ok (.value u) w) (hv:aQ cx S w v u):oF R C cx S w σ o (.val v S) :=
 ⟨cx,w,u,h,hS,Ext.refl w hS.wf,hv⟩
theorem Ip {x:AV} {ys:List D} {u:Value} {sz:Nat} (hd:kN x=some ys) (hx:aQ cx S w x u) (hs:sizes sz ys=true) :
  (Builtin.lenOf u).run C.P w=.ok ys.length w∧∃ fs,(∀ w',w'.heap=w.heap→(Builtin.firstCells sz ys.length u).run C.P w'=.ok fs.toArray w')∧Flat w cx.fr sz ys fs:=by
 obtain ⟨tight,hr⟩:=DR hd hx
 obtain ⟨a,cap,rfl,_⟩:=CO hr
 refine ⟨rfl,?_⟩
 obtain ⟨fs,f1,f2,_⟩:=kZ (P:=C.P) hr hs
 refine ⟨fs,fun w' hw=>?_,f2⟩
 have hm:bT w' cx.fr (.sl ys tight) (.slice a ys.length cap):=hr.mono (fun b o v h1 h2=>⟨by simp only [World.cell?] at h2 ⊢; rw [hw]; exact h2,h1⟩)
 obtain ⟨gs,g1,g2,g3⟩:=kZ (P:=C.P) hm hs
 rw [g1]
 congr 2
 cases a with
 | none =>
  have h0:ys=[]:=by
   obtain ⟨a',cap',hv,_,_,hm⟩:=CO hr
   simp only [Value.slice.injEq] at hv
   by_cases q:ys=[]
   ·
    exact q
   ·
    obtain ⟨b,off,sz',vs,e,_⟩:=hm q
    rw [← hv.1] at e; cases e
  subst h0
  have e1:fs=[]:=by have:=f2.len; simpa using this
  have e2:gs=[]:=by have:=g2.len; simpa using this
  rw [e1,e2]
 | some ad =>
  have hrun:(loadCells ad (ys.length * sz)).run C.P w=.ok fs.toArray w:=f1
  have hrun':(loadCells ad (ys.length * sz)).run C.P w'=.ok gs.toArray w':=g1
  by_cases q:ys=[]
  ·
   subst q
   have e1:fs=[]:=by have:=f2.len; simpa using this
   have e2:gs=[]:=by have:=g2.len; simpa using this
   rw [e1,e2]
  ·
   obtain ⟨a',cap',hv,_,_,hm⟩:=CO hr
   obtain ⟨b,off,sz',vs,e,_⟩:=hm q
   simp only [Value.slice.injEq] at hv
   rw [← hv.1] at e
   simp only [Option.some.injEq] at e; subst e
   obtain ⟨fs',f1',f2',f3'⟩:=kZ (P:=C.P) hr hs
   rw [f1] at f1'
   simp only [Result.ok.injEq,and_true] at f1'
   have hff:fs=fs':=by simpa using f1'
   subst hff
   apply List.ext_getElem?
   intro i
   by_cases hi:i < gs.length
   ·
    have hg:=List.getElem?_eq_getElem hi
    have hi':i < fs.length:=by rw [f2.len,← g2.len]; exact hi
    have hf:=List.getElem?_eq_getElem hi'
    have c1:=g3 b off _ _ rfl i _ hg
    have c2:=f3' b off _ _ rfl i _ hf
    simp only [World.cell?] at c1 c2
    rw [hw] at c1
    rw [c2] at c1
    rw [hg,hf]; simpa using c1.symm
   ·
    rw [List.getElem?_eq_none (by omega),List.getElem?_eq_none (by rw [f2.len,← g2.len]; omega)]
theorem wO (hR:ObjOk R) (hS:bD R cx S w) {t t2 e ty:Nat} {x r:AV} {ys:List D} {S':St} {v u:Value} (h:jZ C e S x ys=some (r,S')) (he:bO C.P t=some e) (h2:jR C t2=true) (hx:aQ cx S w x v)
  (hu:(Builtin.lenOf u).run C.P w=.ok ys.length w) (hsrc:sizes (aL C.P e) ys=true→∃ fs,(∀ w',w'.heap=w.heap→(Builtin.firstCells (aL C.P e) ys.length u).run C.P w'=.ok fs.toArray w')∧Flat w cx.fr (aL C.P e) ys fs)
  (h0:ys=[]→∀ sz,(Builtin.firstCells sz 0 u).run C.P w=.ok #[] w) (hi:(C.P.info? e).isSome=true) :
  ∃ cx' w' z,(Builtin.append_ #[t,t2] ty #[v,u]).run C.P w=.ok z w'∧bD R cx' S' w'∧Ext cx S w cx' S' w'∧aQ cx' S' w' r z:=by
 obtain ⟨ie,hi⟩:=Option.isSome_iff_exists.1 hi
 have nothing:∀ {xs:List D} {tight:Bool},bT w cx.fr (.sl xs tight) v→ys.length=0→(Builtin.append_ #[t,t2] ty #[v,u]).run C.P w=.ok v w:=by
  intro xs tight hd hy
  obtain ⟨a,cap,rfl,hcap,_⟩:=CO hd
  have hy':ys=[]:=List.eq_nil_of_length_eq_zero hy
  subst hy'
  have:=run_append_fits (w:=w) (ty:=ty) (sLen:=xs.length) (sCap:=cap) (n:=0) (base:=a) (u:=u) (dM he) hi h2 hu (by omega) (new:=#[]) (h0 rfl _)
  rw [this]
  cases a with
  | none=>rfl
  | some ad=>simp [storeCells]
 unfold jZ at h
 split at h
 ·
  by_cases hy:ys.length=0
  ·
   rw [if_pos hy,if_pos (by simp [hi])] at h
   simp only [Option.some.injEq,Prod.mk.injEq] at h
   obtain ⟨rfl,rfl⟩:=h
   exact ⟨cx,w,v,nothing (ze hx.dd) hy,hS,Ext.refl w hS.wf,hx⟩
  ·
   rw [if_neg hy] at h
   split at h
   ·
    rename_i hc
    obtain ⟨c1,c2,c3,c4,c6⟩:=hc
    simp only [Option.some.injEq,Prod.mk.injEq] at h
    obtain ⟨rfl,rfl⟩:=h
    obtain ⟨fs,s1,s2⟩:=hsrc c4
    have:=zC hR hS (ty:=ty) (xs:=[]) he h2 (ze hx.dd) hu s1 s2 hy (by simpa using c1) c2 c3 rfl c6
    simpa using this
   ·
    cases h
 ·
  rename_i xs tight
  by_cases hy:ys.length=0
  ·
   rw [if_pos hy,if_pos (by simp [hi])] at h
   simp only [Option.some.injEq,Prod.mk.injEq] at h
   obtain ⟨rfl,rfl⟩:=h
   exact ⟨cx,w,v,nothing hx.dd hy,hS,Ext.refl w hS.wf,hx⟩
  ·
   rw [if_neg hy] at h
   split at h
   ·
    rename_i hc
    obtain ⟨c1,c2,c3,c4,c5,c6⟩:=hc
    split at h
    ·
     rename_i ht
     subst ht
     simp only [Option.some.injEq,Prod.mk.injEq] at h
     obtain ⟨rfl,rfl⟩:=h
     obtain ⟨fs,s1,s2⟩:=hsrc c4
     exact zC hR hS he h2 hx.dd hu s1 s2 hy c1 c2 c3 c5 c6
    ·
     cases h
   ·
    cases h
 ·
  rename_i xs tok
  by_cases hy:ys.length=0
  ·
   rw [if_pos hy,if_pos (by simp [hi])] at h
   simp only [Option.some.injEq,Prod.mk.injEq] at h
   obtain ⟨rfl,rfl⟩:=h
   refine ⟨cx,w,v,?_,hS,Ext.refl w hS.wf,hx⟩
   cases hx with
   | tsl _ _ b off cap hn hd hp=>exact nothing hd hy
  ·
   rw [if_neg hy] at h
   split at h
   ·
    rename_i hc
    obtain ⟨c1,c2,c3,c4,c5,c6⟩:=hc
    split at h
    ·
     rename_i en hT
     split at h
     ·
      rename_i hen
      obtain ⟨rfl,hpos⟩:=hen
      simp only [Option.some.injEq,Prod.mk.injEq] at h
      obtain ⟨rfl,rfl⟩:=h
      obtain ⟨fs,s1,s2⟩:=hsrc c4
      exact Gl hR hS he h2 hx (by intro q; subst q; simp at hpos) hT hu s1 s2 hy c1 c2 c3 c5 c6
     ·
      cases h
    ·
     cases h
   ·
    cases h
 ·
  cases h
theorem yC {A:Array Nat} {V:Array Value} {t t2 ty:Nat} {v u:Value} (h1:A[0]? = some t) (h2:A[1]? = some t2) (h3:V[0]? = some v) (h4:V[1]? = some u) :
  Builtin.append_ A ty V=Builtin.append_ #[t,t2] ty #[v,u]:=by
 unfold Builtin.append_
 simp only [h1,h2,h3,h4,List.getElem?_toArray,List.getElem?_cons_zero,List.getElem?_cons_succ]
theorem Jc {A:Array Nat} {V:Array Value} {t ty:Nat} {v:Value} (h1:A[0]? = some t) (h3:V[0]? = some v):Builtin.len_ A ty V=Builtin.len_ #[t] ty #[v]:=by
 unfold Builtin.len_
 simp only [h1,h3,List.getElem?_toArray,List.getElem?_cons_zero]
theorem D5 {A:Array Nat} {V:Array Value} {t ty:Nat} {v u:Value} (h1:A[0]? = some t) (h3:V[0]? = some v) (h4:V[1]? = some u):Builtin.delete_ A ty V=Builtin.delete_ #[t] ty #[v,u]:=by
 unfold Builtin.delete_
 simp only [h1,h3,h4,List.getElem?_toArray,List.getElem?_cons_zero,List.getElem?_cons_succ]
theorem Iq {A:Array Nat} {V:Array Value} {t t2 ty:Nat} {v u:Value} (h1:A[0]? = some t) (h3:V[0]? = some v) (h4:V[1]? = some u):Builtin.copy_ A ty V=Builtin.copy_ #[t,t2] ty #[v,u]:=by
 unfold Builtin.copy_
 simp only [h1,h3,h4,List.getElem?_toArray,List.getElem?_cons_zero,List.getElem?_cons_succ]
theorem F4 {A:Array Nat} {V:Array Value} {t ty:Nat} {v:Value} (h1:A[0]? = some t) (h3:V[0]? = some v):Builtin.clear_ A ty V=Builtin.clear_ #[t] ty #[v]:=by
 unfold Builtin.clear_
 simp only [h1,h3,List.getElem?_toArray,List.getElem?_cons_zero]
theorem vH {ρ:Operand→Option AV} (hρ:yj cx S w ρ σ) {arr_:Array Operand} {args:List AV} (h:jw ρ arr_.toList=some args) :
  (arr_.map σ).toList.length=args.length∧∀ (i:Nat) (x:AV) (v:Value),args[i]? = some x→(arr_.map σ).toList[i]? = some v→aQ cx S w x v:=by
 obtain ⟨h1,h2⟩:=rZ h
 refine ⟨by simp [h1],fun i x v hx hv=>?_⟩
 simp only [Array.toList_map,List.getElem?_map,Option.map_eq_some_iff] at hv
 obtain ⟨q,hq,rfl⟩:=hv
 exact hρ _ _ (h2 i q x hq hx)
theorem um {e:Nat} (h:gX C e=true):(C.P.info? e).isSome=true:=by
 obtain ⟨i,z,hi,_⟩:=qR h; simp [hi]
theorem Em {e:Nat} {x:AV} {ys:List D} {r:AV × St} (h:jZ C e S x ys=some r):(C.P.info? e).isSome=true:=by
 unfold jZ at h
 split at h
 ·
  split at h
  ·
   split at h
   ·
    assumption
   ·
    cases h
  ·
   split at h
   ·
    rename_i hc; exact um hc.2.2.2.2
   ·
    cases h
 ·
  split at h
  ·
   split at h
   ·
    assumption
   ·
    cases h
  ·
   split at h
   ·
    rename_i hc; exact um hc.2.2.2.2.2
   ·
    cases h
 ·
  split at h
  ·
   split at h
   ·
    assumption
   ·
    cases h
  ·
   split at h
   ·
    rename_i hc; exact um hc.2.2.2.2.2
   ·
    cases h
 ·
  cases h
theorem uj (hR:ObjOk R) (hS:bD R cx S w) {A:Array Nat} {V:Array Value} {t t2 e ty:Nat} {x y r:AV} {ys:List D} {S':St} {v u:Value} (h:jZ C e S x ys=some (r,S')) (he:bO C.P t=some e) (hei:(C.P.info? e).isSome=true) (h2:jR C t2=true)
  (hx:aQ cx S w x v) (hy:aQ cx S w y u) (hk:kN y=some ys∨∃ s,y=.d (.str s)∧ys=s.map fun c=>.int .u8 c.toNat)
  (a1:A[0]? = some t) (a2:A[1]? = some t2) (a3:V[0]? = some v) (a4:V[1]? = some u) :
  ∃ cx' w' z,(Builtin.append_ A ty V).run C.P w=.ok z w'∧bD R cx' S' w'∧Ext cx S w cx' S' w'∧aQ cx' S' w' r z:=by
 rw [yC a1 a2 a3 a4]
 rcases hk with hk | ⟨s,rfl,rfl⟩
 ·
  have hlen:(Builtin.lenOf u).run C.P w=.ok ys.length w:=by
   obtain ⟨tight,hr⟩:=DR hk hy
   obtain ⟨a,cap,rfl,_⟩:=CO hr
   rfl
  refine wO hR hS h he h2 hx hlen (fun hs=>(Ip hk hy hs).2) (fun h0 sz=>?_) hei
  subst h0
  obtain ⟨tight,hr⟩:=DR hk hy
  obtain ⟨a,cap,rfl,_⟩:=CO hr
  cases a <;> simp [Builtin.firstCells,loadCells,loadCellsFrom]
 ·
  obtain ⟨b,rfl,rfl⟩:=hy.str
  have hbl:b.data.toList.length=b.size:=Array.length_toList
  refine wO hR hS h he h2 hx ?_ (fun hs=>?_) (fun h0 sz=>?_) hei
  ·
   simp only [Builtin.lenOf,List.length_map,Sem.run_pure]; rw [hbl]
  ·
   obtain ⟨fs,f1,f2⟩:=BC (P:=C.P) (w:=w) (fr:=cx.fr) b
   by_cases hne:b.data.toList=[]
   ·
    refine ⟨[],fun w' _=>?_,by simp [hne],by simp,by simp [hne],by simp [hne]⟩
    simp only [hne,List.map_nil,List.length_nil,Builtin.firstCells,Sem.run_pure]
    congr 1
    apply Array.ext'
    simp [ByteArray.data_extract]
   ·
    have hsz:aL C.P e=1:=by
     cases hb:b.data.toList with
     | nil=>exact absurd hb hne
     | cons c l=>rw [hb] at hs; simp only [List.map_cons,sizes,Bool.and_eq_true] at hs; have:=Nat.eq_of_beq_eq_true hs.1; simpa [D.cells] using this.symm
    rw [hsz]
    refine ⟨fs,fun w' _=>?_,f2⟩
    have:(Builtin.firstCells 1 b.size (.string b)).run C.P w'=.ok fs.toArray w':=by
     simp only [Builtin.firstCells,Sem.run_pure,Result.ok.injEq,and_true] at f1 ⊢
     exact f1
    simp only [List.length_map,hbl]
    exact this
  ·
   simp only [Builtin.firstCells,Sem.run_pure]
   congr 1
   apply Array.ext'
   simp [ByteArray.data_extract]
theorem vz {ρ:Operand→Option AV} (hρ:yj cx S w ρ σ) {x:Option Operand} {y:Option D} (h:vO ρ x=some y):mU cx w y (x.map σ):=by
 unfold vO at h
 split at h
 ·
  simp only [Option.some.injEq] at h; subst h; trivial
 ·
  rename_i o'
  split at h
  ·
   rename_i z hz
   simp only [Option.some.injEq] at h; subst h
   exact (hρ _ _ hz).dd
  ·
   cases h
theorem Bb (hR:ObjOk R) (hS:bD R cx S w) {b:Builtin} {A:Array Nat} {args:List AV} {us:List Value} {ty:Nat} {cs:Array Bool} {nx:vE} (h:jq C b A S args=some nx)
  (hl:us.length=args.length) (hr:∀ (i:Nat) (x:AV) (v:Value),args[i]? = some x→us[i]? = some v→aQ cx S w x v) :
  ∃ v S' cx' w' u,nx=.val v S'∧(Go.builtin b A ty cs us.toArray).run C.P w=.ok (.value u) w'∧bD R cx' S' w'∧Ext cx S w cx' S' w'∧aQ cx' S' w' v u:=by
 have hrefl:=Ext.refl (cx:=cx) w hS.wf
 unfold jq at h
 split at h
 ·
  rename_i x
  split at h
  ·
   rename_i t ht
   split at h
   ·
    rename_i hlt
    simp only [Option.map_eq_some_iff] at h
    obtain ⟨n,hn,rfl⟩:=h
    match us,hl with
    | [u],_ =>
     have:=Hu hS (ty:=ty) hlt hn (hr 0 x u rfl rfl)
     refine ⟨_,_,cx,w,.int .i64 n,rfl,?_,hS,hrefl,.of_int _ _⟩
     simp only [Go.builtin]
     rw [Jc (v:=u) ht rfl]
     exact uz this
   ·
    cases h
  ·
   cases h
 ·
  rename_i x y
  split at h
  ·
   rename_i t ht
   cases ht2:A[1]? with
   | none=>simp [ht2] at h
   | some t2 =>
    simp only [ht2] at h
    by_cases hsrc:jR C t2=true
    ·
     rw [if_pos hsrc] at h
     match us,hl with
     | [u1,u2],_ =>
      have key:∀ {e:Nat} {ys:List D} {r:AV × St},bO C.P t=some e→jZ C e S x ys=some r→(kN y=some ys∨∃ s,y=.d (.str s)∧ys=s.map fun c=>.int .u8 c.toNat)→nx=.val r.1 r.2 →
        ∃ v S' cx' w' u,nx=.val v S'∧(Go.builtin .append A ty cs [u1,u2].toArray).run C.P w=.ok (.value u) w'∧bD R cx' S' w'∧Ext cx S w cx' S' w'∧aQ cx' S' w' v u:=by
       intro e ys r he hop hk hnx
       by_cases hei:(C.P.info? e).isSome=true
       ·
        obtain ⟨cx',w',z,k1,k2,k3,k4⟩:=uj (ty:=ty) (A:=A) (V:=[u1,u2].toArray) hR hS (r:=r.1) (S':=r.2) hop he hei hsrc (hr 0 x u1 rfl rfl) (hr 1 y u2 rfl rfl) hk ht ht2 rfl rfl
        exact ⟨r.1,r.2,cx',w',z,hnx,uz k1,k2,k3,k4⟩
       ·
        exfalso
        exact hei (Em hop)
      have e1:Builtin.append_ A ty [u1,u2].toArray=Builtin.append_ #[t,t2] ty #[u1,u2]:=yC ht ht2 rfl rfl
      have fin:∀ {r:AV × St},nx=.val r.1 r.2→(∃ cx' w' z,(Builtin.append_ #[t,t2] ty #[u1,u2]).run C.P w=.ok z w'∧bD R cx' r.2 w'∧Ext cx S w cx' r.2 w'∧aQ cx' r.2 w' r.1 z) →
        ∃ v S' cx' w' u,nx=.val v S'∧(Go.builtin .append A ty cs [u1,u2].toArray).run C.P w=.ok (.value u) w'∧bD R cx' S' w'∧Ext cx S w cx' S' w'∧aQ cx' S' w' v u:=by
       intro r hnx ⟨cx',w',z,k1,k2,k3,k4⟩
       rw [← e1] at k1
       exact ⟨r.1,r.2,cx',w',z,hnx,uz k1,k2,k3,k4⟩
      split at h
      ·
       rename_i e he
       split at h
       ·
        rename_i id g off len lim sz
        simp only [Option.map_eq_some_iff] at h
        obtain ⟨r,hop,rfl⟩:=h
        exact fin rfl (yI hR hS hop he hsrc (hr 0 _ u1 rfl rfl) (hr 1 y u2 rfl rfl))
       ·
        cases hrow:C.rowT t with
        | true =>
         simp only [hrow,cond_true] at h
         split at h
         ·
          simp only [Option.map_eq_some_iff] at h
          obtain ⟨r,hop,rfl⟩:=h
          have hn:=EJ (hr 0 _ u1 rfl rfl).dd
          subst hn
          exact fin rfl (qN hR hS (xs:=[]) (cap:=0) hop he hsrc (fun sz _=>⟨[],fun w' _=>by simp [Builtin.firstCells],⟨by simp,by simp,by simp,by simp⟩⟩) rfl (hr 0 _ _ rfl rfl) (hr 1 y u2 rfl rfl))
         ·
          rename_i xs
          simp only [Option.map_eq_some_iff] at h
          obtain ⟨r,hop,rfl⟩:=h
          have hd:=(hr 0 _ u1 rfl rfl).dd
          obtain ⟨a,cap,rfl,_,hcap,_⟩:=CO hd
          exact fin rfl (qN hR hS hop he hsrc (fun sz hs=>zM hd hs) (hcap rfl) (hr 0 _ _ rfl rfl) (hr 1 y u2 rfl rfl))
         ·
          cases h
        | false =>
         simp only [hrow,cond_false] at h
         split at h
         ·
          rename_i ys hd
          simp only [Option.map_eq_some_iff] at h
          obtain ⟨r,hop,rfl⟩:=h
          exact key he hop (.inl hd) rfl
         ·
          rename_i hd
          split at h
          ·
           simp only [Option.map_eq_some_iff] at h
           obtain ⟨r,hop,rfl⟩:=h
           exact key he hop (.inr ⟨_,rfl,rfl⟩) rfl
          ·
           cases h
      ·
       cases h
    ·
     rw [if_neg hsrc] at h; cases h
  ·
   cases h
 ·
  rename_i x y
  split at h
  ·
   rename_i t ht
   split at h
   ·
    rename_i e he
    match us,hl with
    | [u1,u2],_ =>
     obtain ⟨n,S',cx',w',rfl,k1,k2,k3⟩:=Fy (t2:=0) (ty:=ty) hR hS h he (hr 0 x u1 rfl rfl) (hr 1 y u2 rfl rfl)
     refine ⟨_,S',cx',w',.int .i64 n,rfl,?_,k2,k3,.of_int _ _⟩
     simp only [Go.builtin]
     rw [Iq (t2:=0) (v:=u1) (u:=u2) ht rfl rfl]
     exact uz k1
   ·
    cases h
  ·
   cases h
 ·
  rename_i x
  split at h
  ·
   rename_i t ht
   split at h
   ·
    rename_i e he
    match us,hl with
    | [u],_ =>
     obtain ⟨S',cx',w',rfl,k1,k2,k3⟩:=D6 (ty:=ty) hR hS h he (hr 0 x u rfl rfl)
     refine ⟨_,S',cx',w',.tuple #[],rfl,?_,k2,k3,.tup [] [] rfl (by simp)⟩
     simp only [Go.builtin]
     rw [F4 (v:=u) ht rfl]
     exact uz k1
   ·
    cases h
  ·
   cases h
 ·
  rename_i m k
  split at h
  ·
   rename_i t ht
   simp only [Option.map_eq_some_iff] at h
   obtain ⟨S',hd,rfl⟩:=h
   match us,hl with
   | [u1,u2],_ =>
    obtain ⟨w',k1,k2,k3⟩:=Dj (ty:=ty) hR hS hd (hr 0 m u1 rfl rfl) (hr 1 _ u2 rfl rfl).dd
    refine ⟨_,S',cx,w',.tuple #[],rfl,?_,k2,k3,.tup [] [] rfl (by simp)⟩
    simp only [Go.builtin]
    rw [D5 (v:=u1) (u:=u2) ht rfl rfl]
    exact uz k1
  ·
   cases h
 ·
  simp only [Option.map_eq_some_iff] at h
  obtain ⟨r,hm,rfl⟩:=h
  obtain ⟨v,rest,k,z,e1,e2,e3⟩:=wZ (P:=C.P) (cx:=cx) (S:=S) (w:=w) (g:=Builtin.min2) (fun k a b=>by simp [Builtin.min2]) _ args r us rfl hm hl hr
  subst e1; subst e2
  refine ⟨_,_,cx,w,.int k z,rfl,?_,hS,hrefl,.of_int _ _⟩
  exact uz (by simpa [Builtin.min_] using e3)
 ·
  simp only [Option.map_eq_some_iff] at h
  obtain ⟨r,hm,rfl⟩:=h
  obtain ⟨v,rest,k,z,e1,e2,e3⟩:=wZ (P:=C.P) (cx:=cx) (S:=S) (w:=w) (g:=Builtin.max2) (fun k a b=>by simp [Builtin.max2]) _ args r us rfl hm hl hr
  subst e1; subst e2
  refine ⟨_,_,cx,w,.int k z,rfl,?_,hS,hrefl,.of_int _ _⟩
  exact uz (by simpa [Builtin.max_] using e3)
 ·
  cases h
end
end
end Go.Ev

namespace Go.Ev
noncomputable section
set_option linter.unusedVariables false
set_option linter.unusedSimpArgs false
section
variable {R:dm} {C:gG} {cx:Cx} {S:St} {w:World} {σ:Operand→Value}
theorem iC (hRC:jW R C) (hS:bD R cx S w) {ρ:Operand→Option AV} (hρ:yj cx S w ρ σ) (o:Oper) {nx:vE} (h:oper C ρ S o.op=some nx):oF R C cx S w σ o nx:=by
 have hR:=hRC.toObjOk
 obtain ⟨dst,op,type,pos,after,guard⟩:=o
 simp only at h
 cases op <;> simp only [oper] at h <;> try (cases h; done)
 case move x =>
  simp only [Option.map_eq_some_iff] at h
  obtain ⟨v,hv,rfl⟩:=h
  exact oF.pure hS rfl (hρ _ _ hv)
 case assign x =>
  simp only [Option.map_eq_some_iff] at h
  obtain ⟨v,hv,rfl⟩:=h
  exact oF.pure hS rfl (hρ _ _ hv)
 case pick c a b =>
  split at h
  ·
   rename_i t hc
   simp only [Option.map_eq_some_iff] at h
   obtain ⟨v,hv,rfl⟩:=h
   have hb:=(hρ _ _ hc).bool
   refine oF.pure (u:=σ (if t then a else b)) hS ?_ (hρ _ _ hv)
   simp only [execOp,hb,asBool,Sem.run_bind,Sem.run_pure,Result.andThen_ok]
   cases t <;> rfl
  ·
   cases h
 case alloc t =>
  cases hhas:S.H.has S.nx with
  | true=>simp [hhas] at h
  | false =>
  simp only [hhas,cond_false] at h
  split at h
  ·
   rename_i kk xx hobj
   simp only [Option.some.injEq] at h
   subst h
   obtain ⟨zv,r1,r2,r3⟩:=hRC.new t kk xx hobj
   obtain ⟨cx',k1,k2,k3⟩:=wN hR hS kk xx (.cells zv.cells t) r3 (r2 w)
   refine ⟨cx',_,_,?_,k1,k2,k3⟩
   refine uz ?_
   simp only [Instr.alloc,Sem.run_bind,r1,Result.andThen_ok,newVar,newRow,run_newObj,Sem.run_pure]
   rfl
  simp only [Option.map_eq_some_iff] at h
  obtain ⟨z,hz,rfl⟩:=h
  obtain ⟨zv,r1,r2⟩:=mo hz w cx.fr
  have hp:=ma (cx:=cx) (S:=S) (.d z zv r2) rfl
  obtain ⟨cx',k1,k2,k3⟩:=Cr hR hS (AV.d z).cells zv.cells.toList t hp.1 (fun i x v hx hv=>⟨hp.2.2 i x v hx hv,hp.2.1 v (List.mem_of_getElem? hv)⟩)
  refine ⟨cx',_,_,?_,k1,k2,k3⟩
  refine uz ?_
  simp only [Instr.alloc,Sem.run_bind,r1,Result.andThen_ok,newVar,newRow,run_newObj,Sem.run_pure]
  rfl
 case box t x =>
  split at h
  ·
   rename_i v hv
   split at h
   ·
    rename_i hpl
    cases hhas:S.H.has S.nx with
    | true=>simp [hhas] at h
    | false =>
    simp only [hhas,cond_false,Option.some.injEq] at h
    subst h
    have hp:=ma (hρ _ _ hv) hpl
    obtain ⟨cx',k1,k2,k3⟩:=Cr hR hS v.cells (σ x).cells.toList t hp.1 (fun i x v hx hv=>⟨hp.2.2 i x v hx hv,hp.2.1 v (List.mem_of_getElem? hv)⟩)
    refine ⟨cx',_,_,?_,k1,k2,k3⟩
    refine uz ?_
    simp only [Instr.box,Sem.run_bind,Result.andThen_ok,newVar,newRow,run_newObj,Sem.run_pure]
    rfl
   ·
    cases h
  ·
   cases h
 case build t parts =>
  split at h
  ·
   rename_i z ps hz hps
   split at h
   ·
    rename_i pl hpl
    simp only [Option.map_eq_some_iff] at h
    obtain ⟨cs,hcs,rfl⟩:=h
    obtain ⟨u,b1,b2⟩:=EU hρ hz hps hpl hcs
    exact oF.pure hS (uz b1) b2
   ·
    cases h
  ·
   cases h
 case buildSlice t len parts =>
  cases hrw:nJ C t len with
  | true =>
  rw [hrw] at h
  simp only [cond_true] at h
  split at h
  ·
   rename_i ps hps
   obtain ⟨v,S',rfl,cx',u,w',b1,b2,b3,b4⟩:=Aa hR hS hρ hps h
   exact ⟨cx',w',u,uz b1,b2,b3,b4⟩
  ·
   cases h
  | false =>
  rw [hrw] at h
  simp only [cond_false] at h
  split at h
  ·
   rename_i e ps he hps
   split at h
   ·
    rename_i hsm
    split at h
    ·
     rename_i z hz
     split at h
     ·
      rename_i cs hcs
      split at h
      ·
       rename_i ag hag
       simp only [Option.map_eq_some_iff] at h
       obtain ⟨xs,hxs,rfl⟩:=h
       obtain ⟨u,w',b1,b2,b3,b4⟩:=xQ hR hS hρ he hps hsm hz hcs hag hxs
       exact ⟨cx,w',u,uz b1,b2,b3,b4⟩
      ·
       cases h
     ·
      cases h
    ·
     cases h
   ·
    cases h
  ·
   cases h
 case load t a =>
  split at h
  ·
   rename_i v hv
   simp only [Option.map_eq_some_iff] at h
   obtain ⟨r,hr,rfl⟩:=h
   obtain ⟨u,b1,b2⟩:=zL (C:=C) hS hr (hρ _ _ hv)
   exact oF.pure hS (uz b1) b2
  ·
   cases h
 case store t a x =>
  split at h
  ·
   rename_i p v hp hv
   simp only [Option.map_eq_some_iff] at h
   obtain ⟨S',hst,rfl⟩:=h
   obtain ⟨w',b1,b2,b3⟩:=Ey hR hS hst (hρ _ _ hp) (hρ _ _ hv)
   exact ⟨cx,w',Ob b1,b2,b3⟩
  ·
   cases h
 case nilCheck x =>
  split at h
  ·
   rename_i i g o' hx
   simp only [Option.some.injEq] at h; subst h
   have:=hρ _ _ hx
   refine oF.pure (u:=σ x) hS ?_ this
   generalize hq:σ x=v at this
   cases this
   simp [execOp,hq]
  ·
   rename_i y o' hx
   simp only [Option.some.injEq] at h; subst h
   have:=hρ _ _ hx
   refine oF.pure (u:=σ x) hS ?_ this
   generalize hq:σ x=v at this
   cases this
   simp [execOp,hq]
  ·
   rename_i g cs hx
   simp only [Option.some.injEq] at h; subst h
   have:=hρ _ _ hx
   refine oF.pure (u:=σ x) hS ?_ this
   generalize hq:σ x=v at this
   cases this
   simp [execOp,hq]
  ·
   cases h
 case binOp op t x y yt =>
  split at h
  ·
   rename_i a b ha hb
   simp only [Option.map_eq_some_iff] at h
   obtain ⟨r,hr,rfl⟩:=h
   obtain ⟨u,b1,b2⟩:=Fq hr (hρ _ _ ha) (hρ _ _ hb) x y
   exact oF.pure hS (uz b1) b2
  ·
   cases h
 case unOp op t x =>
  split at h
  ·
   rename_i b hx
   simp only [Option.some.injEq] at h; subst h
   have:=(hρ _ _ hx).bool
   refine oF.pure (u:=.bool (!b)) hS ?_ (.of_bool _)
   simp [execOp,this,Op.unary]
  ·
   rename_i k n hx
   simp only [Option.some.injEq] at h; subst h
   have:=(hρ _ _ hx).int
   refine oF.pure (u:=.int k (k.wrap (0 - n))) hS ?_ (.of_int _ _)
   simp [execOp,this,Op.unary,Op.intArith]
  ·
   cases h
 case convert src dst' x =>
  split at h
  ·
   rename_i v hv
   simp only [Option.map_eq_some_iff] at h
   obtain ⟨r,hr,rfl⟩:=h
   obtain ⟨u,b1,b2⟩:=F8 hr (hρ _ _ hv)
   exact oF.pure hS (uz b1) b2
  ·
   cases h
 case makeFunc fn first caps =>
  split at h
  ·
   rename_i g hf
   simp only [Option.map_eq_some_iff] at h
   obtain ⟨cs,hcs,rfl⟩:=h
   obtain ⟨h1,h2⟩:=vH hρ hcs
   have hf0:first = #[]:=Array.toList_eq_nil_iff.1 hf
   subst hf0
   refine oF.pure (u:=.func (.func g) #[] (caps.map σ)) hS (by simp [execOp,Instr.makeFunc]) ?_
   exact aQ.fn (cx:=cx) (S:=S) (w:=w) g cs (caps.map σ).toList h1 h2
  ·
   cases h
 case slice t x lo hi mx =>
  split at h
  ·
   rename_i v hv
   split at h
   ·
    rename_i l hh m hl hhi hm
    simp only [Option.map_eq_some_iff] at h
    obtain ⟨r,hr,rfl⟩:=h
    obtain ⟨u,b1,b2⟩:=Et hr (hρ _ _ hv) (vz hρ hl) (vz hρ hhi) (vz hρ hm)
    exact oF.pure hS (uz b1) b2
   ·
    cases h
  ·
   cases h
 case fieldAddr s x fld =>
  split at h
  ·
   rename_i id g off fo ft hx hf
   split at h
   ·
    cases h
   ·
    rename_i hz
    simp only [Option.some.injEq] at h; subst h
    obtain ⟨u,b1,b2⟩:=(sZ (C:=C) hf hz (hρ _ _ hx)).1 _ _ _ rfl
    exact oF.pure hS (uz b1) b2
  ·
   rename_i y off fo ft hx hf
   split at h
   ·
    cases h
   ·
    rename_i hz
    simp only [Option.some.injEq] at h; subst h
    obtain ⟨u,b1,b2⟩:=(sZ (C:=C) hf hz (hρ _ _ hx)).2 _ _ rfl
    exact oF.pure hS (uz b1) b2
  ·
   cases h
 case field t x fld =>
  split at h
  ·
   rename_i cs fo ft hx hf
   simp only [Option.map_eq_some_iff] at h
   obtain ⟨r,hr,rfl⟩:=h
   obtain ⟨u,b1,b2⟩:=(yw (C:=C) (r:=.d r) hf).2 cs r (hρ _ _ hx) hr
   exact oF.pure hS (uz b1) b2
  ·
   rename_i cs fo ft hx hf
   simp only [Option.map_eq_some_iff] at h
   obtain ⟨r,hr,rfl⟩:=h
   obtain ⟨u,b1,b2⟩:=(yw (C:=C) (r:=r) hf).1 cs (hρ _ _ hx) hr
   exact oF.pure hS (uz b1) b2
  ·
   cases h
 case indexAddr t x i =>
  split at h
  ·
   rename_i v n hv hn
   simp only [Option.map_eq_some_iff] at h
   obtain ⟨r,hr,rfl⟩:=h
   obtain ⟨u,b1,b2⟩:=yH hr (hρ _ _ hv) (hρ _ _ hn)
   exact oF.pure hS (uz b1) b2
  ·
   cases h
 case index t x i =>
  split at h
  ·
   rename_i s k n hx hi
   split at h
   ·
    rename_i hc
    simp only [Bool.and_eq_true,decide_eq_true_eq] at hc
    simp only [Option.map_eq_some_iff] at h
    obtain ⟨c,hcc,rfl⟩:=h
    have hi':=(hρ _ _ hi).int
    have:=Fe (P:=C.P) (k:=k) (hρ _ _ hx) hc.1 hc.2 hcc
    refine oF.pure hS (uz ?_) (.of_int _ _)
    rw [hi']; exact this
   ·
    cases h
  ·
   cases h
 case makeMap t r =>
  split at h
  ·
   rename_i kt hkt hr
   cases hhas:S.H.has S.nx with
   | true=>simp [hhas] at h
   | false =>
   simp only [hhas,cond_false,Option.some.injEq] at h; subst h
   obtain ⟨cx',k1,k2,k3⟩:=CV hR hS
   refine ⟨cx',_,_,uz (u:=.map (some w.heap.size)) (w':=w.alloc (.map #[] 0)) ?_,k1,k2,k3⟩
   have hu:=nP hkt
   cases r with
   | none=>rfl
   | some o' =>
    simp only at hr
    split at hr
    ·
     rename_i k n hq
     have hi:=(hρ _ _ hq).int
     simp only [Option.map_some,Instr.makeMap,Sem.run_bind,bg w hu,Result.andThen_ok,hi,asInt,asIntOf,Sem.run_pure]
     rfl
    ·
     cases hr
  ·
   cases h
 case makeSlice t l c =>
  split at h
  ·
   rename_i lv cv hl hc
   simp only [Option.map_eq_some_iff] at h
   obtain ⟨r,hr,rfl⟩:=h
   obtain ⟨cx',w',u,b1,b2,b3,b4⟩:=FN hR hS hr (hρ _ _ hl).dd (hρ _ _ hc).dd
   exact ⟨cx',w',u,uz b1,b2,b3,b4⟩
  ·
   cases h
 case range t x =>
  split at h
  ·
   rename_i kt id ht hx
   split at h
   ·
    rename_i M hg
    cases hhas:S.H.has S.nx with
    | true=>simp [hhas] at h
    | false =>
    simp only [hhas,cond_false,Option.some.injEq] at h; subst h
    obtain ⟨cx',w',u,b1,b2,b3,b4⟩:=DW hR hS ht hg (hρ _ _ hx)
    exact ⟨cx',w',u,uz b1,b2,b3,b4⟩
   ·
    cases h
  ·
   rename_i kt ht hx
   cases hhas:S.H.has S.nx with
   | true=>simp [hhas] at h
   | false =>
   simp only [hhas,cond_false,Option.some.injEq] at h; subst h
   obtain ⟨cx',w',u,b1,b2,b3,b4⟩:=yR hR hS ht (hρ _ _ hx)
   exact ⟨cx',w',u,uz b1,b2,b3,b4⟩
  ·
   cases h
 case entry t =>
  split at h
  ·
   rename_i k g id since seen st hx
   split at h
   ·
    rename_i M n c hg hl hk
    split at h
    ·
     rename_i hc
     split at h
     ·
      rename_i i hf
      simp only [Option.map_eq_some_iff] at h
      obtain ⟨p,hp,rfl⟩:=h
      obtain ⟨hc1,hc2⟩:=hc
      subst hc2
      obtain ⟨u,b1,b2⟩:=Dr (C:=C) hS (hρ _ _ hx) hg hl hk hc1 hf hp
      exact oF.pure hS (uz b1) b2
     ·
      cases h
    ·
     cases h
   ·
    cases h
  ·
   cases h
 case lookup t m k ok =>
  split at h
  ·
   rename_i mv kd hm hk
   simp only [Option.map_eq_some_iff] at h
   obtain ⟨v,hv,rfl⟩:=h
   obtain ⟨u,b1,b2⟩:=Da hS hv (hρ _ _ hm) (hρ _ _ hk).dd
   exact oF.pure hS (uz b1) b2
  ·
   cases h
 case mapUpdate t m k x =>
  split at h
  ·
   rename_i mv kd v hm hk hx
   simp only [Option.map_eq_some_iff] at h
   obtain ⟨S',hv,rfl⟩:=h
   obtain ⟨w',b1,b2,b3⟩:=wB hR hS hv (hρ _ _ hm) (hρ _ _ hk).dd (hρ _ _ hx)
   exact ⟨cx,w',Ob b1,b2,b3⟩
  ·
   cases h
 case insert t m k x =>
  split at h
  ·
   rename_i mv kd v hm hk hx
   simp only [Option.map_eq_some_iff] at h
   obtain ⟨S',hv,rfl⟩:=h
   obtain ⟨w',b1,b2,b3⟩:=wB hR hS hv (hρ _ _ hm) (hρ _ _ hk).dd (hρ _ _ hx)
   exact ⟨cx,w',Ob b1,b2,b3⟩
  ·
   cases h
 case mapEntry t m k =>
  split at h
  ·
   rename_i mv kd hm hk
   simp only [Option.map_eq_some_iff] at h
   obtain ⟨r,hv,rfl⟩:=h
   obtain ⟨w',u,b1,b2,b3,b4⟩:=Fj hR hS hv (hρ _ _ hm) (hρ _ _ hk).dd
   exact ⟨cx,w',u,uz b1,b2,b3,b4⟩
  ·
   cases h
 case entryStore t m st x =>
  split at h
  ·
   rename_i mv sd v hm hk hx
   simp only [Option.map_eq_some_iff] at h
   obtain ⟨S',hv,rfl⟩:=h
   obtain ⟨w',b1,b2,b3⟩:=xq hR (C:=C) (t:=t) hS hv (hρ _ _ hm) (hρ _ _ hk).dd (hρ _ _ hx)
   exact ⟨cx,w',Ob b1,b2,b3⟩
  ·
   cases h
 case extract t i =>
  split at h
  ·
   rename_i vs ht
   simp only [Option.map_eq_some_iff] at h
   obtain ⟨v,hv,rfl⟩:=h
   have hr:=hρ _ _ ht
   generalize hq:σ t=u at hr
   cases hr with
   | tup _ us hl hr =>
    have hlt:i < us.length:=by rw [hl]; exact (List.getElem?_eq_some_iff.1 hv).1
    have hu:=List.getElem?_eq_getElem hlt
    refine oF.pure hS (uz (u:=us[i]) ?_) (hr i v _ hv hu)
    simp [Instr.extract,hq,hlt]
  ·
   cases h
 case call c =>
  obtain ⟨callee,cargs,argTypes⟩:=c
  simp only at h
  cases callee <;> simp only at h <;> try (cases h; done)
  case value g =>
   split at h
   ·
    rename_i k caps args hg ha
    simp only [Option.some.injEq] at h; subst h
    obtain ⟨h1,h2⟩:=vH hρ ha
    have hgr:=hρ _ _ hg
    generalize hq:σ g=gv at hgr
    cases hgr with
    | fn _ _ cv hl hr =>
     refine ⟨(cargs.map σ).toList ++ cv,by rw [List.length_append,List.length_append,h1,hl],fun i x v hx hv=>?_,fun fn hf hb hn=>?_⟩
     ·
      rw [List.getElem?_append] at hx hv
      by_cases hi:i < args.length
      ·
       rw [if_pos hi] at hx; rw [if_pos (by rw [h1]; exact hi)] at hv; exact h2 i x v hx hv
      ·
       rw [if_neg hi] at hx; rw [if_neg (by rw [h1]; exact hi),h1] at hv; exact hr _ x v hx hv
     ·
      have hb':fn.body.isNone=false:=by cases hq:fn.body <;> simp_all
      have hn':(fn.name == "runtime.NumGoroutine")=false:=by simpa using hn
      simp only [execOp,resolve,hq,Deferred.ofValue,Sem.run_bind,Sem.run_pure,Result.andThen_ok,invoke,callFunc,run_program,hf,hn',hb',Bool.false_eq_true,if_false]
      congr 2
      apply Array.ext'
      simp
   ·
    cases h
  case builtin b =>
   split at h
   ·
    rename_i args ha
    obtain ⟨h1,h2⟩:=vH hρ ha
    obtain ⟨v,S',cx',w',u,rfl,b1,b2,b3,b4⟩:=Bb (R:=R) (C:=C) (ty:=type) (cs:=cargs.map fun | .const _=>true | _=>false) hR hS h h1 h2
    refine ⟨cx',w',u,?_,b2,b3,b4⟩
    simp only [execOp,resolve,Sem.run_bind,Sem.run_pure,Result.andThen_ok,invoke]
    have hq:(cargs.map σ).toList.toArray=cargs.map σ:=rfl
    rw [hq] at b1
    exact b1
   ·
    cases h
end
end
end Go.Ev

namespace Go.Ev
noncomputable section
set_option linter.unusedVariables false
set_option linter.unusedSimpArgs false
structure jo (cx:Cx) (S:St) (w:World) (nt:Nat) (e:Env) (a:Act):Prop where
 size:nt ≤ a.tmps.size
 rel:∀ t x,AL.get e t=some x→∃ v,a.tmps[t]? = some v∧aQ cx S w x v
theorem jo.mono {cx cx':Cx} {S S':St} {w w':World} {nt:Nat} {e:Env} {a:Act} (h:jo cx S w nt e a) (x:Ext cx S w cx' S' w'):jo cx' S' w' nt e a :=
 ⟨h.size,fun t y hy=>let ⟨v,h1,h2⟩:=h.rel t y hy; ⟨v,h1,h2.mono x⟩⟩
theorem jo.put {cx:Cx} {S:St} {w:World} {nt:Nat} {e e':Env} {a:Act} {dst:Option Nat} {x:AV} {v:Value} (h:jo cx S w nt e a) (hp:Env.put nt e dst x=some e') (hx:aQ cx S w x v):jo cx S w nt e' (a.put dst v):=by
 unfold Env.put at hp
 split at hp
 ·
  rename_i t
  cases hb:Nat.blt t nt with
  | false=>rw [hb] at hp; cases hp
  | true =>
   rw [hb] at hp
   simp at hp; subst hp
   have hlt:t < nt:=Nat.le_of_ble_eq_true hb
   refine ⟨by simp [Act.put,h.size],fun u y hy=>?_⟩
   rw [AL.iK] at hy
   by_cases hu:t=u
   ·
    subst hu
    rw [if_pos rfl] at hy
    cases hy
    refine ⟨v,?_,hx⟩
    have:=h.size
    simp [Act.put,show t < a.tmps.size by omega]
   ·
    rw [if_neg hu] at hy
    obtain ⟨z,h1,h2⟩:=h.rel u y hy
    exact ⟨z,by simpa [Act.put,Array.getElem?_setIfInBounds_ne hu] using h1,h2⟩
 ·
  simp at hp; subst hp; exact h
theorem jo.eval {cx:Cx} {S:St} {w:World} {nt:Nat} {e:Env} {a:Act} (h:jo cx S w nt e a):yj cx S w (dB e) a.eval:=by
 intro x y hy
 cases x <;> simp only [dB] at hy
 case tmp t =>
  obtain ⟨v,h1,h2⟩:=h.rel t y hy
  simpa [Act.eval,h1] using h2
 case const v =>
  simp only [Option.map_eq_some_iff] at hy
  obtain ⟨z,hz,rfl⟩:=hy
  exact .d _ _ (rq hz w cx.fr)
 case global g=>cases hy
 case func f =>
  simp at hy; subst hy
  exact aQ.fn (cx:=cx) (S:=S) (w:=w) f [] [] rfl (by simp)
theorem fD {cx:Cx} {S:St} {w:World} {nt:Nat} {e:Env} {a:Act} {ops:Array Oper} {o:Oper} {b:Bool} (h:jo cx S w nt e a) (hw:bV ops e o=some b):Region.wanted o (yielded ops a.tmps)=b:=by
 unfold bV at hw
 unfold Region.wanted
 split at hw
 ·
  rename_i hg; simp at hw; subst hw; simp [hg]
 ·
  rename_i j want hg
  split at hw
  ·
   rename_i oj hj
   split at hw
   ·
    rename_i t ht
    split at hw
    ·
     rename_i c hc
     simp at hw; subst hw
     obtain ⟨v,h1,h2⟩:=h.rel t _ hc
     have:=h2.bool; subst this
     simp only [hg,yielded,hj,Option.bind_some,ht,h1]
     cases c <;> cases want <;> rfl
    ·
     rename_i hc
     simp at hw; subst hw
     obtain ⟨v,h1,h2⟩:=h.rel t _ hc
     cases h2 with
     | tup _ vs hl _ =>
      have:vs=[]:=List.eq_nil_of_length_eq_zero hl
      subst this
      simp only [hg,yielded,hj,Option.bind_some,ht,h1]
      cases want <;> rfl
    ·
     cases hw
   ·
    cases hw
  ·
   cases hw
def BR (cx:Cx) (S:St) (w:World) (p:Option AV) (v:AV) (e:Ending):Prop :=
 match p with
 | none=>∃ u,e=.returned u∧aQ cx S w v u
 | some pv=>∃ u,e=.panicked [{ v:=u,recovered:=false }]∧aQ cx S w pv u
def Dn (R:dm) (P:Program) (h:Hand):Prop :=
 ∀ f args S p v S',h f args S=some (p,v,S')→(∃ fn,P.funcs[f]? = some fn∧fn.body.isSome=true∧fn.name ≠ "runtime.NumGoroutine") ∧
  ∀ cx w (us:List Value),bD R cx S w→us.length=args.length→(∀ (i:Nat) (x:AV) (u:Value),args[i]? = some x→us[i]? = some u→aQ cx S w x u) →
  Calls P f us.toArray w (fun e w'=>∃ cx',bD R cx' S' w'∧Ext cx S w cx' S' w' ∧
   BR cx' S' w' p v e)
def After (R:dm) (cx:Cx) (S:St) (w:World) (nt:Nat) (a:Act) (K:Act→World→Prop) (Q:Exit→Act→World→Prop):Stp→Prop
 | .go e' S'=>∀ cx' a' w',bD R cx' S' w'→Ext cx S w cx' S' w'→jo cx' S' w' nt e' a'→a'.defers=a.defers→K a' w'
 | .stop v S'=>∀ cx' w' u,bD R cx' S' w'→Ext cx S w cx' S' w'→aQ cx' S' w' v u→Q (.panic [{ v:=u,recovered:=false }]) a w'
theorem put_defers (a:Act) (d:Option Nat) (v:Value):(a.put d v).defers=a.defers:=by cases d <;> rfl
theorem sj {R:dm} {C:gG} (hR:jW R C) {h:Hand} (hh:Dn R C.P h) {cx:Cx} {S:St} {w:World} {nt:Nat} {e:Env} {a:Act} {ops:Array Oper} {o:Oper} {r:Stp}
  (hs:iH C h nt ops o e S=some r) (hS:bD R cx S w) (he:jo cx S w nt e a) {K:Act→World→Prop} {Q:Exit→Act→World→Prop} (hk:After R cx S w nt a K Q r) {i:Nat} (hi:ops[i]? = some o) :
  wpOp C.P ops Q i K a w:=by
 unfold wpOp
 rw [hi]
 simp only
 unfold iH at hs
 have hrefl:=Ext.refl (cx:=cx) w hS.wf
 split at hs
 ·
  rename_i hw
  rw [if_pos (fD he hw)]
  left
  split at hs
  ·
   rename_i v S' hop
   obtain ⟨cx',w',u,h1,h2,h3,h4⟩:=iC hR hS he.eval o hop
   split at hs
   ·
    rename_i e' hp
    simp only [Option.some.injEq] at hs; subst hs
    unfold Oper.wp
    rw [h1]
    exact hk cx' _ w' h2 h3 ((he.mono h3).put hp h4) (put_defers _ _ _)
   ·
    cases hs
  ·
   rename_i S' hop
   obtain ⟨cx',w',h1,h2,h3⟩:=iC hR hS he.eval o hop
   split at hs
   ·
    rename_i hd
    simp only [Option.some.injEq] at hs; subst hs
    unfold Oper.wp
    rw [h1]
    show K (a.put o.dst undef) w'
    rw [hd]
    exact hk cx' _ w' h2 h3 (he.mono h3) rfl
   ·
    cases hs
  ·
   rename_i f args hop
   obtain ⟨us,h1,h2,h3⟩:=iC hR hS he.eval o hop
   split at hs
   ·
    rename_i v S' hc
    obtain ⟨⟨fn,f1,f2,f3⟩,hcalls⟩:=hh f args S _ v S' hc
    split at hs
    ·
     rename_i e' hp
     simp only [Option.some.injEq] at hs; subst hs
     unfold Oper.wp
     rw [h3 fn f1 f2 f3]
     refine (hcalls cx w us hS h1 h2).mono (fun en w' hen=>?_)
     obtain ⟨cx',k1,k2,u,rfl,k3⟩:=hen
     exact hk cx' _ w' k1 k2 ((he.mono k2).put hp k3) (put_defers _ _ _)
    ·
     cases hs
   ·
    rename_i p v S' hc
    obtain ⟨⟨fn,f1,f2,f3⟩,hcalls⟩:=hh f args S _ v S' hc
    simp only [Option.some.injEq] at hs; subst hs
    unfold Oper.wp
    rw [h3 fn f1 f2 f3]
    refine (hcalls cx w us hS h1 h2).mono (fun en w' hen=>?_)
    obtain ⟨cx',k1,k2,u,rfl,k3⟩:=hen
    exact hk cx' w' u k1 k2 k3
   ·
    cases hs
  ·
   cases hs
  ·
   cases hs
 ·
  rename_i hw
  rw [if_neg (by rw [fD he hw]; simp)]
  split at hs
  ·
   rename_i hd
   simp only [Option.some.injEq] at hs; subst hs
   rw [hd]
   exact hk cx _ w hS hrefl he rfl
  ·
   rename_i t hd
   split at hs
   ·
    rename_i e1 hput
    simp only [Option.some.injEq] at hs; subst hs
    rw [hd]
    exact hk cx _ w hS hrefl (he.put hput (.tup [] [] rfl (fun i x v hx=>by simp at hx))) (put_defers _ _ _)
   ·
    cases hs
 ·
  cases hs
end
end Go.Ev

namespace Go.Ev
noncomputable section
set_option linter.unusedVariables false
set_option linter.unusedSimpArgs false
def isVal (S:St) (S':St) (a b:Option vE):Prop:=∀ nx,a=some nx→∃ v,nx=.val v S∧b=some (.val v S')
theorem AL.nS {α:Type}:∀ {l:AL α} {n:Nat},AL.has l n=false→AL.get l n=none
 | [],_,_=>rfl
 | (k,v) :: l,n,h=>by
  simp only [AL.has] at h
  cases hb:Nat.beq k n with
  | true=>rw [hb] at h; cases h
  | false =>
   rw [hb] at h
   rw [AL.GQ,hb,cond_false]
   exact AL.nS h
theorem Gm {C:gG} {t len:Nat} {ps:Array (Nat × Operand)} (h0:¬ cls C (.buildSlice t len ps)=0) (hc:cls C (.buildSlice t len ps) ≤ 1):False:=by
 unfold cls at h0 hc
 cases h:nJ C t len <;> simp [h] at h0 hc
theorem wE {C:gG} {t len:Nat} {S:St} {ps:List (Nat × AV)} {nx:vE} (h:nN C t S len ps=some nx):S.H.get S.nx=none∧∃ v b,nx=.val v (bZ S b):=by
 unfold nN at h
 split at h
 ·
  split at h
  ·
   split at h
   ·
    cases hh:S.H.has S.nx with
    | true=>simp [hh] at h
    | false =>
     simp only [hh,cond_false,Option.map_eq_some_iff] at h
     obtain ⟨z,_,rfl⟩:=h
     exact ⟨AL.nS hh,_,_,rfl⟩
   ·
    cases h
  ·
   cases h
 ·
  cases h
theorem F6 {C:gG} {ρ:Operand→Option AV} {op:Op} (hc:cls C op=0) (S S':St):isVal S S' (oper C ρ S op) (oper C ρ S' op):=by
 intro nx h
 cases op
 case buildSlice t len ps =>
  have hr:nJ C t len=false:=by unfold cls at hc; cases hq:nJ C t len <;> simp [hq] at hc ⊢
  simp only [oper,hr,cond_false] at h ⊢
  (repeat' split at h) <;> first
   | (cases h; done)
   | (simp only [Option.map_eq_some_iff] at h; obtain ⟨a,ha,rfl⟩:=h; exact ⟨_,rfl,by simp_all⟩)
 all_goals simp only [cls] at hc
 all_goals try (cases hc; done)
 case call c =>
  obtain ⟨callee,args,ats⟩:=c
  cases callee <;> try (exact absurd (show (2:Nat)=0 from hc) (by omega))
  rename_i b
  cases b <;> try (first | exact absurd (show (2:Nat)=0 from hc) (by omega) | exact absurd (show (1:Nat)=0 from hc) (by omega))
  all_goals
   simp only [oper] at h ⊢
   split at h
   ·
    simp only [jq,Option.map_eq_some_iff] at h ⊢
    obtain ⟨a,ha,rfl⟩:=h
    exact ⟨_,rfl,by simp_all⟩
   ·
    cases h
 all_goals
  simp only [oper] at h ⊢
  (repeat' split at h) <;> first
   | (cases h; done)
   | (simp only [Option.some.injEq] at h; subst h; exact ⟨_,rfl,by simp_all⟩)
   | (simp only [Option.map_eq_some_iff] at h; obtain ⟨a,ha,rfl⟩:=h; exact ⟨_,rfl,by simp_all⟩)
theorem CU {C:gG} {ρ:Operand→Option AV} {op:Op} (hc:cls C op ≤ 1) (S:St) {nx:vE} (h:oper C ρ S op=some nx):∃ v,nx=.val v S:=by
 by_cases h0:cls C op=0
 ·
  obtain ⟨v,h1,_⟩:=F6 h0 S S nx h; exact ⟨v,h1⟩
 ·
  cases op <;> try (first | exact absurd rfl h0 | exact absurd (show (2:Nat) ≤ 1 from hc) (by omega) | exact (Gm h0 hc).elim)
  case load t a =>
   simp only [oper] at h
   split at h
   ·
    simp only [Option.map_eq_some_iff] at h
    obtain ⟨r,hr,rfl⟩:=h
    exact ⟨r,rfl⟩
   ·
    cases h
  case lookup t m k ok =>
   simp only [oper] at h
   split at h
   ·
    simp only [Option.map_eq_some_iff] at h
    obtain ⟨r,hr,rfl⟩:=h
    exact ⟨r,rfl⟩
   ·
    cases h
  case call c =>
   obtain ⟨callee,args,ats⟩:=c
   cases callee <;> try (exact absurd (show (2:Nat) ≤ 1 from hc) (by omega))
   rename_i b
   cases b <;> try (first | exact absurd rfl h0 | exact absurd (show (2:Nat) ≤ 1 from hc) (by omega))
   simp only [oper] at h
   split at h
   ·
    simp only [jq] at h
    (repeat' split at h) <;> first
     | (cases h; done)
     | (simp only [Option.map_eq_some_iff] at h; obtain ⟨a,ha,rfl⟩:=h; exact ⟨_,rfl⟩)
     | contradiction
   ·
    cases h
theorem nM {α β:Type} {f g:α→Option β}:∀ {l:List α},(∀ x ∈ l,f x=g x)→jw f l=jw g l
 | [],_=>rfl
 | x :: l,h=>by
  simp only [jw]
  rw [h x (by simp),nM (fun y hy=>h y (by simp [hy]))]
theorem vQ {C:gG} {ρ ρ':Operand→Option AV} (S:St) (op:Op) (h:∀ x ∈ op.operands,ρ x=ρ' x):oper C ρ S op=oper C ρ' S op:=by
 cases op <;> simp only [Op.operands] at h <;> simp only [oper]
 case build t ps =>
  have:oH ρ ps=oH ρ' ps:=nM fun p hp=>by rw [h p.2 (by simp; exact ⟨p.1,by simpa using hp⟩)]
  rw [this]
 case buildSlice t n ps =>
  have:oH ρ ps=oH ρ' ps:=nM fun p hp=>by rw [h p.2 (by simp; exact ⟨p.1,by simpa using hp⟩)]
  rw [this]
 case makeFunc fn first caps =>
  have:jw ρ caps.toList=jw ρ' caps.toList:=nM fun p hp=>h p (by simp; exact .inr (by simpa using hp))
  rw [this]
 case call c =>
  have ha:jw ρ c.args.toList=jw ρ' c.args.toList:=nM fun p hp=>h p (by simp only [Call.operands]; exact Array.mem_append.2 (.inr (by simpa using hp)))
  rw [ha]
  cases hc:c.callee with
  | value f=>have:ρ f=ρ' f:=h f (by simp [Call.operands,hc]); simp only [this]
  | invoke r m=>rfl
  | builtin b=>rfl
 case makeMap t r =>
  cases r with
  | none=>rfl
  | some o=>have he:ρ o=ρ' o:=h o (by simp); simp only [he]
 case slice t x lo hi mx =>
  have hx:ρ x=ρ' x:=h x (by simp)
  have hl:vO ρ lo=vO ρ' lo:=by cases lo <;> simp only [vO]; rw [h _ (by simp)]
  have hh:vO ρ hi=vO ρ' hi:=by cases hi <;> simp only [vO]; rw [h _ (by simp)]
  have hm:vO ρ mx=vO ρ' mx:=by cases mx <;> simp only [vO]; rw [h _ (by simp)]
  rw [hx,hl,hh,hm]
 case pick c a b =>
  rw [h c (by simp)]
  cases ρ' c with
  | none=>rfl
  | some v =>
   cases v <;> try rfl
   rename_i x
   cases x <;> try rfl
   rename_i t
   cases t
   ·
    simp only [Bool.false_eq_true,if_false]; rw [h b (by simp)]
   ·
    simp only [if_true]; rw [h a (by simp)]
 all_goals (first | rfl | (simp only [h _ (by simp:_ ∈ _)]; done) | (simp_all; done))
def Lt (e e':Env):Prop:=∀ t,AL.get e t=AL.get e' t
def wh (e:Env) (dst:Option Nat) (x:Option AV) (e':Env):Prop:=∀ t,AL.get e' t=if dst=some t then x else AL.get e t
theorem wh.put {nt:Nat} {e e':Env} {dst:Option Nat} {v:AV} (h:Env.put nt e dst v=some e'):wh e dst (some v) e':=by
 unfold Env.put at h
 split at h
 ·
  rename_i t
  cases hb:Nat.blt t nt with
  | false=>rw [hb] at h; cases h
  | true =>
   rw [hb] at h; simp at h; subst h
   intro u; rw [AL.iK]
   by_cases hu:t=u <;> simp [hu]
 ·
  simp at h; subst h; intro u; simp
theorem uF {nt:Nat} {e e':Env} {dst:Option Nat} {v:AV} (h:Env.put nt e dst v=some e') (e2:Env):∃ e2',Env.put nt e2 dst v=some e2':=by
 unfold Env.put at h ⊢
 split at h
 ·
  rename_i t
  cases hb:Nat.blt t nt with
  | false=>rw [hb] at h; cases h
  | true=>exact ⟨_,rfl⟩
 ·
  exact ⟨_,rfl⟩
theorem wh.none (e:Env) (x:Option AV):wh e none x e:=by intro u; simp
theorem qO {e e2:Env} {ops:Array Oper} {o:Oper} (h:∀ t ∈ o.looksAt ops,AL.get e2 t=AL.get e t):∀ x ∈ o.op.operands,dB e x=dB e2 x:=by
 intro x hx
 cases x <;> try rfl
 rename_i t
 simp only [dB]
 exact (h t (List.mem_append_left _ (List.mem_filterMap.2 ⟨.tmp t,by simpa using hx,rfl⟩))).symm
theorem pQ {e e2:Env} {ops:Array Oper} {o:Oper} (h:∀ t ∈ o.looksAt ops,AL.get e2 t=AL.get e t):bV ops e2 o=bV ops e o:=by
 unfold bV
 cases hg:o.guard with
 | none=>rfl
 | some p =>
  obtain ⟨j,want⟩:=p
  simp only
  cases hj:ops[j]? with
  | none=>rfl
  | some oj =>
   simp only
   cases ht:oj.dst with
   | none=>rfl
   | some t =>
    simp only
    rw [h t (by unfold Oper.looksAt; rw [hg]; simp [hj,ht])]
theorem lh {C:gG} {h:Hand} {nt:Nat} {ops:Array Oper} {o:Oper} {e e' e2:Env} {S S':St} (hs:iH C h nt ops o e S=some (.go e' S')) (ha:∀ t ∈ o.looksAt ops,AL.get e2 t=AL.get e t) :
  ∃ x e2',iH C h nt ops o e2 S=some (.go e2' S')∧wh e o.dst x e'∧wh e2 o.dst x e2':=by
 have hop:oper C (dB e2) S o.op=oper C (dB e) S o.op:=vQ S o.op (fun x hx=>(qO ha x hx).symm)
 unfold iH at hs ⊢
 rw [pQ ha,hop]
 split at hs
 ·
  split at hs
  ·
   rename_i v S1 ho
   split at hs
   ·
    rename_i e1 hp
    simp only [Option.some.injEq,Stp.go.injEq] at hs
    obtain ⟨rfl,rfl⟩:=hs
    obtain ⟨e2',h2⟩:=uF hp e2
    exact ⟨some v,e2',by simp [h2],wh.put hp,wh.put h2⟩
   ·
    cases hs
  ·
   rename_i S1 ho
   split at hs
   ·
    rename_i hd
    simp only [Option.some.injEq,Stp.go.injEq] at hs
    obtain ⟨rfl,rfl⟩:=hs
    refine ⟨.none,e2,by simp,?_,?_⟩ <;> (rw [hd]; exact wh.none _ _)
   ·
    cases hs
  ·
   rename_i f args ho
   split at hs
   ·
    rename_i v S1 hc
    split at hs
    ·
     rename_i e1 hp
     simp only [Option.some.injEq,Stp.go.injEq] at hs
     obtain ⟨rfl,rfl⟩:=hs
     obtain ⟨e2',h2⟩:=uF hp e2
     exact ⟨some v,e2',by simp [h2],wh.put hp,wh.put h2⟩
    ·
     cases hs
   ·
    cases hs
   ·
    cases hs
  ·
   cases hs
  ·
   cases hs
 ·
  split at hs
  ·
   rename_i hd
   simp only [Option.some.injEq,Stp.go.injEq] at hs
   obtain ⟨rfl,rfl⟩:=hs
   refine ⟨.none,e2,by simp,?_,?_⟩ <;> (rw [hd]; exact wh.none _ _)
  ·
   rename_i t hd
   split at hs
   ·
    rename_i e1 hput
    simp only [Option.some.injEq,Stp.go.injEq] at hs
    obtain ⟨rfl,rfl⟩:=hs
    obtain ⟨e2',h2⟩:=uF hput e2
    refine ⟨some (.tup []),e2',by simp [h2],?_,?_⟩
    ·
     rw [hd]; exact wh.put hput
    ·
     rw [hd]; exact wh.put h2
   ·
    cases hs
 ·
  cases hs
def Dy (h:Hand):Prop:=∀ f args S v S',h f args S=some (none,v,S')→(nC args).isSome=true→(wM v).isSome=true→∀ S2,h f args S2=some (none,v,S2)
def Z0 (C:gG) (h:Hand) (nt:Nat) (ops:Array Oper) (o:Oper) (e:Env):Prop :=
 ∃ x:Option AV,∀ e2:Env,(∀ t ∈ o.looksAt ops,AL.get e2 t=AL.get e t)→∀ S2,∃ e2',iH C h nt ops o e2 S2=some (.go e2' S2)∧wh e2 o.dst x e2'
theorem Z0.agree {C:gG} {h:Hand} {nt:Nat} {ops:Array Oper} {o:Oper} {e f:Env} (z:Z0 C h nt ops o e) (ha:∀ t ∈ o.looksAt ops,AL.get f t=AL.get e t):Z0 C h nt ops o f:=by
 obtain ⟨x,hx⟩:=z
 exact ⟨x,fun e2 h2=>hx e2 (fun t ht=>(h2 t ht).trans (ha t ht))⟩
theorem Er {C:gG} {b:Builtin} {A:Array Nat} {S:St} {args:List AV} {nx:vE} (h:jq C b A S args=some nx):∃ v S',nx=.val v S':=by
 have hm:∀ {α:Type} {o:Option α} {g:α→AV} {k:α→St},o.map (fun r=>vE.val (g r) (k r))=some nx→∃ v S',nx=.val v S':=by
  intro α o g k hq
  simp only [Option.map_eq_some_iff] at hq
  obtain ⟨r,_,rfl⟩:=hq
  exact ⟨_,_,rfl⟩
 unfold jq at h
 split at h
 ·
  split at h
  ·
   split at h
   ·
    exact hm h
   ·
    cases h
  ·
   cases h
 ·
  split at h
  ·
   rename_i t ht
   cases ht2:A[1]? with
   | none=>simp [ht2] at h
   | some t2 =>
    simp only [ht2] at h
    by_cases hsrc:jR C t2=true
    ·
     rw [if_pos hsrc] at h
     split at h
     ·
      split at h
      ·
       exact hm h
      ·
       cases hr:C.rowT t with
       | true =>
        simp only [hr,cond_true] at h
        split at h
        ·
         exact hm h
        ·
         exact hm h
        ·
         cases h
       | false =>
        simp only [hr,cond_false] at h
        split at h
        ·
         exact hm h
        ·
         split at h
         ·
          exact hm h
         ·
          cases h
     ·
      cases h
    ·
     rw [if_neg hsrc] at h; cases h
  ·
   cases h
 ·
  split at h
  ·
   split at h
   ·
    unfold De at h
    (repeat' split at h) <;> first
     | (cases h; done)
     | (simp only [Option.some.injEq] at h; subst h; exact ⟨_,_,rfl⟩)
   ·
    cases h
  ·
   cases h
 ·
  split at h
  ·
   split at h
   ·
    unfold yX at h
    (repeat' split at h) <;> first
     | (cases h; done)
     | (simp only [Option.some.injEq] at h; subst h; exact ⟨_,_,rfl⟩)
   ·
    cases h
  ·
   cases h
 ·
  split at h
  ·
   simp only [Option.map_eq_some_iff] at h
   obtain ⟨r,_,rfl⟩:=h
   exact ⟨_,_,rfl⟩
  ·
   cases h
 ·
  exact hm h
 ·
  exact hm h
 ·
  cases h
theorem IB {C:gG} {ρ:Operand→Option AV} {op:Op} {S:St} {f:Nat} {args:List AV} (h:oper C ρ S op=some (.call f args)) (hc:¬ cls C op ≤ 1) (S2:St):oper C ρ S2 op=some (.call f args):=by
 cases op <;> try (first | exact absurd (show (0:Nat) ≤ 1 from Nat.zero_le 1) hc | exact absurd (show (1:Nat) ≤ 1 from Nat.le_refl 1) hc)
 case call c =>
  obtain ⟨callee,arr_,ats⟩:=c
  cases callee with
  | value g=>simpa only [oper] using h
  | invoke r m=>simp only [oper] at h; cases h
  | builtin b =>
   exfalso
   simp only [oper] at h
   split at h
   ·
    rename_i args hargs
    obtain ⟨v,S',hq⟩:=Er h
    cases hq
   ·
    cases h
 case buildSlice t len ps =>
  exfalso
  have hr:nJ C t len=true:=by unfold cls at hc; cases hq:nJ C t len <;> simp [hq] at hc ⊢
  simp only [oper,hr,cond_true] at h
  split at h
  ·
   obtain ⟨_,v,cs,hq⟩:=wE h; cases hq
  ·
   cases h
 all_goals
  exfalso
  simp only [oper] at h
  (repeat' split at h) <;> first
   | (cases h; done)
   | (simp only [Option.map_eq_some_iff] at h; obtain ⟨a,ha,h⟩:=h; cases h; done)
   | (simp only [Option.some.injEq] at h; cases h; done)
   | (cases hh:S.H.has S.nx <;> simp [hh] at h; done)
theorem Mg {C:gG} {h:Hand} (hp:Dy h) {nt:Nat} {ops:Array Oper} {o:Oper} {e e':Env} {S S':St} (hs:iH C h nt ops o e S=some (.go e' S')) (hk:Od C ops o e e' S=0):Z0 C h nt ops o e:=by
 have skip:bV ops e o=some false→Z0 C h nt ops o e:=fun hw=>by
  refine ⟨some (.tup []),fun e2 ha S2=>?_⟩
  unfold iH at hs ⊢
  rw [pQ ha,hw]
  rw [hw] at hs
  cases hd:o.dst with
  | none=>exact ⟨e2,by simp,wh.none _ _⟩
  | some t =>
   simp only [hd] at hs ⊢
   split at hs
   ·
    rename_i e1 hput
    obtain ⟨e2',h2⟩:=uF hput e2
    exact ⟨e2',by simp [h2],wh.put h2⟩
   ·
    cases hs
 have vals:∀ {v:AV},bV ops e o=some true→(∀ S2,oper C (dB e) S2 o.op=some (.val v S2))→Env.put nt e o.dst v=some e'→Z0 C h nt ops o e:=fun {v} hw hv hput=>by
  refine ⟨some v,fun e2 ha S2=>?_⟩
  have hop:oper C (dB e2) S2 o.op=oper C (dB e) S2 o.op:=vQ S2 o.op (fun x hx=>(qO ha x hx).symm)
  obtain ⟨e2',h2⟩:=uF hput e2
  refine ⟨e2',?_,wh.put h2⟩
  unfold iH
  rw [pQ ha,hw,hop,hv S2]
  simp [h2]
 unfold iH at hs
 split at hs
 ·
  rename_i hw
  by_cases hc:cls C o.op ≤ 1
  ·
   have h0:cls C o.op=0:=by simpa [Od,hc] using hk
   split at hs
   ·
    rename_i v S1 ho
    split at hs
    ·
     rename_i e1 hput
     simp only [Option.some.injEq,Stp.go.injEq] at hs
     obtain ⟨rfl,rfl⟩:=hs
     obtain ⟨v',h1,_⟩:=F6 h0 S S _ ho
     simp only [vE.val.injEq] at h1
     obtain ⟨rfl,rfl⟩:=h1
     exact vals hw (fun S2=>by
      obtain ⟨v2,h2,h3⟩:=F6 h0 S1 S2 _ ho
      simp only [vE.val.injEq,and_true] at h2
      subst h2; exact h3) hput
    ·
     cases hs
   ·
    rename_i S1 ho; obtain ⟨v',h1,_⟩:=F6 h0 S S _ ho; cases h1
   ·
    rename_i f args ho; obtain ⟨v',h1,_⟩:=F6 h0 S S _ ho; cases h1
   ·
    cases hs
   ·
    cases hs
  ·
   unfold Od at hk
   rw [if_neg hc] at hk
   split at hk
   ·
    cases hk
   ·
    unfold LD at hk
    rw [hw] at hk
    split at hs
    ·
     rename_i v S1 ho; simp only [ho] at hk; cases hk
    ·
     rename_i S1 ho; simp only [ho] at hk; cases hk
    ·
     rename_i f args ho
     simp only [ho] at hk
     cases hcond:Ga o e' args with
     | false=>rw [hcond] at hk; cases hk
     | true =>
      unfold Ga at hcond
      simp only [Bool.and_eq_true] at hcond
      obtain ⟨hargs,hres⟩:=hcond
      split at hs
      ·
       rename_i v S1 hcall
       split at hs
       ·
        rename_i e1 hput
        simp only [Option.some.injEq,Stp.go.injEq] at hs
        obtain ⟨rfl,rfl⟩:=hs
        have hv:(wM v).isSome=true:=by
         cases hd:o.dst with
         | none=>rw [hd] at hres; cases hres
         | some t =>
          have:=wh.put hput t
          rw [hd] at this hres
          simp only [if_true] at this
          simp only [this] at hres
          exact hres
        refine ⟨some v,fun e2 ha S2=>?_⟩
        have hop:oper C (dB e2) S2 o.op=oper C (dB e) S2 o.op:=vQ S2 o.op (fun x hx=>(qO ha x hx).symm)
        obtain ⟨e2',h2⟩:=uF hput e2
        refine ⟨e2',?_,wh.put h2⟩
        unfold iH
        rw [pQ ha,hw,hop,IB ho hc S2]
        simp only [hp f args S v S1 hcall hargs hv S2,h2]
       ·
        cases hs
      ·
       cases hs
      ·
       cases hs
    ·
     cases hs
    ·
     cases hs
 ·
  rename_i hw; exact skip hw
 ·
  cases hs
theorem step1 {C:gG} {h:Hand} {nt:Nat} {ops:Array Oper} {o:Oper} {e e':Env} {S S':St} (hc:cls C o.op ≤ 1) (hs:iH C h nt ops o e S=some (.go e' S')):S'=S:=by
 unfold iH at hs
 split at hs
 ·
  split at hs
  ·
   rename_i v S1 ho
   obtain ⟨v',h1⟩:=CU hc S ho
   simp only [vE.val.injEq] at h1
   obtain ⟨rfl,rfl⟩:=h1
   split at hs
   ·
    simp only [Option.some.injEq,Stp.go.injEq] at hs; exact hs.2.symm
   ·
    cases hs
  ·
   rename_i S1 ho; obtain ⟨v',h1⟩:=CU hc S ho; cases h1
  ·
   rename_i f args ho; obtain ⟨v',h1⟩:=CU hc S ho; cases h1
  ·
   cases hs
  ·
   cases hs
 ·
  (repeat' split at hs) <;> first | (simp only [Option.some.injEq,Stp.go.injEq] at hs; exact hs.2.symm) | cases hs
 ·
  cases hs
theorem Ke {C:gG} {h:Hand} {nt:Nat} {ops:Array Oper} {o:Oper} {e e':Env} {S S':St} (hn:GA C o.op=true) (hs:iH C h nt ops o e S=some (.go e' S')) :
  S'=S∨(S.H.get S.nx=none∧∃ b,S'=bZ S b):=by
 unfold iH at hs
 split at hs
 ·
  right
  have key:∀ {nx:vE},oper C (dB e) S o.op=some nx→S.H.get S.nx=none∧∃ v b,nx=.val v (bZ S b):=by
   intro nx ho
   obtain ⟨dst,op,ty,pos,after,guard⟩:=o
   simp only at hn ho
   cases op <;> try (cases hn; done)
   case buildSlice t len ps _ =>
    have hr:nJ C t len=true:=hn
    simp only [oper,hr,cond_true] at ho
    split at ho
    ·
     exact wE ho
    ·
     cases ho
   case range t x =>
    simp only [oper] at ho
    cases hh:S.H.has S.nx with
    | true =>
     split at ho
     ·
      split at ho
      ·
       simp [hh] at ho
      ·
       cases ho
     ·
      simp [hh] at ho
     ·
      cases ho
    | false =>
     split at ho
     ·
      split at ho
      ·
       simp only [hh,cond_false,Option.some.injEq] at ho
       subst ho
       exact ⟨AL.nS hh,_,_,rfl⟩
      ·
       cases ho
     ·
      simp only [hh,cond_false,Option.some.injEq] at ho
      subst ho
      exact ⟨AL.nS hh,_,_,rfl⟩
     ·
      cases ho
   ·
    rename_i t
    simp only [oper] at ho
    cases hh:S.H.has S.nx with
    | true=>simp [hh] at ho
    | false =>
     simp only [hh,cond_false] at ho
     split at ho
     ·
      simp only [Option.some.injEq] at ho
      subst ho
      exact ⟨AL.nS hh,_,_,rfl⟩
     ·
      simp only [Option.map_eq_some_iff] at ho
      obtain ⟨z,_,rfl⟩:=ho
      exact ⟨AL.nS hh,_,_,rfl⟩
   ·
    rename_i t x
    simp only [oper] at ho
    split at ho
    ·
     split at ho
     ·
      cases hh:S.H.has S.nx with
      | true=>simp [hh] at ho
      | false =>
       simp only [hh,cond_false,Option.some.injEq] at ho
       subst ho
       exact ⟨AL.nS hh,_,_,rfl⟩
     ·
      cases ho
    ·
     cases ho
  split at hs
  ·
   rename_i v S1 ho
   obtain ⟨k1,v',cs,k2⟩:=key ho
   simp only [vE.val.injEq] at k2
   obtain ⟨rfl,rfl⟩:=k2
   split at hs
   ·
    simp only [Option.some.injEq,Stp.go.injEq] at hs
    exact ⟨k1,cs,hs.2.symm⟩
   ·
    cases hs
  ·
   rename_i S1 ho; obtain ⟨_,v',cs,k2⟩:=key ho; cases k2
  ·
   rename_i f args ho; obtain ⟨_,v',cs,k2⟩:=key ho; cases k2
  ·
   cases hs
  ·
   cases hs
 ·
  left
  (repeat' split at hs) <;> first | (simp only [Option.some.injEq,Stp.go.injEq] at hs; exact hs.2.symm) | cases hs
 ·
  cases hs
theorem zP {S:St} {nb:uS} (hn:S.H.get S.nx=none) {id:Nat} {b:uS} (h:S.H.get id=some b):(bZ S nb).H.get id=some b:=by
 simp only [bZ,AL.bq]
 rw [if_neg (fun q=>by subst q; rw [hn] at h; cases h)]
 exact h
theorem HY {S:St} {nb:uS} (hn:S.H.get S.nx=none) {x:AV} {n:Nat} (h:l7 x S=some n):l7 x (bZ S nb)=some n:=by
 unfold l7 at h
 split at h <;> first
  | exact h
  | (cases h; done)
  | (split at h; all_goals first | (cases h; done) | (rename_i hg; simp only [l7,zP hn hg]; exact h))
theorem Hq {S:St} {nb:uS} (hn:S.H.get S.nx=none) {x:AV} {M:xO} (h:mapOf S x=some M):mapOf (bZ S nb) x=some M:=by
 unfold mapOf at h ⊢
 split at h
 ·
  exact h
 ·
  split at h
  ·
   rename_i hg; simp only [zP hn hg]; exact h
  ·
   cases h
 ·
  cases h
theorem I1 {C:gG} {ρ:Operand→Option AV} {op:Op} (hc:cls C op ≤ 1) {S:St} {nb:uS} (hn:S.H.get S.nx=none) {v:AV} (h:oper C ρ S op=some (.val v S)):oper C ρ (bZ S nb) op=some (.val v (bZ S nb)):=by
 by_cases h0:cls C op=0
 ·
  obtain ⟨v',h1,h2⟩:=F6 h0 S (bZ S nb) _ h
  simp only [vE.val.injEq,and_true] at h1
  subst h1; exact h2
 ·
  cases op <;> try (first | exact absurd rfl h0 | exact absurd (show (2:Nat) ≤ 1 from hc) (by omega) | exact (Gm h0 hc).elim)
  case load t a =>
   simp only [oper] at h ⊢
   split at h
   ·
    rename_i u hu
    simp only [Option.map_eq_some_iff,vE.val.injEq,and_true] at h ⊢
    obtain ⟨r,hr,rfl⟩:=h
    refine ⟨r,?_,rfl⟩
    unfold oQ at hr ⊢
    split at hr
    ·
     rename_i id gen off
     split at hr
     ·
      rename_i cs' hl
      have hk:∃ g,S.H.get id=some (.cells g cs'):=by
       unfold St.look at hl
       split at hl
       ·
        rename_i g' cs2 hg
        cases hb:Nat.beq g' gen with
        | true=>rw [hb] at hl; simp at hl; subst hl; exact ⟨_,hg⟩
        | false=>rw [hb] at hl; simp at hl
       ·
        cases hl
      obtain ⟨g,hk⟩:=hk
      have:(bZ S nb).look id gen=some cs':=by
       unfold St.look at hl ⊢
       rw [zP hn hk]
       rw [hk] at hl
       exact hl
      rw [this]; exact hr
     ·
      cases hr
    ·
     exact hr
    ·
     cases hr
   ·
    cases h
  case lookup t m k ok =>
   simp only [oper] at h ⊢
   split at h
   ·
    simp only [Option.map_eq_some_iff,vE.val.injEq,and_true] at h ⊢
    obtain ⟨r,hr,rfl⟩:=h
    refine ⟨r,?_,rfl⟩
    unfold oI at hr
    split at hr
    ·
     rename_i kt et M hkt hM
     have:mapOf (bZ S nb) _=some M:=Hq hn hM
     unfold oI
     simp only [hkt,this]
     exact hr
    ·
     cases hr
   ·
    cases h
  case call c =>
   obtain ⟨callee,args,ats⟩:=c
   cases callee <;> try (exact absurd (show (2:Nat) ≤ 1 from hc) (by omega))
   rename_i b
   cases b <;> try (first | exact absurd rfl h0 | exact absurd (show (2:Nat) ≤ 1 from hc) (by omega))
   simp only [oper] at h ⊢
   split at h
   ·
    rename_i arr_ has
    unfold jq at h ⊢
    split at h <;> try (first | contradiction | (cases h; done))
    split at h
    ·
     rename_i t ht
     split at h
     ·
      rename_i hlt
      simp only [Option.map_eq_some_iff,vE.val.injEq,and_true] at h
      obtain ⟨n,hn',rfl⟩:=h
      simp only [HY hn hn',Option.map_some,hlt,if_true]
     ·
      cases h
    ·
     cases h
   ·
    cases h
theorem AR {C:gG} {h:Hand} {nt:Nat} {ops:Array Oper} {o:Oper} {e e':Env} {S:St} {nb:uS} (hc:cls C o.op ≤ 1) (hn:S.H.get S.nx=none) (hs:iH C h nt ops o e S=some (.go e' S)) :
  iH C h nt ops o e (bZ S nb)=some (.go e' (bZ S nb)):=by
 unfold iH at hs ⊢
 split at hs
 ·
  split at hs
  ·
   rename_i v S1 ho
   obtain ⟨v',h1⟩:=CU hc S ho
   simp only [vE.val.injEq] at h1
   obtain ⟨rfl,rfl⟩:=h1
   rw [I1 hc hn ho]
   split at hs
   ·
    rename_i e1 hput
    simp only [Option.some.injEq,Stp.go.injEq,and_true] at hs
    subst hs
    simp [hput]
   ·
    cases hs
  ·
   rename_i S1 ho; obtain ⟨v',h1⟩:=CU hc S ho; cases h1
  ·
   rename_i f args ho; obtain ⟨v',h1⟩:=CU hc S ho; cases h1
  ·
   cases hs
  ·
   cases hs
 ·
  (repeat' split at hs) <;> first | (simp only [Option.some.injEq,Stp.go.injEq,and_true] at hs; subst hs; simp_all) | cases hs
 ·
  cases hs
theorem DT {ρ ρ':Operand→Option AV} (op:Op) (h:∀ x ∈ op.operands,ρ x=ρ' x):qU ρ op=qU ρ' op:=by
 cases op <;> simp only [Op.operands] at h <;> try rfl
 case load t a=>simp only [qU]; rw [h a (by simp)]
 case lookup t m k ok=>simp only [qU]; rw [h m (by simp)]
 case call c =>
  obtain ⟨callee,args,ats⟩:=c
  cases callee <;> try rfl
  rename_i b
  cases b <;> try rfl
  have ha:jw ρ args.toList=jw ρ' args.toList:=nM fun p hp=>h p (by simp only [Call.operands]; exact Array.mem_append.2 (.inr (by simpa using hp)))
  simp only [qU]
  rw [ha]
theorem Iw {C:gG} {ρ:Operand→Option AV} {op:Op} (hc:cls C op ≤ 1) {S S2:St} (hI:∀ id ∈ (qU ρ op).getD [],S2.H.get id=S.H.get id) {v:AV} (h:oper C ρ S op=some (.val v S)):oper C ρ S2 op=some (.val v S2):=by
 by_cases h0:cls C op=0
 ·
  obtain ⟨v',h1,h2⟩:=F6 h0 S S2 _ h
  simp only [vE.val.injEq,and_true] at h1
  subst h1; exact h2
 ·
  cases op <;> try (first | exact absurd rfl h0 | exact absurd (show (2:Nat) ≤ 1 from hc) (by omega) | exact (Gm h0 hc).elim)
  case load t a =>
   simp only [oper] at h ⊢
   split at h
   ·
    rename_i u hu
    simp only [Option.map_eq_some_iff,vE.val.injEq,and_true] at h ⊢
    obtain ⟨r,hr,rfl⟩:=h
    refine ⟨r,?_,rfl⟩
    unfold oQ at hr ⊢
    split at hr
    ·
     rename_i id gen off
     have:S2.look id gen=S.look id gen:=by
      unfold St.look
      rw [hI id (by simp [qU,hu])]
     simp only [this]; exact hr
    ·
     exact hr
    ·
     cases hr
   ·
    cases h
  case lookup t m k ok =>
   simp only [oper] at h ⊢
   split at h
   ·
    rename_i mv kd hmv hkd
    simp only [Option.map_eq_some_iff,vE.val.injEq,and_true] at h ⊢
    obtain ⟨r,hr,rfl⟩:=h
    refine ⟨r,?_,rfl⟩
    have:mapOf S2 mv=mapOf S mv:=by
     cases mv <;> try rfl
     ·
      rename_i y; cases y <;> rfl
     ·
      rename_i id
      simp only [mapOf]
      rw [hI id (by simp [qU,hmv])]
    unfold oI at hr ⊢
    rw [this]; exact hr
   ·
    cases h
  case call c =>
   obtain ⟨callee,args,ats⟩:=c
   cases callee <;> try (exact absurd (show (2:Nat) ≤ 1 from hc) (by omega))
   rename_i b
   cases b <;> try (first | exact absurd rfl h0 | exact absurd (show (2:Nat) ≤ 1 from hc) (by omega))
   simp only [oper] at h ⊢
   split at h
   ·
    rename_i arr_ has
    unfold jq at h ⊢
    split at h <;> try (first | contradiction | (cases h; done))
    rename_i x _
    split at h
    ·
     rename_i t ht
     split at h
     ·
      rename_i hlt
      simp only [Option.map_eq_some_iff,vE.val.injEq,and_true] at h
      obtain ⟨n,hn',rfl⟩:=h
      have:l7 x S2=some n:=by
       rw [← hn']
       cases x <;> try rfl
       ·
        rename_i y; cases y <;> rfl
       ·
        rename_i id
        simp only [l7]
        rw [hI id (by simp [qU,has])]
      simp only [this,Option.map_some,hlt,if_true]
     ·
      cases h
    ·
     cases h
   ·
    cases h
theorem Cz {C:gG} {h:Hand} {nt:Nat} {ops:Array Oper} {o:Oper} {e e':Env} {S S2:St} (hc:cls C o.op ≤ 1) (hI:∀ id ∈ (qU (dB e) o.op).getD [],S2.H.get id=S.H.get id) (hs:iH C h nt ops o e S=some (.go e' S)) :
  iH C h nt ops o e S2=some (.go e' S2):=by
 unfold iH at hs ⊢
 split at hs
 ·
  split at hs
  ·
   rename_i v S1 ho
   obtain ⟨v',h1⟩:=CU hc S ho
   simp only [vE.val.injEq] at h1
   obtain ⟨rfl,rfl⟩:=h1
   rw [Iw hc hI ho]
   split at hs
   ·
    rename_i e1 hput
    simp only [Option.some.injEq,Stp.go.injEq,and_true] at hs
    subst hs
    simp [hput]
   ·
    cases hs
  ·
   rename_i S1 ho; obtain ⟨v',h1⟩:=CU hc S ho; cases h1
  ·
   rename_i f args ho; obtain ⟨v',h1⟩:=CU hc S ho; cases h1
  ·
   cases hs
  ·
   cases hs
 ·
  (repeat' split at hs) <;> first | (simp only [Option.some.injEq,Stp.go.injEq,and_true] at hs; subst hs; simp_all) | cases hs
 ·
  cases hs
structure KJ (C:gG) (h:Hand) (nt:Nat) (ops:Array Oper) (I:List Nat) (o:Oper) (e:Env) (k:Nat):Prop where
 zero:k=0→Z0 C h nt ops o e
 one:k=1→cls C o.op ≤ 1∧∀ id ∈ (qU (dB e) o.op).getD [],id ∈ I
 three:k=3→GA C o.op=true
theorem KJ.agree {C:gG} {h:Hand} {nt:Nat} {ops:Array Oper} {I:List Nat} {o:Oper} {e f:Env} {k:Nat} (z:KJ C h nt ops I o e k) (ha:∀ t ∈ o.looksAt ops,AL.get f t=AL.get e t):KJ C h nt ops I o f k :=
 ⟨fun q=>(z.zero q).agree ha,fun q=>⟨(z.one q).1,by rw [DT o.op (fun x hx=>(qO ha x hx).symm)]; exact (z.one q).2⟩,z.three⟩
def fT (I:List Nat) (k:Nat) (S S':St):Prop:=k=4→∀ id ∈ I,S'.H.get id=S.H.get id
theorem Lf {C:gG} {h:Hand} {nt:Nat} {ops:Array Oper} {I:List Nat} {x y:Oper} {e e1 e2:Env} {S S1 S2:St} {kx ky:Nat} (hap:x.apart ops y=true) (hcl:Ni kx ky=true) (zx:KJ C h nt ops I x e kx) (zy:KJ C h nt ops I y e1 ky)
  (px:fT I kx S S1) (py:fT I ky S1 S2) (hx:iH C h nt ops x e S=some (.go e1 S1)) (hy:iH C h nt ops y e1 S1=some (.go e2 S2)) :
  ∃ f1 T1 f2,iH C h nt ops y e S=some (.go f1 T1)∧iH C h nt ops x f1 T1=some (.go f2 S2)∧Lt f2 e2∧KJ C h nt ops I y e ky∧KJ C h nt ops I x f1 kx∧fT I ky S T1∧fT I kx T1 S2:=by
 obtain ⟨a1,a2,a3⟩:=Oper.apart_spec hap
 obtain ⟨vx,_,_,ux,_⟩:=lh hx (e2:=e) (fun _ _=>rfl)
 have hyl:∀ t ∈ y.looksAt ops,AL.get e t=AL.get e1 t:=fun t ht=>by
  rw [ux t,if_neg (fun q=>a1 t q ht)]
 have zy':=zy.agree hyl
 have xl:∀ {vy:Option AV} {f1:Env},wh e y.dst vy f1→∀ t ∈ x.looksAt ops,AL.get f1 t=AL.get e t:=fun u t ht=>by
  rw [u t,if_neg (fun q=>a3 t q ht)]
 have fin:∀ {vy:Option AV} {f1:Env} {T:St},wh e1 y.dst vy e2→wh e y.dst vy f1→(∃ f2,iH C h nt ops x f1 T=some (.go f2 S2)∧wh f1 x.dst vx f2)→∃ f2,iH C h nt ops x f1 T=some (.go f2 S2)∧Lt f2 e2:=by
  intro vy f1 T u1 u2 ⟨f2,q1,q2⟩
  refine ⟨f2,q1,fun t=>?_⟩
  rw [q2 t,u2 t,u1 t,ux t]
  by_cases hd:x.dst=some t
  ·
   have:y.dst ≠ some t:=a2 t hd
   simp [hd,this]
  ·
   simp [hd]
 have updx:∀ {v:Option AV} {f1 f2:Env},wh e x.dst v e1→wh f1 x.dst v f2→wh f1 x.dst vx f2:=fun u u'=>by
  intro t
  rw [u' t]
  by_cases hd:x.dst=some t
  ·
   have q1:=u t; have q2:=ux t; rw [if_pos hd] at q1 q2; simp [hd,← q1,← q2]
  ·
   simp [hd]
 simp only [Ni,Bool.or_eq_true,Bool.and_eq_true] at hcl
 rcases hcl with ((q | q) | ⟨q,q2⟩) | ⟨q,q2⟩
 ·
  have hq0:=Nat.eq_of_beq_eq_true q
  obtain ⟨v0,z0⟩:=zx.zero hq0
  have hS:S1=S∧wh e x.dst v0 e1:=by
   obtain ⟨e1',g1,g2⟩:=z0 e (fun _ _=>rfl) S
   rw [hx] at g1
   simp only [Option.some.injEq,Stp.go.injEq] at g1
   exact ⟨g1.2,by rw [g1.1]; exact g2⟩
  obtain ⟨rfl,hu⟩:=hS
  obtain ⟨vy,f1,k1,k2,k3⟩:=lh hy hyl
  obtain ⟨f2,g1,g2⟩:=z0 f1 (xl k3) S2
  obtain ⟨f2',m1,m2⟩:=fin k2 k3 ⟨f2,g1,updx hu g2⟩
  exact ⟨f1,S2,f2',k1,m1,m2,zy',zx.agree (xl k3),py,fun q=>by omega⟩
 ·
  have hq0:=Nat.eq_of_beq_eq_true q
  obtain ⟨v0,z0⟩:=zy.zero hq0
  have hS:S2=S1∧wh e1 y.dst v0 e2:=by
   obtain ⟨e1',g1,g2⟩:=z0 e1 (fun _ _=>rfl) S1
   rw [hy] at g1
   simp only [Option.some.injEq,Stp.go.injEq] at g1
   exact ⟨g1.2,by rw [g1.1]; exact g2⟩
  obtain ⟨rfl,hu⟩:=hS
  obtain ⟨f1,k1,k3⟩:=z0 e hyl S
  obtain ⟨v3,f2,g1,g2,g3⟩:=lh hx (xl k3)
  obtain ⟨f2',m1,m2⟩:=fin hu k3 ⟨f2,g1,updx g2 g3⟩
  exact ⟨f1,S,f2',k1,m1,m2,zy',zx.agree (xl k3),fun q=>by omega,px⟩
 ·
  have hq1:=Nat.eq_of_beq_eq_true q
  obtain ⟨hx1,hx2'⟩:=zx.one hq1
  have e1S:=step1 hx1 hx
  subst e1S
  obtain ⟨vy,f1,k1,k2,k3⟩:=lh hy hyl
  have hx2:∃ f2,iH C h nt ops x f1 S2=some (.go f2 S2)∧wh f1 x.dst vx f2:=by
   have hat:iH C h nt ops x e S2=some (.go e1 S2):=by
    try simp only [Bool.or_eq_true] at q2
    rcases q2 with (q2 | q2) | q2
    ·
     have:=step1 (zy.one (Nat.eq_of_beq_eq_true q2)).1 hy
     subst this; exact hx
    ·
     rcases Ke (zy.three (Nat.eq_of_beq_eq_true q2)) hy with r | ⟨r1,cs,r2⟩
     ·
      subst r; exact hx
     ·
      subst r2; exact AR hx1 r1 hx
    ·
     exact Cz hx1 (fun id hid=>py (Nat.eq_of_beq_eq_true q2) id (hx2' id hid)) hx
   obtain ⟨v3,f2,g1,g2,g3⟩:=lh hat (xl k3)
   exact ⟨f2,g1,updx g2 g3⟩
  obtain ⟨f2',m1,m2⟩:=fin k2 k3 hx2
  exact ⟨f1,S2,f2',k1,m1,m2,zy',zx.agree (xl k3),py,fun q=>by omega⟩
 ·
  have hq4:=Nat.eq_of_beq_eq_true q
  have hq1:=Nat.eq_of_beq_eq_true q2
  obtain ⟨hy1,hy2⟩:=zy'.one hq1
  have e2S:=step1 hy1 hy
  subst e2S
  obtain ⟨vy,f0,k1,k2,k3⟩:=lh hy hyl
  have hyS:iH C h nt ops y e S=some (.go f0 S):=Cz (S:=S2) (S2:=S) hy1 (fun id hid=>(px hq4 id (hy2 id hid)).symm) k1
  obtain ⟨v3,f2,g1,g2,g3⟩:=lh hx (xl k3)
  obtain ⟨f2',m1,m2⟩:=fin k2 k3 ⟨f2,g1,updx g2 g3⟩
  exact ⟨f0,S,f2',hyS,m1,m2,zy',zx.agree (xl k3),fun q=>by omega,px⟩
end
end Go.Ev

namespace Go.Ev
noncomputable section
set_option linter.unusedVariables false
set_option linter.unusedSimpArgs false
section
variable {C:gG} {h:Hand} {nt:Nat} {ops:Array Oper} {I:List Nat} {K:Nat→Nat}
inductive Run (C:gG) (h:Hand) (nt:Nat) (ops:Array Oper) (I:List Nat) (K:Nat→Nat):List Nat→Env→St→Env→St→Prop
 | nil (e:Env) (S:St):Run C h nt ops I K [] e S e S
 | cons (i:Nat) (l:List Nat) (o:Oper) (e e1 e2:Env) (S S1 S2:St) (ho:ops[i]? = some o) (hs:iH C h nt ops o e S=some (.go e1 S1)) (hk:KJ C h nt ops I o e (K i)) (hp:fT I (K i) S S1) (hr:Run C h nt ops I K l e1 S1 e2 S2):Run C h nt ops I K (i :: l) e S e2 S2
theorem Run.congr:∀ (l:List Nat) {e e2 e':Env} {S S':St},Lt e2 e→Run C h nt ops I K l e S e' S'→∃ e2',Run C h nt ops I K l e2 S e2' S'∧Lt e2' e'
 | [],e,e2,e',S,S',hq,hv=>by cases hv; exact ⟨e2,.nil _ _,hq⟩
 | i :: l,e,e2,e',S,S',hq,hv=>by
  cases hv with
  | cons _ _ o _ e1 _ _ S1 _ ho hs hk hp hr =>
   obtain ⟨x,e3,k1,k2,k3⟩:=lh hs (e2:=e2) (fun t _=>hq t)
   obtain ⟨e4,m1,m2⟩:=Run.congr l (e2:=e3) (fun t=>by rw [k3 t,k2 t,hq t]) hr
   exact ⟨e4,.cons i l o _ _ _ _ _ _ ho k1 (hk.agree (fun t _=>hq t)) hp m1,m2⟩
theorem bubble:∀ (l1 l2:List Nat) (i:Nat) {o:Oper} {e e':Env} {S S':St},ops[i]? = some o→(∀ k ∈ l1,∀ x,ops[k]? = some x→x.apart ops o=true∧Ni (K k) (K i)=true)→Run C h nt ops I K (l1 ++ i :: l2) e S e' S' →
  ∃ e1 S1 e2,iH C h nt ops o e S=some (.go e1 S1)∧KJ C h nt ops I o e (K i)∧fT I (K i) S S1∧Run C h nt ops I K (l1 ++ l2) e1 S1 e2 S'∧Lt e2 e'
 | [],l2,i,o,e,e',S,S',ho,_,hv=>by
  cases hv with
  | cons _ _ o' _ e1 _ _ S1 _ ho' hs hk hp hr =>
   rw [ho] at ho'; cases ho'
   exact ⟨e1,S1,e',hs,hk,hp,hr,fun _=>rfl⟩
 | k :: l1,l2,i,o,e,e',S,S',ho,hok,hv=>by
  rw [List.cons_append] at hv
  cases hv with
  | cons _ _ x _ ek _ _ Sk _ hx hs hk hp hr =>
   obtain ⟨e1,S1,e2,k1,kk,kp,k2,k3⟩:=bubble l1 l2 i ho (fun k hk=>hok k (by simp [hk])) hr
   obtain ⟨g1,g2⟩:=hok k (by simp) x hx
   obtain ⟨f1,T1,f2,c1,c2,c3,c4,c5,c6,c7⟩:=Lf g1 g2 hk kk hp kp hs k1
   obtain ⟨e3,m1,m2⟩:=Run.congr (l1 ++ l2) c3 k2
   exact ⟨f1,T1,e3,c1,c4,c6,.cons k _ x _ _ _ _ _ _ hx c2 c5 c7 m1,fun t=>(m2 t).trans (k3 t)⟩
end
def qA (ops:Array Oper):Bool :=
 let B:=Region.before ops
 (List.range ops.size).all fun i=>match ops[i]? with
  | none=>false
  | some o=>Nat.blt (B.getD i 0) (2 ^ i) && (o.after.all fun e=>!Region.binds .any e || Nat.blt e.on i) &&
   (List.range i).all fun k=>match ops[k]? with
    | none=>false
    | some x=>if (B.getD i 0).testBit k then (o.after.any fun e=>Region.binds .any e && (Nat.beq e.on k || (B.getD e.on 0).testBit k)) else x.apart ops o
theorem kr {ops:Array Oper} (hr:qA ops=true) {i:Nat} {o:Oper} (hi:ops[i]? = some o) :
  (∀ e ∈ o.after,Region.binds .any e=true→e.on < i) ∧
  (∀ k x,k < i→ops[k]? = some x→if ((Region.before ops).getD i 0).testBit k=true then ∃ e ∈ o.after,Region.binds .any e=true∧(e.on=k∨((Region.before ops).getD e.on 0).testBit k=true) else x.apart ops o=true)∧∀ k,i ≤ k→((Region.before ops).getD i 0).testBit k=false:=by
 have hlt:i < ops.size:=(Array.getElem?_eq_some_iff.1 hi).1
 simp only [qA,List.all_eq_true,List.mem_range] at hr
 have h1:=hr i hlt
 rw [hi] at h1
 simp only [Bool.and_eq_true] at h1
 obtain ⟨⟨h0,h1⟩,h2⟩:=h1
 refine ⟨fun e he hb=>?_,fun k x hk hx=>?_,fun k hk=>Nat.testBit_lt_two_pow (Nat.lt_of_lt_of_le (Nat.le_of_ble_eq_true h0) (Nat.pow_le_pow_right (by omega) hk))⟩
 ·
  have:=Array.all_eq_true_iff_forall_mem.1 h1 e he
  simp only [hb,Bool.not_true,Bool.false_or] at this
  exact Nat.le_of_ble_eq_true this
 ·
  rw [List.all_eq_true] at h2
  have:=h2 k (List.mem_range.2 hk)
  rw [hx] at this
  simp only at this
  split at this
  ·
   rename_i hb
   rw [if_pos hb]
   obtain ⟨e,he,hq⟩:=Array.any_eq_true'.1 this
   simp only [Bool.and_eq_true,Bool.or_eq_true] at hq
   exact ⟨e,he,hq.1,hq.2.imp (fun q=>Nat.eq_of_beq_eq_true q) id⟩
  ·
   rename_i hb
   rw [if_neg hb]; exact this
def Closed (ops:Array Oper) (listed:Array Bool):Prop:=∀ j,listed.getD j false=true→∀ k,k < j→((Region.before ops).getD j 0).testBit k=true→listed.getD k false=true
end
end Go.Ev

namespace Go.Ev
noncomputable section
set_option linter.unusedVariables false
set_option linter.unusedSimpArgs false
theorem run_next_at {P:Program} {w:World} (ty b bm since c0:Nat) (seen:Array Nat) (es:Array MapEntry) (clock:Nat) (hb:w.heap[b]? = some (.mapIter (some bm) since seen c0)) (hm:w.heap[bm]? = some (.map es clock))
  (hold:∀ x ∈ es.toList,x.born < since) (hsc:since ≤ c0) :
  ((∀ e ∈ es.toList,seen.contains e.born=true)∧(Instr.next (.pointer (some ⟨b,0,none⟩)) false ty).run P w=.ok (.tuple #[.bool false]) w) ∨
  ∃ e ∈ es.toList,seen.contains e.born=false∧∃ w1:World,w1.heap=w.heap∧w1.os=w.os∧w1.output=w.output∧w1.tape=w.tape ∧
   (Instr.next (.pointer (some ⟨b,0,none⟩)) false ty).run P w=.ok (.tuple #[.bool true,e.key,e.val]) { w1 with heap:=w1.heap.setIfInBounds b (.mapIter (some bm) since (seen.push e.born) clock) }:=by
 simp only [Instr.next,getObj,Sem.run_bind,Sem.run,hb,hm,Result.andThen,next_test_false seen es since c0 hold hsc,Bool.false_eq_true,if_false]
 have hmem:∀ x ∈ (Array.filter (fun e=>!seen.contains e.born) es).toList,x ∈ es.toList∧seen.contains x.born=false:=fun x hx=>by
  simp at hx ⊢
  exact hx
 have hemp:Array.filter (fun e=>!seen.contains e.born) es = #[]→∀ e ∈ es.toList,seen.contains e.born=true:=fun h e he=>by
  rw [Array.filter_eq_empty_iff] at h
  have:=h e (by simpa using he)
  simpa using this
 generalize Array.filter (fun e=>!seen.contains e.born) es=L at hmem hemp ⊢
 have e1:L.filter (fun x=>decide (x.born < since))=L:=Array.filter_eq_self.2 (fun x hx=>by simpa using hold x (hmem x (by simpa using hx)).1)
 have e2:L.filter (fun x=>decide (x.born ≥ since)) = #[]:=by
  rw [Array.filter_eq_empty_iff]
  intro x hx
  have:=hold x (hmem x (by simpa using hx)).1
  simp
  omega
 simp only [e1,e2,Array.append_empty]
 by_cases h0:L.size=0
 ·
  left
  have:L = #[]:=Array.eq_empty_of_size_eq_zero h0
  subst this
  refine ⟨hemp rfl,?_⟩
  simp [choose,Sem.run,Question.forced]
 ·
  right
  have hne:L.isEmpty=false:=by simp [Array.isEmpty,h0]
  simp only [hne,Bool.false_eq_true,if_false,Array.empty_append,Array.size_map]
  have hch:∃ (j:Nat) (w1:World),j < L.size∧(w1.heap=w.heap∧w1.os=w.os∧w1.output=w.output∧w1.tape=w.tape)∧(choose (Question.mapNext L.size)).run P w=.ok j w1:=by
   by_cases hf:L.size ≤ 1
   ·
    exact ⟨0,w,by omega,⟨rfl,rfl,rfl,rfl⟩,by simp [choose,Sem.run,Question.forced,hf]⟩
   ·
    exact ⟨_,w.drew,Nat.mod_lt _ (by omega),⟨rfl,rfl,rfl,rfl⟩,by
     simp only [choose,Sem.run,Question.forced,decide_eq_true_eq,hf,if_false,Question.cut]
     rfl⟩
  obtain ⟨j,w1,hj,hal,hrun⟩:=hch
  have hLj:L[j] ∈ L.toList:=by simp
  refine ⟨L[j],(hmem _ hLj).1,(hmem _ hLj).2,w1,hal.1,hal.2.1,hal.2.2.1,hal.2.2.2,?_⟩
  have hlt:b < w1.heap.size:=by rw [hal.1]; exact (Array.getElem?_eq_some_iff.1 hb).1
  have hb1:w1.heap[b]? = some (.mapIter (some bm) since seen c0):=by rw [hal.1]; exact hb
  have hset:∀ (o':Obj),(setObj b o').run P w1=.ok () { w1 with heap:=w1.heap.setIfInBounds b o' }:=fun o'=>by
   simp only [setObj,Sem.run,hb1]
   try rfl
  simp only [hrun,Array.getElem?_map,Array.getElem?_eq_getElem hj,Option.map_some,Sem.run_bind,hset,Result.andThen]
  rfl
theorem Di {P:Program} {w:World} (ty b:Nat) (hb:w.heap[b]? = some (.mapIter none 0 #[] 0)) :
  (Instr.next (.pointer (some ⟨b,0,none⟩)) false ty).run P w=.ok (.tuple #[.bool false]) w:=by
 simp only [Instr.next,getObj,Sem.run_bind,Sem.run,hb,Result.andThen]
 rfl
def Gv (R:dm) (P:Program) (h:Eg):Prop :=
 ∀ f args S rs,h f args S=some rs→(∃ fn,P.funcs[f]? = some fn∧fn.body.isSome=true∧fn.name ≠ "runtime.NumGoroutine") ∧
  ∀ cx w (us:List Value),bD R cx S w→us.length=args.length→(∀ (i:Nat) (x:AV) (u:Value),args[i]? = some x→us[i]? = some u→aQ cx S w x u) →
  Calls P f us.toArray w (fun e w'=>∃ r ∈ rs,∃ cx',bD R cx' r.2.2 w'∧Ext cx S w cx' r.2.2 w'∧BR cx' r.2.2 w' r.1 r.2.1 e)
theorem Mh {R:dm} {P:Program} {h:Eg} (hh:Gv R P h):Dn R P (yY h):=by
 intro f args S p v S' hd
 unfold yY at hd
 split at hd
 ·
  rename_i r hr
  simp only [Option.some.injEq] at hd
  subst hd
  obtain ⟨h1,h2⟩:=hh f args S _ hr
  refine ⟨h1,fun cx w us hS hl hu=>(h2 cx w us hS hl hu).mono fun e w' he=>?_⟩
  obtain ⟨r',hr',cx',k⟩:=he
  simp only [List.mem_singleton] at hr'
  subst hr'
  exact ⟨cx',k⟩
 ·
  cases hd
theorem Ej {α β:Type} {f:α→Option β}:∀ {l:List α} {rs:List β},jw f l=some rs→∀ x ∈ l,∃ r,f x=some r∧r ∈ rs
 | [],_,_,x,hx=>by cases hx
 | y :: l,rs,h,x,hx=>by
  simp only [jw] at h
  split at h
  ·
   rename_i z hz
   simp only [Option.map_eq_some_iff] at h
   obtain ⟨zs,hzs,rfl⟩:=h
   rcases List.mem_cons.1 hx with rfl | hx
   ·
    exact ⟨z,hz,by simp⟩
   ·
    obtain ⟨r,h1,h2⟩:=Ej hzs x hx
    exact ⟨r,h1,List.mem_cons_of_mem _ h2⟩
  ·
   cases h
theorem F3 {R:dm} {C:gG} (hR:jW R C) {cx:Cx} {S:St} {w:World} {nt:Nat} {e:Env} {a:Act} {ops:Array Oper} {o:Oper} {t:Nat} {rs:List Stp} (hop:o.op=.next (.tmp t) false)
  (hs:Kv nt o t e S=some rs) (hS:bD R cx S w) (he:jo cx S w nt e a) {K:Act→World→Prop} {Q:Exit→Act→World→Prop} (hk:∀ r ∈ rs,After R cx S w nt a K Q r) {i:Nat} (hi:ops[i]? = some o) :
  wpOp C.P ops Q i K a w:=by
 unfold Kv at hs
 have hrefl:=Ext.refl (cx:=cx) w hS.wf
 have enter:o.guard=none→(∃ v w',(Instr.next (a.eval (.tmp t)) false o.type).run C.P w=.ok v w'∧K (a.put o.dst v) w')→wpOp C.P ops Q i K a w:=by
  intro hg ⟨v,w',h1,h2⟩
  unfold wpOp
  rw [hi]
  simp only
  rw [if_pos (by unfold Region.wanted; rw [hg])]
  left
  unfold Oper.wp
  have hq:(execOp a.eval o).run C.P w=.ok (.value v) w':=by
   obtain ⟨dst,op,ty,pos,after,guard⟩:=o
   simp only at hop
   subst hop
   exact uz h1
  rw [hq]
  exact h2
 split at hs
 ·
  rename_i k g since seen st hg ht
  split at hs
  ·
   rename_i c hc
   split at hs
   ·
    rename_i hcg
    subst hcg
    simp only [Option.map_eq_some_iff] at hs
    obtain ⟨e',hp,rfl⟩:=hs
    obtain ⟨u,h1,h2⟩:=he.rel t _ ht
    have hev:a.eval (.tmp t)=u:=by simp [Act.eval,h1]
    cases h2 with
    | it0 _ _ _ _ b _ hn hpos =>
    obtain ⟨_,_,_,hb⟩:=hpos hc
    refine enter hg ⟨.tuple #[.bool false],w,?_,?_⟩
    ·
     rw [hev]; exact Di _ b hb
    ·
     refine hk (.go e' S) (by simp) cx _ w hS hrefl (he.put hp ?_) (put_defers _ _ _)
     refine .tup [.d (.bool false)] [.bool false] rfl (fun j x u hx hu=>?_)
     match j,hx,hu with
     | 0,hx,hu=>simp at hx hu; subst hx; subst hu; exact .of_bool _
   ·
    cases hs
  ·
   cases hs
 ·
  rename_i k g id since seen st hg ht
  split at hs
  ·
   rename_i M c hM hc
   split at hs
   ·
    rename_i hcond
    obtain ⟨hcg,hold,hsc,hnt⟩:=hcond
    subst hcg
    obtain ⟨u,h1,h2⟩:=he.rel t _ ht
    have hev:a.eval (.tmp t)=u:=by simp [Act.eval,h1]
    have hidk:id ≠ k:=fun q=>by subst q; rw [hM] at hc; cases hc
    cases h2 with
    | it _ _ _ _ _ b m _ hn hni hm hpos =>
    have hkg:isIt S k g:=hc
    obtain ⟨hbk,hfk,honly,hb⟩:=hpos hkg
    have hm:=hm (by simp [cur,hM])
    obtain ⟨c1,c2,ms,clk,c3,⟨c4,c4',c4''⟩,c5⟩:=hS.maps id M hM
    rw [← hm] at c3
    have hborn:∀ x ∈ ms.toList,∃ (j:Nat) (p:D × AV × Nat),M.es[j]? = some p∧ms[j]? = some x∧x.born=p.2.2:=fun x hx=>by
     obtain ⟨j,hj,rfl⟩:=List.getElem_of_mem hx
     have hj':j < ms.size:=by simpa using hj
     have hjm:j < M.es.length:=by rw [← c4]; exact hj'
     have hp:=List.getElem?_eq_getElem hjm
     refine ⟨j,M.es[j],hp,by simp [hj'],?_⟩
     exact c4'' j _ _ hp (by simp [hj'])
    have holdm:∀ x ∈ ms.toList,x.born < since:=fun x hx=>by
     obtain ⟨j,p,p1,p2,p3⟩:=hborn x hx
     rw [p3]
     exact Nat.le_of_ble_eq_true (List.all_eq_true.1 hold p (List.mem_of_getElem? p1))
    rcases run_next_at (P:=C.P) o.type b m since st seen.toArray ms clk hb c3 holdm hsc with ⟨r1,r2⟩ | ⟨x,r1,r2,w1,r3,r4,r5,r6,r7⟩
    ·
     have hnil:M.es.filter (fun p=>!(seen.contains p.2.2))=[]:=by
      rw [List.filter_eq_nil_iff]
      intro p hp
      obtain ⟨j,hj,rfl⟩:=List.getElem_of_mem hp
      have hjm:j < ms.size:=by rw [c4]; exact hj
      have hb2:=c4'' j _ _ (List.getElem?_eq_getElem hj) (Array.getElem?_eq_getElem hjm)
      have:=r1 ms[j] (by simp)
      rw [hb2] at this
      simpa using this
     rw [hnil] at hs
     simp only [Option.map_eq_some_iff] at hs
     obtain ⟨e',hp,rfl⟩:=hs
     refine enter hg ⟨.tuple #[.bool false],w,by rw [hev]; exact r2,?_⟩
     refine hk (.go e' S) (by simp) cx _ w hS hrefl (he.put hp ?_) (put_defers _ _ _)
     refine .tup [.d (.bool false)] [.bool false] rfl (fun j x u hx hu=>?_)
     match j,hx,hu with
     | 0,hx,hu=>simp at hx hu; subst hx; subst hu; exact .of_bool _
    ·
     obtain ⟨j,p,p1,p2,p3⟩:=hborn x r1
     have hpm:p ∈ M.es.filter (fun p=>!(seen.contains p.2.2)):=by
      rw [List.mem_filter]
      refine ⟨List.mem_of_getElem? p1,?_⟩
      rw [p3] at r2
      simpa using r2
     have hs':jw (fun p:D × AV × Nat=>(Env.put nt ((t,.it k (g + 1) (some id) since (seen ++ [p.2.2]) M.clk) :: e) o.dst (.tup [.d (.bool true),.d p.1,p.2.1])).map fun e' =>
      Stp.go e' { S with H:=S.H.set k (.obj 3 (.int .i64 ((g + 1:Nat):Int))) }) (M.es.filter (fun p=>!(seen.contains p.2.2)))=some rs:=by
      split at hs
      ·
       rename_i hnil; rw [hnil] at hpm; cases hpm
      ·
       exact hs
     obtain ⟨rr,q1,q2⟩:=Ej hs' p hpm
     simp only [Option.map_eq_some_iff] at q1
     obtain ⟨e',hp,rfl⟩:=q1
     generalize hS':({ S with H:=S.H.set k (.obj 3 (.int .i64 ((g + 1:Nat):Int))) }:St)=S' at hp q2
     generalize hw':({ w1 with heap:=w1.heap.setIfInBounds b (.mapIter (some m) since (seen.toArray.push x.born) clk) }:World)=w' at r7
     have hget:S'.H.get k=some (.obj 3 (.int .i64 ((g + 1:Nat):Int))):=by rw [← hS']; simp [AL.bq]
     have hheap:w'.heap=w.heap.setIfInBounds b (.mapIter (some m) since (seen.toArray.push x.born) clk):=by rw [← hw',← r3]
     have hblt:b < w.heap.size:=Ld hb
     have hsz:w'.heap.size=w.heap.size:=by rw [hheap]; simp
     have hfpk:∀ c,cx.fp k c↔c=b:=by
      have:=((hR.toObjOk.it _ _ _ _).1 (hS.objs k 3 _ hc).1).2
      intro c; rw [this c,hbk]
     have hcurk:cur S' k=some (g + 1):=by simp [cur,hget,Bc]
     have hnx:S'.nx=S.nx:=by rw [← hS']
     have hT:S'.T=S.T:=by rw [← hS']
     obtain ⟨k1,k2⟩:=IC hR.toObjOk (cx':=cx) (S':=S') (w':=w') hS hc
      (fun kk xx hx=>by rw [hget] at hx; simp only [Option.some.injEq,uS.obj.injEq] at hx; obtain ⟨_,rfl⟩:=hx; simp only [Bc]; omega)
      (fun g' _=>⟨g,hkg⟩)
      (fun g' h0 h2=>by
       unfold isIt at h0 h2
       rw [hc] at h0
       rw [hget] at h2
       simp only [Option.some.injEq,uS.obj.injEq,true_and,D.int.injEq] at h0 h2
       omega)
      hT hnx (fun ii hne=>by rw [← hS']; simp only [AL.bq]; rw [if_neg (Ne.symm hne)])
      (.inr ⟨3,_,hget,(hR.toObjOk.it _ _ _ _).2 ⟨by rw [hsz,← hbk]; exact hblt,fun c=>by rw [hfpk c,hbk]⟩⟩)
      (by omega) (by rw [← hw']; exact r4) (by rw [← hw']; exact r6) (by rw [← hw']; exact r5)
      (fun c hc1 hc2=>by
       rw [hheap,Array.getElem?_setIfInBounds_ne (fun q=>hc2 ((hfpk c).2 q.symm))])
      (fun _=>rfl) (fun _ _ _=>Iff.rfl) (fun _=>rfl) (fun _=>rfl) (fun c hc1=>.inl hc1)
      (fun c oo hc1=>(hS.objs k 3 _ hc).2 c oo hc1) (fun _ _ q _=>q) (fun _ _ q=>q) (fun c oo q=>by rw [hsz]; exact hS.lt c oo q)
     have hw2:w'.heap[b]? = some (.mapIter (some m) since (seen ++ [p.2.2]).toArray M.clk):=by
      rw [hheap,Array.getElem?_setIfInBounds_self,if_pos hblt,c4',p3]
      simp
     have hlive:∀ ii,cur S' ii ≠ none→cur S ii ≠ none:=fun ii hii=>by
      by_cases q:ii=k
      ·
       subst q; rw [qE hkg]; simp
      ·
       unfold cur at hii ⊢
       have:S'.H.get ii=S.H.get ii:=by rw [← hS']; simp only [AL.bq]; rw [if_neg (Ne.symm q)]
       rw [this,hT] at hii
       exact hii
     refine enter hg ⟨.tuple #[.bool true,x.key,x.val],w',by rw [hev]; exact r7,?_⟩
     refine hk (.go e' S') q2 cx _ w' k1 k2 (jo.put (e:=(t,.it k (g + 1) (some id) since (seen ++ [p.2.2]) M.clk) :: e) ?_ hp ?_) (put_defers _ _ _)
     ·
      refine ⟨he.size,fun t' x' hx'=>?_⟩
      rw [AL.iK] at hx'
      by_cases q:t=t'
      ·
       subst q
       rw [if_pos rfl] at hx'
       cases hx'
       refine ⟨_,h1,.it k (g + 1) id since M.clk b m _ ⟨by rw [hnx]; exact hn.1,fun g' hg'=>by rw [hcurk] at hg'; cases hg'; exact Nat.le_refl _⟩ (hni.mono k2) (fun hcur=>?_) (fun _=>⟨hbk,hfk,fun ii hii hf=>honly ii (hlive ii hii) hf,hw2⟩)⟩
       exact hm
      ·
       rw [if_neg q] at hx'
       obtain ⟨v,v1,v2⟩:=he.rel t' x' hx'
       exact ⟨v,v1,v2.mono k2⟩
     ·
      obtain ⟨d1,d2⟩:=c5 j p x p1 p2
      refine .tup [.d (.bool true),.d p.1,p.2.1] [.bool true,x.key,x.val] rfl (fun j' x' u' hx' hu'=>?_)
      match j',hx',hu' with
      | 0,hx',hu'=>simp at hx' hu'; subst hx'; subst hu'; exact .of_bool _
      | 1,hx',hu'=>simp at hx' hu'; subst hx'; subst hu'; exact .d _ _ (d1.mono k2.prot)
      | 2,hx',hu'=>simp at hx' hu'; subst hx'; subst hu'; exact d2.mono k2
   ·
    cases hs
  ·
   cases hs
 ·
  cases hs
end
end Go.Ev

namespace Go.Ev
noncomputable section
set_option linter.unusedVariables false
set_option linter.unusedSimpArgs false
theorem sO {n:Nat}:∀ {l:List AV},belows n l=true→∀ y ∈ l,y.under n=true
 | [],_,y,hy=>by cases hy
 | x :: l,h,y,hy=>by
  simp only [belows,Bool.and_eq_true] at h
  rcases List.mem_cons.1 hy with rfl | hy
  ·
   exact h.1
  ·
   exact sO h.2 y hy
theorem AL.Ap {α:Type}:∀ {l:AL α} {k:Nat},AL.has l k=true→∃ v,AL.get l k=some v
 | [],k,h=>by cases h
 | (a,x) :: l,k,h=>by
  simp only [AL.has] at h
  rw [AL.iK]
  by_cases hk:a=k
  ·
   exact ⟨x,by rw [if_pos hk]⟩
  ·
   have:Nat.beq a k=false:=by
    cases hb:Nat.beq a k
    ·
     rfl
    ·
     exact absurd (Nat.eq_of_beq_eq_true hb) hk
   rw [this] at h
   obtain ⟨v,hv⟩:=AL.Ap h
   exact ⟨v,by rw [if_neg hk]; exact hv⟩
section
variable {R:dm} {cx cx0:Cx} {S S' S0:St} {w w0:World} {n0:Nat} {l:AL Nat}
end
end
end Go.Ev

namespace Go.Ev
noncomputable section
set_option linter.unusedVariables false
set_option linter.unusedSimpArgs false
end
end Go.Ev

namespace Go.Ev
noncomputable section
set_option linter.unusedVariables false
set_option linter.unusedSimpArgs false
theorem p9 (n j:Nat):(Array.replicate n false).getD j false=false:=by
 unfold Array.getD; split <;> simp
def Fin (R:dm) (cx:Cx) (S:St) (w:World) (nt:Nat) (a:Act) (Q:Exit→Act→World→Prop) (r:Ow × Env × St):Prop :=
 match r.1 with
 | .normal=>∀ cx' a' w',bD R cx' r.2.2 w'→Ext cx S w cx' r.2.2 w'→jo cx' r.2.2 w' nt r.2.1 a'→a'.defers=a.defers→Q .normal a' w'
 | .exit id=>∀ cx' a' w',bD R cx' r.2.2 w'→Ext cx S w cx' r.2.2 w'→jo cx' r.2.2 w' nt r.2.1 a'→a'.defers=a.defers→Q (.exit id) a' w'
 | .ret=>∀ cx' a' w',bD R cx' r.2.2 w'→Ext cx S w cx' r.2.2 w'→jo cx' r.2.2 w' nt r.2.1 a'→a'.defers=a.defers→Q .ret a' w'
 | .panic v=>∀ cx' a' w' u,bD R cx' r.2.2 w'→Ext cx S w cx' r.2.2 w'→aQ cx' r.2.2 w' v u→a'.defers=a.defers→Q (.panic [{ v:=u,recovered:=false }]) a' w'
theorem Fin.trans {R:dm} {cx cx1:Cx} {S S1:St} {w w1:World} {nt:Nat} {a a1:Act} {Q:Exit→Act→World→Prop} {r:Ow × Env × St} (x:Ext cx S w cx1 S1 w1) (d:a1.defers=a.defers) (h:Fin R cx S w nt a Q r):Fin R cx1 S1 w1 nt a1 Q r:=by
 unfold Fin at *
 split at h
 ·
  exact fun cx' a' w' q1 q2 q3 q4=>h cx' a' w' q1 (x.trans q2) q3 (q4.trans d)
 ·
  exact fun cx' a' w' q1 q2 q3 q4=>h cx' a' w' q1 (x.trans q2) q3 (q4.trans d)
 ·
  exact fun cx' a' w' q1 q2 q3 q4=>h cx' a' w' q1 (x.trans q2) q3 (q4.trans d)
 ·
  exact fun cx' a' w' u q1 q2 q3 q4=>h cx' a' w' u q1 (x.trans q2) q3 (q4.trans d)
def codeOk:Code→Bool
 | .region _ ops draw=>!draw || qA ops
 | .seq a b=>codeOk a && codeOk b
 | .cond _ a b=>codeOk a && codeOk b
 | .block _ a=>codeOk a
 | .loop a=>codeOk a
 | _=>true
end
end Go.Ev

namespace Go.Ev
noncomputable section
set_option linter.unusedVariables false
set_option linter.unusedSimpArgs false
theorem Am:∀ (l:List AV) (k t:Nat),AL.get (rf k l) t=if k ≤ t then l[t - k]? else none
 | [],k,t=>by simp [rf,AL.get]
 | v :: l,k,t=>by
  simp only [rf]
  rw [AL.iK,Am l (k + 1) t]
  by_cases h:k=t
  ·
   subst h; simp
  ·
   by_cases h2:k ≤ t
   ·
    rw [if_neg h,if_pos (by omega),if_pos h2,show t - k=(t - (k + 1)) + 1 by omega]; simp
   ·
    rw [if_neg h,if_neg (by omega),if_neg h2]
def xm (tmps:Array Value):ResultVar→Sem Value
 | .tmp t=>pure (tmps.getD t undef)
 | .cell b t=>do loadVar t (← asAddr (tmps.getD b undef))
theorem Hy {R:dm} {C:gG} {cx:Cx} {S:St} {w:World} (hS:bD R cx S w) {nt:Nat} {e:Env} {a:Act} (he:jo cx S w nt e a) {rv:ResultVar} {v:AV} (h:Cy C e S rv=some v) :
  ∃ u,(xm a.tmps rv).run C.P w=.ok u w∧aQ cx S w v u:=by
 cases rv with
 | tmp t =>
  simp only [Cy] at h
  obtain ⟨u,h1,h2⟩:=he.rel t v h
  exact ⟨u,by simp [xm,h1],h2⟩
 | cell b t =>
  simp only [Cy] at h
  split at h
  ·
   rename_i p hp
   obtain ⟨u,h1,h2⟩:=he.rel b p hp
   obtain ⟨z,z1,z2⟩:=zL (C:=C) hS h h2
   refine ⟨z,?_,z2⟩
   have hu:a.tmps.getD b undef=u:=by simp [h1]
   simp only [xm,hu]
   unfold oQ at h
   cases h2 with
   | ptr id g off bb hn hq=>simp only [asAddr,Sem.run_bind,Sem.run_pure,Result.andThen_ok]; rw [sV] at z1; exact z1
   | eptr x off bb o vs hc hm=>simp only [asAddr,Sem.run_bind,Sem.run_pure,Result.andThen_ok]; rw [sV] at z1; exact z1
   | _=>simp at h
  ·
   cases h
theorem uZ {R:dm} {C:gG} {cx:Cx} {S:St} {w:World} (hS:bD R cx S w) {nt:Nat} {e:Env} {a:Act} (he:jo cx S w nt e a) {fn:Func} {v:AV} (h:rV C fn e S=some v) :
  ∃ u,(results fn a.tmps).run C.P w=.ok u w∧aQ cx S w v u:=by
 unfold rV at h
 have key:∀ {l:List ResultVar} {vs:List AV},jw (Cy C e S) l=some vs→∃ us:List Value,us.length=vs.length∧(l.mapM (xm a.tmps)).run C.P w=.ok us w∧∀ (i:Nat) (x:AV) (u:Value),vs[i]? = some x→us[i]? = some u→aQ cx S w x u:=by
  intro l
  induction l with
  | nil=>intro vs h; simp [jw] at h; subst h; exact ⟨[],rfl,by simp,by simp⟩
  | cons rv l ih =>
   intro vs h
   simp only [jw] at h
   split at h
   ·
    rename_i y hy
    simp only [Option.map_eq_some_iff] at h
    obtain ⟨ys,hys,rfl⟩:=h
    obtain ⟨us,u1,u2,u3⟩:=ih hys
    obtain ⟨u,r1,r2⟩:=Hy hS he hy
    refine ⟨u :: us,by simp [u1],?_,fun i x z hx hz=>?_⟩
    ·
     rw [List.mapM_cons]
     simp only [Sem.run_bind]
     rw [r1]
     simp only [Result.andThen_ok]
     rw [u2]
     rfl
    ·
     cases i with
     | zero=>simp at hx hz; subst hx; subst hz; exact r2
     | succ i=>exact u3 i x z (by simpa using hx) (by simpa using hz)
   ·
    cases h
 have run:∀ {us:List Value},(fn.results.toList.mapM (xm a.tmps)).run C.P w=.ok us w→(results fn a.tmps).run C.P w=.ok (if h:us.toArray.size=1 then us.toArray[0] else .tuple us.toArray) w:=by
  intro us hu
  have hres:results fn a.tmps=(do let vs ← fn.results.mapM (xm a.tmps); pure (if h:vs.size=1 then vs[0] else .tuple vs)):=rfl
  rw [hres,Array.mapM_eq_mapM_toList]
  simp only [Sem.run_bind,Sem.run_map,hu,Result.andThen_ok]
  rfl
 split at h
 ·
  rename_i x hx
  simp only [Option.some.injEq] at h; subst h
  obtain ⟨us,u1,u2,u3⟩:=key hx
  match us,u1 with
  | [u],_=>exact ⟨u,by rw [run u2]; rfl,u3 0 x u rfl rfl⟩
 ·
  rename_i vs hne hx
  simp only [Option.some.injEq] at h; subst h
  obtain ⟨us,u1,u2,u3⟩:=key hx
  refine ⟨.tuple us.toArray,?_,.tup vs us u1 u3⟩
  rw [run u2,dif_neg]
  intro q
  simp at q
  rw [u1] at q
  match vs,q with
  | [x],_=>exact hne x rfl
 ·
  cases h
theorem D7 {R:dm} {cx:Cx} {S:St} {w:World} (h:bD R cx S w):bD R cx aF w where
 wf:=fun id hl=>absurd rfl hl
 tK:=fun id b hb=>by simp [aF,AL.get] at hb
 cells:=fun id g cs hb=>by simp [aF,AL.get] at hb
 maps:=fun id es hb=>by simp [aF,AL.get] at hb
 objs:=fun id k x hb=>by simp [aF,AL.get] at hb
 toks:=fun id en hb=>by simp [aF,AL.get] at hb
 sep:=fun id id' b hl=>absurd rfl hl
 stat:=h.stat
 lt:=h.lt
theorem BQ {R:dm} (hR:ObjOk R) {cx cx1:Cx} {S S1:St} {w w1:World} (h:bD R cx S w) (e:Ext cx aF w cx1 S1 w1) :
  bD R cx S w1∧Ext cx S w cx S w1∧∀ x v,bT w1 cx1.fr x v→bT w1 cx.fr x v:=by
 have hb:∀ b,b < w.heap.size→w1.heap[b]? = w.heap[b]?∧∀ o,(cx1.fr b o↔cx.fr b o):=fun b hb=>e.other b hb (fun id hl=>absurd rfl hl)
 have ex:Ext cx S w cx S w1:=Ext.old h e.size (fun b q=>(hb b q).1) e.os e.tape e.output
 refine ⟨bD.old hR h e.size (fun b q=>(hb b q).1) ex,ex,fun x v hd=>hd.mono (fun b o v hf hc=>⟨hc,fun q=>?_⟩)⟩
 have hlt:=h.lt b o q
 exact hf (((hb b hlt).2 o).2 q)
theorem zQ {cx cx':Cx} {S S':St} {w w':World} {v v':AV} {u:Value} (hv:wM v=some v') (h:aQ cx S w v u) (hd:∀ x z,bT w cx.fr x z→bT w' cx'.fr x z):aQ cx' S' w' v' u:=by
 unfold wM at hv
 split at hv
 ·
  rename_i vs
  simp only [Option.map_eq_some_iff] at hv
  obtain ⟨xs,hxs,rfl⟩:=hv
  obtain ⟨x1,x2⟩:=xn hxs
  cases h with
  | tup _ us' hl' hr' =>
   refine .tup _ us' (by simp [hl',x1]) (fun i x z hx hz=>?_)
   simp only [List.getElem?_map,Option.map_eq_some_iff] at hx
   obtain ⟨y,hy,rfl⟩:=hx
   have hlt:i < vs.length:=by rw [← x1]; exact (List.getElem?_eq_some_iff.1 hy).1
   have ha:=List.getElem?_eq_getElem hlt
   exact .d y z (hd _ _ (nR (x2 i _ y ha hy) (hr' i _ z ha hz)))
 ·
  simp only [Option.map_eq_some_iff] at hv
  obtain ⟨x,hx,rfl⟩:=hv
  exact .d x u (hd _ _ (nR hx h))
theorem K7 {h:Eg} {f:Nat} {args:List AV} {S:St} {r:Out} (hd:yY h f args S=some r):h f args S=some [r]:=by
 unfold yY at hd
 split at hd
 ·
  rename_i r' hr
  simp only [Option.some.injEq] at hd
  subst hd
  exact hr
 ·
  cases hd
end
end Go.Ev

namespace Go.Ev
noncomputable section
set_option linter.unusedVariables false
set_option linter.unusedSimpArgs false
variable {R:dm} {C:gG}
def eQ (R:dm) (P:Program) (f:Nat) (args:List AV) (S:St) (Q:Out→Prop):Prop :=
 (∃ fn,P.funcs[f]? = some fn∧fn.body.isSome=true∧fn.name ≠ "runtime.NumGoroutine") ∧
 ∀ cx w (us:List Value),bD R cx S w→us.length=args.length→(∀ (i:Nat) (x:AV) (u:Value),args[i]? = some x→us[i]? = some u→aQ cx S w x u) →
  Calls P f us.toArray w (fun e w'=>∃ r,Q r∧∃ cx',bD R cx' r.2.2 w'∧Ext cx S w cx' r.2.2 w'∧BR cx' r.2.2 w' r.1 r.2.1 e)
theorem eQ.mono {P:Program} {f:Nat} {args:List AV} {S:St} {Q Q':Out→Prop} (h:eQ R P f args S Q) (hq:∀ r,Q r→Q' r):eQ R P f args S Q' :=
 ⟨h.1,fun cx w us h1 h2 h3=>(h.2 cx w us h1 h2 h3).mono fun e w' ⟨r,q,k⟩=>⟨r,hq r q,k⟩⟩
def ax (R:dm) (P:Program) (nt:Nat) (c:Code) (e:Env) (S:St) (Q:vN→Prop):Prop :=
 ∀ (cx:Cx) (w:World) (a:Act) (K:Exit→Act→World→Prop),bD R cx S w→jo cx S w nt e a→(∀ r,Q r→Fin R cx S w nt a K r)→c.wp P K a w
def nz (R:dm) (P:Program) (nt:Nat) (c:Code) (e:Env) (S:St) (Q:vN→Prop):Prop :=
 ∀ (cx:Cx) (w:World) (a:Act) (K:Exit→Act→World→Prop),bD R cx S w→jo cx S w nt e a→(∀ r,Q r→Fin R cx S w nt a K r) →
  ∀ (b:Frame) (k:List Go.Item) (cs:List Frame),∃ x a' w',K x a' w'∧Arrives P (lone (b.at a (.code c :: .inLoop c :: k)) cs w) b k cs x a' w'
variable {P:Program} {nt:Nat}
theorem ax.mono {c:Code} {e:Env} {S:St} {Q Q':vN→Prop} (h:ax R P nt c e S Q) (hq:∀ r,Q r→Q' r):ax R P nt c e S Q' :=
 fun cx w a K h1 h2 h3=>h cx w a K h1 h2 (fun r q=>h3 r (hq r q))
theorem ax.skip {e:Env} {S:St} {Q:vN→Prop} (h:Q (.normal,e,S)):ax R P nt .skip e S Q :=
 fun cx w a K h1 h2 h3=>wp_skip (h3 _ h cx a w h1 (Ext.refl w h1.wf) h2 rfl)
theorem ax.exit {id:Nat} {e:Env} {S:St} {Q:vN→Prop} (h:Q (.exit id,e,S)):ax R P nt (.exit id) e S Q :=
 fun cx w a K h1 h2 h3=>wp_exit (h3 _ h cx a w h1 (Ext.refl w h1.wf) h2 rfl)
theorem ax.ret {e:Env} {S:St} {Q:vN→Prop} (h:Q (.ret,e,S)):ax R P nt .ret e S Q :=
 fun cx w a K h1 h2 h3=>wp_ret (h3 _ h cx a w h1 (Ext.refl w h1.wf) h2 rfl)
def EM (k:Env→St→Prop) (Q:vN→Prop):vN→Prop
 | (.normal,e,S)=>k e S
 | r=>Q r
theorem ax.seq {x y:Code} {e:Env} {S:St} {Q:vN→Prop} (h:ax R P nt x e S (EM (fun e' S'=>ax R P nt y e' S' Q) Q)):ax R P nt (.seq x y) e S Q:=by
 intro cx w a K h1 h2 h3
 refine wp_seq (h cx w a _ h1 h2 (fun r hr=>?_))
 obtain ⟨x1,e',S'⟩:=r
 cases x1 with
 | normal =>
  intro cx' a' w' q1 q2 q3 q4
  exact hr cx' w' a' K q1 q3 (fun r q=>(h3 r q).trans q2 q4)
 | exit id=>exact h3 _ hr
 | ret=>exact h3 _ hr
 | panic v=>exact h3 _ hr
theorem ax.cond {c:Operand} {x y:Code} {e:Env} {S:St} {Q:vN→Prop} {b:Bool} (hc:dB e c=some (.d (.bool b))) (h1:b=true→ax R P nt x e S Q) (h2:b=false→ax R P nt y e S Q):ax R P nt (.cond c x y) e S Q:=by
 intro cx w a K hS he hk
 cases b with
 | true=>exact wp_cond_true ((he.eval c _ hc).bool) (h1 rfl cx w a K hS he hk)
 | false=>exact wp_cond_false ((he.eval c _ hc).bool) (h2 rfl cx w a K hS he hk)
def Jo (id:Nat) (Q:vN→Prop):vN→Prop
 | (.exit j,e,S)=>bif Nat.beq j id then Q (.normal,e,S) else Q (.exit j,e,S)
 | r=>Q r
theorem ax.block {id:Nat} {c:Code} {e:Env} {S:St} {Q:vN→Prop} (h:ax R P nt c e S (Jo id Q)):ax R P nt (.block id c) e S Q:=by
 intro cx w a K h1 h2 h3
 refine wp_block (h cx w a _ h1 h2 (fun r hr=>?_))
 obtain ⟨x1,e',S'⟩:=r
 cases x1 with
 | normal=>exact h3 _ hr
 | exit j =>
  simp only [Jo] at hr
  by_cases hj:j=id
  ·
   have hb:Nat.beq j id=true:=by rw [hj]; exact Nat.beq_refl id
   rw [hb] at hr
   intro cx' a' w' q1 q2 q3 q4
   simp only [Exit.inBlock,if_pos hj]
   exact h3 _ hr cx' a' w' q1 q2 q3 q4
  ·
   have hb:Nat.beq j id=false:=by
    cases hb:Nat.beq j id
    ·
     rfl
    ·
     exact absurd (Nat.eq_of_beq_eq_true hb) hj
   rw [hb] at hr
   intro cx' a' w' q1 q2 q3 q4
   simp only [Exit.inBlock,if_neg hj]
   exact h3 _ hr cx' a' w' q1 q2 q3 q4
 | ret=>exact h3 _ hr
 | panic v=>exact h3 _ hr
theorem ax.loop {c:Code} {e:Env} {S:St} {Q:vN→Prop} (h:nz R P nt c e S Q):ax R P nt (.loop c) e S Q:=by
 intro cx w a K h1 h2 h3 b k cs
 obtain ⟨x,a',w',q,harr⟩:=h cx w a K h1 h2 h3 b k cs
 exact ⟨x,a',w',q,.of_steps (.one step_loop) harr⟩
theorem nz.round {c:Code} {e:Env} {S:St} {Q:vN→Prop} (h:ax R P nt c e S (EM (fun e' S'=>nz R P nt c e' S' Q) Q)):nz R P nt c e S Q:=by
 intro cx w a K hS he hk b k cs
 let K':Exit→Act→World→Prop:=fun x a' w'=>match x with
  | .normal=>∃ cx1 e1 S1,bD R cx1 S1 w'∧jo cx1 S1 w' nt e1 a'∧Ext cx S w cx1 S1 w'∧a'.defers=a.defers∧nz R P nt c e1 S1 Q
  | x=>K x a' w'
 have hround:c.wp P K' a w:=by
  refine h cx w a K' hS he (fun r hr=>?_)
  obtain ⟨x,e',S'⟩:=r
  cases x with
  | normal=>exact fun cx' a' w' q1 q2 q3 q4=>⟨cx',e',S',q1,q3,q2,q4,hr⟩
  | exit id=>exact hk _ hr
  | ret=>exact hk _ hr
  | panic v=>exact hk _ hr
 obtain ⟨x,a₁,w₁,hq,harr⟩:=hround b (.inLoop c :: k) cs
 cases x with
 | normal =>
  obtain ⟨cx1,e1,S1,s1,er1,x1,d1,hl⟩:=hq
  obtain ⟨x2,a₂,w₂,hq₂,harr₂⟩:=hl cx1 w₁ a₁ K s1 er1 (fun r hr=>(hk r hr).trans x1 d1) b k cs
  exact ⟨x2,a₂,w₂,hq₂,.of_steps (Steps.trans harr (.one step_inLoop)) harr₂⟩
 | exit id=>exact ⟨_,a₁,w₁,hq,.pass (x:=.inLoop c) rfl (fun _ _=>.inl (by simp)) harr⟩
 | goto l=>exact ⟨_,a₁,w₁,hq,.pass (x:=.inLoop c) rfl (fun _ _=>.inl (by simp)) harr⟩
 | ret=>exact ⟨_,a₁,w₁,hq,.pass (x:=.inLoop c) rfl (fun _ _=>.inl (by simp)) harr⟩
 | panic ch=>exact ⟨_,a₁,w₁,hq,.pass (x:=.inLoop c) rfl (fun _ _=>.inl (by simp)) harr⟩
 | outgrown=>exact ⟨_,a₁,w₁,hq,.pass (x:=.inLoop c) rfl (fun _ _=>.inl (by simp)) harr⟩
def Less (y x:AV):Prop:=∀ (cx:Cx) (S:St) (w:World) (v:Value),aQ cx S w x v→aQ cx S w y v
theorem Less.refl (x:AV):Less x x:=fun _ _ _ _ h=>h
theorem Less.trans {x y z:AV} (a:Less z y) (b:Less y x):Less z x:=fun cx S w v h=>a cx S w v (b cx S w v h)
def aa (e2 e:Env):Prop:=∀ t x,AL.get e2 t=some x→∃ y,AL.get e t=some y∧Less x y
theorem aa.refl (e:Env):aa e e:=fun _ x h=>⟨x,h,.refl x⟩
theorem aa.trans {e1 e2 e3:Env} (a:aa e1 e2) (b:aa e2 e3):aa e1 e3:=fun t x h=>by
 obtain ⟨y,h1,h2⟩:=a t x h
 obtain ⟨z,h3,h4⟩:=b t y h1
 exact ⟨z,h3,h2.trans h4⟩
theorem aa.top {e:Env} {t:Nat} {x y:AV} (h:Less y x):aa ((t,y) :: e) ((t,x) :: e):=fun u z hz=>by
 rw [AL.iK] at hz ⊢
 by_cases hu:t=u
 ·
  rw [if_pos hu] at hz ⊢; cases hz; exact ⟨x,rfl,h⟩
 ·
  rw [if_neg hu] at hz ⊢; exact ⟨z,hz,.refl z⟩
theorem aa.nil {e:Env}:aa [] e:=fun _ _ h=>by simp [AL.get] at h
theorem aa.cons {t:Nat} {x y:AV} {e2 e:Env} (h:AL.get e t=some y) (hl:Less x y) (k:aa e2 e):aa ((t,x) :: e2) e:=fun u z hz=>by
 rw [AL.iK] at hz
 by_cases hu:t=u
 ·
  subst hu; rw [if_pos rfl] at hz; cases hz; exact ⟨y,h,hl⟩
 ·
  rw [if_neg hu] at hz; exact k u z hz
theorem jo.weak {cx:Cx} {S:St} {w:World} {e2 e:Env} {a:Act} (h:jo cx S w nt e a) (s:aa e2 e):jo cx S w nt e2 a :=
 ⟨h.size,fun t x hx=>by
  obtain ⟨y,h1,h2⟩:=s t x hx
  obtain ⟨v,v1,v2⟩:=h.rel t y h1
  exact ⟨v,v1,h2 _ _ _ _ v2⟩⟩
theorem ax.weak {c:Code} {e2 e:Env} {S:St} {Q:vN→Prop} (s:aa e2 e) (h:ax R P nt c e2 S Q):ax R P nt c e S Q :=
 fun cx w a K h1 h2 h3=>h cx w a K h1 (h2.weak s) h3
theorem nz.weak {c:Code} {e2 e:Env} {S:St} {Q:vN→Prop} (s:aa e2 e) (h:nz R P nt c e2 S Q):nz R P nt c e S Q :=
 fun cx w a K h1 h2 h3=>h cx w a K h1 (h2.weak s) h3
def ET (R:dm) (C:gG) (nt:Nat) (dst:Option Nat) (op:Op) (e:Env) (S:St) (Q:Stp→Prop):Prop :=
 (∃ v S' e',oper C (dB e) S op=some (.val v S')∧e.put nt dst v=some e'∧Q (.go e' S')) ∨
 (∃ S',oper C (dB e) S op=some (.skip S')∧dst=none∧Q (.go e S')) ∨
 (∃ f args,oper C (dB e) S op=some (.call f args)∧eQ R C.P f args S (fun r=>match r with
  | (none,v,S')=>∃ e',e.put nt dst v=some e'∧Q (.go e' S')
  | (some p,_,S')=>Q (.stop p S'))) ∨
 (∃ t x y ty xs b el,op=.binOp .eql t x y ty∧dB e x=some (.d (.sl xs b))∧dB e y=some (.d .aO)∧C.P.underlying t=some (.slice el) ∧
  ∀ bb:Bool,(bb=true→xs=[])→∃ e',e.put nt dst (.d (.bool bb))=some e'∧Q (.go e' S))
theorem ET.mono {dst:Option Nat} {op:Op} {e:Env} {S:St} {Q Q':Stp→Prop} (h:ET R C nt dst op e S Q) (hq:∀ r,Q r→Q' r):ET R C nt dst op e S Q':=by
 rcases h with ⟨v,S',e',h1,h2,h3⟩ | ⟨S',h1,h2,h3⟩ | ⟨f,args,h1,h2⟩ | ⟨t,x,y,ty,xs,b,el,h1,h2,h3,h4,h5⟩
 ·
  exact .inl ⟨v,S',e',h1,h2,hq _ h3⟩
 ·
  exact .inr (.inl ⟨S',h1,h2,hq _ h3⟩)
 ·
  exact .inr (.inr (.inl ⟨f,args,h1,h2.mono fun r hr=>by
   obtain ⟨p,v,S'⟩:=r
   cases p with
   | none=>obtain ⟨e',a,b⟩:=hr; exact ⟨e',a,hq _ b⟩
   | some p=>exact hq _ hr⟩))
 ·
  exact .inr (.inr (.inr ⟨t,x,y,ty,xs,b,el,h1,h2,h3,h4,fun bb hb=>let ⟨e',a,c⟩:=h5 bb hb; ⟨e',a,hq _ c⟩⟩))
theorem D8 {w:World} {fr:Nat→Nat→Prop} {xs:List D} {b:Bool} {v:Value} (h:bT w fr (.sl xs b) v):∃ a n c,v=.slice a n c∧(a=none→xs=[]):=by
 have h1:=h.val rfl
 cases h1 with
 | sl0 a cap _ _=>exact ⟨a,0,cap,rfl,fun _=>rfl⟩
 | sl _ _ b off cap sz vs hne hcap ht hsz hlen hx hc=>exact ⟨_,_,_,rfl,fun h=>by cases h⟩
def Nu (R:dm) (C:gG) (nt:Nat) (ops:Array Oper) (o:Oper) (e:Env) (S:St) (Q:Stp→Prop):Prop :=
 bV ops e o=some true∧∀ cx w a,bD R cx S w→jo cx S w nt e a →
  (∃ cx' w' u v S' e',(execOp a.eval o).run C.P w=.ok (.value u) w'∧bD R cx' S' w'∧Ext cx S w cx' S' w'∧aQ cx' S' w' v u∧e.put nt o.dst v=some e'∧Q (.go e' S')) ∨
  (∃ u v,(execOp a.eval o).run C.P w=.halt (.panic u) w∧aQ cx S w v u∧Q (.stop v S))
def xV (R:dm) (C:gG) (nt:Nat) (ops:Array Oper) (o:Oper) (e:Env) (S:St) (Q:Stp→Prop):Prop :=
 (∃ t rs,o.op=.next (.tmp t) false∧Kv nt o t e S=some rs∧∀ r ∈ rs,Q r) ∨
 (∃ e2,aa e2 e∧bV ops e o=some true∧ET R C nt o.dst o.op e2 S Q) ∨
 (∃ e2 e',aa e2 e∧bV ops e o=some false∧(match o.dst with | none=>e'=e2 | some t=>e2.put nt (some t) (.tup [])=some e')∧Q (.go e' S)) ∨
 (∃ e2,aa e2 e∧Nu R C nt ops o e2 S Q)
theorem xV.mono {ops:Array Oper} {o:Oper} {e:Env} {S:St} {Q Q':Stp→Prop} (h:xV R C nt ops o e S Q) (hq:∀ r,Q r→Q' r):xV R C nt ops o e S Q':=by
 rcases h with ⟨t,rs,h1,h2,h3⟩ | ⟨e2,h1,h2,h3⟩ | ⟨e2,e',h1,h2,h3,h4⟩ | ⟨e2,h1,h2,h3⟩
 ·
  exact .inl ⟨t,rs,h1,h2,fun r hr=>hq r (h3 r hr)⟩
 ·
  exact .inr (.inl ⟨e2,h1,h2,h3.mono hq⟩)
 ·
  exact .inr (.inr (.inl ⟨e2,e',h1,h2,h3,hq _ h4⟩))
 ·
  refine .inr (.inr (.inr ⟨e2,h1,h2,fun cx w a k1 k2=>?_⟩))
  rcases h3 cx w a k1 k2 with ⟨cx',w',u,v,S',e',q1,q2,q3,q4,q5,q6⟩ | ⟨u,v,q1,q2,q3⟩
  ·
   exact .inl ⟨cx',w',u,v,S',e',q1,q2,q3,q4,q5,hq _ q6⟩
  ·
   exact .inr ⟨u,v,q1,q2,hq _ q3⟩
theorem Db (hR:jW R C) {ops:Array Oper} {o:Oper} {e:Env} {S:St} {Q:Stp→Prop} (h:xV R C nt ops o e S Q) {cx:Cx} {w:World} {a:Act} (hS:bD R cx S w) (he:jo cx S w nt e a)
  {K:Act→World→Prop} {Kx:Exit→Act→World→Prop} (hk:∀ r,Q r→After R cx S w nt a K Kx r) {i:Nat} (hi:ops[i]? = some o):wpOp C.P ops Kx i K a w:=by
 have hrefl:=Ext.refl (cx:=cx) w hS.wf
 rcases h with ⟨t,rs,h1,h2,h3⟩ | ⟨e2,hw,h1,h2⟩ | ⟨e2,e',hw,h1,h2,h3⟩ | ⟨e2,hw,h1,h2⟩
 ·
  exact F3 hR h1 h2 hS he (fun r hr=>hk r (h3 r hr)) hi
 rotate_left 2
 ·
  have he2:=he.weak hw
  unfold wpOp
  rw [hi]
  simp only
  rw [if_pos (fD he2 h1)]
  left
  unfold Oper.wp
  rcases h2 cx w a hS he2 with ⟨cx',w',u,v,S',e',q1,q2,q3,q4,q5,q6⟩ | ⟨u,v,q1,q2,q3⟩
  ·
   rw [q1]
   exact hk _ q6 cx' _ w' q2 q3 ((he2.mono q3).put q5 q4) (put_defers _ _ _)
  ·
   rw [q1]
   exact hk _ q3 cx w u hS hrefl q2
 ·
  have he2:=he.weak hw
  unfold wpOp
  rw [hi]
  simp only
  rw [if_pos (fD he h1)]
  left
  rcases h2 with ⟨v,S',e',h1,h2,h3⟩ | ⟨S',h1,h2,h3⟩ | ⟨f,args,h1,h2⟩ | ⟨t,x,y,ty,xs,b,el,hop,hx,hy,hu,hq⟩
  rotate_left 3
  ·
   have rx:=he2.eval x _ hx
   have ry:=he2.eval y _ hy
   obtain ⟨a0,n,c,ex,hnil⟩:=D8 rx.dd
   have ey:a.eval y=.slice none 0 0:=by
    have:=ry.dd.val rfl
    generalize a.eval y=z at this
    cases this
    rfl
   have hrun:(execOp a.eval o).run C.P w=.ok (.value (.bool a0.isNone)) w:=by
    obtain ⟨dst,op,ty',pos,after,guard⟩:=o
    simp only at hop
    subst hop
    exact uz (by
     rw [ex,ey]
     have hg:(eqGuard .eql t x y (.slice a0 n c) (.slice none 0 0)).run C.P w=.ok () w:=iQ rfl
     simp only [Sem.run_bind,hg,Result.andThen_ok]
     exact Lib.run_eql_slice_nil w t el a0 n c 0 0 hu)
   obtain ⟨e',hp,hk'⟩:=hq a0.isNone (fun h=>hnil (by cases a0 with | none=>rfl | some a=>cases h))
   unfold Oper.wp
   rw [hrun]
   exact hk _ hk' cx _ w hS hrefl (he2.put hp (.of_bool _)) (put_defers _ _ _)
  ·
   obtain ⟨cx',w',u,k1,k2,k3,k4⟩:=iC hR hS he2.eval o h1
   unfold Oper.wp
   rw [k1]
   exact hk _ h3 cx' _ w' k2 k3 ((he2.mono k3).put h2 k4) (put_defers _ _ _)
  ·
   obtain ⟨cx',w',k1,k2,k3⟩:=iC hR hS he2.eval o h1
   unfold Oper.wp
   rw [k1]
   show K (a.put o.dst undef) w'
   rw [h2]
   exact hk _ h3 cx' _ w' k2 k3 (he2.mono k3) rfl
  ·
   obtain ⟨us,k1,k2,k3⟩:=iC hR hS he2.eval o h1
   obtain ⟨⟨fn,f1,f2,f3⟩,hcalls⟩:=h2
   unfold Oper.wp
   rw [k3 fn f1 f2 f3]
   refine (hcalls cx w us hS k1 k2).mono (fun en w' hen=>?_)
   obtain ⟨⟨p,v,S'⟩,hq,cx',m1,m2,m3⟩:=hen
   cases p with
   | none =>
    obtain ⟨u,rfl,m3⟩:=m3
    obtain ⟨e',hp,hq⟩:=hq
    exact hk _ hq cx' _ w' m1 m2 ((he2.mono m2).put hp m3) (put_defers _ _ _)
   | some p =>
    obtain ⟨u,rfl,m3⟩:=m3
    exact hk _ hq cx' w' u m1 m2 m3
 ·
  have he2:=he.weak hw
  unfold wpOp
  rw [hi]
  simp only
  rw [if_neg (by rw [fD he h1]; simp)]
  split at h2
  ·
   rename_i hd
   subst h2
   rw [hd]
   exact hk _ h3 cx _ w hS hrefl he2 rfl
  ·
   rename_i t hd
   rw [hd]
   exact hk _ h3 cx _ w hS hrefl (he2.put h2 (.tup [] [] rfl (fun i x v hx=>by simp at hx))) (put_defers _ _ _)
def o7 (R:dm) (nt:Nat) (e:Env) (S:St) (e2:Env) (S2:St):Prop :=
 ∀ cx w a,bD R cx S w→jo cx S w nt e a→∃ cx2,bD R cx2 S2 w∧Ext cx S w cx2 S2 w∧jo cx2 S2 w nt e2 a
theorem o7.refl (e:Env) (S:St):o7 R nt e S e S:=fun cx w a h1 h2=>⟨cx,h1,Ext.refl w h1.wf,h2⟩
theorem o7.weak {e2 e:Env} (S:St) (s:aa e2 e):o7 R nt e S e2 S:=fun cx w a h1 h2=>⟨cx,h1,Ext.refl w h1.wf,h2.weak s⟩
theorem o7.trans {e1 e2 e3:Env} {S1 S2 S3:St} (a:o7 R nt e1 S1 e2 S2) (b:o7 R nt e2 S2 e3 S3):o7 R nt e1 S1 e3 S3:=fun cx w ac h1 h2=>by
 obtain ⟨c2,q1,q2,q3⟩:=a cx w ac h1 h2
 obtain ⟨c3,r1,r2,r3⟩:=b c2 w ac q1 q3
 exact ⟨c3,r1,q2.trans r2,r3⟩
def ae (R:dm) (C:gG) (nt:Nat) (ops:Array Oper):List Oper→Env→St→(Stp→Prop)→Prop
 | [],e,S,Q=>∃ e2,aa e2 e∧Q (.go e2 S)
 | o :: rest,e,S,Q=>∃ e2 S2,o7 R nt e S e2 S2∧xV R C nt ops o e2 S2 (fun r=>match r with
  | .go e' S'=>ae R C nt ops rest e' S' Q
  | .stop v S'=>Q (.stop v S'))
theorem ae.weak {ops:Array Oper} {l:List Oper} {e2 e:Env} {S:St} {Q:Stp→Prop} (s:aa e2 e) (h:ae R C nt ops l e2 S Q):ae R C nt ops l e S Q:=by
 cases l with
 | nil=>obtain ⟨e3,h1,h2⟩:=h; exact ⟨e3,h1.trans s,h2⟩
 | cons o l=>obtain ⟨e3,S3,h1,h2⟩:=h; exact ⟨e3,S3,(o7.weak S s).trans h1,h2⟩
theorem ae.ghost {ops:Array Oper} {o:Oper} {l:List Oper} {e2 e:Env} {S S2:St} {Q:Stp→Prop} (g:o7 R nt e S e2 S2) (h:ae R C nt ops (o :: l) e2 S2 Q):ae R C nt ops (o :: l) e S Q:=by
 obtain ⟨e3,S3,h1,h2⟩:=h
 exact ⟨e3,S3,g.trans h1,h2⟩
theorem Cq (hR:jW R C) {ops:Array Oper} {Kx:Exit→Act→World→Prop}:∀ (l:List Oper) (k:Nat) {cx:Cx} {S:St} {w:World} {e:Env} {a:Act} {Q:Stp→Prop},
  (∀ j,l[j]? = ops[k + j]?)→ae R C nt ops l e S Q→bD R cx S w→jo cx S w nt e a →
  (∀ r,Q r→match r with
   | .go e' S'=>∀ cx' a' w',bD R cx' S' w'→Ext cx S w cx' S' w'→jo cx' S' w' nt e' a'→a'.defers=a.defers→Kx .normal a' w'
   | .stop v S'=>∀ cx' a' w' u,bD R cx' S' w'→Ext cx S w cx' S' w'→aQ cx' S' w' v u→a'.defers=a.defers→Kx (.panic [{ v:=u,recovered:=false }]) a' w') →
  wpOps C.P ops Kx ((List.range l.length).map (k + ·)) a w
 | [],k,cx,S,w,e,a,Q,hl,⟨e2,hs,hev⟩,hS,he,hk=>hk (.go e2 S) hev cx a w hS (Ext.refl w hS.wf) (he.weak hs) rfl
 | o :: l,k,cx,S,w,e,a,Q,hl,⟨e2,S2,hs,hev⟩,hS,he,hk=>by
  obtain ⟨c2,hS,x0,he⟩:=hs cx w a hS he
  replace hk:∀ r,Q r→match r with
   | .go e' S'=>∀ cx' a' w',bD R cx' S' w'→Ext c2 S2 w cx' S' w'→jo cx' S' w' nt e' a'→a'.defers=a.defers→Kx .normal a' w'
   | .stop v S'=>∀ cx' a' w' u,bD R cx' S' w'→Ext c2 S2 w cx' S' w'→aQ cx' S' w' v u→a'.defers=a.defers→Kx (.panic [{ v:=u,recovered:=false }]) a' w':=fun r hr=>by
   have hk:=hk r hr
   cases r with
   | go e' S'=>exact fun cx' a' w' q1 q2 q3 q4=>hk cx' a' w' q1 (x0.trans q2) q3 q4
   | stop v S'=>exact fun cx' a' w' u q1 q2 q3 q4=>hk cx' a' w' u q1 (x0.trans q2) q3 q4
  have h0:ops[k]? = some o:=by simpa using (hl 0).symm
  rw [List.length_cons,List.range_succ_eq_map,List.map_cons,wpOps_cons,Nat.add_zero]
  refine Db hR hev hS he (fun r hr=>?_) h0
  cases r with
  | go e' S' =>
   intro cx1 a1 w1 s1 x1 er1 d1
   have ih:=Cq hR (Kx:=Kx) l (k + 1) (cx:=cx1) (S:=S') (w:=w1) (e:=e') (a:=a1) (Q:=Q) (fun j=>by have:=hl (j + 1); simpa [Nat.add_assoc,Nat.add_comm 1 j] using this) hr s1 er1 (fun r hr=>by
    have hk':=hk r hr
    cases r with
    | go e2 S2=>exact fun cx' a' w' q1 q2 q3 q4=>hk' cx' a' w' q1 (x1.trans q2) q3 (q4.trans d1)
    | stop v S2=>exact fun cx' a' w' u q1 q2 q3 q4=>hk' cx' a' w' u q1 (x1.trans q2) q3 (q4.trans d1))
   rw [List.map_map]
   have:((fun x=>k + x) ∘ Nat.succ)=(fun x=>k + 1 + x):=by funext x; simp; omega
   rw [this]; exact ih
  | stop v S'=>exact fun cx1 w1 u s1 x1 r1=>hk (.stop v S') hr cx1 a w1 u s1 x1 r1 rfl
theorem ax.region (hR:jW R C) {id:Nat} {ops:Array Oper} {l:List Oper} (hl:ops.toList=l) {e:Env} {S:St} {Q:vN→Prop} (h:ae R C nt ops l e S (fun r=>Q (MX e r))):ax R C.P nt (.region id ops false) e S Q:=by
 intro cx w a K h1 h2 h3
 refine wp_region ?_
 have:=Cq hR (Kx:=K) ops.toList 0 (by simp) (hl ▸ h) h1 h2 (fun r hr=>by
  have hk':=h3 _ hr
  cases r with
  | go e' S'=>exact fun cx' a' w' q1 q2 q3 q4=>hk' cx' a' w' q1 q2 q3 q4
  | stop v S'=>exact fun cx' a' w' u q1 q2 q3 q4=>hk' cx' a' w' u q1 q2 q3 q4)
 simpa using this
inductive Fact where
 | pure (f:Nat) (args:List AV) (v:AV)
 | full (f:Nat) (args:List AV) (S:St) (v:AV) (S':St)
def Nh (R:dm) (P:Program) (f:Nat) (args:List AV) (v:AV):Prop:=∀ S,eQ R P f args S (fun r=>r=(none,v,S))
def Fact.ok (R:dm) (P:Program):Fact→Prop
 | .pure f args v=>Nh R P f args v
 | .full f args S v S'=>eQ R P f args S (fun r=>r=(none,v,S'))∧((nC args).isSome && (wM v).isSome)=false
def Fact.is (f:Nat) (args:List AV) (S:St) (v:AV) (S':St):Fact→Prop
 | .pure f' args' v'=>f'=f∧args'=args∧v'=v∧S'=S
 | .full f' args' S1 v' S1'=>f'=f∧args'=args∧S1=S∧v'=v∧S1'=S'
open Classical in
def jf (T:List Fact):Eg:=fun f args S =>
 if h:∃ r:AV × St,(∃ x ∈ T,x.is f args S r.1 r.2)∧∀ r':AV × St,(∃ x ∈ T,x.is f args S r'.1 r'.2)→r'=r then some [(none,(Classical.choose h).1,(Classical.choose h).2)] else none
theorem Ig {T:List Fact} {f:Nat} {args:List AV} {S:St} {v:AV} {S':St} (h1:∃ x ∈ T,x.is f args S v S') (h2:∀ x ∈ T,∀ v' S'',x.is f args S v' S''→v'=v∧S''=S'):jf T f args S=some [(none,v,S')]:=by
 have hex:∃ r:AV × St,(∃ x ∈ T,x.is f args S r.1 r.2)∧∀ r':AV × St,(∃ x ∈ T,x.is f args S r'.1 r'.2)→r'=r :=
  ⟨(v,S'),h1,fun r' ⟨x,hx,hr⟩=>Prod.ext (h2 x hx _ _ hr).1 (h2 x hx _ _ hr).2⟩
 unfold jf
 rw [dif_pos hex]
 have hc:=Classical.choose_spec hex
 have:(v,S')=Classical.choose hex:=hc.2 (v,S') h1
 rw [← this]
theorem zk {T:List Fact} {f:Nat} {args:List AV} {S:St} {rs:List Out} (h:jf T f args S=some rs):∃ v S',rs=[(none,v,S')]∧(∃ x ∈ T,x.is f args S v S')∧∀ v' S'',(∃ x ∈ T,x.is f args S v' S'')→v'=v∧S''=S':=by
 unfold jf at h
 split at h
 ·
  rename_i hex
  have hc:=Classical.choose_spec hex
  simp only [Option.some.injEq] at h
  exact ⟨_,_,h.symm,hc.1,fun v' S'' hx=>by have:=hc.2 (v',S'') hx; rw [← this]; exact ⟨rfl,rfl⟩⟩
 ·
  cases h
theorem II {T:List Fact} (hT:∀ x ∈ T,x.ok R P):Gv R P (jf T):=by
 intro f args S rs h
 obtain ⟨v,S',rfl,⟨x,hx,hi⟩,_⟩:=zk h
 have hok:=hT x hx
 have key:eQ R P f args S (fun r=>r=(none,v,S')):=by
  cases x with
  | pure f' args' v' =>
   obtain ⟨rfl,rfl,rfl,rfl⟩:=hi
   exact hok _
  | full f' args' S1 v' S1' =>
   obtain ⟨rfl,rfl,rfl,rfl,rfl⟩:=hi
   exact hok.1
 refine ⟨key.1,fun cx w us h1 h2 h3=>(key.2 cx w us h1 h2 h3).mono fun e w' ⟨r,q,k⟩=>⟨r,by simp [q],k⟩⟩
theorem Fu {T:List Fact} {f:Nat} {args:List AV} {S:St} {v:AV} {S':St} (h1:∃ x ∈ T,x.is f args S v S') (h2:∀ x ∈ T,∀ v' S'',x.is f args S v' S''→v'=v∧S''=S'):yY (jf T) f args S=some (none,v,S'):=by
 unfold yY; rw [Ig h1 h2]
theorem Fa {T:List Fact} (hT:∀ x ∈ T,x.ok R P) (hsep:∀ f args v S v' S',Fact.pure f args v ∈ T→Fact.full f args S v' S' ∈ T→False):Dy (yY (jf T)):=by
 intro f args S v S' h ha hv S2
 have h:=K7 h
 obtain ⟨v1,S1,he,⟨x,hx,hi⟩,huniq⟩:=zk h
 simp only [List.cons.injEq,Prod.mk.injEq,true_and,and_true] at he
 obtain ⟨rfl,rfl⟩:=he
 have hxp:x=.pure f args v:=by
  have hok:=hT x hx
  cases x with
  | pure f' args' v2=>obtain ⟨rfl,rfl,rfl,rfl⟩:=hi; rfl
  | full f' args' S3 v2 S3' =>
   obtain ⟨rfl,rfl,rfl,rfl,rfl⟩:=hi
   have:=hok.2
   rw [ha,hv] at this
   cases this
 subst hxp
 obtain ⟨_,_,_,rfl⟩:=hi
 refine Fu ⟨_,hx,rfl,rfl,rfl,rfl⟩ (fun y hy v' S'' hq=>?_)
 cases y with
 | pure f' args' v2 =>
  obtain ⟨rfl,rfl,rfl,rfl⟩:=hq
  exact ⟨(huniq _ _ ⟨_,hy,rfl,rfl,rfl,rfl⟩).1,rfl⟩
 | full f' args' S3 v2 S3' =>
  obtain ⟨rfl,rfl,rfl,rfl,rfl⟩:=hq
  exact (hsep _ _ _ _ _ _ hx hy).elim
def JU (C:gG) (fn:Func) (Q:Out→Prop):vN→Prop
 | (.normal,e,S)=>∃ v,rV C fn e S=some v∧Q (none,v,S)
 | (.ret,e,S)=>∃ v,rV C fn e S=some v∧Q (none,v,S)
 | (.panic v,_,S)=>Q (some v,.d (.bool false),S)
 | _=>False
theorem eQ.of_wp {f:Nat} {fn:Func} {c:Code} (hf:C.P.funcs[f]? = some fn) (hc:fn.body=some c) (hn:(fn.name == "runtime.NumGoroutine")=false) {args:List AV} (hle:args.length ≤ fn.ntmps) {S:St} {Q:Out→Prop}
  (h:ax R C.P fn.ntmps c (rf 0 args) S (JU C fn Q)):eQ R C.P f args S Q:=by
 refine ⟨⟨fn,hf,by simp [hc],by simpa using hn⟩,fun cx w us hS hl hr=>?_⟩
 refine calls_of_wp hf hc ?_
 have he:jo cx S w fn.ntmps (rf 0 args) { tmps:=us.toArray ++ Array.replicate (fn.ntmps - us.toArray.size) undef,defers:=[] }:=by
  refine ⟨by simp; omega,fun t x hx=>?_⟩
  rw [Am] at hx
  simp only [Nat.zero_le,if_true,Nat.sub_zero] at hx
  have hlt:t < us.length:=by rw [hl]; exact (List.getElem?_eq_some_iff.1 hx).1
  have hu:=List.getElem?_eq_getElem hlt
  exact ⟨us[t],by rw [Array.getElem?_append_left (by simpa using hlt)]; simp,hr t x _ hx hu⟩
 refine h cx w _ _ hS he (fun r hr=>?_)
 obtain ⟨x,e,S1⟩:=r
 cases x with
 | normal =>
  obtain ⟨rv,hrv,hq⟩:=hr
  intro cx' a' w' q1 q2 q3 q4
  obtain ⟨u,r1,r2⟩:=uZ q1 q3 hrv
  exact ⟨q4,u,r1,_,hq,cx',q1,q2,u,rfl,r2⟩
 | ret =>
  obtain ⟨rv,hrv,hq⟩:=hr
  intro cx' a' w' q1 q2 q3 q4
  obtain ⟨u,r1,r2⟩:=uZ q1 q3 hrv
  exact ⟨q4,u,r1,_,hq,cx',q1,q2,u,rfl,r2⟩
 | panic pv =>
  intro cx' a' w' u q1 q2 q3 q4
  exact ⟨q4,_,hr,cx',q1,q2,u,rfl,q3⟩
 | exit id=>exact hr.elim
end
end Go.Ev

namespace Go.Ev
noncomputable section
set_option linter.unusedVariables false
set_option linter.unusedSimpArgs false
variable {R:dm} {C:gG} {P:Program} {nt:Nat}
def uS.under (n:Nat):uS→Prop
 | .cells _ cs=>∀ x ∈ cs,x.under n=true
 | .map m=>∀ p ∈ m.es,p.2.1.under n=true
 | .obj _ _=>True
structure zu (S0 S S2:St):Prop where
 nx:S2.nx=S0.nx
 H:∀ id b,S2.H.get id=some b→S.H.get id=some b∧live S0 id∧b.under S0.nx
 T:∀ id n,S2.T.get id=some n→S.T.get id=some n∧live S0 id
theorem zm {n:Nat}:∀ {l:List AV},(∀ x ∈ l,x.under n=true)→belows n l=true
 | [],_=>rfl
 | x :: l,h=>by simp only [belows,h x List.mem_cons_self,zm (fun y hy=>h y (List.mem_cons_of_mem _ hy)),Bool.and_self]
theorem vF {n:Nat} {xs:List AV} {vs:List Value} (hl:vs.length=xs.length) (h:∀ (i:Nat) (x:AV) (v:Value),xs[i]? = some x→vs[i]? = some v→x.under n=true):belows n xs=true :=
 zm fun x hx=>by
  obtain ⟨i,hi,rfl⟩:=List.getElem_of_mem hx
  exact h i xs[i] vs[i] (List.getElem?_eq_getElem hi) (List.getElem?_eq_getElem (by omega))
theorem aQ.under {cx:Cx} {S:St} {w:World} {x:AV} {v:Value} (h:aQ cx S w x v):x.under S.nx=true:=by
 have bl:∀ {a b:Nat},a < b→Nat.blt a b=true:=fun h=>Nat.ble_eq_true_of_le h
 induction h with
 | d x v h=>rfl
 | tsl xs tok b off cap hn h hp=>exact bl hn.1
 | ptr id g off b hn hp=>exact bl hn.1
 | msl id g off len lim sz b cap hn hl hcap h63 hp=>exact bl hn.1
 | asl id g off len sz b hn h63 hp=>exact bl hn.1
 | eptr x off b o vs h hc=>rfl
 | map id b hn hp=>exact bl hn.1
 | fn f cs vs hl h ih=>simp only [AV.under]; exact vF hl ih
 | agg xs vs hl ho h ih=>simp only [AV.under]; exact vF hl ih
 | tup xs vs hl h ih=>simp only [AV.under]; exact vF hl ih
 | any v=>rfl
 | it0 k g since st b seen hn hp=>exact bl hn.1
 | it k g id since st b m seen hn hni hm hp=>simp only [AV.under,bl hn.1,bl hni.1,Bool.and_self]
theorem bD.under {cx:Cx} {S:St} {w:World} (h:bD R cx S w) {id:Nat} {b:uS} (hb:S.H.get id=some b):b.under S.nx:=by
 cases b with
 | cells g cs =>
  obtain ⟨_,_,arr,el,_,_,h3⟩:=h.cells id g cs hb
  intro x hx
  obtain ⟨i,hi,rfl⟩:=List.getElem_of_mem hx
  obtain ⟨v,_,h4,_⟩:=h3 i cs[i] (List.getElem?_eq_getElem hi)
  exact h4.under
 | map m =>
  obtain ⟨_,_,ms,clk,_,⟨h2,_,_⟩,h3⟩:=h.maps id m hb
  intro p hp
  obtain ⟨i,hi,rfl⟩:=List.getElem_of_mem hp
  exact (h3 i m.es[i] ms[i] (List.getElem?_eq_getElem hi) (Array.getElem?_eq_getElem (by omega))).2.under
 | obj k x=>trivial
theorem pG {cx:Cx} {S0 S S2:St} {w:World} (h:bD R cx S w) (s:zu S0 S S2) {id g:Nat} (hc:cur S2 id=some g):cur S id=some g:=by
 unfold cur at hc ⊢
 cases hH:AL.get S2.H id with
 | some b =>
  rw [hH] at hc
  rw [(s.H id b hH).1]
  cases b <;> exact hc
 | none =>
  rw [hH] at hc
  simp only at hc
  have hT:=(s.T _ _ hc).1
  cases hS:S.H.get id with
  | some b=>have:=h.tK id b hS; rw [this] at hT; cases hT
  | none=>exact hT
theorem JC {S0 S S2:St} (s:zu S0 S S2) {id:Nat} (hl:live S2 id):live S0 id:=by
 cases hH:AL.get S2.H id with
 | some b=>exact (s.H id b hH).2.1
 | none =>
  cases hT:AL.get S2.T id with
  | none=>exact absurd (by unfold cur; rw [hH]; exact hT) hl
  | some en=>exact (s.T id en hT).2
theorem tV {S0 S S2:St} (s:zu S0 S S2) {k g:Nat} (h:isIt S2 k g):isIt S k g:=(s.H _ _ h).1
theorem xL {cx:Cx} {S0 S S2:St} {w:World} (h:bD R cx S w) (s:zu S0 S S2) {i:Nat} (hi:cur S2 i ≠ none):cur S i ≠ none:=by
 cases hc:cur S2 i with
 | none=>exact absurd hc hi
 | some g=>rw [pG h s hc]; simp
theorem aQ.sub {cx:Cx} {S0 S S2:St} {w:World} (h:bD R cx S w) (s:zu S0 S S2) {x:AV} {v:Value} (hx:aQ cx S w x v) (hu:x.under S0.nx=true):aQ cx S2 w x v:=by
 have nm:∀ {id g:Nat},Names S id g→id < S0.nx→Names S2 id g:=fun hn hlt=>⟨by rw [s.nx]; exact hlt,fun g' hg=>hn.2 g' (pG h s hg)⟩
 induction hx with
 | d x v hd=>exact .d x v hd
 | tsl xs tok b off cap hn hd hp =>
  simp only [AV.under] at hu
  exact .tsl xs tok b off cap (nm hn (Nat.le_of_ble_eq_true hu)) hd (fun hc=>hp (pG h s hc))
 | ptr id g off b hn hp =>
  simp only [AV.under] at hu
  exact .ptr id g off b (nm hn (Nat.le_of_ble_eq_true hu)) (fun hc=>hp (pG h s hc))
 | msl id g off len lim sz b cap hn hl hcap h63 hp =>
  simp only [AV.under] at hu
  exact .msl id g off len lim sz b cap (nm hn (Nat.le_of_ble_eq_true hu)) hl hcap h63 (fun hc=>hp (pG h s hc))
 | any v=>exact .any v
 | eptr x off b o vs hd hc=>exact .eptr x off b o vs hd hc
 | map id b hn hp =>
  simp only [AV.under] at hu
  exact .map id b (nm hn (Nat.le_of_ble_eq_true hu)) (fun hc=>hp (pG h s hc))
 | asl id g off len sz b hn h63 hp =>
  simp only [AV.under] at hu
  exact .asl id g off len sz b (nm hn (Nat.le_of_ble_eq_true hu)) h63 (fun hc=>hp (pG h s hc))
 | fn f cs vs hl hr ih=>exact .fn f cs vs hl (fun i x v hx hv=>ih i x v hx hv (by simp only [AV.under] at hu; exact sO hu x (List.mem_of_getElem? hx)))
 | agg xs vs hl ho hr ih=>exact .agg xs vs hl ho (fun i x v hx hv=>ih i x v hx hv (by simp only [AV.under] at hu; exact sO hu x (List.mem_of_getElem? hx)))
 | tup xs vs hl hr ih=>exact .tup xs vs hl (fun i x v hx hv=>ih i x v hx hv (by simp only [AV.under] at hu; exact sO hu x (List.mem_of_getElem? hx)))
 | it0 k g since st b seen hn hp =>
  simp only [AV.under] at hu
  refine .it0 k g since st b seen (nm hn (Nat.le_of_ble_eq_true hu)) (fun hk=>?_)
  obtain ⟨p1,p2,p3,p4⟩:=hp (tV s hk)
  exact ⟨p1,p2,fun i hi hf=>p3 i (xL h s hi) hf,p4⟩
 | it k g id since st b m seen hn hni hm hp =>
  simp only [AV.under,Bool.and_eq_true] at hu
  refine .it k g id since st b m seen (nm hn (Nat.le_of_ble_eq_true hu.1)) (nm hni (Nat.le_of_ble_eq_true hu.2)) (fun hc=>hm (pG h s hc)) (fun hk=>?_)
  obtain ⟨p1,p2,p3,p4⟩:=hp (tV s hk)
  exact ⟨p1,p2,fun i hi hf=>p3 i (xL h s hi) hf,p4⟩
theorem Ir {cx0 cx:Cx} {S0 S S2:St} {w0 w:World} (wf0:∀ id,live S0 id→id < S0.nx) (h:bD R cx S w) (e:Ext cx0 S0 w0 cx S w) (s:zu S0 S S2) :
  bD R cx S2 w∧Ext cx0 S0 w0 cx S2 w:=by
 have hlS:∀ id,live S2 id→live S id:=fun id hl=>xL h s hl
 refine ⟨⟨fun id hl=>by rw [s.nx]; exact wf0 id (JC s hl),fun id b hi=>?_,fun id g cs hi=>?_,fun id es hi=>?_,fun id k x hi=>?_,fun id en hi=>?_,fun id id' b a1 a2=>h.sep id id' b (hlS id a1) (hlS id' a2),h.lt,h.stat⟩,?_⟩
 ·
  have hS:=(s.H _ _ hi).1
  cases hT:S2.T.get id with
  | none=>rfl
  | some en=>have:=(s.T _ _ hT).1; rw [h.tK id b hS] at this; cases this
 ·
  obtain ⟨hS,_,hbl⟩:=s.H _ _ hi
  obtain ⟨c1,c2,arr,el,c3,c4,c5⟩:=h.cells id g cs hS
  refine ⟨c1,c2,arr,el,c3,c4,fun i x hx=>?_⟩
  obtain ⟨v,v1,v2,v3⟩:=c5 i x hx
  exact ⟨v,v1,v2.sub h s (hbl x (List.mem_of_getElem? hx)),v3⟩
 ·
  obtain ⟨hS,_,hbl⟩:=s.H _ _ hi
  obtain ⟨c1,c2,ms,clk,c3,c4,c5⟩:=h.maps id es hS
  refine ⟨c1,c2,ms,clk,c3,c4,fun i p m hp hm=>?_⟩
  obtain ⟨v1,v2⟩:=c5 i p m hp hm
  exact ⟨v1,v2.sub h s (hbl p (List.mem_of_getElem? hp))⟩
 ·
  exact h.objs id k x (s.H _ _ hi).1
 ·
  exact h.toks id en (s.T _ _ hi).1
 ·
  refine ⟨e.size,e.os,e.tape,e.output,by rw [s.nx]; exact Nat.le_refl _,e.prot,fun b hb hn=>e.other b hb (fun id hl hf=>by
   obtain ⟨q1,g,q2,q3⟩:=hn id hl hf
   exact ⟨q1,g,q2,tV s q3⟩),fun id b hl hf=>?_,fun id g hid hi=>e.back id g hid (tV s hi),fun id g b hid h0 hi hf=>e.keep id g b hid h0 (tV s hi) hf,fun id g hid hg=>e.curs id g hid (pG h s hg)⟩
  exact e.own id b (hlS id hl) hf
structure fq (S S':St):Prop where
 nx:S.nx ≤ S'.nx
 H:∀ id b,S.H.get id=some b→S'.H.get id=some b
 T:∀ id n,S.T.get id=some n→S'.T.get id=some n
theorem fq.refl (S:St):fq S S:=⟨Nat.le_refl _,fun _ _ h=>h,fun _ _ h=>h⟩
theorem fq.trans {S S' S'':St} (a:fq S S') (b:fq S' S''):fq S S'':=⟨Nat.le_trans a.nx b.nx,fun _ _ h=>b.H _ _ (a.H _ _ h),fun _ _ h=>b.T _ _ (a.T _ _ h)⟩
theorem fq.sub {cx:Cx} {S S':St} {w:World} (h:bD R cx S w) (k:fq S S'):zu S S' S where
 nx:=rfl
 H:=fun id b hb=>⟨k.H id b hb,by unfold live cur; rw [hb]; cases b <;> simp,h.under hb⟩
 T:=fun id n hn=>⟨k.T id n hn,by
  unfold live cur
  cases hH:S.H.get id with
  | none=>simp only [hn]; simp
  | some b=>cases b <;> simp⟩
def St.Wf (S:St):Prop:=∀ id,live S id→id < S.nx
theorem St.Wf.H {S:St} (h:S.Wf) {id:Nat} {b:uS} (hb:S.H.get id=some b):id < S.nx:=h id (by unfold live cur; rw [hb]; cases b <;> simp)
theorem St.Wf.fresh {S:St} (h:S.Wf) {id:Nat} (hi:S.nx ≤ id):S.H.get id=none:=by
 cases hb:S.H.get id with
 | none=>rfl
 | some b=>have:=h.H hb; omega
theorem ae.nil {ops:Array Oper} {e:Env} {S:St} {Q:Stp→Prop} (h:Q (.go e S)):ae R C nt ops [] e S Q:=⟨e,.refl e,h⟩
end
end Go.Ev

namespace Go.Ev
noncomputable section
set_option linter.unusedVariables false
set_option linter.unusedSimpArgs false
variable {R:dm} {C:gG} {P:Program} {nt:Nat}
mutual
def D.cn:D→D
 | .aO=>.sl [] false
 | .sl xs _=>.sl (D.Io xs) false
 | .agg xs=>.agg (D.Io xs)
 | .iface t x=>.iface t (D.cn x)
 | x=>x
def D.Io:List D→List D
 | []=>[]
 | x :: xs=>D.cn x :: D.Io xs
end
theorem D.G5:∀ (l:List D),D.Io l=l.map D.cn
 | []=>rfl
 | x :: l=>by rw [D.Io,D.G5 l]; rfl
def oJ (y x:D):Prop:=∀ (w:World) (fr:Nat→Nat→Prop) (v:Value),bT w fr x v→bT w fr y v
theorem oJ.refl (x:D):oJ x x:=fun _ _ _ h=>h
theorem oJ.less {x y:D} (h:oJ y x):Less (.d y) (.d x):=fun cx S w v hr=>.d _ _ (h _ _ _ hr.dd)
inductive mG:List D→List D→Prop
 | nil:mG [] []
 | cons {y x:D} {ys xs:List D} (h:oJ y x) (k:mG ys xs):mG (y :: ys) (x :: xs)
theorem mG.len {ys xs:List D} (h:mG ys xs):ys.length=xs.length:=by
 induction h with
 | nil=>rfl
 | cons _ _ ih=>simp [ih]
theorem mG.get {ys xs:List D} (h:mG ys xs):∀ {i:Nat} {y x:D},ys[i]? = some y→xs[i]? = some x→oJ y x:=by
 induction h with
 | nil=>intro i y x h; simp at h
 | cons h k ih =>
  intro i y x h1 h2
  cases i with
  | zero=>simp at h1 h2; subst h1; subst h2; exact h
  | succ i=>exact ih (by simpa using h1) (by simpa using h2)
theorem mG.refl:∀ (l:List D),mG l l
 | []=>.nil
 | x :: l=>.cons (.refl x) (.refl l)
def aD (args:List AV) (ds:List D):Prop:=∃ ds',nC args=some ds'∧mG ds ds'
def bN (R:dm) (P:Program) (f:Nat) (ds:List D) (v:AV):Prop:=∀ args S,aD args ds→eQ R P f args S (fun r=>r=(none,v,S))
inductive DY:AV→AV→Prop
 | one {y x:D} (h:oJ y x):DY (.d y) (.d x)
 | tup {ys xs:List D} (h:mG ys xs):DY (.tup (ys.map .d)) (.tup (xs.map .d))
theorem DY.rel {y x:AV} (h:DY y x) {cx:Cx} {S:St} {w:World} {v:Value} (hr:aQ cx S w x v):aQ cx S w y v:=by
 cases h with
 | one h=>exact h.less cx S w v hr
 | tup h =>
  cases hr with
  | tup _ us hl hr =>
   refine .tup _ us (by rw [hl]; simp [h.len]) (fun i x z hx hz=>?_)
   simp only [List.getElem?_map,Option.map_eq_some_iff] at hx
   obtain ⟨y,hy,rfl⟩:=hx
   rename_i xs
   have hlt:i < xs.length:=by rw [← h.len]; exact (List.getElem?_eq_some_iff.1 hy).1
   have hx':=List.getElem?_eq_getElem hlt
   exact .d _ _ (h.get hy hx' _ _ _ (hr i (.d xs[i]) z (by simp [hx']) hz).dd)
theorem bN.of_wp (hR:ObjOk R) {f:Nat} {fn:Func} {c:Code} (hf:C.P.funcs[f]? = some fn) (hc:fn.body=some c) (hn:(fn.name == "runtime.NumGoroutine")=false) {ds:List D} (hle:Nat.ble ds.length fn.ntmps=true) {v:AV}
  (h:ax R C.P fn.ntmps c (rf 0 (ds.map .d)) aF (JU C fn (fun r=>r.1=none∧∃ v',wM r.2.1=some v'∧DY v v'))):bN R C.P f ds v:=by
 intro args S ⟨ds',ha,hds⟩
 obtain ⟨d1,d2⟩:=xn ha
 have hlen:ds.length=args.length:=by rw [hds.len,d1]
 have hs:=eQ.of_wp hf hc hn (args:=ds.map .d) (by simpa using Nat.le_of_ble_eq_true hle) h
 refine ⟨hs.1,fun cx w us hS hl hr=>?_⟩
 refine (hs.2 cx w us (D7 hS) (by simp [hl,hlen]) (fun i x u hx hu=>?_)).mono (fun e w' he=>?_)
 ·
  simp only [List.getElem?_map,Option.map_eq_some_iff] at hx
  obtain ⟨y,hy,rfl⟩:=hx
  have hlt:i < args.length:=by rw [← hlen]; exact (List.getElem?_eq_some_iff.1 hy).1
  have ha:=List.getElem?_eq_getElem hlt
  have hz:=List.getElem?_eq_getElem (show i < ds'.length by rw [← hds.len,hlen]; exact hlt)
  exact .d _ u (hds.get hy hz _ _ _ (nR (d2 i _ _ ha hz) (hr i _ u ha hu)))
 ·
  obtain ⟨⟨p,v1,S1⟩,⟨hp,v',hv,hcn⟩,cx1,k1,k2,k3⟩:=he
  simp only at hp hv
  subst hp
  obtain ⟨m1,m2,m3⟩:=BQ hR hS k2
  obtain ⟨u,rfl,k3⟩:=k3
  exact ⟨_,rfl,cx,m1,m2,u,rfl,hcn.rel (zQ hv k3 (cx':=cx) (S':=S) (w':=w') m3)⟩
inductive gm:List AV→List AV→Prop
 | nil:gm [] []
 | cons {y x:AV} {ys xs:List AV} (h:Less y x) (k:gm ys xs):gm (y :: ys) (x :: xs)
theorem gm.len {ys xs:List AV} (h:gm ys xs):ys.length=xs.length:=by
 induction h with
 | nil=>rfl
 | cons _ _ ih=>simp [ih]
theorem gm.get {ys xs:List AV} (h:gm ys xs):∀ {i:Nat} {y x:AV},ys[i]? = some y→xs[i]? = some x→Less y x:=by
 induction h with
 | nil=>intro i y x h; simp at h
 | cons h k ih =>
  intro i y x h1 h2
  cases i with
  | zero=>simp at h1 h2; subst h1; subst h2; exact h
  | succ i=>exact ih (by simpa using h1) (by simpa using h2)
theorem gm.refl:∀ (l:List AV),gm l l
 | []=>.nil
 | x :: l=>.cons (.refl x) (.refl l)
inductive dI where
 | box (id:Nat) (cs:List AV)
 | grow (v:AV) (xs:List D)
 | obj (id k:Nat) (x:D)
 | map (id:Nat) (m:xO)
 | row (sz:Nat) (v:AV) (xs:List D)
 | abs (ids:List Nat) (p:St→Prop)
def jQ:List D→Bool
 | []=>true
 | x :: l=>!x.isAgg && jQ l
def dI.fp:dI→List Nat
 | .box id _=>[id]
 | .grow (.tsl _ tok) _=>[tok]
 | .grow _ _=>[]
 | .obj id _ _=>[id]
 | .map id _=>[id]
 | .row _ (.msl id _ _ _ _ _) _=>[id]
 | .row _ _ _=>[]
 | .abs ids _=>ids
def dI.ok (S:St):dI→Prop
 | .box id cs=>S.H.get id=some (.cells 0 cs)
 | .grow v xs=>match v with
  | .d .aO=>xs=[]
  | .d (.sl ys true)=>ys=xs
  | .tsl ys tok=>ys=xs∧xs ≠ []∧S.T.get tok=some xs.length∧S.H.get tok=none
  | _=>False
 | .obj id k x=>S.H.get id=some (.obj k x)
 | .map id m=>S.H.get id=some (.map m)
 | .row sz v xs=>match v with
  | .d .aO=>xs=[]
  | .d (.sl [] true)=>xs=[]
  | .msl id g off len lim sz'=>off=0∧len=xs.length∧lim=xs.length∧sz'=sz∧0 < sz∧(∀ x ∈ xs,x.cells.length=sz∧jQ x.cells=true)∧∃ cs,gm ((xs.map D.cells).flatten.map .d) cs∧S.H.get id=some (.cells g cs)
  | _=>False
 | .abs ids p=>(∀ id ∈ ids,∃ b,S.H.get id=some b)∧∀ S',(∀ id ∈ ids,S'.H.get id=S.H.get id)→p S'
structure Has (B S:St) (l:List dI):Prop where
 wf:S.Wf
 ok:∀ a ∈ l,a.ok S
 nd:(l.map dI.fp).flatten.Nodup
 bwf:B.Wf
 keeps:fq B S
 out:∀ a ∈ l,∀ id ∈ a.fp,B.H.get id=none∧B.T.get id=none
theorem Av {S:St} {id n:Nat} (h:S.T.get id=some n):live S id:=by
 unfold live cur
 cases hH:S.H.get id with
 | none=>simp only [h]; simp
 | some b=>cases b <;> simp
theorem qD {S:St} {id:Nat} {b:uS} (h:S.H.get id=some b):live S id:=by
 unfold live cur; rw [h]; cases b <;> simp
theorem dI.lt {S:St} (wf:S.Wf) {a:dI} (h:a.ok S):∀ id ∈ a.fp,id < S.nx:=by
 intro id hid
 cases a with
 | box i cs=>simp only [dI.fp,List.mem_singleton] at hid; subst hid; exact wf _ (qD h)
 | grow v xs =>
  cases v <;> simp only [dI.fp,List.not_mem_nil,List.mem_singleton] at hid
  subst hid
  exact wf _ (Av h.2.2.1)
 | obj i k x=>simp only [dI.fp,List.mem_singleton] at hid; subst hid; exact wf _ (qD h)
 | map i m=>simp only [dI.fp,List.mem_singleton] at hid; subst hid; exact wf _ (qD h)
 | row sz v xs =>
  cases v <;> simp only [dI.fp,List.not_mem_nil,List.mem_singleton] at hid
  subst hid
  obtain ⟨_,_,hc⟩:=h.2.2.2.2.2.2; exact wf _ (qD hc)
 | abs ids p =>
  obtain ⟨b,hb⟩:=h.1 id hid
  exact wf _ (qD hb)
theorem dI.keep {S S':St} {a:dI} (h:a.ok S) (hH:∀ id ∈ a.fp,S'.H.get id=S.H.get id) (hT:∀ id ∈ a.fp,S'.T.get id=S.T.get id):a.ok S':=by
 cases a with
 | box i cs=>simp only [dI.ok] at h ⊢; rw [hH i (by simp [dI.fp])]; exact h
 | grow v xs =>
  cases v with
  | tsl ys tok=>simp only [dI.ok] at h ⊢; rw [hH tok (by simp [dI.fp]),hT tok (by simp [dI.fp])]; exact h
  | d x=>cases x with
   | sl ys t=>cases t <;> exact h
   | _=>exact h
  | _=>exact h
 | obj i k x=>simp only [dI.ok] at h ⊢; rw [hH i (by simp [dI.fp])]; exact h
 | map i m=>simp only [dI.ok] at h ⊢; rw [hH i (by simp [dI.fp])]; exact h
 | row sz v xs =>
  cases v with
  | msl id g off len lim sz=>simp only [dI.ok] at h ⊢; rw [hH id (by simp [dI.fp])]; exact h
  | d x=>cases x with
   | sl ys t=>cases ys <;> cases t <;> exact h
   | _=>exact h
  | _=>exact h
 | abs ids p=>exact ⟨fun id hid=>by rw [hH id hid]; exact h.1 id hid,fun S2 h2=>h.2 S2 (fun id hid=>(h2 id hid).trans (hH id hid))⟩
theorem dI.NF {S S':St} {ids:List Nat} {p:St→Prop} (h:(dI.abs ids p).ok S) (k:∀ id b,id ∈ ids→S.H.get id=some b→S'.H.get id=some b):(dI.abs ids p).ok S' :=
 have e:∀ id ∈ ids,S'.H.get id=S.H.get id:=fun id hid=>by obtain ⟨b,hb⟩:=h.1 id hid; rw [k id b hid hb,hb]
 ⟨fun id hid=>by rw [e id hid]; exact h.1 id hid,fun S2 h2=>h.2 S2 (fun id hid=>(h2 id hid).trans (e id hid))⟩
theorem Has.start {S:St} (wf:S.Wf):Has S S []:=⟨wf,(fun a h=>by cases h),by simp,wf,.refl S,(fun a h=>by cases h)⟩
theorem Has.pure:Has aF aF []:=.start fun id h=>absurd rfl h
theorem J9 {α β:Type} (f:α→List β) {l' l:List α} (s:l'.Sublist l):(l'.map f).flatten.Sublist (l.map f).flatten:=by
 induction s with
 | slnil=>exact List.Sublist.refl _
 | cons a _ ih=>exact ih.trans (by simp)
 | cons_cons a _ ih=>simpa using ih.append_left (f a)
theorem Has.new {B S:St} {l:List dI} (h:Has B S l) (b:uS) {a:dI} (hf:a.fp=[S.nx]) (ha:a.ok (bZ S b)):Has B (bZ S b) (a :: l):=by
 have hlt:∀ x ∈ l,∀ id ∈ x.fp,id < S.nx:=fun x hx=>dI.lt h.wf (h.ok x hx)
 refine ⟨fun id hl=>?_,fun x hx=>?_,?_,h.bwf,⟨Nat.le_trans h.keeps.nx (Nat.le_succ _),fun id b' hb'=>?_,fun id n hn=>h.keeps.T id n hn⟩,fun x hx id hid=>?_⟩
 rotate_left 3
 ·
  have:=h.bwf.H hb'
  have:=h.keeps.nx
  simp only [bZ,AL.bq]
  rw [if_neg (by omega)]; exact h.keeps.H id b' hb'
 ·
  rcases List.mem_cons.1 hx with rfl | hx
  ·
   rw [hf,List.mem_singleton] at hid
   subst hid
   have hnl:¬ live B S.nx:=fun hl=>by have:=h.bwf _ hl; have:=h.keeps.nx; omega
   refine ⟨?_,?_⟩
   ·
    cases hB:B.H.get S.nx with
    | none=>rfl
    | some b'=>exact (hnl (qD hB)).elim
   ·
    cases hB:B.T.get S.nx with
    | none=>rfl
    | some b'=>exact (hnl (Av hB)).elim
  ·
   exact h.out x hx id hid
 ·
  show id < S.nx + 1
  unfold live cur at hl
  simp only [bZ,AL.bq] at hl
  by_cases hi:S.nx=id
  ·
   omega
  ·
   rw [if_neg hi] at hl
   have:=h.wf id hl
   omega
 ·
  rcases List.mem_cons.1 hx with rfl | hx
  ·
   exact ha
  ·
   refine dI.keep (h.ok x hx) (fun id hid=>?_) (fun id hid=>rfl)
   have:=hlt x hx id hid
   simp only [bZ,AL.bq]
   rw [if_neg (by omega)]
 ·
  rw [List.map_cons,List.flatten_cons,hf,List.singleton_append,List.nodup_cons]
  refine ⟨fun hm=>?_,h.nd⟩
  obtain ⟨KQ,hfps,hid⟩:=List.mem_flatten.1 hm
  obtain ⟨x,hx,rfl⟩:=List.mem_map.1 hfps
  have:=hlt x hx _ hid
  omega
theorem Has.box {B S:St} {l:List dI} (h:Has B S l) (cs:List AV):Has B (bZ S (.cells 0 cs)) (.box S.nx cs :: l) :=
 h.new _ rfl (by simp [dI.ok,bZ,AL.bq])
theorem Has.Dq {B S:St} {l:List dI} (h:Has B S l):AL.has S.H S.nx=false:=by
 cases hb:AL.has S.H S.nx with
 | false=>rfl
 | true =>
  obtain ⟨b,hb⟩:=AL.Ap hb
  have:=h.wf _ (qD hb)
  omega
theorem zt {l:List dI} (hn:(l.map dI.fp).flatten.Nodup) {i j:Nat} {a b:dI} (ha:l[i]? = some a) (hb:l[j]? = some b) (hij:i ≠ j) {id:Nat} (h1:id ∈ a.fp) (h2:id ∈ b.fp):False:=by
 induction l generalizing i j with
 | nil=>simp at ha
 | cons x l ih =>
  rw [List.map_cons,List.flatten_cons,List.nodup_append] at hn
  obtain ⟨n1,n2,n3⟩:=hn
  cases i with
  | zero =>
   cases j with
   | zero=>exact hij rfl
   | succ j =>
    simp only [List.getElem?_cons_zero,Option.some.injEq] at ha
    subst ha
    simp only [List.getElem?_cons_succ] at hb
    exact n3 id h1 id (List.mem_flatten.2 ⟨_,List.mem_map.2 ⟨b,List.mem_of_getElem? hb,rfl⟩,h2⟩) rfl
  | succ i =>
   simp only [List.getElem?_cons_succ] at ha
   cases j with
   | zero =>
    simp only [List.getElem?_cons_zero,Option.some.injEq] at hb
    subst hb
    exact n3 id h2 id (List.mem_flatten.2 ⟨_,List.mem_map.2 ⟨a,List.mem_of_getElem? ha,rfl⟩,h1⟩) rfl
   | succ j =>
    simp only [List.getElem?_cons_succ] at hb
    exact ih n2 ha hb (by omega)
theorem Has.set {B S S':St} {l:List dI} (h:Has B S l) {i:Nat} {a a':dI} (hi:l[i]? = some a) (hf:a'.fp=a.fp) (ha:a'.ok S') (wf:S'.Wf)
  (hH:∀ id,id ∉ a.fp→S'.H.get id=S.H.get id) (hT:∀ id,id ∉ a.fp→S'.T.get id=S.T.get id) (hnx:S'.nx=S.nx):Has B S' (l.set i a'):=by
 have hil:i < l.length:=(List.getElem?_eq_some_iff.1 hi).1
 have hma:=List.mem_of_getElem? hi
 refine ⟨wf,fun x hx=>?_,?_,h.bwf,⟨by rw [hnx]; exact h.keeps.nx,fun id b hb=>?_,fun id n hn=>?_⟩,fun x hx id hid=>?_⟩
 rotate_left 2
 ·
  rw [hH id (fun q=>by rw [(h.out a hma id q).1] at hb; cases hb)]; exact h.keeps.H id b hb
 ·
  rw [hT id (fun q=>by rw [(h.out a hma id q).2] at hn; cases hn)]; exact h.keeps.T id n hn
 ·
  rcases List.mem_or_eq_of_mem_set hx with hx | rfl
  ·
   exact h.out x hx id hid
  ·
   rw [hf] at hid; exact h.out a hma id hid
 ·
  obtain ⟨j,hj,rfl⟩:=List.getElem_of_mem hx
  rw [List.length_set] at hj
  by_cases hij:i=j
  ·
   subst hij; rw [List.getElem_set_self]; exact ha
  ·
   rw [List.getElem_set_ne hij]
   have hlj:l[j]? = some l[j]:=List.getElem?_eq_getElem hj
   refine dI.keep (h.ok l[j] (List.getElem_mem hj)) (fun id hid=>hH id (fun q=>zt h.nd hi hlj hij q hid)) (fun id hid=>hT id (fun q=>zt h.nd hi hlj hij q hid))
 ·
  have:(l.set i a').map dI.fp=l.map dI.fp:=by
   apply List.ext_getElem?
   intro j
   rw [List.getElem?_map,List.getElem?_map,List.getElem?_set]
   by_cases hij:i=j
   ·
    subst hij; have:=(List.getElem?_eq_some_iff.1 hi).2; simp [hil,hf,this]
   ·
    simp [hij]
  rw [this]; exact h.nd
theorem Has.at {B S:St} {l:List dI} (h:Has B S l) {i:Nat} {a:dI} (hi:l[i]? = some a):a.ok S:=h.ok a (List.mem_of_getElem? hi)
theorem Has.write {B S:St} {l:List dI} (h:Has B S l) {i id:Nat} {cs cs':List AV} (hi:l[i]? = some (.box id cs)):Has B { S with H:=S.H.set id (.cells 0 cs') } (l.set i (.box id cs')):=by
 have hid:=h.at hi
 refine h.set hi rfl (by simp [dI.ok,AL.bq]) (fun j hl=>?_) (fun j hj=>?_) (fun j hj=>rfl) rfl
 ·
  refine h.wf j ?_
  unfold live cur at hl ⊢
  simp only [AL.bq] at hl
  by_cases hij:id=j
  ·
   subst hij; rw [show S.H.get id=_ from hid]; simp
  ·
   rw [if_neg hij] at hl; exact hl
 ·
  simp only [dI.fp,List.mem_singleton] at hj
  simp only [AL.bq]
  rw [if_neg (fun q=>hj q.symm)]
end
end Go.Ev

namespace Go.Ev
noncomputable section
set_option linter.unusedVariables false
set_option linter.unusedSimpArgs false
variable {R:dm} {C:gG} {P:Program} {nt:Nat}
def og:Option uS→Option uS→Prop
 | some (.cells g' cs'),some (.cells g cs)=>g'=g∧gm cs' cs
 | a,b=>a=b
theorem og.refl (a:Option uS):og a a:=by
 cases a with
 | none=>rfl
 | some b=>cases b with
  | cells g cs=>exact ⟨rfl,.refl _⟩
  | map m=>rfl
  | obj k x=>rfl
structure lT (S2 S:St):Prop where
 nx:S2.nx=S.nx
 T:∀ id,S2.T.get id=S.T.get id
 H:∀ id,og (S2.H.get id) (S.H.get id)
theorem og.cases {a b:Option uS} (h:og a b):a=b∨∃ g cs' cs,a=some (.cells g cs')∧b=some (.cells g cs)∧gm cs' cs:=by
 unfold og at h
 split at h
 ·
  obtain ⟨rfl,h⟩:=h; exact .inr ⟨_,_,_,rfl,rfl,h⟩
 ·
  exact .inl h
theorem lT.cur {S2 S:St} (k:lT S2 S) (id:Nat):cur S2 id=cur S id:=by
 unfold Ev.cur
 rcases (k.H id).cases with h | ⟨g,cs',cs,h1,h2,_⟩
 ·
  rw [h,k.T]
 ·
  rw [h1,h2]
theorem lT.isIt {S2 S:St} (k:lT S2 S) {id g:Nat}:isIt S2 id g↔isIt S id g:=by
 unfold Ev.isIt
 rcases (k.H id).cases with h | ⟨g,cs',cs,h1,h2,_⟩
 ·
  rw [h]
 ·
  rw [h1,h2]; simp
theorem lT.live {S2 S:St} (k:lT S2 S) {id:Nat}:live S2 id↔live S id:=by unfold Ev.live; rw [k.cur]
theorem lT.refl (S:St):lT S S:=⟨rfl,fun _=>rfl,fun _=>og.refl _⟩
theorem aQ.jk {cx:Cx} {S2 S:St} {w:World} (k:lT S2 S) {x:AV} {v:Value} (h:aQ cx S w x v):aQ cx S2 w x v:=by
 have nm:∀ {id g:Nat},Names S id g→Names S2 id g:=fun h=>⟨by rw [k.nx]; exact h.1,fun g' hg=>h.2 g' (by rw [← k.cur]; exact hg)⟩
 have cr:∀ {id:Nat} {o:Option Nat},cur S2 id=o→cur S id=o:=fun h=>by rw [← k.cur]; exact h
 induction h with
 | d x v hd=>exact .d x v hd
 | tsl xs tok b off cap hn hd hp=>exact .tsl xs tok b off cap (nm hn) hd (fun hc=>hp (cr hc))
 | ptr id g off b hn hp=>exact .ptr id g off b (nm hn) (fun hc=>hp (cr hc))
 | msl id g off len lim sz b cap hn hl hcap h63 hp=>exact .msl id g off len lim sz b cap (nm hn) hl hcap h63 (fun hc=>hp (cr hc))
 | any v=>exact .any v
 | eptr x off b o vs hd hc=>exact .eptr x off b o vs hd hc
 | map id b hn hp=>exact .map id b (nm hn) (fun hc=>hp (cr hc))
 | asl id g off len sz b hn h63 hp=>exact .asl id g off len sz b (nm hn) h63 (fun hc=>hp (cr hc))
 | fn f cs vs hl hr ih=>exact .fn f cs vs hl ih
 | agg xs vs hl ho hr ih=>exact .agg xs vs hl ho ih
 | tup xs vs hl hr ih=>exact .tup xs vs hl ih
 | it0 k' g since st b seen hn hp =>
  exact .it0 k' g since st b seen (nm hn) (fun hk=>by
   obtain ⟨p1,p2,p3,p4⟩:=hp (k.isIt.1 hk)
   exact ⟨p1,p2,fun i hi hf=>p3 i (by rw [← k.cur]; exact hi) hf,p4⟩)
 | it k' g id since st b m seen hn hni hm hp =>
  exact .it k' g id since st b m seen (nm hn) (nm hni) (fun hc=>hm (cr hc)) (fun hk=>by
   obtain ⟨p1,p2,p3,p4⟩:=hp (k.isIt.1 hk)
   exact ⟨p1,p2,fun i hi hf=>p3 i (by rw [← k.cur]; exact hi) hf,p4⟩)
theorem bD.jk {cx:Cx} {S2 S:St} {w:World} (h:bD R cx S w) (k:lT S2 S):bD R cx S2 w where
 wf:=fun id hl=>by rw [k.nx]; exact h.wf id (k.live.1 hl)
 tK:=fun id b hb=>by
  rw [k.T]
  rcases (k.H id).cases with q | ⟨g,cs',cs,h1,h2,_⟩
  ·
   rw [q] at hb; exact h.tK id b hb
  ·
   exact h.tK id _ h2
 cells:=fun id g cs hb=>by
  rcases (k.H id).cases with q | ⟨g',cs',ds,h1,h2,h3⟩
  ·
   rw [q] at hb
   obtain ⟨c1,c2,arr,el,c3,c4,c5⟩:=h.cells id g cs hb
   refine ⟨c1,c2,arr,el,c3,c4,fun i x hx=>?_⟩
   obtain ⟨v,v1,v2,v3⟩:=c5 i x hx
   exact ⟨v,v1,v2.jk k,v3⟩
  ·
   rw [h1] at hb; cases hb
   obtain ⟨c1,c2,arr,el,c3,c4,c5⟩:=h.cells id _ ds h2
   refine ⟨c1,c2,arr,el,c3,by rw [h3.len]; exact c4,fun i x hx=>?_⟩
   have hlt:i < ds.length:=by rw [← h3.len]; exact (List.getElem?_eq_some_iff.1 hx).1
   have hy:=List.getElem?_eq_getElem hlt
   obtain ⟨v,v1,v2,v3⟩:=c5 i _ hy
   exact ⟨v,v1,(h3.get hx hy _ _ _ _ v2).jk k,v3⟩
 maps:=fun id es hb=>by
  rcases (k.H id).cases with q | ⟨g',cs',ds,h1,h2,h3⟩
  ·
   rw [q] at hb
   obtain ⟨c1,c2,ms,clk,c3,c4,c5⟩:=h.maps id es hb
   refine ⟨c1,c2,ms,clk,c3,c4,fun i p m hp hm=>?_⟩
   obtain ⟨v1,v2⟩:=c5 i p m hp hm
   exact ⟨v1,v2.jk k⟩
  ·
   rw [h1] at hb; cases hb
 objs:=fun id kd x hb=>by
  rcases (k.H id).cases with q | ⟨g',cs',ds,h1,h2,h3⟩
  ·
   rw [q] at hb; exact h.objs id kd x hb
  ·
   rw [h1] at hb; cases hb
 toks:=fun id en hb=>h.toks id en (by rw [← k.T]; exact hb)
 sep:=fun id id' b a1 a2=>h.sep id id' b (k.live.1 a1) (k.live.1 a2)
 lt:=h.lt
 stat:=h.stat
theorem Ext.jk {cx cx':Cx} {S2 S S':St} {w w':World} (k:lT S2 S) (e:Ext cx S2 w cx' S' w'):Ext cx S w cx' S' w' where
 size:=e.size
 os:=e.os
 tape:=e.tape
 output:=e.output
 nx:=by rw [← k.nx]; exact e.nx
 prot:=e.prot
 other:=fun b hb hn=>e.other b hb (fun id hl hf=>by
  obtain ⟨q1,g,q2,q3⟩:=hn id (k.live.1 hl) hf
  exact ⟨by rw [k.nx]; exact q1,g,k.isIt.2 q2,q3⟩)
 own:=fun id b hl hf=>by
  obtain ⟨q1,q2⟩:=e.own id b hl hf
  rw [k.nx] at q1 q2
  exact ⟨fun h=>⟨k.live.1 (q1 h).1,(q1 h).2⟩,q2⟩
 back:=fun id g hid hi=>by
  obtain ⟨g',h⟩:=e.back id g (by rw [k.nx]; exact hid) hi
  exact ⟨g',k.isIt.1 h⟩
 keep:=fun id g b hid h0 hi hf=>e.keep id g b (by rw [k.nx]; exact hid) (k.isIt.2 h0) hi hf
 curs:=fun id g hid hg=>by
  obtain ⟨g0,h0,h1⟩:=e.curs id g (by rw [k.nx]; exact hid) hg
  exact ⟨g0,by rw [← k.cur]; exact h0,h1⟩
theorem Fin.jk {cx:Cx} {S2 S:St} {w:World} {a:Act} {K:Exit→Act→World→Prop} (k:lT S2 S) {r:vN} (h:Fin R cx S w nt a K r):Fin R cx S2 w nt a K r:=by
 obtain ⟨x,e,S'⟩:=r
 cases x with
 | normal=>exact fun cx' a' w' q1 q2 q3 q4=>h cx' a' w' q1 (q2.jk k) q3 q4
 | exit id=>exact fun cx' a' w' q1 q2 q3 q4=>h cx' a' w' q1 (q2.jk k) q3 q4
 | ret=>exact fun cx' a' w' q1 q2 q3 q4=>h cx' a' w' q1 (q2.jk k) q3 q4
 | panic v=>exact fun cx' a' w' u q1 q2 q3 q4=>h cx' a' w' u q1 (q2.jk k) q3 q4
theorem jo.jk {cx:Cx} {S2 S:St} {w:World} {e:Env} {a:Act} (k:lT S2 S) (h:jo cx S w nt e a):jo cx S2 w nt e a :=
 ⟨h.size,fun t x hx=>let ⟨v,v1,v2⟩:=h.rel t x hx; ⟨v,v1,v2.jk k⟩⟩
theorem ax.jk {c:Code} {e:Env} {S2 S:St} {Q:vN→Prop} (k:lT S2 S) (h:ax R P nt c e S2 Q):ax R P nt c e S Q :=
 fun cx w a K h1 h2 h3=>h cx w a K (h1.jk k) (h2.jk k) (fun r q=>(h3 r q).jk k)
theorem nz.jk {c:Code} {e:Env} {S2 S:St} {Q:vN→Prop} (k:lT S2 S) (h:nz R P nt c e S2 Q):nz R P nt c e S Q :=
 fun cx w a K h1 h2 h3=>h cx w a K (h1.jk k) (h2.jk k) (fun r q=>(h3 r q).jk k)
theorem Has.Hf {B S:St} {l:List dI} (h:Has B S l) {i id:Nat} {cs cs':List AV} (hi:l[i]? = some (.box id cs)) (hl:gm cs' cs):∃ S2,lT S2 S∧Has B S2 (l.set i (.box id cs')):=by
 refine ⟨{ S with H:=S.H.set id (.cells 0 cs') },⟨rfl,fun _=>rfl,fun j=>?_⟩,h.write hi⟩
 simp only [AL.bq]
 by_cases hj:id=j
 ·
  subst hj
  have:S.H.get id=some (.cells 0 cs):=h.at hi
  rw [if_pos rfl,this]; exact ⟨rfl,hl⟩
 ·
  rw [if_neg hj]; exact og.refl _
theorem ax.ghost {c:Code} {e e2:Env} {S S2:St} {Q:vN→Prop} (g:o7 R nt e S e2 S2) (h:ax R P nt c e2 S2 Q):ax R P nt c e S Q:=fun cx w a K h1 h2 h3=>by
 obtain ⟨c2,q1,q2,q3⟩:=g cx w a h1 h2
 exact h c2 w a K q1 q3 (fun r q=>(h3 r q).trans q2 rfl)
theorem nz.ghost {c:Code} {e e2:Env} {S S2:St} {Q:vN→Prop} (g:o7 R nt e S e2 S2) (h:nz R P nt c e2 S2 Q):nz R P nt c e S Q:=fun cx w a K h1 h2 h3=>by
 obtain ⟨c2,q1,q2,q3⟩:=g cx w a h1 h2
 exact h c2 w a K q1 q3 (fun r q=>(h3 r q).trans q2 rfl)
end
end Go.Ev

namespace Go.Ev
noncomputable section
set_option linter.unusedVariables false
set_option linter.unusedSimpArgs false
variable {B:St}
section steps
variable {R:dm} {C:gG} {nt:Nat} {ops:Array Oper} {rest:List Oper} {e:Env} {S S':St} {Q:Stp→Prop} {l l':List dI} {t ty:Nat} {p:String} {af:Array Edge} {g:Option (Nat × Bool)}
theorem ae.one {o:Oper} (hw:bV ops e o=some true) (h:ET R C nt o.dst o.op e S (fun r=>match r with
  | .go e' S'=>ae R C nt ops rest e' S' Q
  | .stop v S'=>Q (.stop v S'))):ae R C nt ops (o :: rest) e S Q:=⟨e,S,.refl e S,.inr (.inl ⟨e,.refl e,hw,h⟩)⟩
theorem ae.val {op:Op} {v:AV} (hw:bV ops e { dst:=some t,op:=op,type:=ty,pos:=p,after:=af,guard:=g }=some true) (ho:oper C (dB e) S op=some (.val v S')) (ht:Nat.blt t nt=true) (k:ae R C nt ops rest ((t,v) :: e) S' Q) :
  ae R C nt ops ({ dst:=some t,op:=op,type:=ty,pos:=p,after:=af,guard:=g } :: rest) e S Q :=
 ae.one hw (.inl ⟨v,S',_,ho,by simp only [Env.put,ht,cond_true],k⟩)
theorem ae.skip {op:Op} (hw:bV ops e { dst:=none,op:=op,type:=ty,pos:=p,after:=af,guard:=g }=some true) (ho:oper C (dB e) S op=some (.skip S')) (k:ae R C nt ops rest e S' Q) :
  ae R C nt ops ({ dst:=none,op:=op,type:=ty,pos:=p,after:=af,guard:=g } :: rest) e S Q :=
 ae.one hw (.inr (.inl ⟨S',ho,rfl,k⟩))
theorem ae.ret {op:Op} {f:Nat} {args:List AV} {v:AV} (hw:bV ops e { dst:=some t,op:=op,type:=ty,pos:=p,after:=af,guard:=g }=some true) (ho:oper C (dB e) S op=some (.call f args)) (hs:eQ R C.P f args S (fun r=>r=(none,v,S'))) (ht:Nat.blt t nt=true) (k:ae R C nt ops rest ((t,v) :: e) S' Q) :
  ae R C nt ops ({ dst:=some t,op:=op,type:=ty,pos:=p,after:=af,guard:=g } :: rest) e S Q :=
 ae.one hw (.inr (.inr (.inl ⟨f,args,ho,hs.mono fun r hr=>by subst hr; exact ⟨_,by simp only [Env.put,ht,cond_true],k⟩⟩)))
theorem ae.Ao {t1 ty1 el:Nat} {x y:Operand} {xs:List D} {b:Bool} (hw:bV ops e { dst:=some t,op:=.binOp .eql t1 x y ty1,type:=ty,pos:=p,after:=af,guard:=g }=some true) (hx:dB e x=some (.d (.sl xs b))) (hy:dB e y=some (.d .aO)) (hu:C.P.underlying t1=some (.slice el)) (ht:Nat.blt t nt=true)
  (k:∀ bb:Bool,(bb=true→xs=[])→ae R C nt ops rest ((t,.d (.bool bb)) :: e) S Q) :
  ae R C nt ops ({ dst:=some t,op:=.binOp .eql t1 x y ty1,type:=ty,pos:=p,after:=af,guard:=g } :: rest) e S Q :=
 ae.one hw (.inr (.inr (.inr ⟨t1,x,y,ty1,xs,b,el,rfl,hx,hy,hu,fun bb hb=>⟨_,by simp only [Env.put,ht,cond_true],k bb hb⟩⟩)))
theorem ae.no {op:Op} (hw:bV ops e { dst:=some t,op:=op,type:=ty,pos:=p,after:=af,guard:=g }=some false) (ht:Nat.blt t nt=true)
  (k:ae R C nt ops rest ((t,.tup []) :: e) S Q) :
  ae R C nt ops ({ dst:=some t,op:=op,type:=ty,pos:=p,after:=af,guard:=g } :: rest) e S Q :=
 ⟨e,S,.refl e S,.inr (.inr (.inl ⟨e,_,.refl e,hw,(by simp only [Env.put,ht,cond_true]),k⟩))⟩
theorem ae.app:∀ (l1:List Oper) {l2:List Oper} {e:Env} {S:St} {Q:Stp→Prop},ae R C nt ops l1 e S (fun r=>match r with | .go e' S'=>ae R C nt ops l2 e' S' Q | .stop v S'=>Q (.stop v S'))→ae R C nt ops (l1 ++ l2) e S Q
 | [],l2,e,S,Q,⟨e2,hs,h⟩=>ae.weak hs h
 | o :: l1,l2,e,S,Q,⟨e2,S2,hs,h⟩=>⟨e2,S2,hs,h.mono fun r hr=>by
   cases r with
   | go e' S'=>exact ae.app l1 hr
   | stop v S'=>exact hr⟩
theorem ae.mono:∀ {L:List Oper} {e:Env} {S:St} {Q Q':Stp→Prop},ae R C nt ops L e S Q→(∀ r,Q r→Q' r)→ae R C nt ops L e S Q'
 | [],e,S,Q,Q',⟨e2,hs,h⟩,hq=>⟨e2,hs,hq _ h⟩
 | o :: l1,e,S,Q,Q',⟨e2,S2,hs,h⟩,hq=>⟨e2,S2,hs,h.mono fun r hr=>by
   cases r with
   | go e' S'=>exact ae.mono hr hq
   | stop v S'=>exact hq _ hr⟩
end steps
section opers
variable {C:gG} {e:Env} {ρ:Operand→Option AV} {S:St} {l l':List dI} {v:AV} {x y:Operand} {t:Nat}
theorem aj (h:ρ x=some v):oper C ρ S (.assign x)=some (.val v S):=by simp only [oper,h,Option.map_some]
theorem ah (h:ρ x=some v):oper C ρ S (.move x)=some (.val v S):=by simp only [oper,h,Option.map_some]
theorem az {c:Operand} {b:Bool} (hc:ρ c=some (.d (.bool b))) (h:ρ (if b then x else y)=some v):oper C ρ S (.pick c x y)=some (.val v S):=by simp only [oper,hc,h,Option.map_some]
theorem IZ (H:Has B S l) {cs:List AV} (h:ρ x=some v) (hp:v.plain=true) (hc:v.cells=cs):oper C ρ S (.box t x)=some (.val (.ptr S.nx 0 0) (bZ S (.cells 0 cs))):=by
 subst hc
 simp only [oper,h,hp,if_true,H.Dq,cond_false]; rfl
theorem zn (H:Has B S l) {z:D} {cs:List AV} (ho:C.objT t=none) (hz:zeroOf C.P t=some z) (hc:(AV.d z).cells=cs):oper C ρ S (.alloc t)=some (.val (.ptr S.nx 0 0) (bZ S (.cells 0 cs))):=by
 subst hc
 simp only [oper,ho,hz,Option.map_some,H.Dq,cond_false]; rfl
theorem ai {s fld id g off fo ft o':Nat} (h:ρ x=some (.ptr id g off)) (hf:bQ C.P s fld=some (fo,ft)) (hz:Nat.beq (aL C.P ft) 0=false) (ho:off + fo=o'):oper C ρ S (.fieldAddr s x fld)=some (.val (.ptr id g o') S):=by
 subst ho
 simp only [oper,h,hf]
 rw [if_neg (fun q=>by rw [q] at hz; simp at hz)]
theorem kD {s fld off fo ft o':Nat} {d:D} (h:ρ x=some (.eptr d off)) (hf:bQ C.P s fld=some (fo,ft)) (hz:Nat.beq (aL C.P ft) 0=false) (ho:off + fo=o'):oper C ρ S (.fieldAddr s x fld)=some (.val (.eptr d o') S):=by
 subst ho
 simp only [oper,h,hf]
 rw [if_neg (fun q=>by rw [q] at hz; simp at hz)]
theorem aA {P:Program} {cs:List AV} {off:Nat} (ha:eO P t=some false) (h:cs[off]? = some v):part P t cs off=some v:=by simp only [part,ha,h]
theorem aZ {P:Program} {cs:List AV} {off n:Nat} (ha:eO P t=some true) (hz:aL P t=n) (hl:Nat.ble (off + n) cs.length=true):part P t cs off=some (iY ((cs.drop off).take n)):=by
 subst hz
 simp only [part,ha]; rw [if_pos (Nat.le_of_ble_eq_true hl)]
theorem dL {P:Program} {cs:List D} {off:Nat} {d:D} (ha:eO P t=some false) (h:cs[off]? = some d):iR P t cs off=some d:=by simp only [iR,ha,h]
theorem lF {P:Program} {cs:List D} {off n:Nat} (ha:eO P t=some true) (hz:aL P t=n) (hl:Nat.ble (off + n) cs.length=true):iR P t cs off=some (.agg ((cs.drop off).take n)):=by
 subst hz
 simp only [iR,ha]; rw [if_pos (Nat.le_of_ble_eq_true hl)]
theorem av (H:Has B S l) {i id off:Nat} {cs:List AV} (h:ρ x=some (.ptr id 0 off)) (hi:l[i]? = some (.box id cs)) (hp:part C.P t cs off=some v):oper C ρ S (.load t x)=some (.val v S):=by
 have hb:S.H.get id=some (.cells 0 cs):=H.at hi
 simp only [oper,h,oQ,St.look,hb,Nat.beq_refl,cond_true,hp,Option.map_some]
theorem aU {off:Nat} {d r:D} (h:ρ x=some (.eptr d off)) (hp:iR C.P t d.cells off=some r):oper C ρ S (.load t x)=some (.val (.d r) S):=by
 simp only [oper,h,oQ,hp,Option.map_some]
theorem zH (H:Has B S l) {i id off n:Nat} {cs cv:List AV} (ha:ρ x=some (.ptr id 0 off)) (hy:ρ y=some v) (hcv:v.cells=cv) (hn:cv.length=n) (hz:aL C.P t=n) (hp:v.plain=true) (hag:(eO C.P t).isSome=true) (hi:l[i]? = some (.box id cs)) (hb:Nat.ble (off + n) cs.length=true) :
  oper C ρ S (.store t x y)=some (.skip { S with H:=S.H.set id (.cells 0 (setAt cs off cv)) }):=by
 subst hcv
 subst hn
 have hg:S.H.get id=some (.cells 0 cs):=H.at hi
 simp only [oper,ha,hy,xc,hg]
 rw [if_pos ⟨hz.symm,hp,hag⟩,if_pos trivial,if_pos (Nat.le_of_ble_eq_true hb)]
 rfl
theorem uh {tt:Nat} {n:Nat} (h:ρ x=some v) (ht:qW C tt v=true) (hn:l7 v S=some n):oper C ρ S (.call { callee:=.builtin .len,args:=#[x],argTypes:=#[tt] })=some (.val (.d (.int .i64 (n:Int))) S):=by
 have:jw ρ [x]=some [v]:=by simp only [jw,h,Option.map_some]
 simp only [oper,this,jq,List.getElem?_toArray,List.getElem?_cons_zero,ht,if_true,hn,Option.map_some]
theorem ay {op:BinOp} {ty:Nat} {a b:AV} {r:D} (hx:ρ x=some a) (hy:ρ y=some b) (hb:jL C.P t op a b=some r):oper C ρ S (.binOp op t x y ty)=some (.val (.d r) S):=by
 simp only [oper,hx,hy,hb,Option.map_some]
theorem eZ {b:Bool} (hx:ρ x=some (.d (.bool b))):oper C ρ S (.unOp .not t x)=some (.val (.d (.bool (!b))) S):=by simp only [oper,hx]
theorem Eb {k:IntKind} {n:Int} (hx:ρ x=some (.d (.int k n))):oper C ρ S (.unOp .neg t x)=some (.val (.d (.int k (k.wrap (0 - n)))) S):=by simp only [oper,hx]
theorem Bd {src dst:Nat} {k k':IntKind} {n:Int} (hx:ρ x=some (.d (.int k n))) (hs:(C.P.underlying src).isSome=true) (hk:HV C.P dst=some k'):oper C ρ S (.convert src dst x)=some (.val (.d (.int k' (k'.wrap n))) S):=by
 simp only [oper,hx,zD,hs,if_true,hk,Option.map_some]
theorem pR {i:Nat} {vs:List AV} (hx:ρ x=some (.tup vs)) (hi:vs[i]? = some v):oper C ρ S (.extract x i)=some (.val v S):=by simp only [oper,hx,hi,Option.map_some]
theorem aC {f:Nat} {arr_:Array Operand} {ts:Array Nat} {args:List AV} (ha:jw ρ arr_.toList=some args) (hf:ρ (.func f)=some (.fn f [])):oper C ρ S (.call { callee:=.value (.func f),args:=arr_,argTypes:=ts })=some (.call f args):=by
 simp only [oper,hf,ha,List.append_nil]
theorem bE {n:Int} {k:IntKind} {r:AV} (hx:ρ x=some v) (hy:ρ y=some (.d (.int k n))) (hi:jh C t v (.d (.int k n))=some r):oper C ρ S (.indexAddr t x y)=some (.val r S):=by simp only [oper,hx,hy,hi,Option.map_some]
theorem bI {P:Program} {k:IntKind} {a b:Int}:jL P t .add (.d (.int k a)) (.d (.int k b))=some (.int k (k.wrap (a + b))):=by simp only [jL,if_true,lX]
theorem iV {P:Program} {k:IntKind} {a b:Int}:jL P t .sub (.d (.int k a)) (.d (.int k b))=some (.int k (k.wrap (a - b))):=by simp only [jL,if_true,lX]
theorem J3 {P:Program} {k:IntKind} {a b:Int}:jL P t .mul (.d (.int k a)) (.d (.int k b))=some (.int k (k.wrap (a * b))):=by simp only [jL,if_true,lX]
theorem Jn {P:Program} {k:IntKind} {a b:Int} (h:b ≠ 0):jL P t .quo (.d (.int k a)) (.d (.int k b))=some (.int k (k.wrap (a.tdiv b))):=by simp only [jL,if_true,lX,if_neg h]
theorem Jl {P:Program} {k:IntKind} {a b:Int} (h:b ≠ 0):jL P t .rem (.d (.int k a)) (.d (.int k b))=some (.int k (a.tmod b)):=by simp only [jL,if_true,lX,if_neg h]
def dO (k:IntKind) (a b:Int):Int:=k.wrap (BitVec.ofInt k.bits a &&& BitVec.ofInt k.bits b).toNat
def Nt (k:IntKind) (a b:Int):Int:=k.wrap (BitVec.ofInt k.bits a ||| BitVec.ofInt k.bits b).toNat
theorem wW {P:Program} {k:IntKind} {a b:Int}:jL P t .and (.d (.int k a)) (.d (.int k b))=some (.int k (dO k a b)):=by simp only [jL,if_true,lX]; rfl
theorem Lu {P:Program} {k:IntKind} {a b:Int}:jL P t .or (.d (.int k a)) (.d (.int k b))=some (.int k (Nt k a b)):=by simp only [jL,if_true,lX]; rfl
theorem dD {P:Program} {k:IntKind} {a b:Int}:jL P t .eql (.d (.int k a)) (.d (.int k b))=some (.bool (a == b)):=by simp only [jL,if_true,lX]
theorem fH {P:Program} {k:IntKind} {a b:Int}:jL P t .neq (.d (.int k a)) (.d (.int k b))=some (.bool (a != b)):=by simp only [jL,if_true,lX]
theorem bG {P:Program} {k:IntKind} {a b:Int}:jL P t .lss (.d (.int k a)) (.d (.int k b))=some (.bool (decide (a < b))):=by simp only [jL,if_true,lX]
theorem qj {P:Program} {k:IntKind} {a b:Int}:jL P t .leq (.d (.int k a)) (.d (.int k b))=some (.bool (decide (a ≤ b))):=by simp only [jL,if_true,lX]
theorem jT {P:Program} {k:IntKind} {a b:Int}:jL P t .gtr (.d (.int k a)) (.d (.int k b))=some (.bool (decide (b < a))):=by simp only [jL,if_true,lX]
theorem iJ {P:Program} {k:IntKind} {a b:Int}:jL P t .geq (.d (.int k a)) (.d (.int k b))=some (.bool (decide (b ≤ a))):=by simp only [jL,if_true,lX]
theorem JV {P:Program} {a b:List UInt8} (h:a.length + b.length ≤ 4611686018427387904):jL P t .add (.d (.str a)) (.d (.str b))=some (.str (a ++ b)):=by simp only [jL,xJ,if_pos h]
theorem pX {P:Program} {a b:List UInt8}:jL P t .eql (.d (.str a)) (.d (.str b))=some (.bool (a == b)):=by simp only [jL,xJ]
theorem rU {P:Program} {a b:List UInt8}:jL P t .neq (.d (.str a)) (.d (.str b))=some (.bool (!(a == b))):=by simp only [jL,xJ]
theorem BU {s:List UInt8} (h:wy C.P t=true):qW C t (.d (.str s))=true:=by
 unfold wy at h
 unfold qW
 split at h
 ·
  rename_i hu; simp only [hu]
 ·
  cases h
theorem Jq {xs:List D} {b:Bool} (h:(bO C.P t).isSome=true):qW C t (.d (.sl xs b))=true:=by
 unfold bO at h
 unfold qW
 split at h
 ·
  rename_i hu; simp only [hu]
 ·
  cases h
def idx {α:Type} (l:List α) (n:Int):Option α:=if 0 ≤ n then l[n.toNat]? else none
theorem kC {α:Type} {l:List α} {n:Int} {x:α} (h:idx l n=some x):0 ≤ n∧l[n.toNat]? = some x:=by
 unfold idx at h
 split at h
 ·
  rename_i hn; exact ⟨hn,h⟩
 ·
  cases h
theorem bY {α:Type} {enc:α→D} {l:List α} {n:Int} {k:IntKind} {z:α} {el:Nat} {b:Bool} (h:idx l n=some z) (he:bO C.P t=some el) (ha:(eO C.P el).isSome=true) (hz:(enc z).cells.length=aL C.P el) :
  jh C t (.d (.sl (l.map enc) b)) (.d (.int k n))=some (.eptr (enc z) 0):=by
 obtain ⟨h0,h1⟩:=kC h
 have:(l.map enc)[n.toNat]? = some (enc z):=by rw [List.getElem?_map,h1]; rfl
 simp only [jh,he,h0,ha,decide_true,Bool.and_self,if_true,this,hz]
end opers
theorem aD.nil:aD [] []:=⟨[],rfl,.nil⟩
theorem aD.gJ {x:AV} {d d':D} {xs:List AV} {ds:List D} (h:CB x=some d') (hc:oJ d d') (k:aD xs ds):aD (x :: xs) (d :: ds):=by
 obtain ⟨ds',k1,k2⟩:=k
 exact ⟨d' :: ds',by simp only [nC,h,k1,Option.map_some],.cons hc k2⟩
theorem aD.eq {d:D} {xs:List AV} {ds:List D} (k:aD xs ds):aD (.d d :: xs) (d :: ds):=.gJ rfl (.refl d) k
theorem cB {α:Type} {c:Bool} {x y:α} {r:α} (hb:c=true) (h:(if c=true then x else y)=r):x=r:=by rw [if_pos hb] at h; exact h
theorem cK {α:Type} {c:Bool} {x y:α} {r:α} (hb:c=false) (h:(if c=true then x else y)=r):y=r:=by rw [if_neg (by rw [hb]; simp)] at h; exact h
theorem bind_some {α β:Type} {o:Option α} {f:α→Option β} {r:β} (h:o.bind f=some r):∃ z,o=some z∧f z=some r:=Option.bind_eq_some_iff.1 h
section code
variable {R:dm} {P:Program} {nt:Nat}
def At (R:dm) (nt:Nat) (B:St) {α:Type} (sem:α→Prop) (env:α→Env) (shape:α→List dI) (e:Env) (S:St):Prop:=∃ a e1 S1 S2,o7 R nt e S e1 S1∧lT S2 S1∧aa (env a) e1∧Has B S2 (shape a)∧sem a
theorem ax.join {α:Type} (sem:α→Prop) (env:α→Env) (shape:α→List dI) {x y:Code} {e:Env} {S:St} {Q:vN→Prop}
  (hj:∀ a S',Has B S' (shape a)→sem a→ax R P nt y (env a) S' Q)
  (hx:ax R P nt x e S (EM (At R nt B sem env shape) Q)):ax R P nt (.seq x y) e S Q :=
 ax.seq (hx.mono fun r hr=>by
  obtain ⟨q,e',S'⟩:=r
  cases q with
  | normal=>obtain ⟨a,e1,S1,S2,hg,h0,h1,h2,h3⟩:=hr; exact (((hj a S2 h2 h3).weak h1).jk h0).ghost hg
  | exit id=>exact hr
  | ret=>exact hr
  | panic v=>exact hr)
theorem nz.ind {α:Type} (sem:Nat→α→Prop) (env:α→Env) (shape:α→List dI) {c:Code} {Q:vN→Prop} (h0:∀ a,¬ sem 0 a)
  (step:∀ k a S,Has B S (shape a)→sem (k + 1) a→ax R P nt c (env a) S (EM (At R nt B (sem k) env shape) Q)) :
  ∀ k a S,Has B S (shape a)→sem k a→nz R P nt c (env a) S Q
 | 0,a,S,_,h=>(h0 a h).elim
 | k + 1,a,S,hH,h=>nz.round ((step k a S hH h).mono fun r hr=>by
   obtain ⟨q,e',S'⟩:=r
   cases q with
   | normal=>obtain ⟨a',e1,S1,S2,hg,h4,h1,h2,h3⟩:=hr; exact (((nz.ind sem env shape h0 step k a' S2 h2 h3).weak h1).jk h4).ghost hg
   | exit id=>exact hr
   | ret=>exact hr
   | panic v=>exact hr)
theorem nz.start {α:Type} (sem:Nat→α→Prop) (env:α→Env) (shape:α→List dI) {c:Code} {e:Env} {S:St} {Q:vN→Prop} (h0:∀ a,¬ sem 0 a)
  (step:∀ k a S,Has B S (shape a)→sem (k + 1) a→ax R P nt c (env a) S (EM (At R nt B (sem k) env shape) Q))
  (k:Nat) (hat:At R nt B (sem k) env shape e S):ax R P nt (.loop c) e S Q:=by
 obtain ⟨a,e1,S1,S2,hg,h4,hs,hH,h⟩:=hat
 exact ax.loop ((((nz.ind sem env shape h0 step k a S2 hH h).weak hs).jk h4).ghost hg)
end code
theorem Has.Qh {S:St} {l:List dI} (h:Has B S l) (is:List Nat) (hn:is.Nodup) {l':List dI} (hl:is.map (fun i=>l[i]?)=l'.map some):Has B S l':=by
 have hget:∀ (j:Nat) (a:dI),l'[j]? = some a→∃ i,is[j]? = some i∧l[i]? = some a:=fun j a hj=>by
  have:(is.map (fun i=>l[i]?))[j]? = some (some a):=by rw [hl,List.getElem?_map,hj]; rfl
  rw [List.getElem?_map,Option.map_eq_some_iff] at this
  exact this
 refine ⟨h.wf,fun a ha=>?_,?_,h.bwf,h.keeps,fun a ha=>?_⟩
 rotate_left 2
 ·
  obtain ⟨j,hj,rfl⟩:=List.getElem_of_mem ha
  obtain ⟨i,_,hi⟩:=hget j _ (List.getElem?_eq_getElem hj)
  exact h.out _ (List.mem_of_getElem? hi)
 ·
  obtain ⟨j,hj,rfl⟩:=List.getElem_of_mem ha
  obtain ⟨i,_,hi⟩:=hget j _ (List.getElem?_eq_getElem hj)
  exact h.at hi
 ·
  clear hl
  induction l' generalizing is with
  | nil=>simp
  | cons a l' ih =>
   cases is with
   | nil=>obtain ⟨i,hi,_⟩:=hget 0 a rfl; simp at hi
   | cons i is =>
    have hn':=List.nodup_cons.1 hn
    have hi:l[i]? = some a:=by
     obtain ⟨i',h1,h2⟩:=hget 0 a rfl
     simp at h1; subst h1; exact h2
    rw [List.map_cons,List.flatten_cons,List.nodup_append]
    have own:a.fp.Nodup:=by
     cases a with
     | grow v xs=>cases v <;> simp [dI.fp]
     | row sz v xs=>cases v <;> simp [dI.fp]
     | abs ids p=>exact h.nd.sublist (List.sublist_flatten_of_mem (List.mem_map.2 ⟨_,List.mem_of_getElem? hi,rfl⟩))
     | _=>simp [dI.fp]
    refine ⟨own,ih is hn'.2 (fun j b hj=>?_),fun x hx y hy hxy=>?_⟩
    ·
     obtain ⟨i',h1,h2⟩:=hget (j + 1) b (by simpa using hj)
     exact ⟨i',by simpa using h1,h2⟩
    ·
     subst hxy
     obtain ⟨KQ,hfps,hid⟩:=List.mem_flatten.1 hy
     obtain ⟨b,hb,rfl⟩:=List.mem_map.1 hfps
     obtain ⟨j,hj,rfl⟩:=List.getElem_of_mem hb
     obtain ⟨i',h1,h2⟩:=hget (j + 1) l'[j] (by simp)
     refine zt h.nd hi h2 (fun q=>?_) hx hid
     subst q
     exact hn'.1 (List.mem_of_getElem? (by simpa using h1))
end
end Go.Ev

namespace Go.Ev
noncomputable section
set_option linter.unusedVariables false
set_option linter.unusedSimpArgs false
variable {B:St}
theorem jb {S:St} {v:AV} {xs:List D} (h:(dI.grow v xs).ok S):(∃ d,CB v=some d∧d.cn=.sl (D.Io xs) false)∧kN v=some xs∧l7 v S=some xs.length∧v.plain=true∧v.cells=[v]:=by
 simp only [dI.ok] at h
 split at h
 ·
  subst h; exact ⟨⟨_,rfl,rfl⟩,rfl,rfl,rfl,rfl⟩
 ·
  subst h; exact ⟨⟨_,rfl,rfl⟩,rfl,rfl,rfl,rfl⟩
 ·
  obtain ⟨rfl,_,_⟩:=h; exact ⟨⟨_,rfl,rfl⟩,rfl,rfl,rfl,rfl⟩
 ·
  exact h.elim
theorem oJ.jH (xs:List D) (t:Bool):oJ (.sl xs false) (.sl xs t):=fun w fr v h=>by
 refine ⟨?_,h.2⟩
 have h1:=h.1
 generalize hcs:v.cells.toList=cs at h1 ⊢
 cases h1 with
 | sl0 a cap _ _=>exact .sl0 a cap false (fun h=>by cases h)
 | sl _ _ b off cap sz vs hne hcap ht hsz hlen hx hc=>exact .sl xs false b off cap sz vs hne hcap (fun h=>by cases h) hsz hlen hx hc
theorem oJ.aO (b:Bool):oJ (.sl [] b) .aO:=fun w fr v h=>by
 refine ⟨?_,h.2⟩
 have h1:=h.1
 generalize hcs:v.cells.toList=cs at h1 ⊢
 cases h1
 exact .sl0 none 0 b (fun _=>rfl)
theorem JQ {S:St} {v:AV} {xs:List D} (h:(dI.grow v xs).ok S):∃ d,CB v=some d∧oJ (.sl xs false) d:=by
 simp only [dI.ok] at h
 split at h
 ·
  subst h; exact ⟨_,rfl,.aO false⟩
 ·
  subst h; exact ⟨_,rfl,.jH _ _⟩
 ·
  obtain ⟨rfl,_,_⟩:=h; exact ⟨_,rfl,.refl _⟩
 ·
  exact h.elim
theorem FJ {C:gG} {S:St} {l:List dI} (H:Has B S l) {i t:Nat} {v:AV} {xs:List D} (hi:l[i]? = some (.grow v xs)) (h:(bO C.P t).isSome=true):qW C t v=true:=by
 have hg:=H.at hi
 unfold bO at h
 unfold qW
 split at h
 ·
  rename_i hu
  simp only [hu]
  simp only [dI.ok] at hg
  split at hg
  ·
   rfl
  ·
   rfl
  ·
   rfl
  ·
   exact hg.elim
 ·
  cases h
theorem F9 {S S':St} {l:List dI} (H:Has B S l) {i:Nat} {v:AV} {xs:List D} (hi:l[i]? = some (.grow v xs)):l7 v S'=some xs.length:=by
 have hg:=H.at hi
 simp only [dI.ok] at hg
 split at hg
 ·
  subst hg; rfl
 ·
  subst hg; rfl
 ·
  obtain ⟨rfl,_⟩:=hg; rfl
 ·
  exact hg.elim
theorem su {C:gG} {α:Type} {enc:α→D} {S:St} {l:List dI} (H:Has B S l) {i t:Nat} {v:AV} {xs:List α} (hi:l[i]? = some (.grow v (xs.map enc))) {n:Int} {k:IntKind} {z:α} {el:Nat} (h:idx xs n=some z) (he:bO C.P t=some el) (ha:(eO C.P el).isSome=true) (hz:(enc z).cells.length=aL C.P el) :
  jh C t v (.d (.int k n))=some (.eptr (enc z) 0):=by
 obtain ⟨h0,h1⟩:=kC h
 have hm:(xs.map enc)[n.toNat]? = some (enc z):=by rw [List.getElem?_map,h1]; rfl
 have hg:=H.at hi
 simp only [dI.ok] at hg
 split at hg
 ·
  rw [hg] at hm; simp at hm
 ·
  rw [hg]
  simp only [jh,he,h0,ha,decide_true,Bool.and_self,if_true,hm,hz]
 ·
  rw [hg.1]
  simp only [jh,he,h0,ha,decide_true,Bool.and_self,if_true,hm,hz]
 ·
  exact hg.elim
theorem Has.GV {S:St} {l:List dI} (H:Has B S l) {a:dI} (hf:a.fp=[]) (ha:a.ok S):Has B S (a :: l) where
 wf:=H.wf
 ok:=fun x hx=>by
  rcases List.mem_cons.1 hx with rfl | hx
  ·
   exact ha
  ·
   exact H.ok x hx
 nd:=by rw [List.map_cons,List.flatten_cons,hf,List.nil_append]; exact H.nd
 bwf:=H.bwf
 keeps:=H.keeps
 out:=fun x hx id hid=>by
  rcases List.mem_cons.1 hx with rfl | hx
  ·
   rw [hf] at hid; cases hid
  ·
   exact H.out x hx id hid
theorem Has.Gh {S:St} {l:List dI} (H:Has B S l):Has B S (.grow (.d .aO) [] :: l):=H.GV rfl rfl
theorem Has.vU {S:St} {l:List dI} (H:Has B S l) (xs:List D):Has B S (.grow (.d (.sl xs true)) xs :: l):=H.GV rfl rfl
theorem Has.JW {S S':St} {l:List dI} (h:Has B S l) {i:Nat} {a a':dI} (hi:l[i]? = some a) (hf0:a.fp=[]) (hf:a'.fp=[S.nx]) (ha:a'.ok S') (wf:S'.Wf)
  (hH:∀ id,id < S.nx→S'.H.get id=S.H.get id) (hT:∀ id,id < S.nx→S'.T.get id=S.T.get id) (hnx:S.nx ≤ S'.nx):Has B S' (l.set i a'):=by
 have hil:i < l.length:=(List.getElem?_eq_some_iff.1 hi).1
 have hlt:∀ x ∈ l,∀ id ∈ x.fp,id < S.nx:=fun x hx=>dI.lt h.wf (h.ok x hx)
 have hBlt:∀ id b,B.H.get id=some b→id < S.nx:=fun id b hb=>Nat.lt_of_lt_of_le (h.bwf.H hb) h.keeps.nx
 have hBltT:∀ id n,B.T.get id=some n→id < S.nx:=fun id b hb=>Nat.lt_of_lt_of_le (h.bwf _ (Av hb)) h.keeps.nx
 refine ⟨wf,fun x hx=>?_,?_,h.bwf,⟨Nat.le_trans h.keeps.nx hnx,fun id b hb=>?_,fun id n hn=>?_⟩,fun x hx id hid=>?_⟩
 rotate_left 2
 ·
  rw [hH id (hBlt id b hb)]; exact h.keeps.H id b hb
 ·
  rw [hT id (hBltT id n hn)]; exact h.keeps.T id n hn
 ·
  rcases List.mem_or_eq_of_mem_set hx with hx | rfl
  ·
   exact h.out x hx id hid
  ·
   rw [hf,List.mem_singleton] at hid
   subst hid
   refine ⟨?_,?_⟩
   ·
    cases hB:B.H.get S.nx with
    | none=>rfl
    | some b'=>have:=hBlt _ _ hB; omega
   ·
    cases hB:B.T.get S.nx with
    | none=>rfl
    | some b'=>have:=hBltT _ _ hB; omega
 ·
  obtain ⟨j,hj,rfl⟩:=List.getElem_of_mem hx
  rw [List.length_set] at hj
  by_cases hij:i=j
  ·
   subst hij; rw [List.getElem_set_self]; exact ha
  ·
   rw [List.getElem_set_ne hij]
   exact dI.keep (h.ok l[j] (List.getElem_mem hj)) (fun id hid=>hH id (hlt _ (List.getElem_mem hj) id hid)) (fun id hid=>hT id (hlt _ (List.getElem_mem hj) id hid))
 ·
  have hperm:∀ (l:List dI) (i:Nat),l[i]? = some a→(∀ x ∈ l,∀ id ∈ x.fp,id < S.nx)→(l.map dI.fp).flatten.Nodup→((l.set i a').map dI.fp).flatten.Nodup∧∀ id ∈ ((l.set i a').map dI.fp).flatten,id=S.nx∨id ∈ (l.map dI.fp).flatten:=by
   intro l
   induction l with
   | nil=>intro i hi; simp at hi
   | cons x l ih =>
    intro i hi hlt hnd
    rw [List.map_cons,List.flatten_cons,List.nodup_append] at hnd
    obtain ⟨n1,n2,n3⟩:=hnd
    cases i with
    | zero =>
     simp only [List.getElem?_cons_zero,Option.some.injEq] at hi
     subst hi
     simp only [List.set_cons_zero,List.map_cons,List.flatten_cons,hf,hf0,List.nil_append,List.singleton_append,List.nodup_cons]
     refine ⟨⟨fun hm=>?_,n2⟩,fun id hid=>?_⟩
     ·
      obtain ⟨KQ,hfps,hid⟩:=List.mem_flatten.1 hm
      obtain ⟨y,hy,rfl⟩:=List.mem_map.1 hfps
      have:=hlt y (List.mem_cons_of_mem _ hy) _ hid
      omega
     ·
      rcases List.mem_cons.1 hid with rfl | hid
      ·
       exact .inl rfl
      ·
       exact .inr hid
    | succ i =>
     simp only [List.getElem?_cons_succ] at hi
     obtain ⟨m1,m2⟩:=ih i hi (fun y hy=>hlt y (List.mem_cons_of_mem _ hy)) n2
     simp only [List.set_cons_succ,List.map_cons,List.flatten_cons]
     refine ⟨List.nodup_append.2 ⟨n1,m1,fun u hu v hv huv=>?_⟩,fun id hid=>?_⟩
     ·
      subst huv
      rcases m2 u hv with rfl | hv
      ·
       have:=hlt x List.mem_cons_self _ hu; omega
      ·
       exact n3 u hu u hv rfl
     ·
      rcases List.mem_append.1 hid with hid | hid
      ·
       exact .inr (List.mem_append.2 (.inl hid))
      ·
       rcases m2 id hid with rfl | hid
       ·
        exact .inl rfl
       ·
        exact .inr (List.mem_append.2 (.inr hid))
  exact (hperm l i hi hlt h.nd).1
def app {α:Type} (nb:Nat) (l ys:List α):Option (List α):=if (l.length + ys.length) * nb ≤ bound then some (l ++ ys) else none
theorem mW {α:Type} {nb:Nat} {l ys r:List α} (h:app nb l ys=some r):(l.length + ys.length) * nb ≤ bound∧r=l ++ ys:=by
 unfold app at h
 split at h
 ·
  rename_i hb; exact ⟨hb,(Option.some.inj h).symm⟩
 ·
  cases h
theorem bS {α:Type} {enc:α→D} {n:Nat} (h:∀ z,(enc z).cells.length=n):∀ (l:List α),sizes n (l.map enc)=true
 | []=>rfl
 | x :: l=>by simp only [List.map_cons,sizes,h,Nat.beq_refl,bS h l,Bool.and_self]
theorem EC {C:gG} {S:St} {l:List dI} (H:Has B S l) {i:Nat} {v:AV} {xs ys:List D} (hi:l[i]? = some (.grow v xs)) {el nb:Nat} (hb:(xs.length + ys.length) * nb ≤ bound) (hnb:bytesOf C.P el=nb) (h0:(Nat.blt 0 nb && Nat.ble nb 65536)=true)
  (hx:sizes (aL C.P el) xs=true) (hy:sizes (aL C.P el) ys=true) (hz:gX C el=true):∃ v' S',jZ C el S v ys=some (v',S')∧Has B S' (l.set i (.grow v' (xs ++ ys))):=by
 subst hnb
 simp only [Bool.and_eq_true] at h0
 have h1:=Nat.le_of_ble_eq_true h0.1
 have h2:=Nat.le_of_ble_eq_true h0.2
 have h1:0 < bytesOf C.P el:=h1
 have hinfo:(C.P.info? el).isSome=true:=by
  unfold gX at hz
  cases hq:C.P.info? el with
  | none=>rw [hq] at hz; cases hz
  | some x=>rfl
 have hil:i < l.length:=(List.getElem?_eq_some_iff.1 hi).1
 have hg:=H.at hi
 by_cases hne:ys.length=0
 ·
  have:ys=[]:=List.eq_nil_of_length_eq_zero hne
  subst this
  refine ⟨v,S,?_,?_⟩
  ·
   simp only [dI.ok] at hg
   split at hg <;> simp_all [jZ]
  ·
   rw [List.append_nil]
   have:l.set i (.grow v xs)=l:=by
    apply List.ext_getElem?
    intro j
    rw [List.getElem?_set]
    by_cases hij:i=j
    ·
     subst hij; simp [hil]; exact (List.getElem?_eq_some_iff.1 hi).2.symm
    ·
     simp [hij]
   rw [this]; exact H
 ·
  have fresh:S.H.get S.nx=none:=H.wf.fresh (Nat.le_refl _)
  have new:∀ zs:List D,zs ≠ []→(dI.grow v xs).fp=[]→Has B { S with T:=S.T.set S.nx zs.length,nx:=S.nx + 1 } (l.set i (.grow (.tsl zs S.nx) zs)):=fun zs hzs hfp=>by
   refine H.JW hi hfp rfl ⟨rfl,hzs,by simp [AL.bq],fresh⟩ (fun id hl=>?_) (fun id hid=>rfl) (fun id hid=>by simp only [AL.bq]; rw [if_neg (by omega)]) (Nat.le_succ _)
   show id < S.nx + 1
   unfold live cur at hl
   cases hH:S.H.get id with
   | some b=>have:=H.wf.H hH; omega
   | none =>
    simp only [hH,AL.bq] at hl
    by_cases hq:S.nx=id
    ·
     omega
    ·
     rw [if_neg hq] at hl
     cases hT:S.T.get id with
     | none=>exact absurd hT hl
     | some n=>have:=H.wf id (Av hT); omega
  simp only [dI.ok] at hg
  split at hg
  ·
   subst hg
   refine ⟨_,_,?_,new ys (fun q=>hne (by rw [q]; rfl)) rfl⟩
   simp only [List.length_nil,Nat.zero_add] at hb
   simp only [jZ,if_neg hne,if_pos (show ys.length * bytesOf C.P el ≤ bound∧0 < bytesOf C.P el∧bytesOf C.P el ≤ 65536∧sizes (aL C.P el) ys=true∧gX C el=true from ⟨hb,h1,h2,hy,hz⟩)]
  ·
   rename_i zs
   subst hg
   refine ⟨_,_,?_,new (zs ++ ys) (fun q=>hne (by simp at q; simp [q.2])) rfl⟩
   simp only [jZ,if_neg hne,if_pos (show (zs.length + ys.length) * bytesOf C.P el ≤ bound∧0 < bytesOf C.P el∧bytesOf C.P el ≤ 65536∧sizes (aL C.P el) ys=true∧sizes (aL C.P el) zs=true∧gX C el=true from ⟨hb,h1,h2,hy,hx,hz⟩),if_true,List.length_append]
  ·
   rename_i zs tok
   obtain ⟨rfl,hne2,hT,hHt⟩:=hg
   have hpos:0 < zs.length:=List.length_pos_iff.2 hne2
   refine ⟨.tsl (zs ++ ys) tok,{ S with T:=S.T.set tok (zs.length + ys.length) },?_,?_⟩
   ·
    simp only [jZ,if_neg hne,if_pos (show (zs.length + ys.length) * bytesOf C.P el ≤ bound∧0 < bytesOf C.P el∧bytesOf C.P el ≤ 65536∧sizes (aL C.P el) ys=true∧sizes (aL C.P el) zs=true∧gX C el=true from ⟨hb,h1,h2,hy,hx,hz⟩),hT]
    rw [if_pos ⟨trivial,hpos⟩]
   ·
    refine H.set hi rfl ⟨rfl,by simp [hne2],by simp [AL.bq],hHt⟩ (fun id hl=>?_) (fun id hid=>rfl) (fun id hid=>?_) rfl
    ·
     show id < S.nx
     refine H.wf id ?_
     unfold live cur at hl ⊢
     cases hH:S.H.get id with
     | some b=>cases b <;> simp
     | none =>
      simp only [hH,AL.bq] at hl ⊢
      by_cases hq:tok=id
      ·
       subst hq; rw [hT]; simp
      ·
       rw [if_neg hq] at hl; exact hl
    ·
     simp only [dI.fp,List.mem_singleton] at hid
     simp only [AL.bq]; rw [if_neg (fun q=>hid q.symm)]
  ·
   exact hg.elim
theorem EK {C:gG} {ρ:Operand→Option AV} {x y:Operand} {S:St} {l:List dI} (H:Has B S l) {i t u:Nat} {v vy:AV} {xs ys:List D} (hx:ρ x=some v) (hy:ρ y=some vy) (hi:l[i]? = some (.grow v xs)) (hd:kN vy=some ys) (hnr:C.rowT t=false) (hu:jR C u=true) {el nb:Nat} (he:bO C.P t=some el)
  (hb:(xs.length + ys.length) * nb ≤ bound) (hnb:bytesOf C.P el=nb) (h0:(Nat.blt 0 nb && Nat.ble nb 65536)=true) (hsx:sizes (aL C.P el) xs=true) (hsy:sizes (aL C.P el) ys=true) (hz:gX C el=true) :
  ∃ v' S',oper C ρ S (.call { callee:=.builtin .append,args:=#[x,y],argTypes:=#[t,u] })=some (.val v' S')∧Has B S' (l.set i (.grow v' (xs ++ ys))):=by
 obtain ⟨v',S',h1,h2⟩:=EC (C:=C) H hi hb hnb h0 hsx hsy hz
 refine ⟨v',S',?_,h2⟩
 have hm:jw ρ [x,y]=some [v,vy]:=by simp only [jw,hx,hy,Option.map_some]
 have hg:=H.at hi
 simp only [oper,hm,jq,List.getElem?_toArray,List.getElem?_cons_zero,List.getElem?_cons_succ,hu,if_true,he]
 simp only [dI.ok] at hg
 split at hg
 ·
  simp only [hnr,cond_false,hd,h1,Option.map_some]
 ·
  simp only [hnr,cond_false,hd,h1,Option.map_some]
 ·
  simp only [hnr,cond_false,hd,h1,Option.map_some]
 ·
  exact hg.elim
def cut {α:Type} (l:List α) (lo hi:Int):Option (List α):=if 0 ≤ lo∧lo ≤ hi∧hi ≤ l.length then some ((l.take hi.toNat).drop lo.toNat) else none
theorem ED {α:Type} {l r:List α} {lo hi:Int} (h:cut l lo hi=some r):(0 ≤ lo∧lo ≤ hi∧hi ≤ l.length)∧r=(l.take hi.toNat).drop lo.toNat:=by
 unfold cut at h
 split at h
 ·
  rename_i hb; exact ⟨hb,(Option.some.inj h).symm⟩
 ·
  cases h
end
end Go.Ev

namespace Go.Ev
noncomputable section
set_option linter.unusedVariables false
set_option linter.unusedSimpArgs false
variable {B:St}
section steps
variable {R:dm} {C:gG} {nt:Nat} {ops:Array Oper} {rest:List Oper} {e:Env} {S S':St} {Q:Stp→Prop} {l l':List dI} {t ty:Nat} {p:String} {af:Array Edge} {g:Option (Nat × Bool)} {v:AV} {x y:Operand}
theorem ae.box {bt:Nat} {cs:List AV} (H:Has B S l) (hw:bV ops e { dst:=some t,op:=.box bt x,type:=ty,pos:=p,after:=af,guard:=g }=some true) (hx:dB e x=some v) (hp:v.plain=true) (hc:v.cells=cs) (ht:Nat.blt t nt=true)
  (k:∀ b S',Has B S' (.box b cs :: l)→ae R C nt ops rest ((t,.ptr b 0 0) :: e) S' Q) :
  ae R C nt ops ({ dst:=some t,op:=.box bt x,type:=ty,pos:=p,after:=af,guard:=g } :: rest) e S Q :=
 ae.val hw (IZ H hx hp hc) ht (k _ _ (H.box cs))
theorem ae.alloc {bt:Nat} {z:D} {cs:List AV} (H:Has B S l) (hw:bV ops e { dst:=some t,op:=.alloc bt,type:=ty,pos:=p,after:=af,guard:=g }=some true) (ho:C.objT bt=none) (hz:zeroOf C.P bt=some z) (hc:(AV.d z).cells=cs) (ht:Nat.blt t nt=true)
  (k:∀ b S',Has B S' (.box b cs :: l)→ae R C nt ops rest ((t,.ptr b 0 0) :: e) S' Q) :
  ae R C nt ops ({ dst:=some t,op:=.alloc bt,type:=ty,pos:=p,after:=af,guard:=g } :: rest) e S Q :=
 ae.val hw (zn H ho hz hc) ht (k _ _ (H.box cs))
theorem ae.store {bt i id off n:Nat} {cs cv cs':List AV} (H:Has B S l) (hw:bV ops e { dst:=none,op:=.store bt x y,type:=ty,pos:=p,after:=af,guard:=g }=some true) (ha:dB e x=some (.ptr id 0 off)) (hy:dB e y=some v) (hi:l[i]? = some (.box id cs)) (hcv:v.cells=cv) (hn:cv.length=n) (hz:aL C.P bt=n) (hp:v.plain=true) (hag:(eO C.P bt).isSome=true) (hb:Nat.ble (off + n) cs.length=true)
  (hs:setAt cs off cv=cs') (hl:l.set i (.box id cs')=l') (k:∀ S',Has B S' l'→ae R C nt ops rest e S' Q) :
  ae R C nt ops ({ dst:=none,op:=.store bt x y,type:=ty,pos:=p,after:=af,guard:=g } :: rest) e S Q:=by
 subst hs
 subst hl
 exact ae.skip hw (zH H ha hy hcv hn hz hp hag hi hb) (k _ (H.write hi))
theorem ae.append {t1 u i:Nat} {vy:AV} {xs ys zs:List D} {el nb:Nat} (H:Has B S l) (hw:bV ops e { dst:=some t,op:=.call { callee:=.builtin .append,args:=#[x,y],argTypes:=#[t1,u] },type:=ty,pos:=p,after:=af,guard:=g }=some true)
  (hx:dB e x=some v) (hy:dB e y=some vy) (hi:l[i]? = some (.grow v xs)) (hd:kN vy=some ys) (hnr:C.rowT t1=false) (hu:jR C u=true) (he:bO C.P t1=some el) (hb:(xs.length + ys.length) * nb ≤ bound) (hnb:bytesOf C.P el=nb) (h0:(Nat.blt 0 nb && Nat.ble nb 65536)=true)
  (hsx:sizes (aL C.P el) xs=true) (hsy:sizes (aL C.P el) ys=true) (hz:gX C el=true) (ht:Nat.blt t nt=true) (hzs:xs ++ ys=zs)
  (k:∀ v' S',Has B S' (l.set i (.grow v' zs))→ae R C nt ops rest ((t,v') :: e) S' Q) :
  ae R C nt ops ({ dst:=some t,op:=.call { callee:=.builtin .append,args:=#[x,y],argTypes:=#[t1,u] },type:=ty,pos:=p,after:=af,guard:=g } :: rest) e S Q:=by
 subst hzs
 obtain ⟨v',S',h1,h2⟩:=EK (ρ:=dB e) H hx hy hi hd hnr hu he hb hnb h0 hsx hsy hz
 exact ae.val hw h1 ht (k v' S' h2)
theorem aa.put {t:Nat} {x y:AV} {e2 e:Env} (h:aa e2 e) (hl:Less y x):aa ((t,y) :: e2) ((t,x) :: e):=fun u z hz=>by
 rw [AL.iK] at hz ⊢
 by_cases hu:t=u
 ·
  rw [if_pos hu] at hz ⊢; cases hz; exact ⟨x,rfl,hl⟩
 ·
  rw [if_neg hu] at hz ⊢; exact h u z hz
def GR (t:Nat):Env→Bool
 | []=>true
 | (k,_) :: l=>!(Nat.beq k t) && GR t l
theorem Cj {t:Nat}:∀ {e:Env},GR t e=true→AL.get e t=none
 | [],_=>rfl
 | (k,v) :: l,h=>by
  simp only [GR,Bool.and_eq_true,Bool.not_eq_true'] at h
  rw [AL.iK,if_neg (fun q=>by subst q; rw [Nat.beq_refl] at h; cases h.1)]
  exact Cj h.2
theorem aa.push {t:Nat} {x:AV} {e2 e:Env} (hk:GR t e2=true) (h:aa e2 e):aa e2 ((t,x) :: e):=fun u z hz=>by
 have:t ≠ u:=fun q=>by subst q; rw [Cj hk] at hz; cases hz
 rw [AL.iK,if_neg this]
 exact h u z hz
theorem ae.bC {L:List Oper} (n t:Nat) (v:AV) (h:ae R C nt ops (L.take n) e S (fun r=>∃ e',r=.go e' S∧aa ((t,v) :: e) e')) (k:ae R C nt ops (L.drop n) ((t,v) :: e) S Q):ae R C nt ops L e S Q:=by
 have:=ae.app (R:=R) (C:=C) (nt:=nt) (ops:=ops) (L.take n) (l2:=L.drop n) (e:=e) (S:=S) (Q:=Q) (h.mono fun r hr=>by obtain ⟨e',rfl,hw⟩:=hr; exact ae.weak hw k)
 rwa [List.take_append_drop] at this
theorem ae.bool {b c:Bool} (hb:b=c) (k:ae R C nt ops rest ((t,.d (.bool c)) :: e) S Q):ae R C nt ops rest ((t,.d (.bool b)) :: e) S Q:=by subst hb; exact k
theorem ae.less {y':AV} (h:Less y' v) (k:ae R C nt ops rest ((t,y') :: e) S Q):ae R C nt ops rest ((t,v) :: e) S Q:=ae.weak (aa.top h) k
end steps
theorem Less.eq {x y:AV} (h:x=y):Less x y:=by subst h; exact .refl x
theorem CZ:∀ (l:List D),nC (l.map .d)=some l
 | []=>rfl
 | x :: l=>by simp [nC,CB,CZ l]
theorem Cw:∀ {cs:List AV} {xs:List D},uN cs=some xs→nC cs=some xs
 | [],xs,h=>by simp only [uN,Option.some.injEq] at h; subst h; rfl
 | .d x :: l,xs,h=>by
  simp only [uN,Option.map_eq_some_iff] at h
  obtain ⟨ys,h1,rfl⟩:=h
  simp [nC,CB,Cw h1]
theorem I7 {ys xs:List D} (h:mG ys xs) (hy:∀ y ∈ ys,y.isAgg=false) (hx:∀ x ∈ xs,x.isAgg=false):oJ (.agg ys) (.agg xs):=fun w fr v hr=>by
 refine ⟨?_,hr.2⟩
 have h1:=hr.1
 generalize hcs:v.cells.toList=cs at h1 ⊢
 cases h1 with
 | agg _ _ hl ho hn hh =>
  refine .agg ys cs (by rw [hl,h.len]) ho hy (fun i y u hi hu=>?_)
  have hlt:i < xs.length:=by rw [← h.len]; exact (List.getElem?_eq_some_iff.1 hi).1
  have hx':=List.getElem?_eq_getElem hlt
  have ho':=ho u (List.mem_of_getElem? hu)
  have:=hh i _ u hx' hu
  have hcell:u.cells = #[u]∧wU u=false:=by
   cases u <;> simp_all [Value.oneCell',Value.cells,wU]
  have hd:bT w fr xs[i] u:=⟨by rw [hcell.1]; exact this,by rw [hcell.2]; exact hx _ (List.mem_of_getElem? hx')⟩
  have:=(h.get hi hx' w fr u hd).1
  rw [hcell.1] at this
  exact this
theorem mG.agg {ys xs:List D} (h:mG ys xs) (hy:∀ y ∈ ys,y.isAgg=false):∀ x ∈ xs,True:=fun _ _=>trivial
def au (cs:List AV) (ds:List D):Prop:=∃ ds',nC cs=some ds'∧mG ds ds'∧(∀ d ∈ ds,d.isAgg=false)∧∀ d ∈ ds',d.isAgg=false
theorem au.nil:au [] []:=⟨[],rfl,.nil,by simp,by simp⟩
theorem au.gJ {x:AV} {d d':D} {xs:List AV} {ds:List D} (h:CB x=some d') (hc:oJ d d') (h1:d.isAgg=false) (h2:d'.isAgg=false) (k:au xs ds):au (x :: xs) (d :: ds):=by
 obtain ⟨ds',k1,k2,k3,k4⟩:=k
 exact ⟨d' :: ds',by simp only [nC,h,k1,Option.map_some],.cons hc k2,fun y hy=>by rcases List.mem_cons.1 hy with rfl | hy; exact h1; exact k3 y hy,fun y hy=>by rcases List.mem_cons.1 hy with rfl | hy; exact h2; exact k4 y hy⟩
theorem au.eq {d:D} {xs:List AV} {ds:List D} (h:d.isAgg=false) (k:au xs ds):au (.d d :: xs) (d :: ds):=.gJ rfl (.refl d) h h k
theorem au.pack {cs:List AV} {ds:List D} (h:au cs ds):aD [iY cs] [.agg ds]:=by
 obtain ⟨ds',h1,h2,h3,h4⟩:=h
 refine ⟨[.agg ds'],?_,.cons (I7 h2 h3 h4) .nil⟩
 have:CB (iY cs)=some (.agg ds'):=by
  unfold iY
  split
  ·
   rename_i xs hx
   have:=Cw hx
   rw [h1] at this
   cases this
   rfl
  ·
   show (nC cs).map D.agg=_
   rw [h1]; rfl
 simp only [nC,this,Option.map_some]
theorem aD.less {x:AV} {d:D} (h:aD [x] [d]):Less (.d d) x:=by
 obtain ⟨ds',h1,h2⟩:=h
 simp only [nC] at h1
 split at h1
 ·
  rename_i y hy
  simp only [Option.map_some,Option.some.injEq] at h1
  subst h1
  cases h2 with
  | cons h _=>exact fun cx S w v hr=>.d _ _ (h _ _ _ (nR hy hr))
 ·
  cases h1
theorem Less.iY {cs:List AV} {ds:List D} (h:au cs ds):Less (.d (.agg ds)) (iY cs):=h.pack.less
theorem M4 {α:Type} {enc:α→D} (h:∀ x,(enc x).cn=enc x) (l:List α) (b:Bool):(D.sl (l.map enc) b).cn=.sl (l.map enc) false:=by
 simp only [D.cn,D.G5,List.map_map]
 congr 1
 exact List.map_congr_left (fun x _=>h x)
theorem aD.grow {α:Type} {enc:α→D} {S:St} {l:List dI} (H:Has B S l) {i:Nat} {v:AV} {xs:List α} (hi:l[i]? = some (.grow v (xs.map enc))) {vs:List AV} {ds:List D} (k:aD vs ds):aD (v :: vs) (.sl (xs.map enc) false :: ds):=by
 obtain ⟨d,h1,h2⟩:=JQ (H.at hi)
 exact aD.gJ h1 h2 k
theorem au.grow {α:Type} {enc:α→D} {S:St} {l:List dI} (H:Has B S l) {i:Nat} {v:AV} {xs:List α} (hi:l[i]? = some (.grow v (xs.map enc))) {vs:List AV} {ds:List D} (k:au vs ds):au (v :: vs) (.sl (xs.map enc) false :: ds):=by
 obtain ⟨d,h1,h2⟩:=JQ (H.at hi)
 refine au.gJ h1 h2 rfl ?_ k
 have hg:=H.at hi
 simp only [dI.ok] at hg
 split at hg
 ·
  cases h1; rfl
 ·
  cases h1; rfl
 ·
  cases h1; rfl
 ·
  exact hg.elim
theorem dY {v:AV} {d:D} (h:aD [v] [d]):∃ v',wM v=some v'∧DY (.d d) v':=by
 obtain ⟨ds',h1,h2⟩:=h
 simp only [nC] at h1
 split at h1
 ·
  rename_i y hy
  simp only [Option.map_some,Option.some.injEq] at h1
  subst h1
  cases h2 with
  | cons h2 _ =>
  refine ⟨.d y,?_,.one h2⟩
  unfold wM
  split
  ·
   simp [CB] at hy
  ·
   rw [hy]; rfl
 ·
  cases h1
theorem P7 {vs:List AV} {ds:List D} (h:aD vs ds):∃ v',wM (.tup vs)=some v'∧DY (.tup (ds.map .d)) v':=by
 obtain ⟨ds',h1,h2⟩:=h
 exact ⟨.tup (ds'.map .d),by simp only [wM,h1,Option.map_some],.tup h2⟩
theorem gZ {C:gG} {fn:Func} {e:Env} {S:St} {l:List dI} (H:Has B S l) {a t i id:Nat} {cs:List AV} {v:AV} (hf:fn.results = #[.cell a t]) (ha:AL.get e a=some (.ptr id 0 0)) (hi:l[i]? = some (.box id cs)) (hp:part C.P t cs 0=some v):rV C fn e S=some v:=by
 have hb:S.H.get id=some (.cells 0 cs):=H.at hi
 simp only [rV,hf,jw,Cy,ha,oQ,St.look,hb,Nat.beq_refl,cond_true,hp,Option.map_some]
end
end Go.Ev

namespace Go.Ev
set_option linter.unusedVariables false
set_option linter.unusedSimpArgs false
variable {B:St}
abbrev Str:=List UInt8
abbrev O0 {α:Type} (enc:α→D) (l:List α):D:=.sl (l.map enc) false
theorem EG:∀ {l:List D},(∀ d ∈ l,d.cn=d)→D.Io l=l
 | [],_=>rfl
 | x :: l,h=>by rw [D.Io,h x List.mem_cons_self,EG (fun d hd=>h d (List.mem_cons_of_mem _ hd))]
theorem Kj {l:List D} (h:∀ d ∈ l,d.cn=d):(D.agg l).cn=.agg l:=by rw [D.cn,EG h]
theorem Less.agg' {cs:List AV} {ds:List D} {d:D} (h:au cs ds) (hd:d=.agg ds):Less (.d d) (Ev.iY cs):=by subst hd; exact Less.iY h
theorem aD.qd {cs:List AV} {ds:List D} {d:D} (h:au cs ds) (hd:d=.agg ds):aD [Ev.iY cs] [d]:=by subst hd; exact h.pack
theorem JI {xs:List D} {b:Bool}:Less (.d (.sl xs false)) (.d (.sl xs b)):=(oJ.jH xs b).less
theorem Li {b:Bool}:Less (.d (.sl [] b)) (.d .aO):=(oJ.aO b).less
theorem fI {α:Type} {enc:α→D} {nb:Nat} {l ys r:List α} (h:app nb l ys=some r):((l.map enc).length + (ys.map enc).length) * nb ≤ bound:=by
 have:=(mW h).1
 simpa using this
theorem jK {α:Type} {enc:α→D} {nb:Nat} {l ys r:List α} (h:app nb l ys=some r):l.map enc ++ ys.map enc=r.map enc:=by
 rw [(mW h).2,List.map_append]
def FR (k:IntKind) (a b:Int):Option Int:=if b=0 then none else some (a.tmod b)
def AJ (k:IntKind) (a b:Int):Option Int:=if b=0 then none else some (k.wrap (a.tdiv b))
theorem xB {P:Program} {t:Nat} {k:IntKind} {a b z:Int} (h:FR k a b=some z):jL P t .rem (.d (.int k a)) (.d (.int k b))=some (.int k z):=by
 unfold FR at h
 split at h
 ·
  cases h
 ·
  rename_i hb; rw [Jl hb]; cases h; rfl
theorem xe {P:Program} {t:Nat} {k:IntKind} {a b z:Int} (h:AJ k a b=some z):jL P t .quo (.d (.int k a)) (.d (.int k b))=some (.int k z):=by
 unfold AJ at h
 split at h
 ·
  cases h
 ·
  rename_i hb; rw [Jn hb]; cases h; rfl
def cat (a b:Str):Option Str:=if a.length + b.length ≤ 4611686018427387904 then some (a ++ b) else none
theorem xW {P:Program} {t:Nat} {a b z:Str} (h:cat a b=some z):jL P t .add (.d (.str a)) (.d (.str b))=some (.str z):=by
 unfold cat at h
 split at h
 ·
  rename_i hb; rw [JV hb]; cases h; rfl
 ·
  cases h
def Kt (a b:Int):Int:=if b > a then b else a
section
variable {C:gG} {ρ:Operand→Option AV} {S:St} {x y z:Operand} {t:Nat}
theorem KA {k:IntKind} {a b:Int} {ts:Array Nat} (hx:ρ x=some (.d (.int k a))) (hy:ρ y=some (.d (.int k b))):oper C ρ S (.call { callee:=.builtin .max,args:=#[x,y],argTypes:=ts })=some (.val (.d (.int k (Kt a b))) S):=by
 have:jw ρ [x,y]=some [.d (.int k a),.d (.int k b)]:=by simp only [jw,hx,hy,Option.map_some]
 simp only [oper,this,jq,vR,if_true,Option.map_some]; rfl
theorem aS {α:Type} {enc:α→D} {l:List α} {b:Bool} {tt:Nat} (h:ρ x=some (.d (.sl (l.map enc) b))) (ht:(bO C.P tt).isSome=true):oper C ρ S (.call { callee:=.builtin .len,args:=#[x],argTypes:=#[tt] })=some (.val (.d (.int .i64 (l.length:Int))) S) :=
 uh h (Jq ht) (by simp [l7])
theorem Im {α:Type} {enc:α→D} {xs:List α} {tt:Nat} {S0:St} {l:List dI} (H:Has B S0 l) {i:Nat} {v:AV} (hi:l[i]? = some (.grow v (xs.map enc))) (h:ρ x=some v) (ht:(bO C.P tt).isSome=true):oper C ρ S (.call { callee:=.builtin .len,args:=#[x],argTypes:=#[tt] })=some (.val (.d (.int .i64 (xs.length:Int))) S) :=
 uh h (FJ H hi ht) (by rw [F9 H hi]; simp)
theorem wm:∀ (l:List Int),mY (l.map (D.int .u8))=some (l.map fun n=>UInt8.ofNat n.toNat)
 | []=>rfl
 | n :: l=>by simp only [List.map_cons,mY,wm l,Option.map_some]
theorem yG {src dst:Nat} {l:List Int} {b:Bool} (h:ρ x=some (.d (.sl (l.map (D.int .u8)) b))) (hd:wy C.P dst=true) (hs:tT C src=true):oper C ρ S (.convert src dst x)=some (.val (.d (.str (l.map fun n=>UInt8.ofNat n.toNat))) S):=by
 simp only [oper,h,zD,hd,hs,Bool.and_self,if_true,wm,Option.map_some]
def kQ (l:List (Nat × Nat)):Nat→Option (Nat × Nat):=fun i=>l[i]?
def placesOf (P:Program) (t:Nat):Option (List (Nat × Nat)):=match P.underlying t with
 | some (.struct fs)=>if fs.all fun f=>(P.underlying f.type).isSome then some (fs.toList.map fun x=>(x.offset,aL P x.type)) else none
 | _=>none
theorem iE {l:List (Nat × Nat)} (h:placesOf C.P t=some l):oper.P_place C t=some (kQ l):=by
 unfold placesOf at h
 unfold oper.P_place
 split at h
 ·
  rename_i fs hu
  simp only [hu]
  split at h
  ·
   rename_i ha
   rw [if_pos ha]
   simp only [Option.some.injEq] at h
   subst h
   congr 1
   funext i
   simp [kQ]
  ·
   cases h
 ·
  cases h
theorem bH {ps:Array (Nat × Operand)} {z:D} {pv:List (Nat × AV)} {pl:Nat→Option (Nat × Nat)} {cs:List AV} (hz:zeroOf C.P t=some z) (he:oH ρ ps=some pv) (hp:oper.P_place C t=some pl) (hf:kT mR pl (AV.d z).cells pv=some cs):oper C ρ S (.build t ps)=some (.val (iY cs) S):=by
 simp only [oper,hz,he,hp,hf,Option.map_some]
inductive vK (sz:Nat):List AV→List D→Prop
 | nil:vK sz [] []
 | cons {v:AV} {d:D} {vs:List AV} {ds:List D} (h:CB v=some d) (hl:d.cells.length=sz) (k:vK sz vs ds):vK sz (v :: vs) (d :: ds)
def vg (n:Nat):List AV→List (Nat × AV)
 | []=>[]
 | v :: l=>(n,v) :: vg (n + 1) l
theorem Ct {α:Type}:∀ (l cs:List α) (off:Nat),(setAt cs off l).length=cs.length
 | [],cs,off=>rfl
 | v :: l,cs,off=>by rw [setAt,Ct l,List.length_set]
theorem xM {α:Type}:∀ (l a b c:List α),l.length=b.length→setAt (a ++ b ++ c) a.length l=a ++ l ++ c
 | [],a,b,c,h=>by
  have:b=[]:=List.eq_nil_of_length_eq_zero h.symm
  subst this; simp [setAt]
 | v :: l,a,b,c,h=>by
  cases b with
  | nil=>simp at h
  | cons w b =>
   simp only [List.length_cons,Nat.add_right_cancel_iff] at h
   have:=xM l (a ++ [v]) b c h
   simp only [setAt]
   have e:(a ++ w :: b ++ c).set a.length v=a ++ [v] ++ b ++ c:=by
    simp [List.set_append]
   rw [e,show a.length + 1=(a ++ [v]).length by simp,this]
   simp
theorem Gg {sz:Nat} {vs:List AV} {ds:List D} (h:vK sz vs ds):∀ (done:List D) (todo:List D),(∀ d ∈ done,d.cells.length=sz)→todo.length=vs.length * sz →
  kT cellsD (fun i=>some (i * sz,sz)) ((done.map D.cells).flatten ++ todo) (vg done.length vs)=some (((done ++ ds).map D.cells).flatten):=by
 induction h with
 | nil =>
  intro done todo _ ht
  have:todo=[]:=List.eq_nil_of_length_eq_zero (by simpa using ht)
  subst this
  simp [vg,kT]
 | @cons v d vs ds h hl k ih =>
  intro done todo hd ht
  have hlen:((done.map D.cells).flatten).length=done.length * sz:=by
   clear ih ht
   induction done with
   | nil=>simp
   | cons x l ihl =>
    simp only [List.map_cons,List.flatten_cons,List.length_append,hd x List.mem_cons_self,List.length_cons,ihl (fun d h=>hd d (List.mem_cons_of_mem _ h))]
    rw [Nat.add_mul]; omega
  simp only [List.length_cons] at ht
  rw [Nat.add_mul,Nat.one_mul] at ht
  have hc:cellsD v=some d.cells:=by simp only [cellsD,h]
  simp only [vg,kT,hc]
  rw [if_pos ⟨hl,by rw [List.length_append,hlen,hl]; omega⟩]
  have e1:todo=todo.take sz ++ todo.drop sz:=(List.take_append_drop sz todo).symm
  have e2:setAt ((done.map D.cells).flatten ++ todo) (done.length * sz) d.cells=((done ++ [d]).map D.cells).flatten ++ todo.drop sz:=by
   rw [e1,← List.append_assoc,← hlen,xM _ _ _ _ (by rw [hl,List.length_take]; omega)]
   simp
  rw [e2]
  have:=ih (done ++ [d]) (todo.drop sz) (fun x hx=>by
   rcases List.mem_append.1 hx with hx | hx
   ·
    exact hd x hx
   ·
    rw [List.mem_singleton.1 hx]; exact hl) (by rw [List.length_drop]; omega)
  rw [show (done ++ [d]).length=done.length + 1 by simp] at this
  rw [this]
  simp
theorem zV {sz:Nat}:∀ (ds:List D),(∀ d ∈ ds,d.cells.length=sz)→chunk sz ds.length ((ds.map D.cells).flatten)=ds.map D.cells
 | [],_=>rfl
 | d :: ds,h=>by
  have hd:=h d List.mem_cons_self
  simp only [List.length_cons,chunk,List.map_cons,List.flatten_cons]
  rw [List.take_append_of_le_length (by omega),List.take_of_length_le (by omega),List.drop_append_of_le_length (by omega),List.drop_of_length_le (by omega),List.nil_append,zV ds (fun d hd=>h d (List.mem_cons_of_mem _ hd))]
theorem zJ {ag:Bool}:∀ (ds:List D),(∀ d ∈ ds,if ag=true then d.isAgg=true else d.isAgg=false)→jw (yB ag) (ds.map D.cells)=some ds
 | [],_=>rfl
 | d :: ds,h=>by
  have hd:=h d List.mem_cons_self
  have:yB ag d.cells=some d:=by
   unfold yB
   cases ag with
   | true =>
    simp only [if_true] at hd ⊢
    cases d <;> simp_all [D.isAgg,D.cells]
   | false =>
    simp only [Bool.false_eq_true,if_false] at hd ⊢
    cases d <;> simp_all [D.isAgg,D.cells]
  simp only [List.map_cons,jw,this,zJ ds (fun d hd=>h d (List.mem_cons_of_mem _ hd)),Option.map_some]
theorem vK.len {sz:Nat} {vs:List AV} {ds:List D} (h:vK sz vs ds):ds.length=vs.length∧∀ d ∈ ds,d.cells.length=sz:=by
 induction h with
 | nil=>exact ⟨rfl,by simp⟩
 | cons h hl k ih=>exact ⟨by simp [ih.1],fun d hd=>by rcases List.mem_cons.1 hd with rfl | hd; exact hl; exact ih.2 d hd⟩
theorem aP {n el sz:Nat} {ag:Bool} {ps:Array (Nat × Operand)} {zd:D} {vs:List AV} {ds:List D} (hr:C.rowT t=false) (he:bO C.P t=some el) (ha:eO C.P el=some ag) (hz:zeroOf C.P el=some zd) (hs:aL C.P el=sz) (hzl:zd.cells.length=sz) (hb:n * sz ≤ 16777216∧0 < n * sz)
  (hv:vK sz vs ds) (hn:vs.length=n) (hg:∀ d ∈ ds,if ag=true then d.isAgg=true else d.isAgg=false) (hev:oH ρ ps=some (vg 0 vs)):oper C ρ S (.buildSlice t n ps)=some (.val (.d (.sl ds true)) S):=by
 obtain ⟨k1,k2⟩:=hv.len
 subst hs
 have f1:=Gg hv [] ((List.replicate n zd.cells).flatten) (by simp) (by
  rw [List.length_flatten,List.map_replicate,List.sum_replicate_nat,hzl,hn])
 simp only [List.map_nil,List.flatten_nil,List.nil_append,List.length_nil] at f1
 have f2:=zV ds k2
 rw [k1,hn] at f2
 simp only [oper,nJ,hr,Bool.false_and,cond_false,he,hev]
 rw [if_pos hb.1,if_neg (by omega)]
 simp only [hz,hzl,if_true,f1,ha,f2,zJ ds hg,Option.map_some]
end
end Go.Ev
namespace Go.Ev
end Go.Ev
namespace Go.Ev
variable {B:St}
end Go.Ev
namespace Go.Ev
def CR (u:Option TypeDesc) (a b:D):Option Bool:=match u,a,b with
 | some .bool,.bool a,.bool b=>some (a == b)
 | some (.int _),.int k a,.int k' b=>if k=k' then some (a == b) else none
 | some .string,.str a,.str b=>some (a == b)
 | _,_,_=>none
def CG (P:Program):List Field→List D→List D→Option Bool
 | [],_,_=>some true
 | f :: l,xs,ys=>match f.name == "_", xs[f.offset]?,ys[f.offset]? with
  | false,some a,some b=>(match eO P f.type,CR (P.underlying f.type) a b,CG P l xs ys with
   | some false,some p,some q=>some (p && q)
   | _,_,_=>none)
  | _,_,_=>none
theorem Ec {P:Program} {n t:Nat} {a b:D} {p:Bool} (h:CR (P.underlying t) a b=some p):nE P (n + 1) t a b=some p:=by
 unfold CR at h
 split at h
 ·
  rename_i hu; simp only [nE,hu]; exact h
 ·
  rename_i hu; simp only [nE,hu]; exact h
 ·
  rename_i hu; simp only [nE,hu]; exact h
 ·
  cases h
theorem ym {P:Program} {n:Nat} {xs ys:List D}:∀ (fs:List Field) {b:Bool},CG P fs xs ys=some b→fs.foldr (fun f k=>if f.name = "_" then k else
    match iR P f.type xs f.offset,iR P f.type ys f.offset with
    | some a,some b=>match nE P (n + 1) f.type a b with
     | some true=>k
     | some false=>some false
     | none=>none
    | _,_=>none) (some true)=some b
 | [],b,h=>h
 | f :: l,b,h=>by
  simp only [CG] at h
  split at h
  ·
   rename_i a c hn hx hy
   split at h
   ·
    rename_i p q ha hp hq
    cases h
    have hne:¬ f.name = "_" := fun e=>by rw [e] at hn; cases hn
    simp only [List.foldr_cons,if_neg hne]
    have h1:iR P f.type xs f.offset=some a:=by simp only [iR,ha,hx]
    have h2:iR P f.type ys f.offset=some c:=by simp only [iR,ha,hy]
    have ih:=ym (n:=n) l hq
    have h3:=Ec (n:=n) hp
    simp only [h1,h2,h3]
    cases p with
    | true=>simp only [Bool.true_and]; exact ih
    | false=>simp only [Bool.false_and]
   ·
    cases h
  ·
   cases h
theorem Fb {P:Program} {n t:Nat} {fs:Array Field} {xs ys:List D} (hu:P.underlying t=some (.struct fs)) (g2:P.stoodInHeld t=false):nE P (n + 1 + 1) t (.agg xs) (.agg ys)=fs.toList.foldr (fun f k=>if f.name = "_" then k else
    match iR P f.type xs f.offset,iR P f.type ys f.offset with
    | some a,some b=>match nE P (n + 1) f.type a b with
     | some true=>k
     | some false=>some false
     | none=>none
    | _,_=>none) (some true):=by
 generalize n + 1=m
 simp only [nE,hu,g2,Bool.false_eq_true,if_false]
 rfl
theorem wS {P:Program} {t:Nat} {fs:Array Field} {xs ys:List D} {b:Bool} (g1:P.eqGuardType P.depth t=false) (hu:P.underlying t=some (.struct fs)) (g2:P.stoodInHeld t=false) (h:CG P fs.toList xs ys=some b) :
  AV.eqv P t (.d (.agg xs)) (.d (.agg ys))=some b:=by
 have h1:AV.eqv P t (.d (.agg xs)) (.d (.agg ys))=nE P 20 t (.agg xs) (.agg ys):=by
  show (if P.eqGuardType P.depth t then none else nE P 20 t (.agg xs) (.agg ys))=_
  rw [g1]; rfl
 rw [h1,Fb (n:=18) hu g2]
 exact ym fs.toList h
theorem sP {P:Program} {t:Nat} {x y:D} {xs ys:List D} {b:Bool} (hx:x=.agg xs) (hy:y=.agg ys) (h:AV.eqv P t (.d (.agg xs)) (.d (.agg ys))=some b):jL P t .neq (.d x) (.d y)=some (.bool (!b)):=by
 subst hx hy; simp only [jL,h,Option.map_some]
end Go.Ev

namespace Go.Ev
set_option linter.unusedVariables false
set_option linter.unusedSimpArgs false
variable {B:St}
variable {R:dm} {C:gG} {nt:Nat}
def kH (C:gG) (h:Hand) (nt:Nat) (ops:Array Oper) (I:List Nat) (K:List Nat):List (Nat × Oper)→Env→St→(Env→St→Prop)→Prop
 | [],e,S,Q=>Q e S
 | (i,o) :: rest,e,S,Q=>∃ e1 S1,iH C h nt ops o e S=some (.go e1 S1)∧KJ C h nt ops I o e (K.getD i 2)∧fT I (K.getD i 2) S S1∧kH C h nt ops I K rest e1 S1 Q
def Ai (ops:Array Oper):List Nat→List (Nat × Oper)
 | []=>[]
 | i :: l=>match ops[i]? with
  | some o=>(i,o) :: Ai ops l
  | none=>[]
theorem CW {h:Hand} {ops:Array Oper} {I:List Nat} {K:List Nat}:∀ (l:List (Nat × Oper)) {e:Env} {S:St} {Q:Env→St→Prop},(∀ p ∈ l,ops[p.1]? = some p.2)→kH C h nt ops I K l e S Q →
  ∃ e' S',Run C h nt ops I (fun i=>K.getD i 2) (l.map (·.1)) e S e' S'∧Q e' S'
 | [],e,S,Q,_,hv=>⟨e,S,.nil _ _,hv⟩
 | (i,o) :: l,e,S,Q,hl,⟨e1,S1,h1,h2,h3,h4⟩=>by
  obtain ⟨e',S',r,q⟩:=CW l (fun p hp=>hl p (List.mem_cons_of_mem _ hp)) h4
  exact ⟨e',S',.cons i _ o _ _ _ _ _ _ (hl (i,o) List.mem_cons_self) h1 h2 h3 r,q⟩
theorem vZ {ops:Array Oper}:∀ (L:List Nat),(∀ i ∈ L,i < ops.size)→(∀ p ∈ Ai ops L,ops[p.1]? = some p.2)∧(Ai ops L).map (·.1)=L
 | [],_=>⟨by simp [Ai],rfl⟩
 | i :: L,h=>by
  have hlt:=h i List.mem_cons_self
  have hi:ops[i]? = some ops[i]:=by simp [hlt]
  obtain ⟨a,b⟩:=vZ L (fun j hj=>h j (List.mem_cons_of_mem _ hj))
  simp only [Ai,hi]
  refine ⟨fun p hp=>?_,by simp [b]⟩
  rcases List.mem_cons.1 hp with rfl | hp
  ·
   exact hi
  ·
   exact a p hp
section rules
variable {T:List Fact} {ops:Array Oper} {rest:List (Nat × Oper)} {I K:List Nat} {e:Env} {S S':St} {Q:Env→St→Prop} {l l':List dI} {t ty i:Nat} {p:String} {af:Array Edge} {g:Option (Nat × Bool)} {v:AV} {x y:Operand}
theorem xu {h:Hand} {op:Op} {v:AV} (hw:bV ops e { dst:=some t,op:=op,type:=ty,pos:=p,after:=af,guard:=g }=some true) (ho:oper C (dB e) S op=some (.val v S')) (ht:Nat.blt t nt=true) :
  iH C h nt ops { dst:=some t,op:=op,type:=ty,pos:=p,after:=af,guard:=g } e S=some (.go ((t,v) :: e) S'):=by
 simp only [iH,hw,ho,Env.put,ht,cond_true]
theorem kH.val {op:Op} {v:AV} (hp:Dy (yY (jf T))) (hk:K.getD i 2=0) (hc:cls C op=0) (hw:bV ops e { dst:=some t,op:=op,type:=ty,pos:=p,after:=af,guard:=g }=some true) (ho:oper C (dB e) S op=some (.val v S)) (ht:Nat.blt t nt=true)
  (k:kH C (yY (jf T)) nt ops I K rest ((t,v) :: e) S Q):kH C (yY (jf T)) nt ops I K ((i,{ dst:=some t,op:=op,type:=ty,pos:=p,after:=af,guard:=g }) :: rest) e S Q:=by
 have hs:=xu (C:=C) (nt:=nt) (h:=yY (jf T)) hw ho ht
 refine ⟨_,S,hs,⟨fun _=>Mg hp hs (by unfold Od; rw [if_pos (by rw [hc]; omega)]; exact hc),fun q=>(by rw [hk] at q; cases q),fun q=>(by rw [hk] at q; cases q)⟩,fun q=>(by rw [hk] at q; cases q),k⟩
theorem kH.read {op:Op} {v:AV} (hk:K.getD i 2=1) (hc:cls C op=1) (hi:∀ id ∈ (qU (dB e) op).getD [],id ∈ I) (hw:bV ops e { dst:=some t,op:=op,type:=ty,pos:=p,after:=af,guard:=g }=some true) (ho:oper C (dB e) S op=some (.val v S)) (ht:Nat.blt t nt=true)
  (k:kH C (yY (jf T)) nt ops I K rest ((t,v) :: e) S Q):kH C (yY (jf T)) nt ops I K ((i,{ dst:=some t,op:=op,type:=ty,pos:=p,after:=af,guard:=g }) :: rest) e S Q:=by
 have hs:=xu (C:=C) (nt:=nt) (h:=yY (jf T)) hw ho ht
 refine ⟨_,S,hs,⟨fun q=>(by rw [hk] at q; cases q),fun _=>⟨by rw [hc]; omega,hi⟩,fun q=>(by rw [hk] at q; cases q)⟩,fun q=>(by rw [hk] at q; cases q),k⟩
theorem kH.new {op:Op} {v:AV} (hk:K.getD i 2=3) (hn:GA C op=true) (hw:bV ops e { dst:=some t,op:=op,type:=ty,pos:=p,after:=af,guard:=g }=some true) (ho:oper C (dB e) S op=some (.val v S')) (ht:Nat.blt t nt=true)
  (k:kH C (yY (jf T)) nt ops I K rest ((t,v) :: e) S' Q):kH C (yY (jf T)) nt ops I K ((i,{ dst:=some t,op:=op,type:=ty,pos:=p,after:=af,guard:=g }) :: rest) e S Q:=by
 have hs:=xu (C:=C) (nt:=nt) (h:=yY (jf T)) hw ho ht
 refine ⟨_,S',hs,⟨fun q=>(by rw [hk] at q; cases q),fun q=>(by rw [hk] at q; cases q),fun _=>hn⟩,fun q=>(by rw [hk] at q; cases q),k⟩
theorem kH.alloc {bt:Nat} {z:D} {cs:List AV} (H:Has B S l) (hk:K.getD i 2=3) (hw:bV ops e { dst:=some t,op:=.alloc bt,type:=ty,pos:=p,after:=af,guard:=g }=some true) (ho:C.objT bt=none) (hz:zeroOf C.P bt=some z) (hc:(AV.d z).cells=cs) (ht:Nat.blt t nt=true)
  (k:∀ b S',Has B S' (.box b cs :: l)→kH C (yY (jf T)) nt ops I K rest ((t,.ptr b 0 0) :: e) S' Q) :
  kH C (yY (jf T)) nt ops I K ((i,{ dst:=some t,op:=.alloc bt,type:=ty,pos:=p,after:=af,guard:=g }) :: rest) e S Q :=
 kH.new hk rfl hw (zn H ho hz hc) ht (k _ _ (H.box cs))
end rules
theorem Bv {P:Program}:∀ x ∈ ([]:List Fact),x.ok R P:=fun x hx=>by cases hx
def DC:List Fact→Bool
 | []=>true
 | .pure _ _ _ :: l=>DC l
 | _=>false
theorem zU:∀ {T:List Fact},DC T=true→∀ f args S v S',Fact.full f args S v S' ∈ T→False
 | [],_,_,_,_,_,_,h=>by cases h
 | .pure _ _ _ :: l,hp,f,args,S,v,S',h=>by
  rcases List.mem_cons.1 h with h | h
  ·
   cases h
  ·
   exact zU (T:=l) hp f args S v S' h
 | .full _ _ _ _ _ :: l,hp,_,_,_,_,_,_=>by cases hp
theorem LF {P:Program} {T:List Fact} (hT:∀ x ∈ T,x.ok R P) (hp:DC T=true):Dy (yY (jf T)) :=
 Fa hT (fun f args v S v' S' _ h=>zU hp f args S v' S' h)
end Go.Ev
namespace Go.Ev
theorem oZ {ρ:Operand→Option AV} {op:Op} {L I:List Nat} (h:qU ρ op=some L) (hs:∀ id ∈ L,id ∈ I):∀ id ∈ (qU ρ op).getD [],id ∈ I:=by rw [h]; exact hs
end Go.Ev
namespace Go.Ev
end Go.Ev

namespace Go.Ev
set_option linter.unusedVariables false
set_option linter.unusedSimpArgs false
variable {R:dm} {C:gG} {P:Program} {nt:Nat} {B:St}
theorem gm.rel {ys xs:List AV} (h:gm ys xs) {cx:Cx} {S:St} {w:World} {us:List Value} (hr:∀ (i:Nat) (x:AV) (u:Value),xs[i]? = some x→us[i]? = some u→aQ cx S w x u) :
  ∀ (i:Nat) (y:AV) (u:Value),ys[i]? = some y→us[i]? = some u→aQ cx S w y u:=fun i y u hy hu=>by
 have hlt:i < xs.length:=by rw [← h.len]; exact (List.getElem?_eq_some_iff.1 hy).1
 have hx:=List.getElem?_eq_getElem hlt
 exact h.get hy hx _ _ _ _ (hr i _ u hx hu)
theorem eQ.uY {f:Nat} {args args':List AV} {S:St} {Q:Out→Prop} (h:eQ R P f args' S Q) (hl:gm args' args):eQ R P f args S Q :=
 ⟨h.1,fun cx w us h1 h2 h3=>h.2 cx w us h1 (by rw [h2,hl.len]) (hl.rel h3)⟩
theorem SpecS.of_wp {f:Nat} {fn:Func} {c:Code} (hf:C.P.funcs[f]? = some fn) (hc:fn.body=some c) (hn:(fn.name == "runtime.NumGoroutine")=false) {args:List AV} (hle:Nat.ble args.length fn.ntmps=true) {S:St} {v:AV}
  (h:S.Wf→ax R C.P fn.ntmps c (rf 0 args) S (JU C fn (fun r=>r.1=none∧fq S r.2.2∧∃ v',wM r.2.1=some v'∧DY v v'))):eQ R C.P f args S (fun r=>r=(none,v,S)):=by
 refine ⟨⟨fn,hf,by simp [hc],by simpa using hn⟩,fun cx w us hS hl hr=>?_⟩
 have hs:=eQ.of_wp hf hc hn (args:=args) (Nat.le_of_ble_eq_true hle) (h hS.wf)
 refine (hs.2 cx w us hS hl hr).mono (fun e w' he=>?_)
 obtain ⟨⟨p,v1,S1⟩,⟨hp,hk,v',hv,ha⟩,cx1,k1,k2,k3⟩:=he
 simp only at hp hv hk
 subst hp
 obtain ⟨d1,d2⟩:=Ir hS.wf k1 k2 (hk.sub hS)
 obtain ⟨u,rfl,k3⟩:=k3
 exact ⟨_,rfl,cx1,d1,d2,u,rfl,ha.rel (zQ hv k3 (fun _ _ q=>q))⟩
theorem vX {ρ:Operand→Option AV} {S:St} {x:Operand} {g:Nat} {caps:List AV} {arr_:Array Operand} {ts:Array Nat} {args:List AV} (hx:ρ x=some (.fn g caps)) (ha:jw ρ arr_.toList=some args):oper C ρ S (.call { callee:=.value x,args:=arr_,argTypes:=ts })=some (.call g (args ++ caps)):=by
 simp only [oper,hx,ha]
theorem rC {ρ:Operand→Option AV} {S:St} {g:Nat} {caps:Array Operand} {cs:List AV} (h:jw ρ caps.toList=some cs):oper C ρ S (.makeFunc (.func g) #[] caps)=some (.val (.fn g cs) S):=by
 simp only [oper,h,Option.map_some]
theorem vT {ρ:Operand→Option AV} {S:St} {l:List dI} {x:Operand} {t id off:Nat} {cs:List AV} {v:AV} (H:Has B S l) (hb:B.H.get id=some (.cells 0 cs)) (h:ρ x=some (.ptr id 0 off)) (hp:part C.P t cs off=some v):oper C ρ S (.load t x)=some (.val v S):=by
 have hb:=H.keeps.H _ _ hb
 simp only [oper,h,oQ,St.look,hb,Nat.beq_refl,cond_true,hp,Option.map_some]
end Go.Ev
namespace Go.Ev
theorem lQ {C:gG} {ρ:Operand→Option AV} {S:St} {t el:Nat} {ag:Bool} (hr:C.rowT t=false) (he:bO C.P t=some el) (ha:eO C.P el=some ag):oper C ρ S (.buildSlice t 0 #[])=some (.val (.d (.sl [] true)) S):=by
 simp [oper,nJ,hr,he,ha,oH,jw,kT,chunk]
theorem cO {pl:Nat→Option (Nat × Nat)} {cells:List AV} {i off size:Nat} {v:AV} {rest:List (Nat × AV)} {cs' r:List AV} (hp:pl i=some (off,size)) (hc:mR v=some cs') (hl:cs'.length=size) (hb:Nat.ble (off + cs'.length) cells.length=true) (k:kT mR pl (setAt cells off cs') rest=some r):kT mR pl cells ((i,v) :: rest)=some r:=by
 simp only [kT,hp,hc]
 rw [if_pos ⟨hl,Nat.le_of_ble_eq_true hb⟩]; exact k
theorem kF {d:D} {cs:List AV} (h:(AV.d d).cells=cs):mR (.d d)=some cs:=by subst h; rfl
theorem CE {P:Program} {t:Nat} {a b:Bool} (h:P.underlying t=some .bool):jL P t .neq (.d (.bool a)) (.d (.bool b))=some (.bool (!(a == b))):=by
 simp only [jL,AV.eqv,nE,h,Option.map_some]
theorem map_nil {α β:Type} {f:α→β} {l:List α} (h:l.map f=[]):l=[]:=List.map_eq_nil_iff.1 h
theorem KH {α:Type} {enc:α→D} {C:gG} {t el:Nat} {l r:List α} {b:Bool} {lo hi:Option D} {x y:Int} (he:bO C.P t=some el) (hu:(C.P.underlying el).isSome=true) (hlen:∀ z,(enc z).cells.length=aL C.P el)
  (hlo:lZ lo 0=some x.toNat∧0 ≤ x) (hhi:lZ hi (l.map enc).length=some y.toNat∧0 ≤ y) (h:cut l x y=some r):∃ b',wD C t (l.map enc) b lo hi none=some (.sl (r.map enc) b')∧(b=false→b'=false):=by
 obtain ⟨⟨h1,h2,h3⟩,rfl⟩:=ED h
 have hh:Ac (aL C.P el) (l.map enc)=true:=by
  cases l with
  | nil=>rfl
  | cons z l=>simp [Ac,hlen]
 refine ⟨b && Nat.beq y.toNat (l.map enc).length,?_,fun h=>by rw [h]; rfl⟩
 have e1:decide (x.toNat ≤ y.toNat)=true:=decide_eq_true (by omega)
 have e2:decide (y.toNat ≤ (l.map enc).length)=true:=decide_eq_true (by simp; omega)
 simp only [wD,he,hh,hu,Bool.and_self,if_true,hlo.1,hhi.1,e1,e2]
 simp [List.map_take,List.map_drop]
section
variable {α:Type} {enc:α→D} {C:gG} {ρ:Operand→Option AV} {S:St} {t el:Nat} {x lo hi:Operand} {l r:List α} {k k':IntKind} {a c:Int}
theorem IA {k:IntKind} {a:Int} (h:0 ≤ a):asNat (.int k a)=some a.toNat:=by simp only [asNat,if_pos h]
theorem Gt (hx:ρ x=some (.d (.sl (l.map enc) false))) (hh:ρ hi=some (.d (.int k' c))) (he:bO C.P t=some el) (hu:(C.P.underlying el).isSome=true) (hlen:∀ z,(enc z).cells.length=aL C.P el) (h:cut l 0 c=some r) :
  oper C ρ S (.slice t x none (some hi) none)=some (.val (.d (.sl (r.map enc) false)) S):=by
 have hb:=(ED h).1
 obtain ⟨b',h1,h2⟩:=KH (C:=C) (b:=false) (lo:=none) (hi:=some (.int k' c)) he hu hlen ⟨rfl,by omega⟩ ⟨IA (k:=k') (by omega),by omega⟩ h
 rw [h2 rfl] at h1
 simp only [oper,hx,vO,hh,za,h1,Option.map_some]
end
section
variable {C:gG} {ρ:Operand→Option AV} {S:St} {t:Nat} {x lo hi:Operand} {s r:Str} {k k':IntKind} {a c:Int}
end
end Go.Ev

namespace Go.Ev
noncomputable section
set_option linter.unusedVariables false
set_option linter.unusedSimpArgs false
theorem Has.obj {B S:St} {l:List dI} (h:Has B S l) (k:Nat) (x:D):Has B (bZ S (.obj k x)) (.obj S.nx k x :: l) :=
 h.new _ rfl (by simp [dI.ok,bZ,AL.bq])
section
variable {R:dm} {C:gG} {nt:Nat} {ops:Array Oper} {rest:List Oper} {e:Env} {B S S':St} {Q:Stp→Prop} {l l':List dI} {t ty:Nat} {p:String} {af:Array Edge} {g:Option (Nat × Bool)} {v:AV} {x y:Operand}
end
def lN (n:Nat) (s c:Str):Option Str:=if s.length ≤ bound∧c.length ≤ 1000∧(c.all fun b=>decide (b.toNat < 128))=true then some (Lib.trimS s c) else none
end
end Go.Ev

namespace Go.Ev
noncomputable section
set_option linter.unusedVariables false
set_option linter.unusedSimpArgs false
set_option linter.unusedSectionVars false
section
variable {κ ν:Type} [BEq κ] [LawfulBEq κ]
def IV (ek:κ→D) (ev:ν→D):Nat→List (κ × ν)→List (D × AV × Nat)
 | _,[]=>[]
 | i,(k,v) :: l=>(ek k,.d (ev v),i) :: IV ek ev (i + 1) l
def mD (ek:κ→D) (ev:ν→D) (m:List (κ × ν)):xO:={ es:=IV ek ev 0 m,clk:=m.length }
def o8 (k:κ):List (κ × ν)→Nat→Option (Nat × ν)
 | [],_=>none
 | (a,b) :: l,i=>if k == a then some (i,b) else o8 k l (i + 1)
def FW (m:List (κ × ν)) (k:κ):Option ν:=(o8 k m 0).map (·.2)
def mg (m:List (κ × ν)) (k:κ) (z:ν):ν:=(FW m k).getD z
def xw (m:List (κ × ν)) (k:κ) (v:ν):List (κ × ν):=match o8 k m 0 with
 | some (i,_)=>m.set i (k,v)
 | none=>m ++ [(k,v)]
structure Bz (P:Program) (t:Nat) (ek:κ→D):Prop where
 eq:∀ a b,nE P 20 t (ek a) (ek b)=some (a == b)
 same:∀ a,D.same (ek a) (ek a)=true
 ok:∀ a,qX P t (ek a)=true
theorem zF {P:Program} {t:Nat} {ek:κ→D} {ev:ν→D} (K:Bz P t ek) (k:κ):∀ (m:List (κ × ν)) (i j:Nat),ni P t (ek k) (IV ek ev i m) j=some ((o8 k m j).map fun r=>(r.1,.d (ev r.2)))
 | [],i,j=>rfl
 | (a,b) :: l,i,j=>by
  simp only [IV,ni,K.eq,o8]
  cases hb:k == a with
  | true =>
   have:=eq_of_beq hb
   subst this
   simp [K.same]
  | false=>simp only [zF K k l (i + 1) (j + 1)]; rfl
theorem Jv {C:gG} {t kt et id:Nat} {S:St} {ek:κ→D} {ev:ν→D} {m:List (κ × ν)} {k:κ} {z:ν} (hk:uQ C t=some (kt,et)) (K:Bz C.P kt ek) (hz:zeroOf C.P et=some (ev z)) (hm:S.H.get id=some (.map (mD ek ev m))) :
  oI C t S (.map id) (ek k) false=some (.d (ev (mg m k z))):=by
 simp only [oI,hk,mapOf,hm,K.ok,if_true,mD,zF K]
 unfold mg FW
 cases o8 k m 0 with
 | none=>simp [hz]
 | some r=>simp
theorem Aj (ek:κ→D) (ev:ν→D) (k:κ) (v:ν):∀ (m:List (κ × ν)) (i:Nat),IV ek ev i m ++ [(ek k,.d (ev v),i + m.length)]=IV ek ev i (m ++ [(k,v)])
 | [],i=>rfl
 | (a,b) :: l,i=>by
  have:=Aj ek ev k v l (i + 1)
  simp only [IV,List.cons_append,List.length_cons]
  rw [show i + (l.length + 1)=i + 1 + l.length by omega,this]
theorem GD (ek:κ→D) (ev:ν→D) (k:κ) (v:ν):∀ (m:List (κ × ν)) (i j:Nat),(IV ek ev i m).modify j (fun p=>(ek k,.d (ev v),p.2.2))=IV ek ev i (m.set j (k,v))
 | [],i,j=>by simp [IV]
 | (a,b) :: l,i,0=>by simp [IV]
 | (a,b) :: l,i,j + 1=>by
  have:=GD ek ev k v l (i + 1) j
  simp only [IV,List.set_cons_succ,List.modify_succ_cons,this]
theorem Jd {C:gG} {t kt et id:Nat} {S:St} {ek:κ→D} {ev:ν→D} {m:List (κ × ν)} {k:κ} {v:ν} (hk:uQ C t=some (kt,et)) (K:Bz C.P kt ek) (hm:S.H.get id=some (.map (mD ek ev m))) :
  uy C t S (.map id) (ek k) (.d (ev v))=some { S with H:=S.H.set id (.map (mD ek ev (xw m k v))) }:=by
 simp only [uy,hk,hm,K.ok,AV.plain,Bool.and_self,if_true,mD,zF K]
 unfold xw
 cases hf:o8 k m 0 with
 | none =>
  have:=Aj ek ev k v m 0
  rw [Nat.zero_add] at this
  simp [this]
 | some r=>simp [GD]
theorem Has.map {B S:St} {l:List dI} (h:Has B S l) (m:xO):Has B (bZ S (.map m)) (.map S.nx m :: l) :=
 h.new _ rfl (by simp [dI.ok,bZ,AL.bq])
omit [BEq κ] [LawfulBEq κ] in
theorem Has.MB {B S:St} {l:List dI} (h:Has B S l) {i id:Nat} {m m':xO} (hi:l[i]? = some (.map id m)):Has B { S with H:=S.H.set id (.map m') } (l.set i (.map id m')):=by
 have hid:=h.at hi
 refine h.set hi rfl (by simp [dI.ok,AL.bq]) (fun j hl=>?_) (fun j hj=>?_) (fun j hj=>rfl) rfl
 ·
  refine h.wf j ?_
  unfold live cur at hl ⊢
  simp only [AL.bq] at hl
  by_cases hij:id=j
  ·
   subst hij; rw [show S.H.get id=_ from hid]; simp
  ·
   rw [if_neg hij] at hl; exact hl
 ·
  simp only [dI.fp,List.mem_singleton] at hj
  simp only [AL.bq]
  rw [if_neg (fun q=>hj q.symm)]
end
theorem FE {P:Program} {t:Nat} (h:P.underlying t=some .string):Bz P t D.str where
 eq:=fun a b=>by simp only [nE,h]
 same:=fun a=>by simp [D.same]
 ok:=fun a=>by simp only [qX,pV,om,h,Bool.and_self]
section
variable {κ ν:Type} [BEq κ] [LawfulBEq κ] {R:dm} {C:gG} {nt:Nat} {ops:Array Oper} {rest:List Oper} {e:Env} {B S S':St} {Q:Stp→Prop} {l l':List dI} {t ty:Nat} {p:String} {af:Array Edge} {g:Option (Nat × Bool)} {x y w:Operand} {ρ:Operand→Option AV} {ek:κ→D} {ev:ν→D} {m:List (κ × ν)} {k:κ} {v z:ν}
theorem ae.makeMap {t1 kt et:Nat} (ek:κ→D) (ev:ν→D) (H:Has B S l) (hw:bV ops e { dst:=some t,op:=.makeMap t1 none,type:=ty,pos:=p,after:=af,guard:=g }=some true) (hk:uQ C t1=some (kt,et)) (ht:Nat.blt t nt=true)
  (k:∀ b S',Has B S' (.map b (mD ek ev []) :: l)→ae R C nt ops rest ((t,.map b) :: e) S' Q) :
  ae R C nt ops ({ dst:=some t,op:=.makeMap t1 none,type:=ty,pos:=p,after:=af,guard:=g } :: rest) e S Q :=
 ae.val hw (v:=.map S.nx) (S':=bZ S (.map (mD ek ev []))) (by simp only [oper,hk,H.Dq,cond_false]; rfl) ht (k _ _ (H.map _))
theorem w9 {t1 kt et id i:Nat} (H:Has B S l) (hi:l[i]? = some (.map id (mD ek ev m))) (hm:ρ x=some (.map id)) (hky:ρ y=some (.d (ek k))) (hk:uQ C t1=some (kt,et)) (K:Bz C.P kt ek) (hz:zeroOf C.P et=some (ev z)) :
  oper C ρ S (.lookup t1 x y false)=some (.val (.d (ev (mg m k z))) S):=by
 simp only [oper,hm,hky,Jv hk K hz (H.at hi),Option.map_some]
theorem ae.mapUpdate {t1 kt et id i:Nat} (H:Has B S l) (hw:bV ops e { dst:=none,op:=.mapUpdate t1 x y w,type:=ty,pos:=p,after:=af,guard:=g }=some true) (hi:l[i]? = some (.map id (mD ek ev m))) (hm:dB e x=some (.map id)) (hky:dB e y=some (.d (ek k))) (hv:dB e w=some (.d (ev v))) (hk:uQ C t1=some (kt,et)) (K:Bz C.P kt ek)
  (kk:∀ S',Has B S' (l.set i (.map id (mD ek ev (xw m k v))))→ae R C nt ops rest e S' Q) :
  ae R C nt ops ({ dst:=none,op:=.mapUpdate t1 x y w,type:=ty,pos:=p,after:=af,guard:=g } :: rest) e S Q :=
 ae.skip hw (by simp only [oper,hm,hky,hv,Jd hk K (H.at hi),Option.map_some]) (kk _ (H.MB hi))
end
end
end Go.Ev

namespace Go.Ev
noncomputable section
set_option linter.unusedVariables false
set_option linter.unusedSimpArgs false
def Compat (ops:Array Oper) (K:Nat→Nat) (k i:Nat):Prop :=
 ((Region.before ops).getD i 0).testBit k=true∨((∀ x o,ops[k]? = some x→ops[i]? = some o→x.apart ops o=true)∧Ni (K k) (K i)=true)
theorem Ki {R:dm} {C:gG} (hR:jW R C) {h:Hand} (hh:Dn R C.P h) {nt:Nat} {ops:Array Oper} (hr:qA ops=true) {I:List Nat} {K:Nat→Nat} {L:List Nat} (hLn:L.Nodup) (hLm:∀ i,i ∈ L↔i < ops.size) {Q:Exit→Act→World→Prop} :
  ∀ (fuel:Nat) (listed:Array Bool) {cx:Cx} {S S':St} {w:World} {e e':Env} {a:Act},listed.size=ops.size→Closed ops listed →
  (L.filter fun i=>!listed.getD i false).Pairwise (Compat ops K)→(L.filter fun i=>!listed.getD i false).length=fuel→Run C h nt ops I K (L.filter fun i=>!listed.getD i false) e S e' S'→bD R cx S w→jo cx S w nt e a →
  (∀ cx' a' w' e'',bD R cx' S' w'→Ext cx S w cx' S' w'→jo cx' S' w' nt e'' a'→Lt e'' e'→a'.defers=a.defers→Q .normal a' w')→wpAny C.P .any ops Q fuel listed a w:=by
 intro fuel
 induction fuel with
 | zero =>
  intro listed cx S S' w e e' a hsz hcl hcp hlen hev hS he hk
  have hnil:=List.eq_nil_of_length_eq_zero hlen
  rw [hnil] at hev
  cases hev
  refine ⟨?_,hk cx a w e hS (Ext.refl w hS.wf) he (fun _=>rfl) rfl⟩
  cases hq:Region.ready .any ops listed with
  | nil=>rfl
  | cons i l =>
   have hi:i ∈ Region.ready .any ops listed:=by rw [hq]; simp
   obtain ⟨h1,o,h2,_⟩:=mem_ready.1 hi
   have hlt:i < ops.size:=(Array.getElem?_eq_some_iff.1 h2).1
   have:i ∈ L.filter fun i=>!listed.getD i false:=by
    rw [List.mem_filter]
    refine ⟨(hLm _).2 hlt,?_⟩
    have hlt':i < listed.size:=by omega
    simp [hlt'] at h1 ⊢; exact h1
   rw [hnil] at this; cases this
 | succ fuel ih =>
  intro listed cx S S' w e e' a hsz hcl hcp hlen hev hS he hk
  have step:∀ i ∈ Region.ready .any ops listed,wpOp C.P ops Q i (wpAny C.P .any ops Q fuel (listed.setIfInBounds i true)) a w:=by
   intro i hi
   obtain ⟨h1,o,h2,h3⟩:=mem_ready.1 hi
   have hlt:i < ops.size:=(Array.getElem?_eq_some_iff.1 h2).1
   have hlt':i < listed.size:=by omega
   have h1':listed.getD i false=false:=by simp [hlt'] at h1 ⊢; exact h1
   obtain ⟨r1,r2,r3⟩:=kr hr h2
   have hclo:∀ k,k < i→((Region.before ops).getD i 0).testBit k=true→listed.getD k false=true:=by
    intro k hk hb
    have hkx:∃ x,ops[k]? = some x:=⟨ops[k],by simp [show k < ops.size by omega]⟩
    obtain ⟨x,hx⟩:=hkx
    have:=r2 k x hk hx
    rw [if_pos hb] at this
    obtain ⟨ed,he,hbnd,hor⟩:=this
    rcases hor with q | q
    ·
     rw [← q]; exact h3 ed he hbnd
    ·
     by_cases hke:k < ed.on
     ·
      exact hcl ed.on (h3 ed he hbnd) k hke q
     ·
      rcases Nat.lt_or_ge ed.on k with q1 | q1
      ·
       exfalso
       have hel:ed.on < ops.size:=by have:=r1 ed he hbnd; omega
       have:=(kr hr (show ops[ed.on]? = some ops[ed.on] by simp [hel])).2.2 k (by omega)
       rw [this] at q; cases q
      ·
       have:k=ed.on:=by omega
       rw [this]; exact h3 ed he hbnd
   have hmem:i ∈ L.filter fun i=>!listed.getD i false:=by
    rw [List.mem_filter]; exact ⟨(hLm _).2 hlt,by rw [h1']; rfl⟩
   obtain ⟨l1,l2,hsp⟩:=List.append_of_mem hmem
   have hnd:(L.filter fun i=>!listed.getD i false).Nodup:=hLn.filter _
   rw [hsp] at hnd hcp
   have hne1:∀ k ∈ l1,k ≠ i:=fun k hk q=>(List.nodup_append.1 hnd).2.2 k hk i (by simp) q
   have hne2:∀ k ∈ l2,k ≠ i:=fun k hk q=>(List.nodup_cons.1 (List.nodup_append.1 hnd).2.1).1 (q ▸ hk)
   obtain ⟨c1,c2,c3⟩:=List.pairwise_append.1 hcp
   rw [hsp] at hev
   obtain ⟨e1,S1,e2,b1,_,_,b2,b3⟩:=bubble l1 l2 i h2 (fun k hk x hx=>by
    have hkl:listed.getD k false=false:=by
     have:k ∈ L.filter fun i=>!listed.getD i false:=by rw [hsp]; simp [hk]
     simpa using (List.mem_filter.1 this).2
    rcases c3 k hk i (by simp) with hb | hb
    ·
     have hki:k < i:=by
      rcases Nat.lt_or_ge k i with q | q
      ·
       exact q
      ·
       have:=r3 k q; rw [this] at hb; cases hb
     have:=hclo k hki hb
     rw [hkl] at this; cases this
    ·
     exact ⟨hb.1 x o hx h2,hb.2⟩) hev
   have hrest:L.filter (fun j=>!(listed.setIfInBounds i true).getD j false)=l1 ++ l2:=by
    have:(fun j=>!(listed.setIfInBounds i true).getD j false)=(fun j=>(!listed.getD j false) && decide (j ≠ i)):=by
     funext j
     by_cases hj:i=j
     ·
      subst hj; simp [hlt']
     ·
      rw [getD_set_ne false hj]; simp [Ne.symm hj]
    rw [this,← List.filter_filter]
    have hcomm:∀ (l:List Nat) (p q:Nat→Bool),(l.filter p).filter q=(l.filter q).filter p:=fun l p q=>by
     rw [List.filter_filter,List.filter_filter]; congr 1; funext a; exact Bool.and_comm _ _
    rw [hcomm,hsp,List.filter_append,List.filter_cons]
    simp only [ne_eq,not_true_eq_false,decide_false,Bool.false_eq_true,if_false]
    congr 1
    ·
     rw [List.filter_eq_self]; intro k hk; simpa using hne1 k hk
    ·
     rw [List.filter_eq_self]; intro k hk; simpa using hne2 k hk
   refine sj hR hh b1 hS he (fun cx1 a1 w1 s1 x1 er1 d1=>?_) h2
   refine ih (listed.setIfInBounds i true) (cx:=cx1) (S:=S1) (S':=S') (w:=w1) (e:=e1) (e':=e2) (by simpa using hsz) (fun j hj k hkj hb=>?_) (by rw [hrest]; exact List.pairwise_append.2 ⟨c1,(List.pairwise_cons.1 c2).2,fun x hx y hy=>c3 x hx y (List.mem_cons_of_mem _ hy)⟩) ?_ (by rw [hrest]; exact b2) s1 er1 (fun cx' a' w' e'' q1 q2 q3 q4 q5=>hk cx' a' w' e'' q1 (x1.trans q2) q3 (fun t=>(q4 t).trans (b3 t)) (q5.trans d1))
   ·
    by_cases hij:i=j
    ·
     subst hij
     exact getD_set_true (hclo k hkj hb)
    ·
     rw [getD_set_ne false hij] at hj
     exact getD_set_true (hcl j hj k hkj hb)
   ·
    rw [hrest]
    have:=hlen
    rw [hsp] at this
    simp at this ⊢; omega
  refine ⟨fun hnone=>?_,step⟩
  exfalso
  have hex:∃ m,m < ops.size∧listed.getD m false=false∧∀ k,k < m→listed.getD k false=true:=by
   have hne:∃ m,m < ops.size∧listed.getD m false=false:=by
    cases hq:L.filter fun i=>!listed.getD i false with
    | nil=>rw [hq] at hlen; simp at hlen
    | cons m l =>
     have hm:m ∈ L.filter fun i=>!listed.getD i false:=by rw [hq]; simp
     obtain ⟨hm1,hm2⟩:=List.mem_filter.1 hm
     exact ⟨m,(hLm _).1 hm1,by simpa using hm2⟩
   obtain ⟨m,m1,m2⟩:=hne
   induction m using Nat.strongRecOn with
   | _ m ihm =>
    by_cases hall:∀ k,k < m→listed.getD k false=true
    ·
     exact ⟨m,m1,m2,hall⟩
    ·
     have:∃ k,k < m∧listed.getD k false=false:=by
      refine Classical.byContradiction fun hc=>hall fun k hk=>?_
      cases hv:listed.getD k false with
      | true=>rfl
      | false=>exact absurd ⟨k,hk,hv⟩ hc
     obtain ⟨k,hk,hv⟩:=this
     exact ihm k hk (by omega) hv
  obtain ⟨m,hmlt,hm2,hmin⟩:=hex
  have hmo:ops[m]? = some ops[m]:=by simp [hmlt]
  have hready:m ∈ Region.ready .any ops listed:=by
   rw [mem_ready]
   refine ⟨by have:m < listed.size:=(by omega); simp [this] at hm2 ⊢; exact hm2,ops[m],hmo,fun ed he hb=>?_⟩
   have hon:=(kr hr hmo).1 ed he hb
   exact hmin ed.on hon
  rw [hnone] at hready
  cases hready
theorem Compat.lt {ops:Array Oper} {K:Nat→Nat} (hr:qA ops=true) {k i:Nat} (hi:i < ops.size) (h:((Region.before ops).getD i 0).testBit k=true):k < i:=by
 rcases Nat.lt_or_ge k i with q | q
 ·
  exact q
 ·
  have:=(kr hr (show ops[i]? = some ops[i] by simp [hi])).2.2 k q
  rw [this] at h; cases h
theorem Hg {L l1 l2:List Nat} {listed:Array Bool} {i:Nat} (hlt':i < listed.size) (hsp:(L.filter fun i=>!listed.getD i false)=l1 ++ i :: l2) (hne1:∀ k ∈ l1,k ≠ i) (hne2:∀ k ∈ l2,k ≠ i) :
  L.filter (fun j=>!(listed.setIfInBounds i true).getD j false)=l1 ++ l2:=by
 have:(fun j=>!(listed.setIfInBounds i true).getD j false)=(fun j=>(!listed.getD j false) && decide (j ≠ i)):=by
  funext j
  by_cases hj:i=j
  ·
   subst hj; simp [hlt']
  ·
   rw [getD_set_ne false hj]; simp [Ne.symm hj]
 rw [this,← List.filter_filter]
 have hcomm:∀ (l:List Nat) (p q:Nat→Bool),(l.filter p).filter q=(l.filter q).filter p:=fun l p q=>by
  rw [List.filter_filter,List.filter_filter]; congr 1; funext a; exact Bool.and_comm _ _
 rw [hcomm,hsp,List.filter_append,List.filter_cons]
 simp only [ne_eq,not_true_eq_false,decide_false,Bool.false_eq_true,if_false]
 congr 1
 ·
  rw [List.filter_eq_self]; intro k hk; simpa using hne1 k hk
 ·
  rw [List.filter_eq_self]; intro k hk; simpa using hne2 k hk
theorem front {C:gG} {h:Hand} {nt:Nat} {ops:Array Oper} (hr:qA ops=true) {I:List Nat} {K:Nat→Nat} {L:List Nat} (hLn:L.Nodup) (hLm:∀ i,i ∈ L↔i < ops.size)
  {listed:Array Bool} (hsz:listed.size=ops.size) {i:Nat} {o:Oper} (h1:listed.getD i false=false) (h2:ops[i]? = some o) (hclo:∀ k,k < i→((Region.before ops).getD i 0).testBit k=true→listed.getD k false=true)
  {X:Nat→Nat→Prop} (hcp:(L.filter fun i=>!listed.getD i false).Pairwise (fun a b=>Compat ops K a b∨X a b)) (hX:∀ k,k ≠ i→¬ X k i)
  {e e':Env} {S S':St} (hev:Run C h nt ops I K (L.filter fun i=>!listed.getD i false) e S e' S') :
  ∃ e1 S1 e2,iH C h nt ops o e S=some (.go e1 S1)∧Run C h nt ops I K (L.filter fun j=>!(listed.setIfInBounds i true).getD j false) e1 S1 e2 S'∧Lt e2 e' ∧
   (L.filter fun j=>!(listed.setIfInBounds i true).getD j false).Pairwise (fun a b=>Compat ops K a b∨X a b) ∧
   (L.filter fun j=>!(listed.setIfInBounds i true).getD j false).length + 1=(L.filter fun i=>!listed.getD i false).length:=by
 have hlt:i < ops.size:=(Array.getElem?_eq_some_iff.1 h2).1
 have hmem:i ∈ L.filter fun i=>!listed.getD i false:=by
  rw [List.mem_filter]; exact ⟨(hLm _).2 hlt,by rw [h1]; rfl⟩
 obtain ⟨l1,l2,hsp⟩:=List.append_of_mem hmem
 have hnd:(L.filter fun i=>!listed.getD i false).Nodup:=hLn.filter _
 rw [hsp] at hnd hcp hev
 have hne1:∀ k ∈ l1,k ≠ i:=fun k hk q=>(List.nodup_append.1 hnd).2.2 k hk i (by simp) q
 have hne2:∀ k ∈ l2,k ≠ i:=fun k hk q=>(List.nodup_cons.1 (List.nodup_append.1 hnd).2.1).1 (q ▸ hk)
 obtain ⟨c1,c2,c3⟩:=List.pairwise_append.1 hcp
 obtain ⟨e1,S1,e2,b1,_,_,b2,b3⟩:=bubble l1 l2 i h2 (fun k hk x hx=>by
  have hkl:listed.getD k false=false:=by
   have:k ∈ L.filter fun i=>!listed.getD i false:=by rw [hsp]; simp [hk]
   simpa using (List.mem_filter.1 this).2
  rcases c3 k hk i (by simp) with (hb | hb) | hb
  ·
   have:=hclo k (Compat.lt (K:=K) hr hlt hb) hb
   rw [hkl] at this; cases this
  ·
   exact ⟨hb.1 x o hx h2,hb.2⟩
  ·
   exact absurd hb (hX k (hne1 k hk))) hev
 have hrest:=Hg (by omega) hsp hne1 hne2
 rw [hrest,hsp]
 exact ⟨e1,S1,e2,b1,b2,b3,List.pairwise_append.2 ⟨c1,(List.pairwise_cons.1 c2).2,fun x hx y hy=>c3 x hx y (List.mem_cons_of_mem _ hy)⟩,by simp; omega⟩
theorem Je {ops:Array Oper} (hr:qA ops=true) {listed:Array Bool} (hcl:Closed ops listed) {i:Nat} {o:Oper} (h2:ops[i]? = some o) (h3:∀ e ∈ o.after,Region.binds .any e=true→listed.getD e.on false=true) :
  ∀ k,k < i→((Region.before ops).getD i 0).testBit k=true→listed.getD k false=true:=by
 intro k hk hb
 obtain ⟨r1,r2,_⟩:=kr hr h2
 have hlt:i < ops.size:=(Array.getElem?_eq_some_iff.1 h2).1
 have hkx:∃ x,ops[k]? = some x:=⟨ops[k],by simp [show k < ops.size by omega]⟩
 obtain ⟨x,hx⟩:=hkx
 have:=r2 k x hk hx
 rw [if_pos hb] at this
 obtain ⟨ed,he,hbnd,hor⟩:=this
 rcases hor with q | q
 ·
  rw [← q]; exact h3 ed he hbnd
 ·
  by_cases hke:k < ed.on
  ·
   exact hcl ed.on (h3 ed he hbnd) k hke q
  ·
   rcases Nat.lt_or_ge ed.on k with q1 | q1
   ·
    exfalso
    have hel:ed.on < ops.size:=by have:=r1 ed he hbnd; omega
    have:=(kr hr (show ops[ed.on]? = some ops[ed.on] by simp [hel])).2.2 k (by omega)
    rw [this] at q; cases q
   ·
    have:k=ed.on:=by omega
    rw [this]; exact h3 ed he hbnd
theorem sI {ops:Array Oper} {listed:Array Bool} (hcl:Closed ops listed) {i:Nat} (hclo:∀ k,k < i→((Region.before ops).getD i 0).testBit k=true→listed.getD k false=true):Closed ops (listed.setIfInBounds i true):=by
 intro j hj k hkj hb
 by_cases hij:i=j
 ·
  subst hij
  exact getD_set_true (hclo k hkj hb)
 ·
  rw [getD_set_ne false hij] at hj
  exact getD_set_true (hcl j hj k hkj hb)
theorem AB {ops:Array Oper} (hr:qA ops=true) {listed:Array Bool} (hsz:listed.size=ops.size) {m:Nat} (m1:m < ops.size) (m2:listed.getD m false=false):Region.ready .any ops listed ≠ []:=by
 have hex:∃ m,m < ops.size∧listed.getD m false=false∧∀ k,k < m→listed.getD k false=true:=by
  induction m using Nat.strongRecOn with
  | _ m ihm =>
   by_cases hall:∀ k,k < m→listed.getD k false=true
   ·
    exact ⟨m,m1,m2,hall⟩
   ·
    have:∃ k,k < m∧listed.getD k false=false:=by
     refine Classical.byContradiction fun hc=>hall fun k hk=>?_
     cases hv:listed.getD k false with
     | true=>rfl
     | false=>exact absurd ⟨k,hk,hv⟩ hc
    obtain ⟨k,hk,hv⟩:=this
    exact ihm k hk (by omega) hv
 obtain ⟨m,hmlt,hm2,hmin⟩:=hex
 have hmo:ops[m]? = some ops[m]:=by simp [hmlt]
 have hready:m ∈ Region.ready .any ops listed:=by
  rw [mem_ready]
  refine ⟨by have:m < listed.size:=(by omega); simp [this] at hm2 ⊢; exact hm2,ops[m],hmo,fun ed he hb=>?_⟩
  have hon:=(kr hr hmo).1 ed he hb
  exact hmin ed.on hon
 intro hnone
 rw [hnone] at hready
 cases hready
theorem J5 {R:dm} {C:gG} (hR:jW R C) {h:Hand} (hh:Dn R C.P h) {nt:Nat} {ops:Array Oper} (hr:qA ops=true) {I:List Nat} {K:Nat→Nat} {L1 L2:List Nat} (hn1:L1.Nodup) (hm1:∀ i,i ∈ L1↔i < ops.size) (hn2:L2.Nodup) (hm2:∀ i,i ∈ L2↔i < ops.size)
  {p q:Nat} (hpq:p ≠ q) (hp:p < ops.size) {Q:Exit→Act→World→Prop} :
  ∀ (fuel:Nat) (listed:Array Bool) {cx:Cx} {S S1' S2':St} {w:World} {e e1' e2':Env} {a:Act},listed.size=ops.size→Closed ops listed→listed.getD p false=false→listed.getD q false=false →
  (L1.filter fun i=>!listed.getD i false).Pairwise (fun k i=>Compat ops K k i∨(k=p∧i=q))→(L2.filter fun i=>!listed.getD i false).Pairwise (fun k i=>Compat ops K k i∨(k=q∧i=p)) →
  (L1.filter fun i=>!listed.getD i false).length=fuel→(L2.filter fun i=>!listed.getD i false).length=fuel →
  Run C h nt ops I K (L1.filter fun i=>!listed.getD i false) e S e1' S1'→Run C h nt ops I K (L2.filter fun i=>!listed.getD i false) e S e2' S2'→bD R cx S w→jo cx S w nt e a →
  (∀ cx' a' w' e'',bD R cx' S1' w'→Ext cx S w cx' S1' w'→jo cx' S1' w' nt e'' a'→Lt e'' e1'→a'.defers=a.defers→Q .normal a' w') →
  (∀ cx' a' w' e'',bD R cx' S2' w'→Ext cx S w cx' S2' w'→jo cx' S2' w' nt e'' a'→Lt e'' e2'→a'.defers=a.defers→Q .normal a' w')→wpAny C.P .any ops Q fuel listed a w:=by
 intro fuel
 induction fuel with
 | zero =>
  intro listed cx S S1' S2' w e e1' e2' a hsz hcl lp lq c1 c2 f1 f2 v1 v2 hS he k1 k2
  exfalso
  have:p ∈ L1.filter fun i=>!listed.getD i false:=by rw [List.mem_filter]; exact ⟨(hm1 p).2 hp,by rw [lp]; rfl⟩
  rw [List.eq_nil_of_length_eq_zero f1] at this
  cases this
 | succ fuel ih =>
  intro listed cx S S1' S2' w e e1' e2' a hsz hcl lp lq c1 c2 f1 f2 v1 v2 hS he k1 k2
  refine ⟨fun hnone=>absurd hnone (AB hr hsz hp lp),fun i hi=>?_⟩
  obtain ⟨h1,o,h2,h3⟩:=mem_ready.1 hi
  have hlt:i < ops.size:=(Array.getElem?_eq_some_iff.1 h2).1
  have hlt':i < listed.size:=by omega
  have h1':listed.getD i false=false:=by simp [hlt'] at h1 ⊢; exact h1
  have hclo:=Je hr hcl h2 h3
  have drop:∀ {L:List Nat} {x y:Nat},(x=i∨y=i)→(L.filter fun j=>!(listed.setIfInBounds i true).getD j false).Pairwise (fun a b=>Compat ops K a b∨(a=x∧b=y)) →
    (L.filter fun j=>!(listed.setIfInBounds i true).getD j false).Pairwise (Compat ops K):=fun {L x y} hxy hpw=>by
   refine List.Pairwise.imp_of_mem (fun {a b} ha hb hab=>?_) hpw
   have hno:∀ z,z ∈ (L.filter fun j=>!(listed.setIfInBounds i true).getD j false)→z ≠ i:=fun z hz hzi=>by
    have:=(List.mem_filter.1 hz).2
    subst hzi
    simp [hlt'] at this
   rcases hab with q | ⟨rfl,rfl⟩
   ·
    exact q
   ·
    rcases hxy with rfl | rfl
    ·
     exact absurd rfl (hno _ ha)
    ·
     exact absurd rfl (hno _ hb)
  by_cases hiq:i=q
  ·
   obtain ⟨e1,S1,e2,b1,b2,b3,b4,b5⟩:=front hr hn2 hm2 hsz h1' h2 hclo c2 (fun k hk hx=>hpq (hx.2.symm.trans hiq)) v2
   refine sj hR hh b1 hS he (fun cx1 a1 w1 s1 x1 er1 d1=>?_) h2
   exact Ki hR hh hr hn2 hm2 fuel _ (by simpa using hsz) (sI hcl hclo) (drop (.inl hiq.symm) b4) (by omega) b2 s1 er1 (fun cx' a' w' e'' q1 q2 q3 q4 q5=>k2 cx' a' w' e'' q1 (x1.trans q2) q3 (fun t=>(q4 t).trans (b3 t)) (q5.trans d1))
  ·
   obtain ⟨e1,S1,e2,b1,b2,b3,b4,b5⟩:=front hr hn1 hm1 hsz h1' h2 hclo c1 (fun k hk hx=>hiq hx.2) v1
   by_cases hip:i=p
   ·
    refine sj hR hh b1 hS he (fun cx1 a1 w1 s1 x1 er1 d1=>?_) h2
    exact Ki hR hh hr hn1 hm1 fuel _ (by simpa using hsz) (sI hcl hclo) (drop (.inl hip.symm) b4) (by omega) b2 s1 er1 (fun cx' a' w' e'' q1 q2 q3 q4 q5=>k1 cx' a' w' e'' q1 (x1.trans q2) q3 (fun t=>(q4 t).trans (b3 t)) (q5.trans d1))
   ·
    obtain ⟨e1x,S1x,e2x,d1,d2,d3,d4,d5⟩:=front hr hn2 hm2 hsz h1' h2 hclo c2 (fun k hk hx=>hip hx.2) v2
    rw [b1] at d1
    cases d1
    refine sj hR hh b1 hS he (fun cx1 a1 w1 s1 x1 er1 dd=>?_) h2
    exact ih _ (by simpa using hsz) (sI hcl hclo) (by rw [getD_set_ne false hip]; exact lp) (by rw [getD_set_ne false hiq]; exact lq) b4 d4 (by omega) (by omega) b2 d2 s1 er1
     (fun cx' a' w' e'' q1 q2 q3 q4 q5=>k1 cx' a' w' e'' q1 (x1.trans q2) q3 (fun t=>(q4 t).trans (b3 t)) (q5.trans dd))
     (fun cx' a' w' e'' q1 q2 q3 q4 q5=>k2 cx' a' w' e'' q1 (x1.trans q2) q3 (fun t=>(q4 t).trans (d3 t)) (q5.trans dd))
end
end Go.Ev

namespace Go.Ev
noncomputable section
set_option linter.unusedVariables false
set_option linter.unusedSimpArgs false
variable {R:dm} {C:gG} {nt:Nat}
def yZ (ops:Array Oper) (K:List Nat) (k i:Nat):Bool :=
 ((Region.before ops).getD i 0).testBit k || ((match ops[k]?,ops[i]? with | some x,some o=>x.apart ops o | _,_=>false) && Ni (K.getD k 2) (K.getD i 2))
theorem wQ {ops:Array Oper} {K:List Nat} {k i:Nat} (h:yZ ops K k i=true):Compat ops (fun i=>K.getD i 2) k i:=by
 unfold yZ at h
 simp only [Bool.or_eq_true,Bool.and_eq_true] at h
 refine h.imp id fun q=>⟨fun x o hx ho=>?_,q.2⟩
 have:=q.1
 rw [hx,ho] at this
 exact this
def BP (r:Nat→Nat→Bool):List Nat→Bool
 | []=>true
 | k :: l=>l.all (r k) && BP r l
theorem sN {r:Nat→Nat→Bool}:∀ {l:List Nat},BP r l=true→l.Pairwise (fun a b=>r a b=true)
 | [],_=>.nil
 | k :: l,h=>by
  simp only [BP,Bool.and_eq_true] at h
  exact .cons (fun b hb=>List.all_eq_true.1 h.1 b hb) (sN h.2)
def GJ (n:Nat) (L:List Nat):Bool:=BP (fun a b=>!Nat.beq a b) L && L.all (fun i=>Nat.blt i n) && (List.range n).all (fun i=>L.any fun j=>Nat.beq i j)
theorem zb {n:Nat} {L:List Nat} (h:GJ n L=true):L.Nodup∧∀ i,i ∈ L↔i < n:=by
 simp only [GJ,Bool.and_eq_true] at h
 obtain ⟨⟨h1,h2⟩,h3⟩:=h
 refine ⟨(sN h1).imp (fun {a b} q hab=>by subst hab; simp at q),fun i=>⟨fun hi=>?_,fun hi=>?_⟩⟩
 ·
  have:=List.all_eq_true.1 h2 i hi
  exact Nat.le_of_ble_eq_true this
 ·
  have:=List.all_eq_true.1 h3 i (List.mem_range.2 hi)
  rw [List.any_eq_true] at this
  obtain ⟨j,hj,hq⟩:=this
  rw [Nat.eq_of_beq_eq_true hq]; exact hj
def M7 (ops:Array Oper) (K:List Nat) (p q:Nat) (L1 L2:List Nat):Bool :=
 !Nat.beq p q && Nat.blt p ops.size && Nat.blt q ops.size && GJ ops.size L1 && GJ ops.size L2 &&
 BP (fun k i=>yZ ops K k i || (Nat.beq k p && Nat.beq i q)) L1 && BP (fun k i=>yZ ops K k i || (Nat.beq k q && Nat.beq i p)) L2
theorem ax.J7 (hR:jW R C) (hm:C.P.follows .mixedOrders=true) {T:List Fact} (hT:∀ x ∈ T,x.ok R C.P) {id:Nat} {ops:Array Oper} (hok:qA ops=true) (I:List Nat) (K:List Nat) (p q:Nat) (L1 L2:List Nat) (h2:M7 ops K p q L1 L2=true)
  {e:Env} {S:St} {Q:vN→Prop} (Q':Env→St→Prop) (w1:kH C (yY (jf T)) nt ops I K (Ai ops L1) e S Q') (w2:kH C (yY (jf T)) nt ops I K (Ai ops L2) e S Q')
  (k:∀ e' S',Q' e' S'→Q (.normal,e',S')):ax R C.P nt (.region id ops true) e S Q:=by
 intro cx w a Kx hS he hk
 simp only [M7,Bool.and_eq_true,Bool.not_eq_true'] at h2
 obtain ⟨⟨⟨⟨⟨⟨t1,t2⟩,t3⟩,t4⟩,t5⟩,t6⟩,t7⟩:=h2
 obtain ⟨n1,m1⟩:=zb t4
 obtain ⟨n2,m2⟩:=zb t5
 have hp:=Nat.le_of_ble_eq_true t2
 have hq:=Nat.le_of_ble_eq_true t3
 have hpq:p ≠ q:=fun z=>by rw [z] at t1; simp at t1
 obtain ⟨x1,y1⟩:=vZ L1 (fun i hi=>(m1 i).1 hi)
 obtain ⟨x2,y2⟩:=vZ L2 (fun i hi=>(m2 i).1 hi)
 obtain ⟨e1,S1,r1,q1⟩:=CW _ x1 w1
 obtain ⟨e2,S2,r2,q2⟩:=CW _ x2 w2
 rw [y1] at r1
 rw [y2] at r2
 obtain ⟨d1,d2⟩:=nU hR.toObjOk hS
 refine wp_region_any hm ?_
 have hfl:∀ L:List Nat,(L.filter fun i=>!(Array.replicate ops.size false).getD i false)=L:=fun L=>by
  rw [List.filter_eq_self]; intro i hi; rw [p9]; rfl
 have hlen:∀ {L:List Nat},L.Nodup→(∀ i,i ∈ L↔i < ops.size)→L.length=ops.size:=fun {L} hn hm=>by
  have:L.Perm (List.range ops.size):=(List.perm_ext_iff_of_nodup hn List.nodup_range).2 fun i=>by rw [hm,List.mem_range]
  simpa using this.length_eq
 refine J5 hR (Mh (II hT)) hok n1 m1 n2 m2 hpq hp ops.size (Array.replicate ops.size false) (cx:=cx) (S:=S) (S1':=S1) (S2':=S2) (w:=w.drew) (e:=e) (e1':=e1) (e2':=e2) (by simp) (fun j hj=>by rw [p9] at hj; cases hj) (p9 _ _) (p9 _ _)
  (by rw [hfl]; exact (sN t6).imp (fun {a b} z=>by
   simp only [Bool.or_eq_true,Bool.and_eq_true] at z
   exact z.imp wQ (fun z=>⟨Nat.eq_of_beq_eq_true z.1,Nat.eq_of_beq_eq_true z.2⟩)))
  (by rw [hfl]; exact (sN t7).imp (fun {a b} z=>by
   simp only [Bool.or_eq_true,Bool.and_eq_true] at z
   exact z.imp wQ (fun z=>⟨Nat.eq_of_beq_eq_true z.1,Nat.eq_of_beq_eq_true z.2⟩)))
  (by rw [hfl]; exact hlen n1 m1) (by rw [hfl]; exact hlen n2 m2) (by rw [hfl]; exact r1) (by rw [hfl]; exact r2) d1 (he.mono d2) (fun cx' a' w' e'' z1 z2 z3 z4 z5=>?_) (fun cx' a' w' e'' z1 z2 z3 z4 z5=>?_)
 ·
  exact hk (.normal,e1,S1) (k e1 S1 q1) cx' a' w' z1 (d2.trans z2) ⟨z3.size,fun t x hx=>z3.rel t x (by rw [z4 t]; exact hx)⟩ z5
 ·
  exact hk (.normal,e2,S2) (k e2 S2 q2) cx' a' w' z1 (d2.trans z2) ⟨z3.size,fun t x hx=>z3.rel t x (by rw [z4 t]; exact hx)⟩ z5
theorem Has.pE {B S:St} {l:List dI} (H:Has B S l) {i j:Nat} (hij:i ≠ j) {a b:Nat} {cs cs':List AV} (hi:l[i]? = some (.box a cs)) (hj:l[j]? = some (.box b cs')):a ≠ b:=by
 have key:∀ {i j:Nat} {a b:Nat} {cs cs':List AV},i < j→l[i]? = some (.box a cs)→l[j]? = some (.box b cs')→a ≠ b:=by
  intro i j a b cs cs' hlt hi hj hab
  have hp:=(List.pairwise_flatten.1 H.nd).2
  obtain ⟨i1,i2⟩:=List.getElem?_eq_some_iff.1 hi
  obtain ⟨j1,j2⟩:=List.getElem?_eq_some_iff.1 hj
  have:=List.pairwise_iff_getElem.1 hp i j (by simpa using i1) (by simpa using j1) hlt
  simp only [List.getElem_map,i2,j2] at this
  exact this a (by simp [dI.fp]) b (by simp [dI.fp]) hab
 rcases Nat.lt_or_gt_of_ne hij with q | q
 ·
  exact key q hi hj
 ·
  exact fun h=>key q hj hi h.symm
section
variable {B:St} {T:List Fact} {ops:Array Oper} {rest:List (Nat × Oper)} {I K:List Nat} {e:Env} {S S':St} {Q:Env→St→Prop} {l l':List dI} {t ty i:Nat} {p:String} {af:Array Edge} {g:Option (Nat × Bool)} {v:AV} {x y:Operand}
theorem kH.uo {bt j id off n:Nat} {cs cv cs':List AV} (H:Has B S l) (hI:∀ z ∈ I,z ≠ id) (hk:K.getD i 2=4) (hw:bV ops e { dst:=none,op:=.store bt x y,type:=ty,pos:=p,after:=af,guard:=g }=some true) (ha:dB e x=some (.ptr id 0 off)) (hy:dB e y=some v) (hi:l[j]? = some (.box id cs)) (hcv:v.cells=cv) (hn:cv.length=n) (hz:aL C.P bt=n) (hp:v.plain=true) (hag:(eO C.P bt).isSome=true) (hb:Nat.ble (off + n) cs.length=true)
  (hs:setAt cs off cv=cs') (hl:l.set j (.box id cs')=l') (k:∀ S',Has B S' l'→kH C (yY (jf T)) nt ops I K rest e S' Q) :
  kH C (yY (jf T)) nt ops I K ((i,{ dst:=none,op:=.store bt x y,type:=ty,pos:=p,after:=af,guard:=g }) :: rest) e S Q:=by
 subst hs; subst hl
 exact ⟨e,_,by simp only [iH,hw,zH H ha hy hcv hn hz hp hag hi hb],⟨fun q=>(by rw [hk] at q; cases q),fun q=>(by rw [hk] at q; cases q),fun q=>(by rw [hk] at q; cases q)⟩,fun _ z hz=>by
  have:=hI z hz
  simp [AL.bq,Ne.symm this],k _ (H.write hi)⟩
end
end
end Go.Ev

import Derived.Test.YtbjneeknddapfaaPartA
import Derived.MapKept
import Derived.Orders
import Derived.Laws.IdiomRangeMap
import Derived.Below
import Derived.Lib.SliceRun
import Derived.Lib.SlTrimSet
import Derived.Lib.Bytealg
import Derived.Lib.Join
namespace Go.Ev
noncomputable section
set_option linter.unusedVariables false
set_option linter.unusedSimpArgs false
theorem CW {R:bO} (hR:ObjOk R) {cx:Cx} {S:St} {w w':World} (h:bg R cx S w) {id:Nat} {M M':vg} (hg:S.H.get id=some (.map M))
  (hs:w'.heap.size=w.heap.size) (ho:∀ b,b ≠ cx.bm id→w'.heap[b]? = w.heap[b]?) (h1:w'.os=w.os) (h2:w'.tape=w.tape) (h3:w'.output=w.output)
  {ms':Array MapEntry} {clk':Nat} (hb:w'.heap[cx.bm id]? = some (.map ms' clk')) (hd:ms'.size=M'.es.length∧clk'=M'.clk∧∀ (i:Nat) (p:D × AV × Nat) (m:MapEntry),M'.es[i]? = some p→ms'[i]? = some m→m.born=p.2.2)
  (hv:∀ (i:Nat) (p:D × AV × Nat) (m:MapEntry),M'.es[i]? = some p→ms'[i]? = some m→bL w cx.fr p.1 m.key∧aO cx S w p.2.1 m.val) :
  bg R cx { S with H:=S.H.set id (.map M') } w'∧Ext cx S w cx { S with H:=S.H.set id (.map M') } w':=by
 obtain ⟨c1,c2,ms0,clk0,c3,c4,c5⟩:=h.maps id M hg
 have hlive:live S id:=by simp [live,cur,hg]
 have hcur:∀ i,cur { S with H:=S.H.set id (.map M') } i=cur S i:=fun i=>by
  unfold cur
  simp only [AL.aP]
  by_cases hi:id=i
  ·
   subst hi; simp [hg]
  ·
   simp [hi]
 have e:Ext cx S w cx { S with H:=S.H.set id (.map M') } w':=by
  refine ⟨by omega,h1,h2,h3,Nat.le_refl _,fun b o v hf hc=>?_,fun b hlt hn=>?_,fun i b hl hf=>?_,fun i gi _ hi=>⟨gi,by
   unfold isIt at *
   simp only [AL.aP] at hi
   split at hi
   ·
    cases hi
   ·
    exact hi⟩,fun _ _ _ _ _ _ hf=>hf,fun i g' hi hg'=>?_⟩
  ·
   have hne:b ≠ cx.bm id:=fun q=>hf (by rw [q]; exact c2 o)
   exact ⟨oH (ho b hne) hc,hf⟩
  ·
   have hne:b ≠ cx.bm id:=fun q=>Dh hg (by simp) (hn id hlive ((c1 b).2 q))
   exact ⟨ho b hne,fun _=>Iff.rfl⟩
  ·
   have hl':live S i:=by unfold live at *; rwa [hcur i] at hl
   exact ⟨fun _=>⟨hl',.inl hf⟩,fun hge=>absurd (h.wf i hl') (by show ¬ i < S.nx; omega)⟩
  ·
   rw [hcur i] at hg'
   exact ⟨g',hg',Nat.le_refl _,fun _=>⟨rfl,rfl,rfl⟩⟩
 have hl':∀ i,live { S with H:=S.H.set id (.map M') } i→live S i:=fun i hl=>by unfold live at *; rwa [hcur i] at hl
 have hne:∀ i,live S i→i ≠ id→∀ b,cx.fp i b→b ≠ cx.bm id:=fun i hi hne b hf hq=>hne (h.sep i id b hi hlive hf ((c1 b).2 hq))
 refine ⟨⟨fun i hi=>h.wf i (hl' i hi),fun i b hi=>?_,fun i g' cs1 hi=>?_,fun i es hi=>?_,fun i k x hi=>?_,fun i en hi=>?_,fun i i' b a1 a2 f1 f2=>h.sep i i' b (hl' i a1) (hl' i' a2) f1 f2,fun b o hf=>by rw [hs]; exact h.lt b o hf,hR.stat _ _ _ _ h.stat e.prot⟩,e⟩
 ·
  simp only [AL.aP] at hi
  by_cases q:id=i
  ·
   subst q; exact h.uf id _ hg
  ·
   rw [if_neg q] at hi; exact h.uf i b hi
 ·
  simp only [AL.aP] at hi
  by_cases q:id=i
  ·
   subst q; simp at hi
  ·
   rw [if_neg q] at hi
   obtain ⟨d1,d2,arr2,el2,d3,d4,d5⟩:=h.cells i g' cs1 hi
   refine ⟨d1,d2,arr2,el2,?_,d4,fun j x hx=>by
    obtain ⟨v,v1,v2,v3⟩:=d5 j x hx
    exact ⟨v,v1,v2.mono e,v3⟩⟩
   rw [ho _ (hne i (by simp [live,cur,hi]) (Ne.symm q) _ ((d1 _).2 rfl))]; exact d3
 ·
  simp only [AL.aP] at hi
  by_cases q:id=i
  ·
   subst q
   simp only [if_true,Option.some.injEq,uZ.map.injEq] at hi
   subst hi
   exact ⟨c1,c2,ms',clk',hb,hd,fun j p m hp hm=>by
    obtain ⟨v1,v2⟩:=hv j p m hp hm
    exact ⟨v1.mono e.prot,v2.mono e⟩⟩
  ·
   rw [if_neg q] at hi
   obtain ⟨d1,d2,ms,clk,d3,d4,d5⟩:=h.maps i es hi
   refine ⟨d1,d2,ms,clk,?_,d4,fun j p m hp hm=>by
    obtain ⟨v1,v2⟩:=d5 j p m hp hm
    exact ⟨v1.mono e.prot,v2.mono e⟩⟩
   rw [ho _ (hne i (by simp [live,cur,hi]) (Ne.symm q) _ ((d1 _).2 rfl))]; exact d3
 ·
  simp only [AL.aP] at hi
  by_cases q:id=i
  ·
   subst q; simp at hi
  ·
   rw [if_neg q] at hi
   obtain ⟨d1,d2⟩:=h.objs i k x hi
   exact ⟨hR.frame k x w w' _ _ d1 (fun c hc=>ho c (hne i (by simp [live,cur,hi]) (Ne.symm q) c hc)),d2⟩
 ·
  obtain ⟨d1,d2,arr2,el2,fz,d3,d4,d5,d6⟩:=h.toks i en hi
  have q:i ≠ id:=fun q=>by subst q; have:=h.uf i _ hg; rw [this] at hi; cases hi
  have hli:live S i:=by
   unfold live cur
   cases hH:S.H.get i with
   | some b=>have:=h.uf i b hH; rw [this] at hi; cases hi
   | none=>simp [hi]
  refine ⟨d1,d2,arr2,el2,fz,?_,d4,d5,d6⟩
  rw [ho _ (hne i hli q _ ((d1 _).2 rfl))]; exact d3
theorem CR {R:bO} (hR:ObjOk R) {cx:Cx} {S:St} {w:World} (h:bg R cx S w) :
  ∃ cx',bg R cx' { S with H:=S.H.set S.nx (.map { es:=[],clk:=0 }),nx:=S.nx + 1 } (w.alloc (.map #[] 0))∧Ext cx S w cx' { S with H:=S.H.set S.nx (.map { es:=[],clk:=0 }),nx:=S.nx + 1 } (w.alloc (.map #[] 0)) ∧
   aO cx' { S with H:=S.H.set S.nx (.map { es:=[],clk:=0 }),nx:=S.nx + 1 } (w.alloc (.map #[] 0)) (.map S.nx) (.map (some w.heap.size)):=by
 obtain ⟨nH,nT⟩:=mR h
 generalize hS':({ S with H:=S.H.set S.nx (.map { es:=[],clk:=0 }),nx:=S.nx + 1 }:St)=S'
 have hH:∀ id,id ≠ S.nx→S'.H.get id=S.H.get id:=fun id hid=>by rw [← hS']; simp [AL.aP,Ne.symm hid]
 have hT:∀ id,id ≠ S.nx→S'.T.get id=S.T.get id:=fun id hid=>by rw [← hS']
 have hnx:S'.nx=S.nx + 1:=by rw [← hS']
 have nT':S'.T.get S.nx=none:=by rw [← hS']; exact nT
 have hc:∀ id,id ≠ S.nx→cur S' id=cur S id:=fun id hid=>by unfold cur; rw [hH id hid,hT id hid]
 have hnew:S'.H.get S.nx=some (.map { es:=[],clk:=0 }):=by rw [← hS']; simp [AL.aP]
 have e:=Ext.fresh (S':=S') h (.map #[] 0) 0 0 (fun _=>True) hnx hc hH
 refine ⟨cx.new S.nx w.heap.size 0 0 (fun _=>True),bg.fresh hR h _ 0 0 _ hnx hH hT (fun b _=>nT') (fun g cs' hg=>?_) (fun es hg=>?_) (fun k x hg=>?_) (fun en hg=>?_),e,?_⟩
 ·
  rw [hnew] at hg; cases hg
 ·
  rw [hnew] at hg
  simp only [Option.some.injEq,uZ.map.injEq] at hg
  subst hg
  exact ⟨fun c=>by simp [Cx.new],fun o=>by simp [Cx.new],#[],0,by simp only [Cx.new,if_true]; exact heap_alloc_new w _,⟨rfl,rfl,fun i p m hp=>by simp at hp⟩,fun i p m hp=>by simp at hp⟩
 ·
  rw [hnew] at hg; cases hg
 ·
  rw [nT'] at hg; cases hg
 ·
  exact .map S.nx w.heap.size ⟨by rw [hnx]; exact Nat.lt_succ_self _,fun g' _=>Nat.zero_le _⟩ (fun _=>by simp [Cx.new])
theorem mh {C:eT} {t k e:Nat} (h:pQ C t=some (k,e)):C.P.underlying t=some (.map k e):=by
 unfold pQ at h
 split at h
 ·
  rename_i k' e' hu
  simp only [Option.some.injEq,Prod.mk.injEq] at h
  rw [hu,h.1,h.2]
 ·
  cases h
theorem tF {R:bO} {cx:Cx} {S:St} {w:World} (hS:bg R cx S w) {id:Nat} {M:vg} (hg:S.H.get id=some (.map M)) {b:Nat} (hx:aO cx S w (.map id) (.map (some b))) :
  b=cx.bm id∧∃ ms,w.heap[cx.bm id]? = some (.map ms M.clk)∧KU w cx.fr M.es ms.toList∧(∀ (i:Nat) (p:D × AV × Nat) (m:MapEntry),M.es[i]? = some p→ms[i]? = some m→m.born=p.2.2∧bL w cx.fr p.1 m.key∧aO cx S w p.2.1 m.val)∧ms.size=M.es.length:=by
 obtain ⟨c1,c2,ms,clk,c3,⟨c4,c4',c4''⟩,c5⟩:=hS.maps id M hg
 subst c4'
 cases hx with
 | map _ _ hn hp =>
  refine ⟨hp (by simp [cur,hg]),ms,c3,⟨by simpa using c4,fun i p m hp hm=>(c5 i p m hp (by simpa using hm)).1⟩,fun i p m hp hm=>⟨c4'' i p m hp hm,(c5 i p m hp hm).1,(c5 i p m hp hm).2⟩,c4⟩
theorem tK {cx:Cx} {S:St} {w:World} {P:Program} {t:Nat} {k:D} {es:List (D × AV × Nat)} {ms:Array MapEntry} (hval:∀ (i:Nat) (p:D × AV × Nat) (m:MapEntry),es[i]? = some p→ms[i]? = some m→aO cx S w p.2.1 m.val) {i:Nat} {v:AV} {o:Option (Nat × Value)}
  (hf:kN P t k es 0=some (some (i,v))) (ho:Found ms.toList 0 (some (i,v)) o):∃ b m,es[i]? = some (k,v,b)∧ms[i]? = some m∧o=some (i,m.val)∧aO cx S w v m.val:=by
 obtain ⟨b,_,h2⟩:=yZ hf
 obtain ⟨m,_,m2,m3⟩:=ho
 rw [Nat.sub_zero] at h2 m2
 have m2':ms[i]? = some m:=by simpa using m2
 exact ⟨b,m,h2,m2',m3,hval i _ m h2 m2'⟩
theorem Cv {R:bO} {C:eT} {cx:Cx} {S:St} {w:World} (hS:bg R cx S w) {t:Nat} {m v:AV} {k:D} {ok:Bool} {mv kv:Value} (h:kK C t S m k ok=some v) (hm:aO cx S w m mv) (hk:bL w cx.fr k kv) :
  ∃ u,(Instr.lookup t mv kv ok).run C.P w=.ok u w∧aO cx S w v u:=by
 unfold kK at h
 split at h
 ·
  rename_i kt et M hkt hM
  have hu:=mh hkt
  split at h
  ·
   rename_i hkey
   have hchk:=tH hkey hk
   have fin:∀ (ms:Array MapEntry),KU w cx.fr M.es ms.toList→(∀ (i:Nat) (p:D × AV × Nat) (m:MapEntry),M.es[i]? = some p→ms[i]? = some m→aO cx S w p.2.1 m.val) →
     ∃ u:Value × Bool,∃ o,(Instr.findKey kt kv ms.toList).run C.P w=.ok o w∧aO cx S w v (if ok then .tuple #[u.1,.bool u.2] else u.1) ∧
      ((∃ i,o=some (i,u.1)∧u.2=true)∨(o=none∧(zeroValue et).run C.P w=.ok u.1 w∧u.2=false)):=by
    intro ms hE hval
    have two:∀ {y:AV} {x:Value} {b:Bool},aO cx S w y x→aO cx S w (if ok=true then .tup [y,.d (.bool b)] else y) (if ok=true then .tuple #[x,.bool b] else x):=by
     intro y x b hy
     cases ok
     ·
      exact hy
     ·
      refine .tup [y,.d (.bool b)] [x,.bool b] rfl (fun i a c ha hc=>?_)
      match i,ha,hc with
      | 0,ha,hc=>simp at ha hc; subst ha; subst hc; exact hy
      | 1,ha,hc=>simp at ha hc; subst ha; subst hc; exact .of_bool b
    split at h
    ·
     rename_i i y hf
     simp only [Option.some.injEq] at h; subst h
     obtain ⟨o,o1,o2⟩:=iB (P:=C.P) hkey hk hE hf
     obtain ⟨b,m',_,_,q3,q4⟩:=tK hval hf o2
     exact ⟨(m'.val,true),o,o1,two q4,.inl ⟨i,q3,rfl⟩⟩
    ·
     rename_i hf
     simp only [Option.map_eq_some_iff] at h
     obtain ⟨z,hz,rfl⟩:=h
     obtain ⟨o,o1,o2⟩:=iB (P:=C.P) hkey hk hE hf
     obtain ⟨zv,z1,z2⟩:=kQ hz w cx.fr
     have:o=none:=o2
     exact ⟨(zv,false),o,o1,two (.d z zv z2),.inr ⟨this,z1,rfl⟩⟩
    ·
     cases h
   have go:∀ (ms:Array MapEntry) (u:Value × Bool) (o:Option (Nat × Value)),(Instr.findKey kt kv ms.toList).run C.P w=.ok o w→((∃ i,o=some (i,u.1)∧u.2=true)∨(o=none∧(zeroValue et).run C.P w=.ok u.1 w∧u.2=false)) →
     ((mv=.map none∧ms = #[])∨∃ r c,mv=.map (some r)∧w.heap[r]? = some (.map ms c))→(Instr.lookup t mv kv ok).run C.P w=.ok (if ok then .tuple #[u.1,.bool u.2] else u.1) w:=by
    intro ms u o ho hor hmv
    obtain ⟨u1,u2⟩:=u
    rcases hmv with ⟨rfl,rfl⟩ | ⟨r,c,rfl,hr⟩ <;> rcases hor with ⟨i,rfl,hb⟩ | ⟨rfl,hz,hb⟩ <;> simp only at hb <;> subst hb
    ·
     simp only [Instr.lookup,Sem.run_bind,aX w hu,Result.andThen_ok,Sem.run_pure,hchk,ho]
    ·
     simp only at hz
     simp only [Instr.lookup,Sem.run_bind,aX w hu,Result.andThen_ok,Sem.run_pure,hchk,ho,hz]
    ·
     simp only [Instr.lookup,Sem.run_bind,aX w hu,Result.andThen_ok,Sem.run_pure,hchk,ho,MapKept.run_getObj_map hr]
    ·
     simp only at hz
     simp only [Instr.lookup,Sem.run_bind,aX w hu,Result.andThen_ok,Sem.run_pure,hchk,ho,hz,MapKept.run_getObj_map hr]
   unfold mapOf at hM
   split at hM
   ·
    simp only [Option.some.injEq] at hM; subst hM
    have:=hm.dd.val rfl; cases this
    obtain ⟨u,o,f1,f2,f3⟩:=fin #[] ⟨rfl,by simp⟩ (by simp)
    exact ⟨_,go #[] u o f1 f3 (.inl ⟨rfl,rfl⟩),f2⟩
   ·
    rename_i id
    split at hM
    ·
     rename_i M' hg
     simp only [Option.some.injEq] at hM; subst hM
     cases hm with
     | map _ b hn hp =>
      obtain ⟨p1,ms,p2,p3,p4,p5⟩:=tF hS hg (.map id b hn hp)
      subst p1
      obtain ⟨u,o,f1,f2,f3⟩:=fin ms p3 (fun i p m hp hm=>(p4 i p m hp hm).2.2)
      exact ⟨_,go ms u o f1 f3 (.inr ⟨_,_,rfl,p2⟩),f2⟩
    ·
     cases hM
   ·
    cases hM
  ·
   cases h
 ·
  cases h
theorem jo {R:bO} (hR:ObjOk R) {P:Program} {cx:Cx} {S:St} {w:World} (h:bg R cx S w) {id:Nat} {M M':vg} (hg:S.H.get id=some (.map M)) {ms ms':Array MapEntry} {c c':Nat} (hb:w.heap[cx.bm id]? = some (.map ms c))
  (hd:ms'.size=M'.es.length∧c'=M'.clk)
  (hv:∀ (i:Nat) (p:D × AV × Nat) (m:MapEntry),M'.es[i]? = some p→ms'[i]? = some m→m.born=p.2.2∧bL w cx.fr p.1 m.key∧aO cx S w p.2.1 m.val) :
  ∃ w',(setObj (cx.bm id) (.map ms' c')).run P w=.ok () w'∧bg R cx { S with H:=S.H.set id (.map M') } w'∧Ext cx S w cx { S with H:=S.H.set id (.map M') } w':=by
 have hlt:cx.bm id < w.heap.size:=by
  rcases Nat.lt_or_ge (cx.bm id) w.heap.size with q | q
  ·
   exact q
  ·
   rw [Array.getElem?_eq_none q] at hb; cases hb
 refine ⟨_,MapKept.run_setObj_map _ hb,CW hR h hg (by simp) (fun b hne=>?_) rfl rfl rfl (ms':=ms') (clk':=c') ?_ ⟨hd.1,hd.2,fun i p m hp hm=>(hv i p m hp hm).1⟩ (fun i p m hp hm=>(hv i p m hp hm).2)⟩
 ·
  simp only [Array.getElem?_setIfInBounds]
  rw [if_neg (Ne.symm hne)]
 ·
  simp only [Array.getElem?_setIfInBounds,hlt,if_true]
theorem xM {P:Program} {w:World} {fr:Nat→Nat→Prop} {t:Nat} {k:D} {v u:Value} (hk:nC P t k=true) (h1:bL w fr k v) (h2:bL w fr k u):(Instr.keyThatStays v u).run P w=.ok u w:=by
 have:=KZ hk h1 h2; subst this
 unfold Instr.keyThatStays
 rw [if_pos (IW hk h1 9999)]
 rfl
theorem vz {cx:Cx} {S:St} {w:World} {es:List (D × AV × Nat)} {ms:Array MapEntry} {p0:D × AV × Nat} {m0:MapEntry} (hsz:ms.size=es.length) (h:∀ (i:Nat) (p:D × AV × Nat) (m:MapEntry),es[i]? = some p→ms[i]? = some m→m.born=p.2.2∧bL w cx.fr p.1 m.key∧aO cx S w p.2.1 m.val)
  (h0:m0.born=p0.2.2∧bL w cx.fr p0.1 m0.key∧aO cx S w p0.2.1 m0.val):∀ (i:Nat) (p:D × AV × Nat) (m:MapEntry),(es ++ [p0])[i]? = some p→(ms.push m0)[i]? = some m→m.born=p.2.2∧bL w cx.fr p.1 m.key∧aO cx S w p.2.1 m.val:=by
 intro i p m hp hm
 rw [Array.getElem?_push] at hm
 rw [List.getElem?_append] at hp
 by_cases hi:i=ms.size
 ·
  rw [if_pos hi] at hm
  rw [if_neg (by omega),show i - es.length=0 by omega] at hp
  simp at hp hm; subst hp; subst hm; exact h0
 ·
  rw [if_neg hi] at hm
  have hlt:i < ms.size:=(Array.getElem?_eq_some_iff.1 hm).1
  rw [if_pos (by omega)] at hp
  exact h i p m hp hm
theorem oN {cx:Cx} {S:St} {w:World} {es:List (D × AV × Nat)} {ms:Array MapEntry} {j:Nat} {f:D × AV × Nat→D × AV × Nat} {g:MapEntry→MapEntry} (h:∀ (i:Nat) (p:D × AV × Nat) (m:MapEntry),es[i]? = some p→ms[i]? = some m→m.born=p.2.2∧bL w cx.fr p.1 m.key∧aO cx S w p.2.1 m.val)
  (h0:∀ (p:D × AV × Nat) (m:MapEntry),es[j]? = some p→ms[j]? = some m→(g m).born=(f p).2.2∧bL w cx.fr (f p).1 (g m).key∧aO cx S w (f p).2.1 (g m).val):∀ (i:Nat) (p:D × AV × Nat) (m:MapEntry),(es.modify j f)[i]? = some p→(ms.modify j g)[i]? = some m→m.born=p.2.2∧bL w cx.fr p.1 m.key∧aO cx S w p.2.1 m.val:=by
 intro i p m hp hm
 rw [Array.getElem?_modify] at hm
 rw [List.getElem?_modify] at hp
 by_cases hi:j=i
 ·
  subst hi
  simp only [if_true,Option.map_eq_map,Option.map_eq_some_iff] at hp hm
  obtain ⟨p1,q1,q2⟩:=hp
  obtain ⟨m1,r1,r2⟩:=hm
  have q2':f p1=p:=by simpa using q2
  subst q2'; subst r2
  exact h0 p1 m1 q1 r1
 ·
  rw [if_neg hi] at hm
  simp only [Option.map_eq_map,Option.map_eq_some_iff] at hp
  obtain ⟨p1,q1,q2⟩:=hp
  have q2':p1=p:=by simpa [hi] using q2
  subst q2'
  exact h i p1 m q1 hm
theorem vD {R:bO} (hR:ObjOk R) {C:eT} {cx:Cx} {S S':St} {w:World} (hS:bg R cx S w) {t:Nat} {m v:AV} {k:D} {mv kv vv:Value} (h:oF C t S m k v=some S') (hm:aO cx S w m mv) (hk:bL w cx.fr k kv) (hv:aO cx S w v vv) :
  ∃ w',(Instr.mapUpdate t mv kv vv).run C.P w=.ok () w'∧bg R cx S' w'∧Ext cx S w cx S' w':=by
 unfold oF at h
 split at h
 ·
  rename_i kt et id hkt
  have hu:=mh hkt
  split at h
  ·
   rename_i M hg
   split at h
   ·
    rename_i hc
    simp only [Bool.and_eq_true] at hc
    obtain ⟨hkey,hpl⟩:=hc
    have hchk:=tH hkey hk false
    cases hm with
    | map _ b hn hp =>
    obtain ⟨p1,ms,p2,p3,p4,p5⟩:=tF hS hg (.map id b hn hp)
    subst p1
    split at h
    ·
     rename_i i y hf
     simp only [Option.some.injEq] at h; subst h
     obtain ⟨o,o1,o2⟩:=iB (P:=C.P) hkey hk p3 hf
     obtain ⟨bn,m',q1,q2,q3,q4⟩:=tK (fun i p m hp hm=>(p4 i p m hp hm).2.2) hf o2
     subst q3
     obtain ⟨w',k1,k2,k3⟩:=jo hR (P:=C.P) (M':={ M with es:=M.es.modify i fun p=>(k,v,p.2.2) }) (ms':=ms.modify i fun e=>{ e with key:=kv,val:=vv }) (c':=M.clk) hS hg p2 ⟨by simp [p5],rfl⟩
      (oN p4 (fun p m hp hm=>⟨(p4 i p m hp hm).1,hk,hv⟩))
     refine ⟨w',?_,k2,k3⟩
     have hst:=xM hkey (p4 i _ m' q1 q2).2.1 hk
     simp only [Instr.mapUpdate,Sem.run_bind,aX w hu,Result.andThen_ok,MapKept.run_getObj_map p2,hchk,o1,q2,Option.map_some,Option.getD_some,hst]
     exact k1
    ·
     rename_i hf
     simp only [Option.some.injEq] at h; subst h
     obtain ⟨o,o1,o2⟩:=iB (P:=C.P) hkey hk p3 hf
     have:o=none:=o2
     subst this
     obtain ⟨w',k1,k2,k3⟩:=jo hR (P:=C.P) (M':={ es:=M.es ++ [(k,v,M.clk)],clk:=M.clk + 1 }) (ms':=ms.push { key:=kv,val:=vv,born:=M.clk }) (c':=M.clk + 1) hS hg p2 ⟨by simp [p5],rfl⟩
      (vz p5 p4 ⟨rfl,hk,hv⟩)
     refine ⟨w',?_,k2,k3⟩
     simp only [Instr.mapUpdate,Sem.run_bind,aX w hu,Result.andThen_ok,MapKept.run_getObj_map p2,hchk,o1]
     exact k1
    ·
     cases h
   ·
    cases h
  ·
   cases h
 ·
  cases h
theorem Ex {R:bO} {cx:Cx} {S:St} {w w':World} {id:Nat} {b:uZ} (hg:S.H.get id=some b) (h1:bg R cx { S with H:=S.H.set id b } w') (h2:Ext cx S w cx { S with H:=S.H.set id b } w'):bg R cx S w'∧Ext cx S w cx S w':=by
 have hH:∀ i,({ S with H:=S.H.set id b }:St).H.get i=S.H.get i:=fun i=>by
  simp only [AL.aP]
  by_cases q:id=i
  ·
   subst q; simp [hg]
  ·
   simp [q]
 have hcur:∀ i,cur { S with H:=S.H.set id b } i=cur S i:=fun i=>by unfold cur; rw [hH i]
 have hl:∀ i,live { S with H:=S.H.set id b } i↔live S i:=fun i=>by unfold live; rw [hcur i]
 have e2:Ext cx { S with H:=S.H.set id b } w' cx S w':=by
  refine ⟨Nat.le_refl _,rfl,rfl,rfl,Nat.le_refl _,fun _ _ _ q1 q2=>⟨q2,q1⟩,fun _ _ _=>⟨rfl,fun _=>Iff.rfl⟩,fun i b hi hf=>⟨fun _=>⟨(hl i).2 hi,.inl hf⟩,fun hge=>absurd (h1.wf i ((hl i).2 hi)) (by show ¬ i < S.nx; exact Nat.not_lt.2 hge)⟩,fun i g _ hi=>⟨g,by unfold isIt at *; rw [hH i]; exact hi⟩,fun _ _ _ _ _ _ hf=>hf,fun i g hi hg'=>⟨g,by rw [hcur i]; exact hg',Nat.le_refl _,fun _=>⟨rfl,rfl,rfl⟩⟩⟩
 refine ⟨⟨fun i hi=>h1.wf i ((hl i).2 hi),fun i b hi=>h1.uf i b (by rw [hH i]; exact hi),fun i g cs hi=>?_,fun i es hi=>?_,fun i k x hi=>h1.objs i k x (by rw [hH i]; exact hi),fun i n hi=>h1.toks i n hi,fun i i' b a1 a2=>h1.sep i i' b ((hl i).2 a1) ((hl i').2 a2),h1.lt,h1.stat⟩,h2.trans e2⟩
 ·
  obtain ⟨d1,d2,arr2,el2,d3,d4,d5⟩:=h1.cells i g cs (by rw [hH i]; exact hi)
  exact ⟨d1,d2,arr2,el2,d3,d4,fun j x hx=>by
   obtain ⟨v,v1,v2,v3⟩:=d5 j x hx
   exact ⟨v,v1,v2.mono e2,v3⟩⟩
 ·
  obtain ⟨d1,d2,ms,clk,d3,d4,d5⟩:=h1.maps i es (by rw [hH i]; exact hi)
  exact ⟨d1,d2,ms,clk,d3,d4,fun j p m hp hm=>by
   obtain ⟨v1,v2⟩:=d5 j p m hp hm
   exact ⟨v1,v2.mono e2⟩⟩
theorem Dt {R:bO} (hR:ObjOk R) {C:eT} {cx:Cx} {S:St} {w:World} (hS:bg R cx S w) {t:Nat} {m:AV} {k:D} {r:AV × St} {mv kv:Value} (h:CL C t S m k=some r) (hm:aO cx S w m mv) (hk:bL w cx.fr k kv) :
  ∃ w' u,(Instr.mapEntry t mv kv).run C.P w=.ok u w'∧bg R cx r.2 w'∧Ext cx S w cx r.2 w'∧aO cx r.2 w' r.1 u:=by
 have two:∀ {S':St} {w':World} {y:AV} {x:Value} {n:Nat},aO cx S' w' y x→aO cx S' w' (.tup [y,.d (.int .i64 (n:Nat))]) (.tuple #[x,goInt n]):=by
  intro S' w' y x n hy
  refine .tup [y,.d (.int .i64 n)] [x,goInt n] rfl (fun i a c ha hc=>?_)
  match i,ha,hc with
  | 0,ha,hc=>simp at ha hc; subst ha; subst hc; exact hy
  | 1,ha,hc=>simp at ha hc; subst ha; subst hc; exact .of_int _ _
 unfold CL at h
 split at h
 ·
  rename_i kt et id hkt
  have hu:=mh hkt
  split at h
  ·
   rename_i M hg
   split at h
   ·
    rename_i hkey
    have hchk:=tH hkey hk false
    cases hm with
    | map _ b hn hp =>
    obtain ⟨p1,ms,p2,p3,p4,p5⟩:=tF hS hg (.map id b hn hp)
    subst p1
    split at h
    ·
     rename_i i y hf
     split at h
     ·
      rename_i p hpi
      simp only [Option.some.injEq] at h; subst h
      obtain ⟨o,o1,o2⟩:=iB (P:=C.P) hkey hk p3 hf
      obtain ⟨bn,m',q1,q2,q3,q4⟩:=tK (fun i p m hp hm=>(p4 i p m hp hm).2.2) hf o2
      subst q3
      rw [hpi] at q1
      simp only [Option.some.injEq] at q1; subst q1
      have hsame:M.es.modify i (fun p=>(k,p.2.1,p.2.2))=M.es:=by
       apply List.ext_getElem?
       intro j
       rw [List.getElem?_modify]
       by_cases hj:i=j
       ·
        subst hj; rw [hpi]; simp
       ·
        simp [hj]
      obtain ⟨w',k1,k2,k3⟩:=jo hR (P:=C.P) (M':={ M with es:=M.es.modify i fun p=>(k,p.2.1,p.2.2) }) (ms':=ms.modify i fun e=>{ e with key:=kv }) (c':=M.clk) hS hg p2 ⟨by simp [p5],rfl⟩
       (oN p4 (fun p m hp hm=>⟨(p4 i p m hp hm).1,hk,(p4 i p m hp hm).2.2⟩))
      rw [hsame] at k2 k3
      have hback:bg R cx S w'∧Ext cx S w cx S w':=Ex hg k2 k3
      have hborn:=(p4 i _ m' hpi q2).1
      refine ⟨w',.tuple #[m'.val,goInt m'.born],?_,hback.1,hback.2,?_⟩
      ·
       have hst:=xM hkey (p4 i _ m' hpi q2).2.1 hk
       simp only [Instr.mapEntry,Sem.run_bind,aX w hu,Result.andThen_ok,MapKept.run_getObj_map p2,hchk,o1,q2,Option.map_some,Option.getD_some,hst]
       rw [k1]; rfl
      ·
       rw [hborn]
       exact two (q4.mono hback.2)
     ·
      cases h
    ·
     rename_i hf
     simp only [Option.map_eq_some_iff] at h
     obtain ⟨z,hz,rfl⟩:=h
     obtain ⟨o,o1,o2⟩:=iB (P:=C.P) hkey hk p3 hf
     have:o=none:=o2
     subst this
     obtain ⟨zv,z1,z2⟩:=kQ hz w cx.fr
     obtain ⟨w',k1,k2,k3⟩:=jo hR (P:=C.P) (M':={ es:=M.es ++ [(k,.d z,M.clk)],clk:=M.clk + 1 }) (ms':=ms.push { key:=kv,val:=zv,born:=M.clk }) (c':=M.clk + 1) hS hg p2 ⟨by simp [p5],rfl⟩
      (vz p5 p4 ⟨rfl,hk,.d z zv z2⟩)
     refine ⟨w',.tuple #[zv,goInt M.clk],?_,k2,k3,two ((aO.d z zv z2).mono k3)⟩
     simp only [Instr.mapEntry,Sem.run_bind,aX w hu,Result.andThen_ok,MapKept.run_getObj_map p2,hchk,o1,z1]
     rw [k1]; rfl
    ·
     cases h
   ·
    cases h
  ·
   cases h
 ·
  cases h
theorem pM {n:Nat}:∀ {es:List (D × AV × Nat)} {i0 i:Nat},nZ n es i0=some i→i0 ≤ i∧(∃ p,es[i - i0]? = some p∧p.2.2=n)∧∀ j p,i0 ≤ j→j < i→es[j - i0]? = some p→p.2.2 ≠ n
 | [],i0,i,h=>by simp [nZ] at h
 | (x,v,b) :: l,i0,i,h=>by
  simp only [nZ] at h
  cases hb:Nat.beq b n with
  | true =>
   rw [hb] at h
   simp only [cond_true,Option.some.injEq] at h
   subst h
   exact ⟨Nat.le_refl _,⟨(x,v,b),by simp,Nat.eq_of_beq_eq_true hb⟩,fun j p h1 h2=>by omega⟩
  | false =>
   rw [hb] at h
   simp only [cond_false] at h
   obtain ⟨h1,⟨p,h2,h3⟩,h4⟩:=pM h
   refine ⟨by omega,⟨p,?_,h3⟩,fun j q hj1 hj2 hq=>?_⟩
   ·
    rw [show i - i0=(i - (i0 + 1)) + 1 by omega]; simpa using h2
   ·
    by_cases hj:j=i0
    ·
     subst hj
     simp at hq; subst hq
     intro e
     simp only at e
     rw [e] at hb
     simp at hb
    ·
     refine h4 j q (by omega) hj2 ?_
     rw [show j - i0=(j - (i0 + 1)) + 1 by omega] at hq
     simpa using hq
theorem wN {R:bO} (hR:ObjOk R) {C:eT} {cx:Cx} {S S':St} {w:World} (hS:bg R cx S w) {t:Nat} {m v:AV} {st:D} {mv sv vv:Value} (h:rf S m st v=some S') (hm:aO cx S w m mv) (hs:bL w cx.fr st sv) (hv:aO cx S w v vv) :
  ∃ w',(Instr.entryStore t mv sv vv).run C.P w=.ok () w'∧bg R cx S' w'∧Ext cx S w cx S' w':=by
 unfold rf at h
 split at h
 ·
  rename_i id n
  split at h
  ·
   rename_i M hg
   split at h
   ·
    rename_i hc
    obtain ⟨hn0,hpl⟩:=hc
    have:=hs.val rfl; cases this
    cases hm with
    | map _ b hn hp =>
    obtain ⟨p1,ms,p2,p3,p4,p5⟩:=tF hS hg (.map id b hn hp)
    subst p1
    split at h
    ·
     rename_i i hf
     simp only [Option.some.injEq] at h; subst h
     obtain ⟨_,⟨p,f2,f3⟩,f4⟩:=pM hf
     rw [Nat.sub_zero] at f2
     have hil:i < ms.size:=by rw [p5]; exact (List.getElem?_eq_some_iff.1 f2).1
     have hidx:ms.findIdx? (fun e=>(e.born:Int) == n)=some i:=by
      rw [Array.findIdx?_eq_some_iff_getElem]
      refine ⟨hil,?_,fun j hj=>?_⟩
      ·
       have:=(p4 i p ms[i] f2 (by simp [hil])).1
       rw [this,f3]
       simp [Int.toNat_of_nonneg hn0]
      ·
       have hjl:j < M.es.length:=by omega
       have hq:=List.getElem?_eq_getElem hjl
       have hb:=(p4 j M.es[j] ms[j] hq (by simp [show j < ms.size by omega])).1
       have hne:=f4 j M.es[j] (Nat.zero_le _) hj (by rw [Nat.sub_zero]; exact hq)
       simp only [beq_iff_eq]
       rw [hb]
       intro e
       apply hne
       omega
     obtain ⟨w',k1,k2,k3⟩:=jo hR (P:=C.P) (M':={ M with es:=M.es.modify i fun p=>(p.1,v,p.2.2) }) (ms':=ms.modify i fun e=>{ e with val:=vv }) (c':=M.clk) hS hg p2 ⟨by simp [p5],rfl⟩
      (oN p4 (fun p m hp hm=>⟨(p4 i p m hp hm).1,(p4 i p m hp hm).2.1,hv⟩))
     refine ⟨w',?_,k2,k3⟩
     have hint:(asInt (.int .i64 n)).run C.P w=.ok n w:=by simp [asInt,asIntOf]
     simp only [Instr.entryStore,Sem.run_bind,Sem.run_pure,Result.andThen_ok,MapKept.run_getObj_map p2,hint,hidx]
     exact k1
    ·
     cases h
   ·
    cases h
  ·
   cases h
 ·
  cases h
theorem AJ {cx:Cx} {S:St} {w:World} {es:List (D × AV × Nat)} {ms:Array MapEntry} {j:Nat} (h:∀ (i:Nat) (p:D × AV × Nat) (m:MapEntry),es[i]? = some p→ms[i]? = some m→m.born=p.2.2∧bL w cx.fr p.1 m.key∧aO cx S w p.2.1 m.val) :
  ∀ (i:Nat) (p:D × AV × Nat) (m:MapEntry),(es.eraseIdx j)[i]? = some p→(ms.eraseIdxIfInBounds j)[i]? = some m→m.born=p.2.2∧bL w cx.fr p.1 m.key∧aO cx S w p.2.1 m.val:=by
 intro i p m hp hm
 have hm':(ms.toList.eraseIdx j)[i]? = some m:=by
  rw [← Array.getElem?_toList] at hm
  simpa using hm
 rw [List.getElem?_eraseIdx] at hp hm'
 split at hp
 ·
  rename_i hlt
  rw [if_pos hlt] at hm'
  exact h i p m hp (by simpa using hm')
 ·
  rename_i hlt
  rw [if_neg hlt] at hm'
  exact h (i + 1) p m hp (by simpa using hm')
theorem CG {R:bO} (hR:ObjOk R) {C:eT} {cx:Cx} {S S':St} {w:World} (hS:bg R cx S w) {t ty:Nat} {m:AV} {k:D} {mv kv:Value} (h:yI C t S m k=some S') (hm:aO cx S w m mv) (hk:bL w cx.fr k kv) :
  ∃ w',(Builtin.delete_ #[t] ty #[mv,kv]).run C.P w=.ok (.tuple #[]) w'∧bg R cx S' w'∧Ext cx S w cx S' w':=by
 unfold yI at h
 split at h
 ·
  rename_i kt et id hkt
  have hu:=mh hkt
  split at h
  ·
   rename_i M hg
   split at h
   ·
    rename_i hkey
    cases hm with
    | map _ b hn hp =>
    obtain ⟨p1,ms,p2,p3,p4,p5⟩:=tF hS hg (.map id b hn hp)
    subst p1
    have hchk:=tH hkey hk ms.isEmpty
    split at h
    ·
     rename_i i y hf
     simp only [Option.some.injEq] at h; subst h
     obtain ⟨o,o1,o2⟩:=iB (P:=C.P) hkey hk p3 hf
     obtain ⟨bn,m',q1,q2,q3,q4⟩:=tK (fun i p m hp hm=>(p4 i p m hp hm).2.2) hf o2
     subst q3
     obtain ⟨w',k1,k2,k3⟩:=jo hR (P:=C.P) (M':={ M with es:=M.es.eraseIdx i }) (ms':=ms.eraseIdxIfInBounds i) (c':=M.clk) hS hg p2 ⟨by
       have e1:(ms.eraseIdxIfInBounds i).toList=ms.toList.eraseIdx i:=by simp
       rw [← Array.length_toList,e1,List.length_eraseIdx,List.length_eraseIdx,Array.length_toList,p5],rfl⟩ (AJ p4)
     refine ⟨w',?_,k2,k3⟩
     simp only [Builtin.delete_,List.getElem?_toArray,List.getElem?_cons_zero,List.getElem?_cons_succ,Sem.run_bind,aX w hu,Result.andThen_ok,MapKept.run_getObj_map p2,hchk,o1,k1,Sem.run_pure]
    ·
     rename_i hf
     simp only [Option.some.injEq] at h; subst h
     obtain ⟨o,o1,o2⟩:=iB (P:=C.P) hkey hk p3 hf
     have:o=none:=o2
     subst this
     obtain ⟨w',k1,k2,k3⟩:=jo hR (P:=C.P) (M':=M) (ms':=ms) (c':=M.clk) hS hg p2 ⟨p5,rfl⟩ p4
     obtain ⟨k2,k3⟩:=Ex hg k2 k3
     refine ⟨w',?_,k2,k3⟩
     simp only [Builtin.delete_,List.getElem?_toArray,List.getElem?_cons_zero,List.getElem?_cons_succ,Sem.run_bind,aX w hu,Result.andThen_ok,MapKept.run_getObj_map p2,hchk,o1,k1,Sem.run_pure]
    ·
     cases h
   ·
    cases h
  ·
   cases h
 ·
  cases h
end
end Go.Ev

namespace Go.Ev
noncomputable section
set_option linter.unusedVariables false
set_option linter.unusedSimpArgs false
theorem GM {R:bO} (hR:ObjOk R) {cx cx':Cx} {S S':St} {w w':World} (h:bg R cx S w) {id k0:Nat} {x0:D} (hg:S.H.get id=some (.obj k0 x0)) (hmo:∀ k x,S'.H.get id=some (.obj k x)→Av x0 ≤ Av x) (hbk:∀ g,isIt S' id g→∃ g',isIt S id g') (hdi:∀ g,isIt S id g→¬ isIt S' id g)
  (hT:S'.T=S.T) (hnx:S'.nx=S.nx) (hH:∀ i,i ≠ id→S'.H.get i=S.H.get i) (hHid:S'.H.get id=none∨∃ k x,S'.H.get id=some (.obj k x)∧R.rel k x w' (cx'.bm id) (cx'.fp id))
  (hs:w.heap.size ≤ w'.heap.size) (h1:w'.os=w.os) (h2:w'.tape=w.tape) (h3:w'.output=w.output)
  (hoth:∀ b,b < w.heap.size→¬ cx.fp id b→w'.heap[b]? = w.heap[b]?)
  (hbm:∀ i,cx'.bm i=cx.bm i) (hfp:∀ i,i ≠ id→∀ b,(cx'.fp i b↔cx.fp i b)) (htsz:∀ i,cx'.nk i=cx.nk i) (htot:∀ i,cx'.tot i=cx.tot i)
  (hfpt:∀ b,cx'.fp id b→cx.fp id b∨(w.heap.size ≤ b∧b < w'.heap.size)) (hfpf:∀ b o,cx'.fp id b→cx'.fr b o)
  (hfr1:∀ b o,¬ cx.fr b o→b < w.heap.size→¬ cx'.fr b o) (hfr2:∀ b o,cx.fr b o→cx'.fr b o) (hfr3:∀ b o,cx'.fr b o→b < w'.heap.size) :
  bg R cx' S' w'∧Ext cx S w cx' S' w':=by
 obtain ⟨t1,t2⟩:=h.objs id k0 x0 hg
 have hlive:live S id:=by simp [live,cur,hg]
 have hcur:∀ i,i ≠ id→cur S' i=cur S i:=fun i hi=>by
  unfold cur; rw [hH i hi,hT]
 have hcurt:∀ g,cur S' id=some g→Av x0 ≤ g:=fun g hc=>by
  unfold cur at hc
  rcases hHid with q | ⟨k,x,q,_⟩
  ·
   rw [q,hT,h.uf id _ hg] at hc; cases hc
  ·
   have:=hmo k x q
   rw [q] at hc
   simp only [Option.some.injEq] at hc
   omega
 have hl':∀ i,live S' i→live S i:=fun i hl=>by
  by_cases hi:i=id
  ·
   subst hi; exact hlive
  ·
   unfold live at *; rwa [hcur i hi] at hl
 have e:Ext cx S w cx' S' w':=by
  refine ⟨hs,h1,h2,h3,by rw [hnx]; exact Nat.le_refl _,fun b o v hf hcl=>⟨?_,hfr1 b o hf (qI hcl)⟩,fun b hb hn=>?_,fun i b hl hf=>?_,fun i gi _ hi=>?_,fun i gi b _ h0 h2 hf=>?_,fun i gg hi hgg=>?_⟩
  ·
   exact oH (hoth b (qI hcl) (fun q=>hf (t2 b o q))) hcl
  ·
   exact ⟨hoth b hb (fun q=>by obtain ⟨_,g,z1,z2⟩:=hn id hlive q; exact hdi g z1 z2),fun o=>⟨fun q=>Classical.byContradiction fun q'=>hfr1 b o q' hb q,hfr2 b o⟩⟩
  ·
   refine ⟨fun _=>⟨hl' i hl,?_⟩,fun hge=>absurd (h.wf i (hl' i hl)) (by show ¬ i < S.nx; omega)⟩
   by_cases hi:i=id
   ·
    subst hi
    rcases hfpt b hf with q | q
    ·
     exact .inl q
    ·
     exact .inr q.1
   ·
    exact .inl ((hfp i hi b).1 hf)
  ·
   by_cases q:i=id
   ·
    subst q; exact hbk gi hi
   ·
    exact ⟨gi,by unfold isIt at *; rwa [hH i q] at hi⟩
  ·
   have q:i ≠ id:=fun q=>by subst q; exact hdi gi h0 h2
   exact (hfp i q b).2 hf
  ·
   by_cases hi':i=id
   ·
    subst hi'
    have:=hcurt gg hgg
    exact ⟨Av x0,by simp [cur,hg],this,fun _=>⟨hbm i,htsz i,htot i⟩⟩
   ·
    rw [hcur i hi'] at hgg
    exact ⟨gg,hgg,Nat.le_refl _,fun _=>⟨hbm i,htsz i,htot i⟩⟩
 have hne:∀ i,live S i→i ≠ id→∀ b,cx.fp i b→¬ cx.fp id b:=fun i hi hne b hf hq=>hne (h.sep i id b hi hlive hf hq)
 refine ⟨⟨fun i hi=>by rw [hnx]; exact h.wf i (hl' i hi),fun i b hi=>?_,fun i gg cs2 hi=>?_,fun i es hi=>?_,fun i k x hi=>?_,fun i n hi=>?_,fun i i' b a1 a2 f1 f2=>?_,hfr3,hR.stat _ _ _ _ h.stat e.prot⟩,e⟩
 ·
  rw [hT]
  by_cases q:i=id
  ·
   subst q; exact h.uf i _ hg
  ·
   rw [hH i q] at hi; exact h.uf i b hi
 ·
  by_cases q:i=id
  ·
   subst q
   rcases hHid with z | ⟨k,x,z,_⟩
   ·
    rw [z] at hi; cases hi
   ·
    rw [z] at hi; cases hi
  ·
   rw [hH i q] at hi
   obtain ⟨d1,d2,arr2,el2,d3,d4,d5⟩:=h.cells i gg cs2 hi
   have hb:=hne i (by simp [live,cur,hi]) q _ ((d1 _).2 rfl)
   refine ⟨fun b=>by rw [hfp i q,hbm i]; exact d1 b,fun o=>by rw [hbm i]; exact hfr2 _ _ (d2 o),arr2,el2,?_,by rw [htsz i,htot i]; exact d4,fun j x hx=>by
    obtain ⟨v,v1,v2,v3⟩:=d5 j x hx
    exact ⟨v,v1,v2.mono e,v3⟩⟩
   rw [hbm i,hoth _ (h.lt _ 0 (d2 0)) hb]; exact d3
 ·
  by_cases q:i=id
  ·
   subst q
   rcases hHid with z | ⟨k,x,z,_⟩
   ·
    rw [z] at hi; cases hi
   ·
    rw [z] at hi; cases hi
  ·
   rw [hH i q] at hi
   obtain ⟨d1,d2,ms,clk,d3,d4,d5⟩:=h.maps i es hi
   have hb:=hne i (by simp [live,cur,hi]) q _ ((d1 _).2 rfl)
   refine ⟨fun b=>by rw [hfp i q,hbm i]; exact d1 b,fun o=>by rw [hbm i]; exact hfr2 _ _ (d2 o),ms,clk,?_,d4,fun j p m hp hm=>by
    obtain ⟨v1,v2⟩:=d5 j p m hp hm
    exact ⟨v1.mono e.prot,v2.mono e⟩⟩
   rw [hbm i,hoth _ (h.lt _ 0 (d2 0)) hb]; exact d3
 ·
  by_cases q:i=id
  ·
   subst q
   rcases hHid with z | ⟨k',x',z,hr⟩
   ·
    rw [z] at hi; cases hi
   ·
    rw [z] at hi; cases hi
    exact ⟨hr,hfpf⟩
  ·
   rw [hH i q] at hi
   obtain ⟨d1,d2⟩:=h.objs i k x hi
   have hf:cx'.fp i=cx.fp i:=funext fun b=>propext (hfp i q b)
   rw [hbm i,hf]
   have hb:=hne i (by simp [live,cur,hi]) q
   exact ⟨hR.frame k x w w' _ _ d1 (fun c hc=>hoth c ((hR.lt k x w _ _ d1).1 c hc) (hb c hc)),fun b o hbf=>hfr2 b o (d2 b o hbf)⟩
 ·
  rw [hT] at hi
  have q:i ≠ id:=fun q=>by subst q; have:=h.uf i _ hg; rw [this] at hi; cases hi
  obtain ⟨hci,hHi⟩:=Eh h hi
  obtain ⟨d1,d2,arr2,el2,fz,d3,d4,d5,d6⟩:=h.toks i n hi
  have hb:=hne i (by simp [live,hci]) q _ ((d1 _).2 rfl)
  have hlt:cx.bm i < w.heap.size:=h.lt _ _ (d2 _ (Nat.le_refl _))
  refine ⟨fun b=>by rw [hfp i q,hbm i]; exact d1 b,fun o ho=>?_,arr2,el2,fz,?_,?_,?_,?_⟩
  ·
   rw [htsz i] at ho; rw [hbm i]; exact hfr2 _ _ (d2 o ho)
  ·
   rw [hbm i,hoth _ hlt hb]; exact d3
  ·
   rw [htsz i,htot i]; exact d4
  ·
   rw [htot i]; exact d5
  ·
   rw [htsz i]; exact d6
 ·
  by_cases q:i=id <;> by_cases q':i'=id
  ·
   omega
  ·
   exfalso
   subst q
   have f2':=(hfp i' q' b).1 f2
   rcases hfpt b f1 with z | z
   ·
    exact hne i' (hl' i' a2) q' b f2' z
   ·
    have:=h.xP hR (hl' i' a2) f2'; omega
  ·
   exfalso
   subst q'
   have f1':=(hfp i q b).1 f1
   rcases hfpt b f2 with z | z
   ·
    exact hne i (hl' i a1) q b f1' z
   ·
    have:=h.xP hR (hl' i a1) f1'; omega
  ·
   exact h.sep i i' b (hl' i a1) (hl' i' a2) ((hfp i q b).1 f1) ((hfp i' q' b).1 f2)
theorem xQ {R:bO} (hR:ObjOk R) {cx:Cx} {S:St} {w:World} (hS:bg R cx S w) (m:Option Nat) (since st:Nat) (seen:Array Nat) :
  ∃ cx',bg R cx' (bH S (.obj 3 (.int .i64 0))) (w.alloc (.mapIter m since seen st))∧Ext cx S w cx' (bH S (.obj 3 (.int .i64 0))) (w.alloc (.mapIter m since seen st)) ∧
   Names (bH S (.obj 3 (.int .i64 0))) S.nx 0∧(w.heap.size=cx'.bm S.nx∧cx'.fp S.nx w.heap.size∧(∀ i,cur (bH S (.obj 3 (.int .i64 0))) i ≠ none→cx'.fp i w.heap.size→i=S.nx) ∧
    (w.alloc (.mapIter m since seen st)).heap[w.heap.size]? = some (.mapIter m since seen st)):=by
 obtain ⟨cx',k1,k2,k3⟩:=vw hR hS 3 (.int .i64 0) (.mapIter m since seen st) rfl ((hR.it _ _ _ _).2 ⟨by rw [size_alloc]; omega,fun c=>Iff.rfl⟩)
 have hget:(bH S (.obj 3 (.int .i64 0))).H.get S.nx=some (.obj 3 (.int .i64 0)):=by simp [bH,AL.aP]
 have hcur:cur (bH S (.obj 3 (.int .i64 0))) S.nx=some 0:=by unfold cur; rw [hget]; rfl
 cases k3 with
 | ptr _ _ _ _ hn hp =>
 have hb:=hp hcur
 have hf:cx'.fp S.nx w.heap.size:=((((hR.it _ _ _ _).1 (k1.objs _ _ _ hget).1).2) _).2 hb
 exact ⟨cx',k1,k2,hn,hb,hf,fun i hi hfi=>k1.sep i S.nx _ hi (by simp [live,hcur]) hfi hf,heap_alloc_new w _⟩
theorem Et {R:bO} (hR:ObjOk R) {C:eT} {cx:Cx} {S:St} {w:World} (hS:bg R cx S w) {t id:Nat} {kt:Nat × Nat} {M:vg} {v:Value} (ht:pQ C t=some kt) (hg:S.H.get id=some (.map M)) (hx:aO cx S w (.map id) v) :
  ∃ cx' w' u,(Instr.range t v).run C.P w=.ok u w'∧bg R cx' (bH S (.obj 3 (.int .i64 0))) w'∧Ext cx S w cx' (bH S (.obj 3 (.int .i64 0))) w'∧aO cx' (bH S (.obj 3 (.int .i64 0))) w' (.it S.nx 0 (some id) M.clk [] M.clk) u:=by
 have hu:=mh (k:=kt.1) (e:=kt.2) ht
 cases hx with
 | map _ b hn hp =>
 obtain ⟨p1,ms,p2,p3,p4,p5⟩:=tF hS hg (.map id b hn hp)
 subst p1
 obtain ⟨cx',k1,k2,k3,k4⟩:=xQ hR hS (some (cx.bm id)) M.clk M.clk #[]
 refine ⟨cx',_,.pointer (some ⟨w.heap.size,0,none⟩),?_,k1,k2,?_⟩
 ·
  simp only [Instr.range,Sem.run_bind,aX w hu,Result.andThen_ok,MapKept.run_getObj_map p2,Sem.run_pure]
  rfl
 ·
  refine .it S.nx 0 id M.clk M.clk w.heap.size (cx.bm id) [] k3 (hn.mono k2) (fun hc=>?_) (fun _=>k4)
  exact (hn.pos k2 hc).2.1.symm
theorem xW {R:bO} (hR:ObjOk R) {C:eT} {cx:Cx} {S:St} {w:World} (hS:bg R cx S w) {t:Nat} {kt:Nat × Nat} {v:Value} (ht:pQ C t=some kt) (hx:aO cx S w (.d .nilm) v) :
  ∃ cx' w' u,(Instr.range t v).run C.P w=.ok u w'∧bg R cx' (bH S (.obj 3 (.int .i64 0))) w'∧Ext cx S w cx' (bH S (.obj 3 (.int .i64 0))) w'∧aO cx' (bH S (.obj 3 (.int .i64 0))) w' (.it S.nx 0 none 0 [] 0) u:=by
 have hu:=mh (k:=kt.1) (e:=kt.2) ht
 have:=hx.dd.val rfl
 cases this
 obtain ⟨cx',k1,k2,k3,k4⟩:=xQ hR hS none 0 0 #[]
 refine ⟨cx',_,.pointer (some ⟨w.heap.size,0,none⟩),?_,k1,k2,.it0 S.nx 0 0 0 w.heap.size [] k3 (fun _=>k4)⟩
 simp only [Instr.range,Sem.run_bind,aX w hu,Result.andThen_ok,Sem.run_pure]
 rfl
theorem BR {R:bO} {C:eT} {cx:Cx} {S:St} {w:World} (hS:bg R cx S w) {k g id since st n i:Nat} {seen:List Nat} {M:vg} {p:D × AV × Nat} {v:Value} (hx:aO cx S w (.it k g (some id) since seen st) v)
  (hg:S.H.get id=some (.map M)) (hl:seen.getLast? = some n) (hk:isIt S k g) (hc:M.clk=st) (hf:nZ n M.es 0=some i) (hp:M.es[i]? = some p) :
  ∃ u,(Instr.entry v).run C.P w=.ok u w∧aO cx S w (.tup [.d p.1,p.2.1]) u:=by
 cases hx with
 | it _ _ _ _ _ b m _ hn hni hm hpos =>
 obtain ⟨_,_,_,hb⟩:=hpos hk
 have hm:=hm (by simp [cur,hg])
 subst hm
 obtain ⟨c1,c2,ms,clk,c3,⟨c4,c4',c4''⟩,c5⟩:=hS.maps id M hg
 subst c4'
 have hlt:i < ms.size:=by rw [c4]; exact (List.getElem?_eq_some_iff.1 hp).1
 have hmi:ms[i]? = some ms[i]:=Array.getElem?_eq_getElem hlt
 obtain ⟨r1,r2⟩:=c5 i p _ hp hmi
 obtain ⟨_,⟨q,f2,f3⟩,f4⟩:=pM hf
 rw [Nat.sub_zero] at f2
 have hqp:q=p:=by rw [hp] at f2; exact (Option.some.inj f2).symm
 subst hqp
 have hfind:ms.find? (fun e=>e.born == n)=some ms[i]:=by
  rw [Array.find?_eq_some_iff_getElem]
  refine ⟨by simp [c4'' i q _ hp hmi,f3],i,hlt,rfl,fun j hj=>?_⟩
  have hjl:j < M.es.length:=by rw [← c4]; omega
  have hq:=List.getElem?_eq_getElem hjl
  have hbj:=c4'' j M.es[j] ms[j] hq (Array.getElem?_eq_getElem (by omega))
  have hne:=f4 j M.es[j] (Nat.zero_le _) hj (by rw [Nat.sub_zero]; exact hq)
  simp [hbj,hne]
 have hgo:(getObj b).run C.P w=.ok (.mapIter (some (cx.bm id)) since seen.toArray st) w:=by simp [getObj,Sem.run,hb]
 have hback:seen.toArray.back? = some n:=by simpa using hl
 refine ⟨.tuple #[ms[i].key,ms[i].val],?_,?_⟩
 ·
  simp only [Instr.entry,Sem.run_bind,Sem.run_pure,Result.andThen_ok,hgo,hback,MapKept.run_getObj_map c3,hc]
  rw [if_neg (by simp)]
  simp only [hfind,Sem.run_pure]
 ·
  refine .tup _ [ms[i].key,ms[i].val] rfl (fun j x u hx hu=>?_)
  match j,hx,hu with
  | 0,hx,hu=>simp at hx hu; subst hx; subst hu; exact .d _ _ r1
  | 1,hx,hu=>simp at hx hu; subst hx; subst hu; exact r2
end
end Go.Ev

namespace Go.Ev
noncomputable section
set_option linter.unusedVariables false
set_option linter.unusedSimpArgs false
def mU (R:bO) (C:eT) (cx:Cx) (S:St) (w:World) (σ:Operand→Value) (o:Oper):uq→Prop
 | .val v S'=>∃ cx' w' u,(execOp σ o).run C.P w=.ok (.value u) w'∧bg R cx' S' w'∧Ext cx S w cx' S' w'∧aO cx' S' w' v u
 | .skip S'=>∃ cx' w',(execOp σ o).run C.P w=.ok .skip w'∧bg R cx' S' w'∧Ext cx S w cx' S' w'
 | .call f args=>∃ us:List Value,us.length=args.length∧(∀ (i:Nat) (x:AV) (v:Value),args[i]? = some x→us[i]? = some v→aO cx S w x v) ∧
   ∀ fn,C.P.funcs[f]? = some fn→fn.body.isSome=true→fn.name ≠ "runtime.NumGoroutine" → (execOp σ o).run C.P w=.ok (.enter f us.toArray) w
 | .panic _=>False
theorem rQ {P:Program} {w w':World} {s:Sem Value} {u:Value} (h:s.run P w=.ok u w'):(do pure (.value (← s)):Sem Next).run P w=.ok (.value u) w':=by
 rw [Sem.run_bind,h]; rfl
theorem MS {P:Program} {w w':World} {s:Sem Unit} (h:s.run P w=.ok () w'):(do s; pure .skip:Sem Next).run P w=.ok .skip w':=by
 rw [Sem.run_bind,h]; rfl
section
variable {R:bO} {C:eT} {cx:Cx} {S:St} {w:World} {σ:Operand→Value} {o:Oper}
theorem mU.pure {v:AV} {u:Value} (hS:bg R cx S w) (h:(execOp σ o).run C.P w=.ok (.value u) w) (hv:aO cx S w v u):mU R C cx S w σ o (.val v S) :=
 ⟨cx,w,u,h,hS,Ext.refl w hS.wf,hv⟩
theorem GG {x:AV} {ys:List D} {u:Value} {sz:Nat} (hd:oK x=some ys) (hx:aO cx S w x u) (hs:sizes sz ys=true) :
  (Builtin.lenOf u).run C.P w=.ok ys.length w∧∃ fs,(∀ w',w'.heap=w.heap→(Builtin.firstCells sz ys.length u).run C.P w'=.ok fs.toArray w')∧Flat w cx.fr sz ys fs:=by
 obtain ⟨tight,hr⟩:=Ci hd hx
 obtain ⟨a,cap,rfl,_⟩:=Cz hr
 refine ⟨rfl,?_⟩
 obtain ⟨fs,f1,f2,_⟩:=jU (P:=C.P) hr hs
 refine ⟨fs,fun w' hw=>?_,f2⟩
 have hm:bL w' cx.fr (.sl ys tight) (.slice a ys.length cap):=hr.mono (fun b o v h1 h2=>⟨by simp only [World.cell?] at h2 ⊢; rw [hw]; exact h2,h1⟩)
 obtain ⟨gs,g1,g2,g3⟩:=jU (P:=C.P) hm hs
 rw [g1]
 congr 2
 cases a with
 | none =>
  have h0:ys=[]:=by
   obtain ⟨a',cap',hv,_,_,hm⟩:=Cz hr
   simp only [Value.slice.injEq] at hv
   by_cases q:ys=[]
   ·
    exact q
   ·
    obtain ⟨b,off,sz',vs,e,_⟩:=hm q
    rw [← hv.1] at e; cases e
  subst h0
  have e1:fs=[]:=by have:=f2.len; simpa using this
  have e2:gs=[]:=by have:=g2.len; simpa using this
  rw [e1,e2]
 | some ad =>
  have hrun:(loadCells ad (ys.length * sz)).run C.P w=.ok fs.toArray w:=f1
  have hrun':(loadCells ad (ys.length * sz)).run C.P w'=.ok gs.toArray w':=g1
  by_cases q:ys=[]
  ·
   subst q
   have e1:fs=[]:=by have:=f2.len; simpa using this
   have e2:gs=[]:=by have:=g2.len; simpa using this
   rw [e1,e2]
  ·
   obtain ⟨a',cap',hv,_,_,hm⟩:=Cz hr
   obtain ⟨b,off,sz',vs,e,_⟩:=hm q
   simp only [Value.slice.injEq] at hv
   rw [← hv.1] at e
   simp only [Option.some.injEq] at e; subst e
   obtain ⟨fs',f1',f2',f3'⟩:=jU (P:=C.P) hr hs
   rw [f1] at f1'
   simp only [Result.ok.injEq,and_true] at f1'
   have hff:fs=fs':=by simpa using f1'
   subst hff
   apply List.ext_getElem?
   intro i
   by_cases hi:i < gs.length
   ·
    have hg:=List.getElem?_eq_getElem hi
    have hi':i < fs.length:=by rw [f2.len,← g2.len]; exact hi
    have hf:=List.getElem?_eq_getElem hi'
    have c1:=g3 b off _ _ rfl i _ hg
    have c2:=f3' b off _ _ rfl i _ hf
    simp only [World.cell?] at c1 c2
    rw [hw] at c1
    rw [c2] at c1
    rw [hg,hf]; simpa using c1.symm
   ·
    rw [List.getElem?_eq_none (by omega),List.getElem?_eq_none (by rw [f2.len,← g2.len]; omega)]
theorem vR (hR:ObjOk R) (hS:bg R cx S w) {t t2 e ty:Nat} {x r:AV} {ys:List D} {S':St} {v u:Value} (h:jb C e S x ys=some (r,S')) (he:bz C.P t=some e) (h2:iX C t2=true) (hx:aO cx S w x v)
  (hu:(Builtin.lenOf u).run C.P w=.ok ys.length w) (hsrc:sizes (aM C.P e) ys=true→∃ fs,(∀ w',w'.heap=w.heap→(Builtin.firstCells (aM C.P e) ys.length u).run C.P w'=.ok fs.toArray w')∧Flat w cx.fr (aM C.P e) ys fs)
  (h0:ys=[]→∀ sz,(Builtin.firstCells sz 0 u).run C.P w=.ok #[] w) (hi:(C.P.info? e).isSome=true) :
  ∃ cx' w' z,(Builtin.append_ #[t,t2] ty #[v,u]).run C.P w=.ok z w'∧bg R cx' S' w'∧Ext cx S w cx' S' w'∧aO cx' S' w' r z:=by
 obtain ⟨ie,hi⟩:=Option.isSome_iff_exists.1 hi
 have nothing:∀ {xs:List D} {tight:Bool},bL w cx.fr (.sl xs tight) v→ys.length=0→(Builtin.append_ #[t,t2] ty #[v,u]).run C.P w=.ok v w:=by
  intro xs tight hd hy
  obtain ⟨a,cap,rfl,hcap,_⟩:=Cz hd
  have hy':ys=[]:=List.eq_nil_of_length_eq_zero hy
  subst hy'
  have:=run_append_fits (w:=w) (ty:=ty) (sLen:=xs.length) (sCap:=cap) (n:=0) (base:=a) (u:=u) (bZ he) hi h2 hu (by omega) (new:=#[]) (h0 rfl _)
  rw [this]
  cases a with
  | none=>rfl
  | some ad=>simp [storeCells]
 unfold jb at h
 split at h
 ·
  by_cases hy:ys.length=0
  ·
   rw [if_pos hy,if_pos (by simp [hi])] at h
   simp only [Option.some.injEq,Prod.mk.injEq] at h
   obtain ⟨rfl,rfl⟩:=h
   exact ⟨cx,w,v,nothing (zM hx.dd) hy,hS,Ext.refl w hS.wf,hx⟩
  ·
   rw [if_neg hy] at h
   split at h
   ·
    rename_i hc
    obtain ⟨c1,c2,c3,c4,c6⟩:=hc
    simp only [Option.some.injEq,Prod.mk.injEq] at h
    obtain ⟨rfl,rfl⟩:=h
    obtain ⟨fs,s1,s2⟩:=hsrc c4
    have:=zA hR hS (ty:=ty) (xs:=[]) he h2 (zM hx.dd) hu s1 s2 hy (by simpa using c1) c2 c3 rfl c6
    simpa using this
   ·
    cases h
 ·
  rename_i xs tight
  by_cases hy:ys.length=0
  ·
   rw [if_pos hy,if_pos (by simp [hi])] at h
   simp only [Option.some.injEq,Prod.mk.injEq] at h
   obtain ⟨rfl,rfl⟩:=h
   exact ⟨cx,w,v,nothing hx.dd hy,hS,Ext.refl w hS.wf,hx⟩
  ·
   rw [if_neg hy] at h
   split at h
   ·
    rename_i hc
    obtain ⟨c1,c2,c3,c4,c5,c6⟩:=hc
    split at h
    ·
     rename_i ht
     subst ht
     simp only [Option.some.injEq,Prod.mk.injEq] at h
     obtain ⟨rfl,rfl⟩:=h
     obtain ⟨fs,s1,s2⟩:=hsrc c4
     exact zA hR hS he h2 hx.dd hu s1 s2 hy c1 c2 c3 c5 c6
    ·
     cases h
   ·
    cases h
 ·
  rename_i xs tok
  by_cases hy:ys.length=0
  ·
   rw [if_pos hy,if_pos (by simp [hi])] at h
   simp only [Option.some.injEq,Prod.mk.injEq] at h
   obtain ⟨rfl,rfl⟩:=h
   refine ⟨cx,w,v,?_,hS,Ext.refl w hS.wf,hx⟩
   cases hx with
   | tsl _ _ b off cap hn hd hp=>exact nothing hd hy
  ·
   rw [if_neg hy] at h
   split at h
   ·
    rename_i hc
    obtain ⟨c1,c2,c3,c4,c5,c6⟩:=hc
    split at h
    ·
     rename_i en hT
     split at h
     ·
      rename_i hen
      obtain ⟨rfl,hpos⟩:=hen
      simp only [Option.some.injEq,Prod.mk.injEq] at h
      obtain ⟨rfl,rfl⟩:=h
      obtain ⟨fs,s1,s2⟩:=hsrc c4
      exact ER hR hS he h2 hx (by intro q; subst q; simp at hpos) hT hu s1 s2 hy c1 c2 c3 c5 c6
     ·
      cases h
    ·
     cases h
   ·
    cases h
 ·
  cases h
theorem xq {A:Array Nat} {V:Array Value} {t t2 ty:Nat} {v u:Value} (h1:A[0]? = some t) (h2:A[1]? = some t2) (h3:V[0]? = some v) (h4:V[1]? = some u) :
  Builtin.append_ A ty V=Builtin.append_ #[t,t2] ty #[v,u]:=by
 unfold Builtin.append_
 simp only [h1,h2,h3,h4,List.getElem?_toArray,List.getElem?_cons_zero,List.getElem?_cons_succ]
theorem IM {A:Array Nat} {V:Array Value} {t ty:Nat} {v:Value} (h1:A[0]? = some t) (h3:V[0]? = some v):Builtin.len_ A ty V=Builtin.len_ #[t] ty #[v]:=by
 unfold Builtin.len_
 simp only [h1,h3,List.getElem?_toArray,List.getElem?_cons_zero]
theorem Ej {A:Array Nat} {V:Array Value} {t ty:Nat} {v u:Value} (h1:A[0]? = some t) (h3:V[0]? = some v) (h4:V[1]? = some u):Builtin.delete_ A ty V=Builtin.delete_ #[t] ty #[v,u]:=by
 unfold Builtin.delete_
 simp only [h1,h3,h4,List.getElem?_toArray,List.getElem?_cons_zero,List.getElem?_cons_succ]
theorem He {A:Array Nat} {V:Array Value} {t t2 ty:Nat} {v u:Value} (h1:A[0]? = some t) (h3:V[0]? = some v) (h4:V[1]? = some u):Builtin.copy_ A ty V=Builtin.copy_ #[t,t2] ty #[v,u]:=by
 unfold Builtin.copy_
 simp only [h1,h3,h4,List.getElem?_toArray,List.getElem?_cons_zero,List.getElem?_cons_succ]
theorem FJ {A:Array Nat} {V:Array Value} {t ty:Nat} {v:Value} (h1:A[0]? = some t) (h3:V[0]? = some v):Builtin.clear_ A ty V=Builtin.clear_ #[t] ty #[v]:=by
 unfold Builtin.clear_
 simp only [h1,h3,List.getElem?_toArray,List.getElem?_cons_zero]
theorem uE {ρ:Operand→Option AV} (hρ:xO cx S w ρ σ) {as:Array Operand} {args:List AV} (h:fV ρ as.toList=some args) :
  (as.map σ).toList.length=args.length∧∀ (i:Nat) (x:AV) (v:Value),args[i]? = some x→(as.map σ).toList[i]? = some v→aO cx S w x v:=by
 obtain ⟨h1,h2⟩:=p9 h
 refine ⟨by simp [h1],fun i x v hx hv=>?_⟩
 simp only [Array.toList_map,List.getElem?_map,Option.map_eq_some_iff] at hv
 obtain ⟨q,hq,rfl⟩:=hv
 exact hρ _ _ (h2 i q x hq hx)
theorem rR {e:Nat} (h:fK C e=true):(C.P.info? e).isSome=true:=by
 obtain ⟨i,z,hi,_⟩:=o9 h; simp [hi]
theorem Ed {e:Nat} {x:AV} {ys:List D} {r:AV × St} (h:jb C e S x ys=some r):(C.P.info? e).isSome=true:=by
 unfold jb at h
 split at h
 ·
  split at h
  ·
   split at h
   ·
    assumption
   ·
    cases h
  ·
   split at h
   ·
    rename_i hc; exact rR hc.2.2.2.2
   ·
    cases h
 ·
  split at h
  ·
   split at h
   ·
    assumption
   ·
    cases h
  ·
   split at h
   ·
    rename_i hc; exact rR hc.2.2.2.2.2
   ·
    cases h
 ·
  split at h
  ·
   split at h
   ·
    assumption
   ·
    cases h
  ·
   split at h
   ·
    rename_i hc; exact rR hc.2.2.2.2.2
   ·
    cases h
 ·
  cases h
theorem rO (hR:ObjOk R) (hS:bg R cx S w) {A:Array Nat} {V:Array Value} {t t2 e ty:Nat} {x y r:AV} {ys:List D} {S':St} {v u:Value} (h:jb C e S x ys=some (r,S')) (he:bz C.P t=some e) (hei:(C.P.info? e).isSome=true) (h2:iX C t2=true)
  (hx:aO cx S w x v) (hy:aO cx S w y u) (hk:oK y=some ys∨∃ s,y=.d (.str s)∧ys=s.map fun c=>.int .u8 c.toNat)
  (a1:A[0]? = some t) (a2:A[1]? = some t2) (a3:V[0]? = some v) (a4:V[1]? = some u) :
  ∃ cx' w' z,(Builtin.append_ A ty V).run C.P w=.ok z w'∧bg R cx' S' w'∧Ext cx S w cx' S' w'∧aO cx' S' w' r z:=by
 rw [xq a1 a2 a3 a4]
 rcases hk with hk | ⟨s,rfl,rfl⟩
 ·
  have hlen:(Builtin.lenOf u).run C.P w=.ok ys.length w:=by
   obtain ⟨tight,hr⟩:=Ci hk hy
   obtain ⟨a,cap,rfl,_⟩:=Cz hr
   rfl
  refine vR hR hS h he h2 hx hlen (fun hs=>(GG hk hy hs).2) (fun h0 sz=>?_) hei
  subst h0
  obtain ⟨tight,hr⟩:=Ci hk hy
  obtain ⟨a,cap,rfl,_⟩:=Cz hr
  cases a <;> simp [Builtin.firstCells,loadCells,loadCellsFrom]
 ·
  obtain ⟨b,rfl,rfl⟩:=hy.str
  have hbl:b.data.toList.length=b.size:=Array.length_toList
  refine vR hR hS h he h2 hx ?_ (fun hs=>?_) (fun h0 sz=>?_) hei
  ·
   simp only [Builtin.lenOf,List.length_map,Sem.run_pure]; rw [hbl]
  ·
   obtain ⟨fs,f1,f2⟩:=Bh (P:=C.P) (w:=w) (fr:=cx.fr) b
   by_cases hne:b.data.toList=[]
   ·
    refine ⟨[],fun w' _=>?_,by simp [hne],by simp,by simp [hne],by simp [hne]⟩
    simp only [hne,List.map_nil,List.length_nil,Builtin.firstCells,Sem.run_pure]
    congr 1
    apply Array.ext'
    simp [ByteArray.data_extract]
   ·
    have hsz:aM C.P e=1:=by
     cases hb:b.data.toList with
     | nil=>exact absurd hb hne
     | cons c l=>rw [hb] at hs; simp only [List.map_cons,sizes,Bool.and_eq_true] at hs; have:=Nat.eq_of_beq_eq_true hs.1; simpa [D.cells] using this.symm
    rw [hsz]
    refine ⟨fs,fun w' _=>?_,f2⟩
    have:(Builtin.firstCells 1 b.size (.string b)).run C.P w'=.ok fs.toArray w':=by
     simp only [Builtin.firstCells,Sem.run_pure,Result.ok.injEq,and_true] at f1 ⊢
     exact f1
    simp only [List.length_map,hbl]
    exact this
  ·
   simp only [Builtin.firstCells,Sem.run_pure]
   congr 1
   apply Array.ext'
   simp [ByteArray.data_extract]
theorem uL {ρ:Operand→Option AV} (hρ:xO cx S w ρ σ) {x:Option Operand} {y:Option D} (h:pK ρ x=some y):lW cx w y (x.map σ):=by
 unfold pK at h
 split at h
 ·
  simp only [Option.some.injEq] at h; subst h; trivial
 ·
  rename_i o'
  split at h
  ·
   rename_i z hz
   simp only [Option.some.injEq] at h; subst h
   exact (hρ _ _ hz).dd
  ·
   cases h
theorem AP (hR:ObjOk R) (hS:bg R cx S w) {b:Builtin} {A:Array Nat} {args:List AV} {us:List Value} {ty:Nat} {cs:Array Bool} {nx:uq} (h:dK C b A S args=some nx)
  (hl:us.length=args.length) (hr:∀ (i:Nat) (x:AV) (v:Value),args[i]? = some x→us[i]? = some v→aO cx S w x v) :
  ∃ v S' cx' w' u,nx=.val v S'∧(Go.builtin b A ty cs us.toArray).run C.P w=.ok (.value u) w'∧bg R cx' S' w'∧Ext cx S w cx' S' w'∧aO cx' S' w' v u:=by
 have hrefl:=Ext.refl (cx:=cx) w hS.wf
 unfold dK at h
 split at h
 ·
  rename_i x
  split at h
  ·
   rename_i t ht
   split at h
   ·
    rename_i hlt
    simp only [Option.map_eq_some_iff] at h
    obtain ⟨n,hn,rfl⟩:=h
    match us,hl with
    | [u],_ =>
     have:=Ht hS (ty:=ty) hlt hn (hr 0 x u rfl rfl)
     refine ⟨_,_,cx,w,.int .i64 n,rfl,?_,hS,hrefl,.of_int _ _⟩
     simp only [Go.builtin]
     rw [IM (v:=u) ht rfl]
     exact rQ this
   ·
    cases h
  ·
   cases h
 ·
  rename_i x y
  split at h
  ·
   rename_i t ht
   cases ht2:A[1]? with
   | none=>simp [ht2] at h
   | some t2 =>
    simp only [ht2] at h
    by_cases hsrc:iX C t2=true
    ·
     rw [if_pos hsrc] at h
     match us,hl with
     | [u1,u2],_ =>
      have key:∀ {e:Nat} {ys:List D} {r:AV × St},bz C.P t=some e→jb C e S x ys=some r→(oK y=some ys∨∃ s,y=.d (.str s)∧ys=s.map fun c=>.int .u8 c.toNat)→nx=.val r.1 r.2 →
        ∃ v S' cx' w' u,nx=.val v S'∧(Go.builtin .append A ty cs [u1,u2].toArray).run C.P w=.ok (.value u) w'∧bg R cx' S' w'∧Ext cx S w cx' S' w'∧aO cx' S' w' v u:=by
       intro e ys r he hop hk hnx
       by_cases hei:(C.P.info? e).isSome=true
       ·
        obtain ⟨cx',w',z,k1,k2,k3,k4⟩:=rO (ty:=ty) (A:=A) (V:=[u1,u2].toArray) hR hS (r:=r.1) (S':=r.2) hop he hei hsrc (hr 0 x u1 rfl rfl) (hr 1 y u2 rfl rfl) hk ht ht2 rfl rfl
        exact ⟨r.1,r.2,cx',w',z,hnx,rQ k1,k2,k3,k4⟩
       ·
        exfalso
        exact hei (Ed hop)
      have e1:Builtin.append_ A ty [u1,u2].toArray=Builtin.append_ #[t,t2] ty #[u1,u2]:=xq ht ht2 rfl rfl
      have fin:∀ {r:AV × St},nx=.val r.1 r.2→(∃ cx' w' z,(Builtin.append_ #[t,t2] ty #[u1,u2]).run C.P w=.ok z w'∧bg R cx' r.2 w'∧Ext cx S w cx' r.2 w'∧aO cx' r.2 w' r.1 z) →
        ∃ v S' cx' w' u,nx=.val v S'∧(Go.builtin .append A ty cs [u1,u2].toArray).run C.P w=.ok (.value u) w'∧bg R cx' S' w'∧Ext cx S w cx' S' w'∧aO cx' S' w' v u:=by
       intro r hnx ⟨cx',w',z,k1,k2,k3,k4⟩
       rw [← e1] at k1
       exact ⟨r.1,r.2,cx',w',z,hnx,rQ k1,k2,k3,k4⟩
      split at h
      ·
       rename_i e he
       split at h
       ·
        rename_i id g off len lim sz
        simp only [Option.map_eq_some_iff] at h
        obtain ⟨r,hop,rfl⟩:=h
        exact fin rfl (xU hR hS hop he hsrc (hr 0 _ u1 rfl rfl) (hr 1 y u2 rfl rfl))
       ·
        cases hrow:C.rowT t with
        | true =>
         simp only [hrow,cond_true] at h
         split at h
         ·
          simp only [Option.map_eq_some_iff] at h
          obtain ⟨r,hop,rfl⟩:=h
          have hn:=DZ (hr 0 _ u1 rfl rfl).dd
          subst hn
          exact fin rfl (pq hR hS (xs:=[]) (cap:=0) hop he hsrc (fun sz _=>⟨[],fun w' _=>by simp [Builtin.firstCells],⟨by simp,by simp,by simp,by simp⟩⟩) rfl (hr 0 _ _ rfl rfl) (hr 1 y u2 rfl rfl))
         ·
          rename_i xs
          simp only [Option.map_eq_some_iff] at h
          obtain ⟨r,hop,rfl⟩:=h
          have hd:=(hr 0 _ u1 rfl rfl).dd
          obtain ⟨a,cap,rfl,_,hcap,_⟩:=Cz hd
          exact fin rfl (pq hR hS hop he hsrc (fun sz hs=>zN hd hs) (hcap rfl) (hr 0 _ _ rfl rfl) (hr 1 y u2 rfl rfl))
         ·
          cases h
        | false =>
         simp only [hrow,cond_false] at h
         split at h
         ·
          rename_i ys hd
          simp only [Option.map_eq_some_iff] at h
          obtain ⟨r,hop,rfl⟩:=h
          exact key he hop (.inl hd) rfl
         ·
          rename_i hd
          split at h
          ·
           simp only [Option.map_eq_some_iff] at h
           obtain ⟨r,hop,rfl⟩:=h
           exact key he hop (.inr ⟨_,rfl,rfl⟩) rfl
          ·
           cases h
      ·
       cases h
    ·
     rw [if_neg hsrc] at h; cases h
  ·
   cases h
 ·
  rename_i x y
  split at h
  ·
   rename_i t ht
   split at h
   ·
    rename_i e he
    match us,hl with
    | [u1,u2],_ =>
     obtain ⟨n,S',cx',w',rfl,k1,k2,k3⟩:=EH (t2:=0) (ty:=ty) hR hS h he (hr 0 x u1 rfl rfl) (hr 1 y u2 rfl rfl)
     refine ⟨_,S',cx',w',.int .i64 n,rfl,?_,k2,k3,.of_int _ _⟩
     simp only [Go.builtin]
     rw [He (t2:=0) (v:=u1) (u:=u2) ht rfl rfl]
     exact rQ k1
   ·
    cases h
  ·
   cases h
 ·
  rename_i x
  split at h
  ·
   rename_i t ht
   split at h
   ·
    rename_i e he
    match us,hl with
    | [u],_ =>
     obtain ⟨S',cx',w',rfl,k1,k2,k3⟩:=DW (ty:=ty) hR hS h he (hr 0 x u rfl rfl)
     refine ⟨_,S',cx',w',.tuple #[],rfl,?_,k2,k3,.tup [] [] rfl (by simp)⟩
     simp only [Go.builtin]
     rw [FJ (v:=u) ht rfl]
     exact rQ k1
   ·
    cases h
  ·
   cases h
 ·
  rename_i m k
  split at h
  ·
   rename_i t ht
   simp only [Option.map_eq_some_iff] at h
   obtain ⟨S',hd,rfl⟩:=h
   match us,hl with
   | [u1,u2],_ =>
    obtain ⟨w',k1,k2,k3⟩:=CG (ty:=ty) hR hS hd (hr 0 m u1 rfl rfl) (hr 1 _ u2 rfl rfl).dd
    refine ⟨_,S',cx,w',.tuple #[],rfl,?_,k2,k3,.tup [] [] rfl (by simp)⟩
    simp only [Go.builtin]
    rw [Ej (v:=u1) (u:=u2) ht rfl rfl]
    exact rQ k1
  ·
   cases h
 ·
  simp only [Option.map_eq_some_iff] at h
  obtain ⟨r,hm,rfl⟩:=h
  obtain ⟨v,rest,k,z,e1,e2,e3⟩:=vT (P:=C.P) (cx:=cx) (S:=S) (w:=w) (g:=Builtin.min2) (fun k a b=>by simp [Builtin.min2]) _ args r us rfl hm hl hr
  subst e1; subst e2
  refine ⟨_,_,cx,w,.int k z,rfl,?_,hS,hrefl,.of_int _ _⟩
  exact rQ (by simpa [Builtin.min_] using e3)
 ·
  simp only [Option.map_eq_some_iff] at h
  obtain ⟨r,hm,rfl⟩:=h
  obtain ⟨v,rest,k,z,e1,e2,e3⟩:=vT (P:=C.P) (cx:=cx) (S:=S) (w:=w) (g:=Builtin.max2) (fun k a b=>by simp [Builtin.max2]) _ args r us rfl hm hl hr
  subst e1; subst e2
  refine ⟨_,_,cx,w,.int k z,rfl,?_,hS,hrefl,.of_int _ _⟩
  exact rQ (by simpa [Builtin.max_] using e3)
 ·
  cases h
end
end
end Go.Ev

namespace Go.Ev
noncomputable section
set_option linter.unusedVariables false
set_option linter.unusedSimpArgs false
section
variable {R:bO} {C:eT} {cx:Cx} {S:St} {w:World} {σ:Operand→Value}
theorem fP (hRC:kG R C) (hS:bg R cx S w) {ρ:Operand→Option AV} (hρ:xO cx S w ρ σ) (o:Oper) {nx:uq} (h:oper C ρ S o.op=some nx):mU R C cx S w σ o nx:=by
 have hR:=hRC.toObjOk
 obtain ⟨dst,op,type,pos,after,guard⟩:=o
 simp only at h
 cases op <;> simp only [oper] at h <;> try (cases h; done)
 case move x =>
  simp only [Option.map_eq_some_iff] at h
  obtain ⟨v,hv,rfl⟩:=h
  exact mU.pure hS rfl (hρ _ _ hv)
 case assign x =>
  simp only [Option.map_eq_some_iff] at h
  obtain ⟨v,hv,rfl⟩:=h
  exact mU.pure hS rfl (hρ _ _ hv)
 case pick c a b =>
  split at h
  ·
   rename_i t hc
   simp only [Option.map_eq_some_iff] at h
   obtain ⟨v,hv,rfl⟩:=h
   have hb:=(hρ _ _ hc).bool
   refine mU.pure (u:=σ (if t then a else b)) hS ?_ (hρ _ _ hv)
   simp only [execOp,hb,asBool,Sem.run_bind,Sem.run_pure,Result.andThen_ok]
   cases t <;> rfl
  ·
   cases h
 case alloc t =>
  cases hhas:S.H.has S.nx with
  | true=>simp [hhas] at h
  | false =>
  simp only [hhas,cond_false] at h
  split at h
  ·
   rename_i kk xx hobj
   simp only [Option.some.injEq] at h
   subst h
   obtain ⟨zv,r1,r2,r3⟩:=hRC.new t kk xx hobj
   obtain ⟨cx',k1,k2,k3⟩:=vw hR hS kk xx (.cells zv.cells t) r3 (r2 w)
   refine ⟨cx',_,_,?_,k1,k2,k3⟩
   refine rQ ?_
   simp only [Instr.alloc,Sem.run_bind,r1,Result.andThen_ok,newVar,newRow,run_newObj,Sem.run_pure]
   rfl
  simp only [Option.map_eq_some_iff] at h
  obtain ⟨z,hz,rfl⟩:=h
  obtain ⟨zv,r1,r2⟩:=kQ hz w cx.fr
  have hp:=kI (cx:=cx) (S:=S) (.d z zv r2) rfl
  obtain ⟨cx',k1,k2,k3⟩:=BD hR hS (AV.d z).cells zv.cells.toList t hp.1 (fun i x v hx hv=>⟨hp.2.2 i x v hx hv,hp.2.1 v (List.mem_of_getElem? hv)⟩)
  refine ⟨cx',_,_,?_,k1,k2,k3⟩
  refine rQ ?_
  simp only [Instr.alloc,Sem.run_bind,r1,Result.andThen_ok,newVar,newRow,run_newObj,Sem.run_pure]
  rfl
 case box t x =>
  split at h
  ·
   rename_i v hv
   split at h
   ·
    rename_i hpl
    cases hhas:S.H.has S.nx with
    | true=>simp [hhas] at h
    | false =>
    simp only [hhas,cond_false,Option.some.injEq] at h
    subst h
    have hp:=kI (hρ _ _ hv) hpl
    obtain ⟨cx',k1,k2,k3⟩:=BD hR hS v.cells (σ x).cells.toList t hp.1 (fun i x v hx hv=>⟨hp.2.2 i x v hx hv,hp.2.1 v (List.mem_of_getElem? hv)⟩)
    refine ⟨cx',_,_,?_,k1,k2,k3⟩
    refine rQ ?_
    simp only [Instr.box,Sem.run_bind,Result.andThen_ok,newVar,newRow,run_newObj,Sem.run_pure]
    rfl
   ·
    cases h
  ·
   cases h
 case build t parts =>
  split at h
  ·
   rename_i z ps hz hps
   split at h
   ·
    rename_i pl hpl
    simp only [Option.map_eq_some_iff] at h
    obtain ⟨cs,hcs,rfl⟩:=h
    obtain ⟨u,b1,b2⟩:=Dn hρ hz hps hpl hcs
    exact mU.pure hS (rQ b1) b2
   ·
    cases h
  ·
   cases h
 case buildSlice t len parts =>
  cases hrw:nD C t len with
  | true =>
  rw [hrw] at h
  simp only [cond_true] at h
  split at h
  ·
   rename_i ps hps
   obtain ⟨v,S',rfl,cx',u,w',b1,b2,b3,b4⟩:=yK hR hS hρ hps h
   exact ⟨cx',w',u,rQ b1,b2,b3,b4⟩
  ·
   cases h
  | false =>
  rw [hrw] at h
  simp only [cond_false] at h
  split at h
  ·
   rename_i e ps he hps
   split at h
   ·
    rename_i hsm
    split at h
    ·
     rename_i z hz
     split at h
     ·
      rename_i cs hcs
      split at h
      ·
       rename_i ag hag
       simp only [Option.map_eq_some_iff] at h
       obtain ⟨xs,hxs,rfl⟩:=h
       obtain ⟨u,w',b1,b2,b3,b4⟩:=wO hR hS hρ he hps hsm hz hcs hag hxs
       exact ⟨cx,w',u,rQ b1,b2,b3,b4⟩
      ·
       cases h
     ·
      cases h
    ·
     cases h
   ·
    cases h
  ·
   cases h
 case load t a =>
  split at h
  ·
   rename_i v hv
   simp only [Option.map_eq_some_iff] at h
   obtain ⟨r,hr,rfl⟩:=h
   obtain ⟨u,b1,b2⟩:=zo (C:=C) hS hr (hρ _ _ hv)
   exact mU.pure hS (rQ b1) b2
  ·
   cases h
 case store t a x =>
  split at h
  ·
   rename_i p v hp hv
   simp only [Option.map_eq_some_iff] at h
   obtain ⟨S',hst,rfl⟩:=h
   obtain ⟨w',b1,b2,b3⟩:=DC hR hS hst (hρ _ _ hp) (hρ _ _ hv)
   exact ⟨cx,w',MS b1,b2,b3⟩
  ·
   cases h
 case nilCheck x =>
  split at h
  ·
   rename_i i g o' hx
   simp only [Option.some.injEq] at h; subst h
   have:=hρ _ _ hx
   refine mU.pure (u:=σ x) hS ?_ this
   generalize hq:σ x=v at this
   cases this
   simp [execOp,hq]
  ·
   rename_i y o' hx
   simp only [Option.some.injEq] at h; subst h
   have:=hρ _ _ hx
   refine mU.pure (u:=σ x) hS ?_ this
   generalize hq:σ x=v at this
   cases this
   simp [execOp,hq]
  ·
   rename_i g cs hx
   simp only [Option.some.injEq] at h; subst h
   have:=hρ _ _ hx
   refine mU.pure (u:=σ x) hS ?_ this
   generalize hq:σ x=v at this
   cases this
   simp [execOp,hq]
  ·
   cases h
 case binOp op t x y yt =>
  split at h
  ·
   rename_i a b ha hb
   simp only [Option.map_eq_some_iff] at h
   obtain ⟨r,hr,rfl⟩:=h
   obtain ⟨u,b1,b2⟩:=EZ hr (hρ _ _ ha) (hρ _ _ hb) x y
   exact mU.pure hS (rQ b1) b2
  ·
   cases h
 case unOp op t x =>
  split at h
  ·
   rename_i b hx
   simp only [Option.some.injEq] at h; subst h
   have:=(hρ _ _ hx).bool
   refine mU.pure (u:=.bool (!b)) hS ?_ (.of_bool _)
   simp [execOp,this,Op.unary]
  ·
   rename_i k n hx
   simp only [Option.some.injEq] at h; subst h
   have:=(hρ _ _ hx).int
   refine mU.pure (u:=.int k (k.wrap (0 - n))) hS ?_ (.of_int _ _)
   simp [execOp,this,Op.unary,Op.intArith]
  ·
   cases h
 case convert src dst' x =>
  split at h
  ·
   rename_i v hv
   simp only [Option.map_eq_some_iff] at h
   obtain ⟨r,hr,rfl⟩:=h
   obtain ⟨u,b1,b2⟩:=Fh hr (hρ _ _ hv)
   exact mU.pure hS (rQ b1) b2
  ·
   cases h
 case makeFunc fn first caps =>
  split at h
  ·
   rename_i g hf
   simp only [Option.map_eq_some_iff] at h
   obtain ⟨cs,hcs,rfl⟩:=h
   obtain ⟨h1,h2⟩:=uE hρ hcs
   have hf0:first = #[]:=Array.toList_eq_nil_iff.1 hf
   subst hf0
   refine mU.pure (u:=.func (.func g) #[] (caps.map σ)) hS (by simp [execOp,Instr.makeFunc]) ?_
   exact aO.fn (cx:=cx) (S:=S) (w:=w) g cs (caps.map σ).toList h1 h2
  ·
   cases h
 case slice t x lo hi mx =>
  split at h
  ·
   rename_i v hv
   split at h
   ·
    rename_i l hh m hl hhi hm
    simp only [Option.map_eq_some_iff] at h
    obtain ⟨r,hr,rfl⟩:=h
    obtain ⟨u,b1,b2⟩:=Dw hr (hρ _ _ hv) (uL hρ hl) (uL hρ hhi) (uL hρ hm)
    exact mU.pure hS (rQ b1) b2
   ·
    cases h
  ·
   cases h
 case fieldAddr s x fld =>
  split at h
  ·
   rename_i id g off fo ft hx hf
   split at h
   ·
    cases h
   ·
    rename_i hz
    simp only [Option.some.injEq] at h; subst h
    obtain ⟨u,b1,b2⟩:=(rH (C:=C) hf hz (hρ _ _ hx)).1 _ _ _ rfl
    exact mU.pure hS (rQ b1) b2
  ·
   rename_i y off fo ft hx hf
   split at h
   ·
    cases h
   ·
    rename_i hz
    simp only [Option.some.injEq] at h; subst h
    obtain ⟨u,b1,b2⟩:=(rH (C:=C) hf hz (hρ _ _ hx)).2 _ _ rfl
    exact mU.pure hS (rQ b1) b2
  ·
   cases h
 case field t x fld =>
  split at h
  ·
   rename_i cs fo ft hx hf
   simp only [Option.map_eq_some_iff] at h
   obtain ⟨r,hr,rfl⟩:=h
   obtain ⟨u,b1,b2⟩:=(xy (C:=C) (r:=.d r) hf).2 cs r (hρ _ _ hx) hr
   exact mU.pure hS (rQ b1) b2
  ·
   rename_i cs fo ft hx hf
   simp only [Option.map_eq_some_iff] at h
   obtain ⟨r,hr,rfl⟩:=h
   obtain ⟨u,b1,b2⟩:=(xy (C:=C) (r:=r) hf).1 cs (hρ _ _ hx) hr
   exact mU.pure hS (rQ b1) b2
  ·
   cases h
 case indexAddr t x i =>
  split at h
  ·
   rename_i v n hv hn
   simp only [Option.map_eq_some_iff] at h
   obtain ⟨r,hr,rfl⟩:=h
   obtain ⟨u,b1,b2⟩:=xV hr (hρ _ _ hv) (hρ _ _ hn)
   exact mU.pure hS (rQ b1) b2
  ·
   cases h
 case index t x i =>
  split at h
  ·
   rename_i s k n hx hi
   split at h
   ·
    rename_i hc
    simp only [Bool.and_eq_true,decide_eq_true_eq] at hc
    simp only [Option.map_eq_some_iff] at h
    obtain ⟨c,hcc,rfl⟩:=h
    have hi':=(hρ _ _ hi).int
    have:=EC (P:=C.P) (k:=k) (hρ _ _ hx) hc.1 hc.2 hcc
    refine mU.pure hS (rQ ?_) (.of_int _ _)
    rw [hi']; exact this
   ·
    cases h
  ·
   cases h
 case makeMap t r =>
  split at h
  ·
   rename_i kt hkt hr
   cases hhas:S.H.has S.nx with
   | true=>simp [hhas] at h
   | false =>
   simp only [hhas,cond_false,Option.some.injEq] at h; subst h
   obtain ⟨cx',k1,k2,k3⟩:=CR hR hS
   refine ⟨cx',_,_,rQ (u:=.map (some w.heap.size)) (w':=w.alloc (.map #[] 0)) ?_,k1,k2,k3⟩
   have hu:=mh hkt
   cases r with
   | none=>rfl
   | some o' =>
    simp only at hr
    split at hr
    ·
     rename_i k n hq
     have hi:=(hρ _ _ hq).int
     simp only [Option.map_some,Instr.makeMap,Sem.run_bind,aX w hu,Result.andThen_ok,hi,asInt,asIntOf,Sem.run_pure]
     rfl
    ·
     cases hr
  ·
   cases h
 case makeSlice t l c =>
  split at h
  ·
   rename_i lv cv hl hc
   simp only [Option.map_eq_some_iff] at h
   obtain ⟨r,hr,rfl⟩:=h
   obtain ⟨cx',w',u,b1,b2,b3,b4⟩:=FC hR hS hr (hρ _ _ hl).dd (hρ _ _ hc).dd
   exact ⟨cx',w',u,rQ b1,b2,b3,b4⟩
  ·
   cases h
 case range t x =>
  split at h
  ·
   rename_i kt id ht hx
   split at h
   ·
    rename_i M hg
    cases hhas:S.H.has S.nx with
    | true=>simp [hhas] at h
    | false =>
    simp only [hhas,cond_false,Option.some.injEq] at h; subst h
    obtain ⟨cx',w',u,b1,b2,b3,b4⟩:=Et hR hS ht hg (hρ _ _ hx)
    exact ⟨cx',w',u,rQ b1,b2,b3,b4⟩
   ·
    cases h
  ·
   rename_i kt ht hx
   cases hhas:S.H.has S.nx with
   | true=>simp [hhas] at h
   | false =>
   simp only [hhas,cond_false,Option.some.injEq] at h; subst h
   obtain ⟨cx',w',u,b1,b2,b3,b4⟩:=xW hR hS ht (hρ _ _ hx)
   exact ⟨cx',w',u,rQ b1,b2,b3,b4⟩
  ·
   cases h
 case entry t =>
  split at h
  ·
   rename_i k g id since seen st hx
   split at h
   ·
    rename_i M n c hg hl hk
    split at h
    ·
     rename_i hc
     split at h
     ·
      rename_i i hf
      simp only [Option.map_eq_some_iff] at h
      obtain ⟨p,hp,rfl⟩:=h
      obtain ⟨hc1,hc2⟩:=hc
      subst hc2
      obtain ⟨u,b1,b2⟩:=BR (C:=C) hS (hρ _ _ hx) hg hl hk hc1 hf hp
      exact mU.pure hS (rQ b1) b2
     ·
      cases h
    ·
     cases h
   ·
    cases h
  ·
   cases h
 case lookup t m k ok =>
  split at h
  ·
   rename_i mv kd hm hk
   simp only [Option.map_eq_some_iff] at h
   obtain ⟨v,hv,rfl⟩:=h
   obtain ⟨u,b1,b2⟩:=Cv hS hv (hρ _ _ hm) (hρ _ _ hk).dd
   exact mU.pure hS (rQ b1) b2
  ·
   cases h
 case mapUpdate t m k x =>
  split at h
  ·
   rename_i mv kd v hm hk hx
   simp only [Option.map_eq_some_iff] at h
   obtain ⟨S',hv,rfl⟩:=h
   obtain ⟨w',b1,b2,b3⟩:=vD hR hS hv (hρ _ _ hm) (hρ _ _ hk).dd (hρ _ _ hx)
   exact ⟨cx,w',MS b1,b2,b3⟩
  ·
   cases h
 case insert t m k x =>
  split at h
  ·
   rename_i mv kd v hm hk hx
   simp only [Option.map_eq_some_iff] at h
   obtain ⟨S',hv,rfl⟩:=h
   obtain ⟨w',b1,b2,b3⟩:=vD hR hS hv (hρ _ _ hm) (hρ _ _ hk).dd (hρ _ _ hx)
   exact ⟨cx,w',MS b1,b2,b3⟩
  ·
   cases h
 case mapEntry t m k =>
  split at h
  ·
   rename_i mv kd hm hk
   simp only [Option.map_eq_some_iff] at h
   obtain ⟨r,hv,rfl⟩:=h
   obtain ⟨w',u,b1,b2,b3,b4⟩:=Dt hR hS hv (hρ _ _ hm) (hρ _ _ hk).dd
   exact ⟨cx,w',u,rQ b1,b2,b3,b4⟩
  ·
   cases h
 case entryStore t m st x =>
  split at h
  ·
   rename_i mv sd v hm hk hx
   simp only [Option.map_eq_some_iff] at h
   obtain ⟨S',hv,rfl⟩:=h
   obtain ⟨w',b1,b2,b3⟩:=wN hR (C:=C) (t:=t) hS hv (hρ _ _ hm) (hρ _ _ hk).dd (hρ _ _ hx)
   exact ⟨cx,w',MS b1,b2,b3⟩
  ·
   cases h
 case extract t i =>
  split at h
  ·
   rename_i vs ht
   simp only [Option.map_eq_some_iff] at h
   obtain ⟨v,hv,rfl⟩:=h
   have hr:=hρ _ _ ht
   generalize hq:σ t=u at hr
   cases hr with
   | tup _ us hl hr =>
    have hlt:i < us.length:=by rw [hl]; exact (List.getElem?_eq_some_iff.1 hv).1
    have hu:=List.getElem?_eq_getElem hlt
    refine mU.pure hS (rQ (u:=us[i]) ?_) (hr i v _ hv hu)
    simp [Instr.extract,hq,hlt]
  ·
   cases h
 case call c =>
  obtain ⟨callee,cargs,argTypes⟩:=c
  simp only at h
  cases callee <;> simp only at h <;> try (cases h; done)
  case value g =>
   split at h
   ·
    rename_i k caps args hg ha
    simp only [Option.some.injEq] at h; subst h
    obtain ⟨h1,h2⟩:=uE hρ ha
    have hgr:=hρ _ _ hg
    generalize hq:σ g=gv at hgr
    cases hgr with
    | fn _ _ cv hl hr =>
     refine ⟨(cargs.map σ).toList ++ cv,by rw [List.length_append,List.length_append,h1,hl],fun i x v hx hv=>?_,fun fn hf hb hn=>?_⟩
     ·
      rw [List.getElem?_append] at hx hv
      by_cases hi:i < args.length
      ·
       rw [if_pos hi] at hx; rw [if_pos (by rw [h1]; exact hi)] at hv; exact h2 i x v hx hv
      ·
       rw [if_neg hi] at hx; rw [if_neg (by rw [h1]; exact hi),h1] at hv; exact hr _ x v hx hv
     ·
      have hb':fn.body.isNone=false:=by cases hq:fn.body <;> simp_all
      have hn':(fn.name == "runtime.NumGoroutine")=false:=by simpa using hn
      simp only [execOp,resolve,hq,Deferred.ofValue,Sem.run_bind,Sem.run_pure,Result.andThen_ok,invoke,callFunc,run_program,hf,hn',hb',Bool.false_eq_true,if_false]
      congr 2
      apply Array.ext'
      simp
   ·
    cases h
  case builtin b =>
   split at h
   ·
    rename_i args ha
    obtain ⟨h1,h2⟩:=uE hρ ha
    obtain ⟨v,S',cx',w',u,rfl,b1,b2,b3,b4⟩:=AP (R:=R) (C:=C) (ty:=type) (cs:=cargs.map fun | .const _=>true | _=>false) hR hS h h1 h2
    refine ⟨cx',w',u,?_,b2,b3,b4⟩
    simp only [execOp,resolve,Sem.run_bind,Sem.run_pure,Result.andThen_ok,invoke]
    have hq:(cargs.map σ).toList.toArray=cargs.map σ:=rfl
    rw [hq] at b1
    exact b1
   ·
    cases h
end
end
end Go.Ev

namespace Go.Ev
noncomputable section
set_option linter.unusedVariables false
set_option linter.unusedSimpArgs false
structure iG (cx:Cx) (S:St) (w:World) (nt:Nat) (e:Env) (a:Act):Prop where
 size:nt ≤ a.tmps.size
 rel:∀ t x,AL.get e t=some x→∃ v,a.tmps[t]? = some v∧aO cx S w x v
theorem iG.mono {cx cx':Cx} {S S':St} {w w':World} {nt:Nat} {e:Env} {a:Act} (h:iG cx S w nt e a) (x:Ext cx S w cx' S' w'):iG cx' S' w' nt e a :=
 ⟨h.size,fun t y hy=>let ⟨v,h1,h2⟩:=h.rel t y hy; ⟨v,h1,h2.mono x⟩⟩
theorem iG.put {cx:Cx} {S:St} {w:World} {nt:Nat} {e e':Env} {a:Act} {dst:Option Nat} {x:AV} {v:Value} (h:iG cx S w nt e a) (hp:Env.put nt e dst x=some e') (hx:aO cx S w x v):iG cx S w nt e' (a.put dst v):=by
 unfold Env.put at hp
 split at hp
 ·
  rename_i t
  cases hb:Nat.blt t nt with
  | false=>rw [hb] at hp; cases hp
  | true =>
   rw [hb] at hp
   simp at hp; subst hp
   have hlt:t < nt:=Nat.le_of_ble_eq_true hb
   refine ⟨by simp [Act.put,h.size],fun u y hy=>?_⟩
   rw [AL.gm] at hy
   by_cases hu:t=u
   ·
    subst hu
    rw [if_pos rfl] at hy
    cases hy
    refine ⟨v,?_,hx⟩
    have:=h.size
    simp [Act.put,show t < a.tmps.size by omega]
   ·
    rw [if_neg hu] at hy
    obtain ⟨z,h1,h2⟩:=h.rel u y hy
    exact ⟨z,by simpa [Act.put,Array.getElem?_setIfInBounds_ne hu] using h1,h2⟩
 ·
  simp at hp; subst hp; exact h
theorem iG.eval {cx:Cx} {S:St} {w:World} {nt:Nat} {e:Env} {a:Act} (h:iG cx S w nt e a):xO cx S w (bB e) a.eval:=by
 intro x y hy
 cases x <;> simp only [bB] at hy
 case tmp t =>
  obtain ⟨v,h1,h2⟩:=h.rel t y hy
  simpa [Act.eval,h1] using h2
 case const v =>
  simp only [Option.map_eq_some_iff] at hy
  obtain ⟨z,hz,rfl⟩:=hy
  exact .d _ _ (pO hz w cx.fr)
 case global g=>cases hy
 case func f =>
  simp at hy; subst hy
  exact aO.fn (cx:=cx) (S:=S) (w:=w) f [] [] rfl (by simp)
theorem eU {cx:Cx} {S:St} {w:World} {nt:Nat} {e:Env} {a:Act} {ops:Array Oper} {o:Oper} {b:Bool} (h:iG cx S w nt e a) (hw:bC ops e o=some b):Region.wanted o (yielded ops a.tmps)=b:=by
 unfold bC at hw
 unfold Region.wanted
 split at hw
 ·
  rename_i hg; simp at hw; subst hw; simp [hg]
 ·
  rename_i j want hg
  split at hw
  ·
   rename_i oj hj
   split at hw
   ·
    rename_i t ht
    split at hw
    ·
     rename_i c hc
     simp at hw; subst hw
     obtain ⟨v,h1,h2⟩:=h.rel t _ hc
     have:=h2.bool; subst this
     simp only [hg,yielded,hj,Option.bind_some,ht,h1]
     cases c <;> cases want <;> rfl
    ·
     rename_i hc
     simp at hw; subst hw
     obtain ⟨v,h1,h2⟩:=h.rel t _ hc
     cases h2 with
     | tup _ vs hl _ =>
      have:vs=[]:=List.eq_nil_of_length_eq_zero hl
      subst this
      simp only [hg,yielded,hj,Option.bind_some,ht,h1]
      cases want <;> rfl
    ·
     cases hw
   ·
    cases hw
  ·
   cases hw
def A8 (cx:Cx) (S:St) (w:World) (p:Option AV) (v:AV) (e:Ending):Prop :=
 match p with
 | none=>∃ u,e=.returned u∧aO cx S w v u
 | some pv=>∃ u,e=.panicked [{ v:=u,recovered:=false }]∧aO cx S w pv u
def Ce (R:bO) (P:Program) (h:Hand):Prop :=
 ∀ f args S p v S',h f args S=some (p,v,S')→(∃ fn,P.funcs[f]? = some fn∧fn.body.isSome=true∧fn.name ≠ "runtime.NumGoroutine") ∧
  ∀ cx w (us:List Value),bg R cx S w→us.length=args.length→(∀ (i:Nat) (x:AV) (u:Value),args[i]? = some x→us[i]? = some u→aO cx S w x u) →
  Calls P f us.toArray w (fun e w'=>∃ cx',bg R cx' S' w'∧Ext cx S w cx' S' w' ∧
   A8 cx' S' w' p v e)
def After (R:bO) (cx:Cx) (S:St) (w:World) (nt:Nat) (a:Act) (K:Act→World→Prop) (Q:Exit→Act→World→Prop):Stp→Prop
 | .go e' S'=>∀ cx' a' w',bg R cx' S' w'→Ext cx S w cx' S' w'→iG cx' S' w' nt e' a'→a'.defers=a.defers→K a' w'
 | .stop v S'=>∀ cx' w' u,bg R cx' S' w'→Ext cx S w cx' S' w'→aO cx' S' w' v u→Q (.panic [{ v:=u,recovered:=false }]) a w'
theorem put_defers (a:Act) (d:Option Nat) (v:Value):(a.put d v).defers=a.defers:=by cases d <;> rfl
theorem qP {R:bO} {C:eT} (hR:kG R C) {h:Hand} (hh:Ce R C.P h) {cx:Cx} {S:St} {w:World} {nt:Nat} {e:Env} {a:Act} {ops:Array Oper} {o:Oper} {r:Stp}
  (hs:fG C h nt ops o e S=some r) (hS:bg R cx S w) (he:iG cx S w nt e a) {K:Act→World→Prop} {Q:Exit→Act→World→Prop} (hk:After R cx S w nt a K Q r) {i:Nat} (hi:ops[i]? = some o) :
  wpOp C.P ops Q i K a w:=by
 unfold wpOp
 rw [hi]
 simp only
 unfold fG at hs
 have hrefl:=Ext.refl (cx:=cx) w hS.wf
 split at hs
 ·
  rename_i hw
  rw [if_pos (eU he hw)]
  left
  split at hs
  ·
   rename_i v S' hop
   obtain ⟨cx',w',u,h1,h2,h3,h4⟩:=fP hR hS he.eval o hop
   split at hs
   ·
    rename_i e' hp
    simp only [Option.some.injEq] at hs; subst hs
    unfold Oper.wp
    rw [h1]
    exact hk cx' _ w' h2 h3 ((he.mono h3).put hp h4) (put_defers _ _ _)
   ·
    cases hs
  ·
   rename_i S' hop
   obtain ⟨cx',w',h1,h2,h3⟩:=fP hR hS he.eval o hop
   split at hs
   ·
    rename_i hd
    simp only [Option.some.injEq] at hs; subst hs
    unfold Oper.wp
    rw [h1]
    show K (a.put o.dst undef) w'
    rw [hd]
    exact hk cx' _ w' h2 h3 (he.mono h3) rfl
   ·
    cases hs
  ·
   rename_i f args hop
   obtain ⟨us,h1,h2,h3⟩:=fP hR hS he.eval o hop
   split at hs
   ·
    rename_i v S' hc
    obtain ⟨⟨fn,f1,f2,f3⟩,hcalls⟩:=hh f args S _ v S' hc
    split at hs
    ·
     rename_i e' hp
     simp only [Option.some.injEq] at hs; subst hs
     unfold Oper.wp
     rw [h3 fn f1 f2 f3]
     refine (hcalls cx w us hS h1 h2).mono (fun en w' hen=>?_)
     obtain ⟨cx',k1,k2,u,rfl,k3⟩:=hen
     exact hk cx' _ w' k1 k2 ((he.mono k2).put hp k3) (put_defers _ _ _)
    ·
     cases hs
   ·
    rename_i p v S' hc
    obtain ⟨⟨fn,f1,f2,f3⟩,hcalls⟩:=hh f args S _ v S' hc
    simp only [Option.some.injEq] at hs; subst hs
    unfold Oper.wp
    rw [h3 fn f1 f2 f3]
    refine (hcalls cx w us hS h1 h2).mono (fun en w' hen=>?_)
    obtain ⟨cx',k1,k2,u,rfl,k3⟩:=hen
    exact hk cx' w' u k1 k2 k3
   ·
    cases hs
  ·
   cases hs
  ·
   cases hs
 ·
  rename_i hw
  rw [if_neg (by rw [eU he hw]; simp)]
  split at hs
  ·
   rename_i hd
   simp only [Option.some.injEq] at hs; subst hs
   rw [hd]
   exact hk cx _ w hS hrefl he rfl
  ·
   rename_i t hd
   split at hs
   ·
    rename_i e1 hput
    simp only [Option.some.injEq] at hs; subst hs
    rw [hd]
    exact hk cx _ w hS hrefl (he.put hput (.tup [] [] rfl (fun i x v hx=>by simp at hx))) (put_defers _ _ _)
   ·
    cases hs
 ·
  cases hs
end
end Go.Ev

namespace Go.Ev
noncomputable section
set_option linter.unusedVariables false
set_option linter.unusedSimpArgs false
def isVal (S:St) (S':St) (a b:Option uq):Prop:=∀ nx,a=some nx→∃ v,nx=.val v S∧b=some (.val v S')
theorem AL.mg {α:Type}:∀ {l:AL α} {n:Nat},AL.has l n=false→AL.get l n=none
 | [],_,_=>rfl
 | (k,v) :: l,n,h=>by
  simp only [AL.has] at h
  cases hb:Nat.beq k n with
  | true=>rw [hb] at h; cases h
  | false =>
   rw [hb] at h
   rw [AL.FY,hb,cond_false]
   exact AL.mg h
theorem EP {C:eT} {t len:Nat} {ps:Array (Nat × Operand)} (h0:¬ cls C (.buildSlice t len ps)=0) (hc:cls C (.buildSlice t len ps) ≤ 1):False:=by
 unfold cls at h0 hc
 cases h:nD C t len <;> simp [h] at h0 hc
theorem vK {C:eT} {t len:Nat} {S:St} {ps:List (Nat × AV)} {nx:uq} (h:l8 C t S len ps=some nx):S.H.get S.nx=none∧∃ v b,nx=.val v (bH S b):=by
 unfold l8 at h
 split at h
 ·
  split at h
  ·
   split at h
   ·
    cases hh:S.H.has S.nx with
    | true=>simp [hh] at h
    | false =>
     simp only [hh,cond_false,Option.map_eq_some_iff] at h
     obtain ⟨z,_,rfl⟩:=h
     exact ⟨AL.mg hh,_,_,rfl⟩
   ·
    cases h
  ·
   cases h
 ·
  cases h
theorem FE {C:eT} {ρ:Operand→Option AV} {op:Op} (hc:cls C op=0) (S S':St):isVal S S' (oper C ρ S op) (oper C ρ S' op):=by
 intro nx h
 cases op
 case buildSlice t len ps =>
  have hr:nD C t len=false:=by unfold cls at hc; cases hq:nD C t len <;> simp [hq] at hc ⊢
  simp only [oper,hr,cond_false] at h ⊢
  (repeat' split at h) <;> first
   | (cases h; done)
   | (simp only [Option.map_eq_some_iff] at h; obtain ⟨a,ha,rfl⟩:=h; exact ⟨_,rfl,by simp_all⟩)
 all_goals simp only [cls] at hc
 all_goals try (cases hc; done)
 case call c =>
  obtain ⟨callee,args,ats⟩:=c
  cases callee <;> try (exact absurd (show (2:Nat)=0 from hc) (by omega))
  rename_i b
  cases b <;> try (first | exact absurd (show (2:Nat)=0 from hc) (by omega) | exact absurd (show (1:Nat)=0 from hc) (by omega))
  all_goals
   simp only [oper] at h ⊢
   split at h
   ·
    simp only [dK,Option.map_eq_some_iff] at h ⊢
    obtain ⟨a,ha,rfl⟩:=h
    exact ⟨_,rfl,by simp_all⟩
   ·
    cases h
 all_goals
  simp only [oper] at h ⊢
  (repeat' split at h) <;> first
   | (cases h; done)
   | (simp only [Option.some.injEq] at h; subst h; exact ⟨_,rfl,by simp_all⟩)
   | (simp only [Option.map_eq_some_iff] at h; obtain ⟨a,ha,rfl⟩:=h; exact ⟨_,rfl,by simp_all⟩)
theorem Cj {C:eT} {ρ:Operand→Option AV} {op:Op} (hc:cls C op ≤ 1) (S:St) {nx:uq} (h:oper C ρ S op=some nx):∃ v,nx=.val v S:=by
 by_cases h0:cls C op=0
 ·
  obtain ⟨v,h1,_⟩:=FE h0 S S nx h; exact ⟨v,h1⟩
 ·
  cases op <;> try (first | exact absurd rfl h0 | exact absurd (show (2:Nat) ≤ 1 from hc) (by omega) | exact (EP h0 hc).elim)
  case load t a =>
   simp only [oper] at h
   split at h
   ·
    simp only [Option.map_eq_some_iff] at h
    obtain ⟨r,hr,rfl⟩:=h
    exact ⟨r,rfl⟩
   ·
    cases h
  case lookup t m k ok =>
   simp only [oper] at h
   split at h
   ·
    simp only [Option.map_eq_some_iff] at h
    obtain ⟨r,hr,rfl⟩:=h
    exact ⟨r,rfl⟩
   ·
    cases h
  case call c =>
   obtain ⟨callee,args,ats⟩:=c
   cases callee <;> try (exact absurd (show (2:Nat) ≤ 1 from hc) (by omega))
   rename_i b
   cases b <;> try (first | exact absurd rfl h0 | exact absurd (show (2:Nat) ≤ 1 from hc) (by omega))
   simp only [oper] at h
   split at h
   ·
    simp only [dK] at h
    (repeat' split at h) <;> first
     | (cases h; done)
     | (simp only [Option.map_eq_some_iff] at h; obtain ⟨a,ha,rfl⟩:=h; exact ⟨_,rfl⟩)
     | contradiction
   ·
    cases h
theorem mr {α β:Type} {f g:α→Option β}:∀ {l:List α},(∀ x ∈ l,f x=g x)→fV f l=fV g l
 | [],_=>rfl
 | x :: l,h=>by
  simp only [fV]
  rw [h x (by simp),mr (fun y hy=>h y (by simp [hy]))]
theorem uJ {C:eT} {ρ ρ':Operand→Option AV} (S:St) (op:Op) (h:∀ x ∈ op.operands,ρ x=ρ' x):oper C ρ S op=oper C ρ' S op:=by
 cases op <;> simp only [Op.operands] at h <;> simp only [oper]
 case build t ps =>
  have:mZ ρ ps=mZ ρ' ps:=mr fun p hp=>by rw [h p.2 (by simp; exact ⟨p.1,by simpa using hp⟩)]
  rw [this]
 case buildSlice t n ps =>
  have:mZ ρ ps=mZ ρ' ps:=mr fun p hp=>by rw [h p.2 (by simp; exact ⟨p.1,by simpa using hp⟩)]
  rw [this]
 case makeFunc fn first caps =>
  have:fV ρ caps.toList=fV ρ' caps.toList:=mr fun p hp=>h p (by simp; exact .inr (by simpa using hp))
  rw [this]
 case call c =>
  have ha:fV ρ c.args.toList=fV ρ' c.args.toList:=mr fun p hp=>h p (by simp only [Call.operands]; exact Array.mem_append.2 (.inr (by simpa using hp)))
  rw [ha]
  cases hc:c.callee with
  | value f=>have:ρ f=ρ' f:=h f (by simp [Call.operands,hc]); simp only [this]
  | invoke r m=>rfl
  | builtin b=>rfl
 case makeMap t r =>
  cases r with
  | none=>rfl
  | some o=>have he:ρ o=ρ' o:=h o (by simp); simp only [he]
 case slice t x lo hi mx =>
  have hx:ρ x=ρ' x:=h x (by simp)
  have hl:pK ρ lo=pK ρ' lo:=by cases lo <;> simp only [pK]; rw [h _ (by simp)]
  have hh:pK ρ hi=pK ρ' hi:=by cases hi <;> simp only [pK]; rw [h _ (by simp)]
  have hm:pK ρ mx=pK ρ' mx:=by cases mx <;> simp only [pK]; rw [h _ (by simp)]
  rw [hx,hl,hh,hm]
 case pick c a b =>
  rw [h c (by simp)]
  cases ρ' c with
  | none=>rfl
  | some v =>
   cases v <;> try rfl
   rename_i x
   cases x <;> try rfl
   rename_i t
   cases t
   ·
    simp only [Bool.false_eq_true,if_false]; rw [h b (by simp)]
   ·
    simp only [if_true]; rw [h a (by simp)]
 all_goals (first | rfl | (simp only [h _ (by simp:_ ∈ _)]; done) | (simp_all; done))
def Ky (e e':Env):Prop:=∀ t,AL.get e t=AL.get e' t
def u7 (e:Env) (dst:Option Nat) (x:Option AV) (e':Env):Prop:=∀ t,AL.get e' t=if dst=some t then x else AL.get e t
theorem u7.put {nt:Nat} {e e':Env} {dst:Option Nat} {v:AV} (h:Env.put nt e dst v=some e'):u7 e dst (some v) e':=by
 unfold Env.put at h
 split at h
 ·
  rename_i t
  cases hb:Nat.blt t nt with
  | false=>rw [hb] at h; cases h
  | true =>
   rw [hb] at h; simp at h; subst h
   intro u; rw [AL.gm]
   by_cases hu:t=u <;> simp [hu]
 ·
  simp at h; subst h; intro u; simp
theorem tQ {nt:Nat} {e e':Env} {dst:Option Nat} {v:AV} (h:Env.put nt e dst v=some e') (e2:Env):∃ e2',Env.put nt e2 dst v=some e2':=by
 unfold Env.put at h ⊢
 split at h
 ·
  rename_i t
  cases hb:Nat.blt t nt with
  | false=>rw [hb] at h; cases h
  | true=>exact ⟨_,rfl⟩
 ·
  exact ⟨_,rfl⟩
theorem u7.none (e:Env) (x:Option AV):u7 e none x e:=by intro u; simp
theorem pG {e e2:Env} {ops:Array Oper} {o:Oper} (h:∀ t ∈ o.looksAt ops,AL.get e2 t=AL.get e t):∀ x ∈ o.op.operands,bB e x=bB e2 x:=by
 intro x hx
 cases x <;> try rfl
 rename_i t
 simp only [bB]
 exact (h t (List.mem_append_left _ (List.mem_filterMap.2 ⟨.tmp t,by simpa using hx,rfl⟩))).symm
theorem nJ {e e2:Env} {ops:Array Oper} {o:Oper} (h:∀ t ∈ o.looksAt ops,AL.get e2 t=AL.get e t):bC ops e2 o=bC ops e o:=by
 unfold bC
 cases hg:o.guard with
 | none=>rfl
 | some p =>
  obtain ⟨j,want⟩:=p
  simp only
  cases hj:ops[j]? with
  | none=>rfl
  | some oj =>
   simp only
   cases ht:oj.dst with
   | none=>rfl
   | some t =>
    simp only
    rw [h t (by unfold Oper.looksAt; rw [hg]; simp [hj,ht])]
theorem jR {C:eT} {h:Hand} {nt:Nat} {ops:Array Oper} {o:Oper} {e e' e2:Env} {S S':St} (hs:fG C h nt ops o e S=some (.go e' S')) (ha:∀ t ∈ o.looksAt ops,AL.get e2 t=AL.get e t) :
  ∃ x e2',fG C h nt ops o e2 S=some (.go e2' S')∧u7 e o.dst x e'∧u7 e2 o.dst x e2':=by
 have hop:oper C (bB e2) S o.op=oper C (bB e) S o.op:=uJ S o.op (fun x hx=>(pG ha x hx).symm)
 unfold fG at hs ⊢
 rw [nJ ha,hop]
 split at hs
 ·
  split at hs
  ·
   rename_i v S1 ho
   split at hs
   ·
    rename_i e1 hp
    simp only [Option.some.injEq,Stp.go.injEq] at hs
    obtain ⟨rfl,rfl⟩:=hs
    obtain ⟨e2',h2⟩:=tQ hp e2
    exact ⟨some v,e2',by simp [h2],u7.put hp,u7.put h2⟩
   ·
    cases hs
  ·
   rename_i S1 ho
   split at hs
   ·
    rename_i hd
    simp only [Option.some.injEq,Stp.go.injEq] at hs
    obtain ⟨rfl,rfl⟩:=hs
    refine ⟨.none,e2,by simp,?_,?_⟩ <;> (rw [hd]; exact u7.none _ _)
   ·
    cases hs
  ·
   rename_i f args ho
   split at hs
   ·
    rename_i v S1 hc
    split at hs
    ·
     rename_i e1 hp
     simp only [Option.some.injEq,Stp.go.injEq] at hs
     obtain ⟨rfl,rfl⟩:=hs
     obtain ⟨e2',h2⟩:=tQ hp e2
     exact ⟨some v,e2',by simp [h2],u7.put hp,u7.put h2⟩
    ·
     cases hs
   ·
    cases hs
   ·
    cases hs
  ·
   cases hs
  ·
   cases hs
 ·
  split at hs
  ·
   rename_i hd
   simp only [Option.some.injEq,Stp.go.injEq] at hs
   obtain ⟨rfl,rfl⟩:=hs
   refine ⟨.none,e2,by simp,?_,?_⟩ <;> (rw [hd]; exact u7.none _ _)
  ·
   rename_i t hd
   split at hs
   ·
    rename_i e1 hput
    simp only [Option.some.injEq,Stp.go.injEq] at hs
    obtain ⟨rfl,rfl⟩:=hs
    obtain ⟨e2',h2⟩:=tQ hput e2
    refine ⟨some (.tup []),e2',by simp [h2],?_,?_⟩
    ·
     rw [hd]; exact u7.put hput
    ·
     rw [hd]; exact u7.put h2
   ·
    cases hs
 ·
  cases hs
def CP (h:Hand):Prop:=∀ f args S v S',h f args S=some (none,v,S')→(lG args).isSome=true→(yQ v).isSome=true→∀ S2,h f args S2=some (none,v,S2)
def Z0 (C:eT) (h:Hand) (nt:Nat) (ops:Array Oper) (o:Oper) (e:Env):Prop :=
 ∃ x:Option AV,∀ e2:Env,(∀ t ∈ o.looksAt ops,AL.get e2 t=AL.get e t)→∀ S2,∃ e2',fG C h nt ops o e2 S2=some (.go e2' S2)∧u7 e2 o.dst x e2'
theorem Z0.agree {C:eT} {h:Hand} {nt:Nat} {ops:Array Oper} {o:Oper} {e f:Env} (z:Z0 C h nt ops o e) (ha:∀ t ∈ o.looksAt ops,AL.get f t=AL.get e t):Z0 C h nt ops o f:=by
 obtain ⟨x,hx⟩:=z
 exact ⟨x,fun e2 h2=>hx e2 (fun t ht=>(h2 t ht).trans (ha t ht))⟩
theorem DD {C:eT} {b:Builtin} {A:Array Nat} {S:St} {args:List AV} {nx:uq} (h:dK C b A S args=some nx):∃ v S',nx=.val v S':=by
 have hm:∀ {α:Type} {o:Option α} {g:α→AV} {k:α→St},o.map (fun r=>uq.val (g r) (k r))=some nx→∃ v S',nx=.val v S':=by
  intro α o g k hq
  simp only [Option.map_eq_some_iff] at hq
  obtain ⟨r,_,rfl⟩:=hq
  exact ⟨_,_,rfl⟩
 unfold dK at h
 split at h
 ·
  split at h
  ·
   split at h
   ·
    exact hm h
   ·
    cases h
  ·
   cases h
 ·
  split at h
  ·
   rename_i t ht
   cases ht2:A[1]? with
   | none=>simp [ht2] at h
   | some t2 =>
    simp only [ht2] at h
    by_cases hsrc:iX C t2=true
    ·
     rw [if_pos hsrc] at h
     split at h
     ·
      split at h
      ·
       exact hm h
      ·
       cases hr:C.rowT t with
       | true =>
        simp only [hr,cond_true] at h
        split at h
        ·
         exact hm h
        ·
         exact hm h
        ·
         cases h
       | false =>
        simp only [hr,cond_false] at h
        split at h
        ·
         exact hm h
        ·
         split at h
         ·
          exact hm h
         ·
          cases h
     ·
      cases h
    ·
     rw [if_neg hsrc] at h; cases h
  ·
   cases h
 ·
  split at h
  ·
   split at h
   ·
    unfold BL at h
    (repeat' split at h) <;> first
     | (cases h; done)
     | (simp only [Option.some.injEq] at h; subst h; exact ⟨_,_,rfl⟩)
   ·
    cases h
  ·
   cases h
 ·
  split at h
  ·
   split at h
   ·
    unfold qJ at h
    (repeat' split at h) <;> first
     | (cases h; done)
     | (simp only [Option.some.injEq] at h; subst h; exact ⟨_,_,rfl⟩)
   ·
    cases h
  ·
   cases h
 ·
  split at h
  ·
   simp only [Option.map_eq_some_iff] at h
   obtain ⟨r,_,rfl⟩:=h
   exact ⟨_,_,rfl⟩
  ·
   cases h
 ·
  exact hm h
 ·
  exact hm h
 ·
  cases h
theorem Ha {C:eT} {ρ:Operand→Option AV} {op:Op} {S:St} {f:Nat} {args:List AV} (h:oper C ρ S op=some (.call f args)) (hc:¬ cls C op ≤ 1) (S2:St):oper C ρ S2 op=some (.call f args):=by
 cases op <;> try (first | exact absurd (show (0:Nat) ≤ 1 from Nat.zero_le 1) hc | exact absurd (show (1:Nat) ≤ 1 from Nat.le_refl 1) hc)
 case call c =>
  obtain ⟨callee,as,ats⟩:=c
  cases callee with
  | value g=>simpa only [oper] using h
  | invoke r m=>simp only [oper] at h; cases h
  | builtin b =>
   exfalso
   simp only [oper] at h
   split at h
   ·
    rename_i args hargs
    obtain ⟨v,S',hq⟩:=DD h
    cases hq
   ·
    cases h
 case buildSlice t len ps =>
  exfalso
  have hr:nD C t len=true:=by unfold cls at hc; cases hq:nD C t len <;> simp [hq] at hc ⊢
  simp only [oper,hr,cond_true] at h
  split at h
  ·
   obtain ⟨_,v,cs,hq⟩:=vK h; cases hq
  ·
   cases h
 all_goals
  exfalso
  simp only [oper] at h
  (repeat' split at h) <;> first
   | (cases h; done)
   | (simp only [Option.map_eq_some_iff] at h; obtain ⟨a,ha,h⟩:=h; cases h; done)
   | (simp only [Option.some.injEq] at h; cases h; done)
   | (cases hh:S.H.has S.nx <;> simp [hh] at h; done)
theorem LH {C:eT} {h:Hand} (hp:CP h) {nt:Nat} {ops:Array Oper} {o:Oper} {e e':Env} {S S':St} (hs:fG C h nt ops o e S=some (.go e' S')) (hk:MP C ops o e e' S=0):Z0 C h nt ops o e:=by
 have skip:bC ops e o=some false→Z0 C h nt ops o e:=fun hw=>by
  refine ⟨some (.tup []),fun e2 ha S2=>?_⟩
  unfold fG at hs ⊢
  rw [nJ ha,hw]
  rw [hw] at hs
  cases hd:o.dst with
  | none=>exact ⟨e2,by simp,u7.none _ _⟩
  | some t =>
   simp only [hd] at hs ⊢
   split at hs
   ·
    rename_i e1 hput
    obtain ⟨e2',h2⟩:=tQ hput e2
    exact ⟨e2',by simp [h2],u7.put h2⟩
   ·
    cases hs
 have vals:∀ {v:AV},bC ops e o=some true→(∀ S2,oper C (bB e) S2 o.op=some (.val v S2))→Env.put nt e o.dst v=some e'→Z0 C h nt ops o e:=fun {v} hw hv hput=>by
  refine ⟨some v,fun e2 ha S2=>?_⟩
  have hop:oper C (bB e2) S2 o.op=oper C (bB e) S2 o.op:=uJ S2 o.op (fun x hx=>(pG ha x hx).symm)
  obtain ⟨e2',h2⟩:=tQ hput e2
  refine ⟨e2',?_,u7.put h2⟩
  unfold fG
  rw [nJ ha,hw,hop,hv S2]
  simp [h2]
 unfold fG at hs
 split at hs
 ·
  rename_i hw
  by_cases hc:cls C o.op ≤ 1
  ·
   have h0:cls C o.op=0:=by simpa [MP,hc] using hk
   split at hs
   ·
    rename_i v S1 ho
    split at hs
    ·
     rename_i e1 hput
     simp only [Option.some.injEq,Stp.go.injEq] at hs
     obtain ⟨rfl,rfl⟩:=hs
     obtain ⟨v',h1,_⟩:=FE h0 S S _ ho
     simp only [uq.val.injEq] at h1
     obtain ⟨rfl,rfl⟩:=h1
     exact vals hw (fun S2=>by
      obtain ⟨v2,h2,h3⟩:=FE h0 S1 S2 _ ho
      simp only [uq.val.injEq,and_true] at h2
      subst h2; exact h3) hput
    ·
     cases hs
   ·
    rename_i S1 ho; obtain ⟨v',h1,_⟩:=FE h0 S S _ ho; cases h1
   ·
    rename_i f args ho; obtain ⟨v',h1,_⟩:=FE h0 S S _ ho; cases h1
   ·
    cases hs
   ·
    cases hs
  ·
   unfold MP at hk
   rw [if_neg hc] at hk
   split at hk
   ·
    cases hk
   ·
    unfold Jw at hk
    rw [hw] at hk
    split at hs
    ·
     rename_i v S1 ho; simp only [ho] at hk; cases hk
    ·
     rename_i S1 ho; simp only [ho] at hk; cases hk
    ·
     rename_i f args ho
     simp only [ho] at hk
     cases hcond:zJ o e' args with
     | false=>rw [hcond] at hk; cases hk
     | true =>
      unfold zJ at hcond
      simp only [Bool.and_eq_true] at hcond
      obtain ⟨hargs,hres⟩:=hcond
      split at hs
      ·
       rename_i v S1 hcall
       split at hs
       ·
        rename_i e1 hput
        simp only [Option.some.injEq,Stp.go.injEq] at hs
        obtain ⟨rfl,rfl⟩:=hs
        have hv:(yQ v).isSome=true:=by
         cases hd:o.dst with
         | none=>rw [hd] at hres; cases hres
         | some t =>
          have:=u7.put hput t
          rw [hd] at this hres
          simp only [if_true] at this
          simp only [this] at hres
          exact hres
        refine ⟨some v,fun e2 ha S2=>?_⟩
        have hop:oper C (bB e2) S2 o.op=oper C (bB e) S2 o.op:=uJ S2 o.op (fun x hx=>(pG ha x hx).symm)
        obtain ⟨e2',h2⟩:=tQ hput e2
        refine ⟨e2',?_,u7.put h2⟩
        unfold fG
        rw [nJ ha,hw,hop,Ha ho hc S2]
        simp only [hp f args S v S1 hcall hargs hv S2,h2]
       ·
        cases hs
      ·
       cases hs
      ·
       cases hs
    ·
     cases hs
    ·
     cases hs
 ·
  rename_i hw; exact skip hw
 ·
  cases hs
theorem step1 {C:eT} {h:Hand} {nt:Nat} {ops:Array Oper} {o:Oper} {e e':Env} {S S':St} (hc:cls C o.op ≤ 1) (hs:fG C h nt ops o e S=some (.go e' S')):S'=S:=by
 unfold fG at hs
 split at hs
 ·
  split at hs
  ·
   rename_i v S1 ho
   obtain ⟨v',h1⟩:=Cj hc S ho
   simp only [uq.val.injEq] at h1
   obtain ⟨rfl,rfl⟩:=h1
   split at hs
   ·
    simp only [Option.some.injEq,Stp.go.injEq] at hs; exact hs.2.symm
   ·
    cases hs
  ·
   rename_i S1 ho; obtain ⟨v',h1⟩:=Cj hc S ho; cases h1
  ·
   rename_i f args ho; obtain ⟨v',h1⟩:=Cj hc S ho; cases h1
  ·
   cases hs
  ·
   cases hs
 ·
  (repeat' split at hs) <;> first | (simp only [Option.some.injEq,Stp.go.injEq] at hs; exact hs.2.symm) | cases hs
 ·
  cases hs
theorem IY {C:eT} {h:Hand} {nt:Nat} {ops:Array Oper} {o:Oper} {e e':Env} {S S':St} (hn:EB C o.op=true) (hs:fG C h nt ops o e S=some (.go e' S')) :
  S'=S∨(S.H.get S.nx=none∧∃ b,S'=bH S b):=by
 unfold fG at hs
 split at hs
 ·
  right
  have key:∀ {nx:uq},oper C (bB e) S o.op=some nx→S.H.get S.nx=none∧∃ v b,nx=.val v (bH S b):=by
   intro nx ho
   obtain ⟨dst,op,ty,pos,after,guard⟩:=o
   simp only at hn ho
   cases op <;> try (cases hn; done)
   case buildSlice t len ps _ =>
    have hr:nD C t len=true:=hn
    simp only [oper,hr,cond_true] at ho
    split at ho
    ·
     exact vK ho
    ·
     cases ho
   case range t x =>
    simp only [oper] at ho
    cases hh:S.H.has S.nx with
    | true =>
     split at ho
     ·
      split at ho
      ·
       simp [hh] at ho
      ·
       cases ho
     ·
      simp [hh] at ho
     ·
      cases ho
    | false =>
     split at ho
     ·
      split at ho
      ·
       simp only [hh,cond_false,Option.some.injEq] at ho
       subst ho
       exact ⟨AL.mg hh,_,_,rfl⟩
      ·
       cases ho
     ·
      simp only [hh,cond_false,Option.some.injEq] at ho
      subst ho
      exact ⟨AL.mg hh,_,_,rfl⟩
     ·
      cases ho
   ·
    rename_i t
    simp only [oper] at ho
    cases hh:S.H.has S.nx with
    | true=>simp [hh] at ho
    | false =>
     simp only [hh,cond_false] at ho
     split at ho
     ·
      simp only [Option.some.injEq] at ho
      subst ho
      exact ⟨AL.mg hh,_,_,rfl⟩
     ·
      simp only [Option.map_eq_some_iff] at ho
      obtain ⟨z,_,rfl⟩:=ho
      exact ⟨AL.mg hh,_,_,rfl⟩
   ·
    rename_i t x
    simp only [oper] at ho
    split at ho
    ·
     split at ho
     ·
      cases hh:S.H.has S.nx with
      | true=>simp [hh] at ho
      | false =>
       simp only [hh,cond_false,Option.some.injEq] at ho
       subst ho
       exact ⟨AL.mg hh,_,_,rfl⟩
     ·
      cases ho
    ·
     cases ho
  split at hs
  ·
   rename_i v S1 ho
   obtain ⟨k1,v',cs,k2⟩:=key ho
   simp only [uq.val.injEq] at k2
   obtain ⟨rfl,rfl⟩:=k2
   split at hs
   ·
    simp only [Option.some.injEq,Stp.go.injEq] at hs
    exact ⟨k1,cs,hs.2.symm⟩
   ·
    cases hs
  ·
   rename_i S1 ho; obtain ⟨_,v',cs,k2⟩:=key ho; cases k2
  ·
   rename_i f args ho; obtain ⟨_,v',cs,k2⟩:=key ho; cases k2
  ·
   cases hs
  ·
   cases hs
 ·
  left
  (repeat' split at hs) <;> first | (simp only [Option.some.injEq,Stp.go.injEq] at hs; exact hs.2.symm) | cases hs
 ·
  cases hs
theorem y8 {S:St} {nb:uZ} (hn:S.H.get S.nx=none) {id:Nat} {b:uZ} (h:S.H.get id=some b):(bH S nb).H.get id=some b:=by
 simp only [bH,AL.aP]
 rw [if_neg (fun q=>by subst q; rw [hn] at h; cases h)]
 exact h
theorem GL {S:St} {nb:uZ} (hn:S.H.get S.nx=none) {x:AV} {n:Nat} (h:ku x S=some n):ku x (bH S nb)=some n:=by
 unfold ku at h
 split at h <;> first
  | exact h
  | (cases h; done)
  | (split at h; all_goals first | (cases h; done) | (rename_i hg; simp only [ku,y8 hn hg]; exact h))
theorem Ic {S:St} {nb:uZ} (hn:S.H.get S.nx=none) {x:AV} {M:vg} (h:mapOf S x=some M):mapOf (bH S nb) x=some M:=by
 unfold mapOf at h ⊢
 split at h
 ·
  exact h
 ·
  split at h
  ·
   rename_i hg; simp only [y8 hn hg]; exact h
  ·
   cases h
 ·
  cases h
theorem Jd {C:eT} {ρ:Operand→Option AV} {op:Op} (hc:cls C op ≤ 1) {S:St} {nb:uZ} (hn:S.H.get S.nx=none) {v:AV} (h:oper C ρ S op=some (.val v S)):oper C ρ (bH S nb) op=some (.val v (bH S nb)):=by
 by_cases h0:cls C op=0
 ·
  obtain ⟨v',h1,h2⟩:=FE h0 S (bH S nb) _ h
  simp only [uq.val.injEq,and_true] at h1
  subst h1; exact h2
 ·
  cases op <;> try (first | exact absurd rfl h0 | exact absurd (show (2:Nat) ≤ 1 from hc) (by omega) | exact (EP h0 hc).elim)
  case load t a =>
   simp only [oper] at h ⊢
   split at h
   ·
    rename_i u hu
    simp only [Option.map_eq_some_iff,uq.val.injEq,and_true] at h ⊢
    obtain ⟨r,hr,rfl⟩:=h
    refine ⟨r,?_,rfl⟩
    unfold kT at hr ⊢
    split at hr
    ·
     rename_i id gen off
     split at hr
     ·
      rename_i cs' hl
      have hk:∃ g,S.H.get id=some (.cells g cs'):=by
       unfold St.look at hl
       split at hl
       ·
        rename_i g' cs2 hg
        cases hb:Nat.beq g' gen with
        | true=>rw [hb] at hl; simp at hl; subst hl; exact ⟨_,hg⟩
        | false=>rw [hb] at hl; simp at hl
       ·
        cases hl
      obtain ⟨g,hk⟩:=hk
      have:(bH S nb).look id gen=some cs':=by
       unfold St.look at hl ⊢
       rw [y8 hn hk]
       rw [hk] at hl
       exact hl
      rw [this]; exact hr
     ·
      cases hr
    ·
     exact hr
    ·
     cases hr
   ·
    cases h
  case lookup t m k ok =>
   simp only [oper] at h ⊢
   split at h
   ·
    simp only [Option.map_eq_some_iff,uq.val.injEq,and_true] at h ⊢
    obtain ⟨r,hr,rfl⟩:=h
    refine ⟨r,?_,rfl⟩
    unfold kK at hr
    split at hr
    ·
     rename_i kt et M hkt hM
     have:mapOf (bH S nb) _=some M:=Ic hn hM
     unfold kK
     simp only [hkt,this]
     exact hr
    ·
     cases hr
   ·
    cases h
  case call c =>
   obtain ⟨callee,args,ats⟩:=c
   cases callee <;> try (exact absurd (show (2:Nat) ≤ 1 from hc) (by omega))
   rename_i b
   cases b <;> try (first | exact absurd rfl h0 | exact absurd (show (2:Nat) ≤ 1 from hc) (by omega))
   simp only [oper] at h ⊢
   split at h
   ·
    rename_i as has
    unfold dK at h ⊢
    split at h <;> try (first | contradiction | (cases h; done))
    split at h
    ·
     rename_i t ht
     split at h
     ·
      rename_i hlt
      simp only [Option.map_eq_some_iff,uq.val.injEq,and_true] at h
      obtain ⟨n,hn',rfl⟩:=h
      simp only [GL hn hn',Option.map_some,hlt,if_true]
     ·
      cases h
    ·
     cases h
   ·
    cases h
theorem Az {C:eT} {h:Hand} {nt:Nat} {ops:Array Oper} {o:Oper} {e e':Env} {S:St} {nb:uZ} (hc:cls C o.op ≤ 1) (hn:S.H.get S.nx=none) (hs:fG C h nt ops o e S=some (.go e' S)) :
  fG C h nt ops o e (bH S nb)=some (.go e' (bH S nb)):=by
 unfold fG at hs ⊢
 split at hs
 ·
  split at hs
  ·
   rename_i v S1 ho
   obtain ⟨v',h1⟩:=Cj hc S ho
   simp only [uq.val.injEq] at h1
   obtain ⟨rfl,rfl⟩:=h1
   rw [Jd hc hn ho]
   split at hs
   ·
    rename_i e1 hput
    simp only [Option.some.injEq,Stp.go.injEq,and_true] at hs
    subst hs
    simp [hput]
   ·
    cases hs
  ·
   rename_i S1 ho; obtain ⟨v',h1⟩:=Cj hc S ho; cases h1
  ·
   rename_i f args ho; obtain ⟨v',h1⟩:=Cj hc S ho; cases h1
  ·
   cases hs
  ·
   cases hs
 ·
  (repeat' split at hs) <;> first | (simp only [Option.some.injEq,Stp.go.injEq,and_true] at hs; subst hs; simp_all) | cases hs
 ·
  cases hs
theorem DL {ρ ρ':Operand→Option AV} (op:Op) (h:∀ x ∈ op.operands,ρ x=ρ' x):o8 ρ op=o8 ρ' op:=by
 cases op <;> simp only [Op.operands] at h <;> try rfl
 case load t a=>simp only [o8]; rw [h a (by simp)]
 case lookup t m k ok=>simp only [o8]; rw [h m (by simp)]
 case call c =>
  obtain ⟨callee,args,ats⟩:=c
  cases callee <;> try rfl
  rename_i b
  cases b <;> try rfl
  have ha:fV ρ args.toList=fV ρ' args.toList:=mr fun p hp=>h p (by simp only [Call.operands]; exact Array.mem_append.2 (.inr (by simpa using hp)))
  simp only [o8]
  rw [ha]
theorem G5 {C:eT} {ρ:Operand→Option AV} {op:Op} (hc:cls C op ≤ 1) {S S2:St} (hI:∀ id ∈ (o8 ρ op).getD [],S2.H.get id=S.H.get id) {v:AV} (h:oper C ρ S op=some (.val v S)):oper C ρ S2 op=some (.val v S2):=by
 by_cases h0:cls C op=0
 ·
  obtain ⟨v',h1,h2⟩:=FE h0 S S2 _ h
  simp only [uq.val.injEq,and_true] at h1
  subst h1; exact h2
 ·
  cases op <;> try (first | exact absurd rfl h0 | exact absurd (show (2:Nat) ≤ 1 from hc) (by omega) | exact (EP h0 hc).elim)
  case load t a =>
   simp only [oper] at h ⊢
   split at h
   ·
    rename_i u hu
    simp only [Option.map_eq_some_iff,uq.val.injEq,and_true] at h ⊢
    obtain ⟨r,hr,rfl⟩:=h
    refine ⟨r,?_,rfl⟩
    unfold kT at hr ⊢
    split at hr
    ·
     rename_i id gen off
     have:S2.look id gen=S.look id gen:=by
      unfold St.look
      rw [hI id (by simp [o8,hu])]
     simp only [this]; exact hr
    ·
     exact hr
    ·
     cases hr
   ·
    cases h
  case lookup t m k ok =>
   simp only [oper] at h ⊢
   split at h
   ·
    rename_i mv kd hmv hkd
    simp only [Option.map_eq_some_iff,uq.val.injEq,and_true] at h ⊢
    obtain ⟨r,hr,rfl⟩:=h
    refine ⟨r,?_,rfl⟩
    have:mapOf S2 mv=mapOf S mv:=by
     cases mv <;> try rfl
     ·
      rename_i y; cases y <;> rfl
     ·
      rename_i id
      simp only [mapOf]
      rw [hI id (by simp [o8,hmv])]
    unfold kK at hr ⊢
    rw [this]; exact hr
   ·
    cases h
  case call c =>
   obtain ⟨callee,args,ats⟩:=c
   cases callee <;> try (exact absurd (show (2:Nat) ≤ 1 from hc) (by omega))
   rename_i b
   cases b <;> try (first | exact absurd rfl h0 | exact absurd (show (2:Nat) ≤ 1 from hc) (by omega))
   simp only [oper] at h ⊢
   split at h
   ·
    rename_i as has
    unfold dK at h ⊢
    split at h <;> try (first | contradiction | (cases h; done))
    rename_i x _
    split at h
    ·
     rename_i t ht
     split at h
     ·
      rename_i hlt
      simp only [Option.map_eq_some_iff,uq.val.injEq,and_true] at h
      obtain ⟨n,hn',rfl⟩:=h
      have:ku x S2=some n:=by
       rw [← hn']
       cases x <;> try rfl
       ·
        rename_i y; cases y <;> rfl
       ·
        rename_i id
        simp only [ku]
        rw [hI id (by simp [o8,has])]
      simp only [this,Option.map_some,hlt,if_true]
     ·
      cases h
    ·
     cases h
   ·
    cases h
theorem Bw {C:eT} {h:Hand} {nt:Nat} {ops:Array Oper} {o:Oper} {e e':Env} {S S2:St} (hc:cls C o.op ≤ 1) (hI:∀ id ∈ (o8 (bB e) o.op).getD [],S2.H.get id=S.H.get id) (hs:fG C h nt ops o e S=some (.go e' S)) :
  fG C h nt ops o e S2=some (.go e' S2):=by
 unfold fG at hs ⊢
 split at hs
 ·
  split at hs
  ·
   rename_i v S1 ho
   obtain ⟨v',h1⟩:=Cj hc S ho
   simp only [uq.val.injEq] at h1
   obtain ⟨rfl,rfl⟩:=h1
   rw [G5 hc hI ho]
   split at hs
   ·
    rename_i e1 hput
    simp only [Option.some.injEq,Stp.go.injEq,and_true] at hs
    subst hs
    simp [hput]
   ·
    cases hs
  ·
   rename_i S1 ho; obtain ⟨v',h1⟩:=Cj hc S ho; cases h1
  ·
   rename_i f args ho; obtain ⟨v',h1⟩:=Cj hc S ho; cases h1
  ·
   cases hs
  ·
   cases hs
 ·
  (repeat' split at hs) <;> first | (simp only [Option.some.injEq,Stp.go.injEq,and_true] at hs; subst hs; simp_all) | cases hs
 ·
  cases hs
structure JH (C:eT) (h:Hand) (nt:Nat) (ops:Array Oper) (I:List Nat) (o:Oper) (e:Env) (k:Nat):Prop where
 zero:k=0→Z0 C h nt ops o e
 one:k=1→cls C o.op ≤ 1∧∀ id ∈ (o8 (bB e) o.op).getD [],id ∈ I
 three:k=3→EB C o.op=true
theorem JH.agree {C:eT} {h:Hand} {nt:Nat} {ops:Array Oper} {I:List Nat} {o:Oper} {e f:Env} {k:Nat} (z:JH C h nt ops I o e k) (ha:∀ t ∈ o.looksAt ops,AL.get f t=AL.get e t):JH C h nt ops I o f k :=
 ⟨fun q=>(z.zero q).agree ha,fun q=>⟨(z.one q).1,by rw [DL o.op (fun x hx=>(pG ha x hx).symm)]; exact (z.one q).2⟩,z.three⟩
def EU (I:List Nat) (k:Nat) (S S':St):Prop:=k=4→∀ id ∈ I,S'.H.get id=S.H.get id
theorem JR {C:eT} {h:Hand} {nt:Nat} {ops:Array Oper} {I:List Nat} {x y:Oper} {e e1 e2:Env} {S S1 S2:St} {kx ky:Nat} (hap:x.apart ops y=true) (hcl:MK kx ky=true) (zx:JH C h nt ops I x e kx) (zy:JH C h nt ops I y e1 ky)
  (px:EU I kx S S1) (py:EU I ky S1 S2) (hx:fG C h nt ops x e S=some (.go e1 S1)) (hy:fG C h nt ops y e1 S1=some (.go e2 S2)) :
  ∃ f1 T1 f2,fG C h nt ops y e S=some (.go f1 T1)∧fG C h nt ops x f1 T1=some (.go f2 S2)∧Ky f2 e2∧JH C h nt ops I y e ky∧JH C h nt ops I x f1 kx∧EU I ky S T1∧EU I kx T1 S2:=by
 obtain ⟨a1,a2,a3⟩:=Oper.apart_spec hap
 obtain ⟨vx,_,_,ux,_⟩:=jR hx (e2:=e) (fun _ _=>rfl)
 have hyl:∀ t ∈ y.looksAt ops,AL.get e t=AL.get e1 t:=fun t ht=>by
  rw [ux t,if_neg (fun q=>a1 t q ht)]
 have zy':=zy.agree hyl
 have xl:∀ {vy:Option AV} {f1:Env},u7 e y.dst vy f1→∀ t ∈ x.looksAt ops,AL.get f1 t=AL.get e t:=fun u t ht=>by
  rw [u t,if_neg (fun q=>a3 t q ht)]
 have fin:∀ {vy:Option AV} {f1:Env} {T:St},u7 e1 y.dst vy e2→u7 e y.dst vy f1→(∃ f2,fG C h nt ops x f1 T=some (.go f2 S2)∧u7 f1 x.dst vx f2)→∃ f2,fG C h nt ops x f1 T=some (.go f2 S2)∧Ky f2 e2:=by
  intro vy f1 T u1 u2 ⟨f2,q1,q2⟩
  refine ⟨f2,q1,fun t=>?_⟩
  rw [q2 t,u2 t,u1 t,ux t]
  by_cases hd:x.dst=some t
  ·
   have:y.dst ≠ some t:=a2 t hd
   simp [hd,this]
  ·
   simp [hd]
 have updx:∀ {v:Option AV} {f1 f2:Env},u7 e x.dst v e1→u7 f1 x.dst v f2→u7 f1 x.dst vx f2:=fun u u'=>by
  intro t
  rw [u' t]
  by_cases hd:x.dst=some t
  ·
   have q1:=u t; have q2:=ux t; rw [if_pos hd] at q1 q2; simp [hd,← q1,← q2]
  ·
   simp [hd]
 simp only [MK,Bool.or_eq_true,Bool.and_eq_true] at hcl
 rcases hcl with ((q | q) | ⟨q,q2⟩) | ⟨q,q2⟩
 ·
  have hq0:=Nat.eq_of_beq_eq_true q
  obtain ⟨v0,z0⟩:=zx.zero hq0
  have hS:S1=S∧u7 e x.dst v0 e1:=by
   obtain ⟨e1',g1,g2⟩:=z0 e (fun _ _=>rfl) S
   rw [hx] at g1
   simp only [Option.some.injEq,Stp.go.injEq] at g1
   exact ⟨g1.2,by rw [g1.1]; exact g2⟩
  obtain ⟨rfl,hu⟩:=hS
  obtain ⟨vy,f1,k1,k2,k3⟩:=jR hy hyl
  obtain ⟨f2,g1,g2⟩:=z0 f1 (xl k3) S2
  obtain ⟨f2',m1,m2⟩:=fin k2 k3 ⟨f2,g1,updx hu g2⟩
  exact ⟨f1,S2,f2',k1,m1,m2,zy',zx.agree (xl k3),py,fun q=>by omega⟩
 ·
  have hq0:=Nat.eq_of_beq_eq_true q
  obtain ⟨v0,z0⟩:=zy.zero hq0
  have hS:S2=S1∧u7 e1 y.dst v0 e2:=by
   obtain ⟨e1',g1,g2⟩:=z0 e1 (fun _ _=>rfl) S1
   rw [hy] at g1
   simp only [Option.some.injEq,Stp.go.injEq] at g1
   exact ⟨g1.2,by rw [g1.1]; exact g2⟩
  obtain ⟨rfl,hu⟩:=hS
  obtain ⟨f1,k1,k3⟩:=z0 e hyl S
  obtain ⟨v3,f2,g1,g2,g3⟩:=jR hx (xl k3)
  obtain ⟨f2',m1,m2⟩:=fin hu k3 ⟨f2,g1,updx g2 g3⟩
  exact ⟨f1,S,f2',k1,m1,m2,zy',zx.agree (xl k3),fun q=>by omega,px⟩
 ·
  have hq1:=Nat.eq_of_beq_eq_true q
  obtain ⟨hx1,hx2'⟩:=zx.one hq1
  have e1S:=step1 hx1 hx
  subst e1S
  obtain ⟨vy,f1,k1,k2,k3⟩:=jR hy hyl
  have hx2:∃ f2,fG C h nt ops x f1 S2=some (.go f2 S2)∧u7 f1 x.dst vx f2:=by
   have hat:fG C h nt ops x e S2=some (.go e1 S2):=by
    try simp only [Bool.or_eq_true] at q2
    rcases q2 with (q2 | q2) | q2
    ·
     have:=step1 (zy.one (Nat.eq_of_beq_eq_true q2)).1 hy
     subst this; exact hx
    ·
     rcases IY (zy.three (Nat.eq_of_beq_eq_true q2)) hy with r | ⟨r1,cs,r2⟩
     ·
      subst r; exact hx
     ·
      subst r2; exact Az hx1 r1 hx
    ·
     exact Bw hx1 (fun id hid=>py (Nat.eq_of_beq_eq_true q2) id (hx2' id hid)) hx
   obtain ⟨v3,f2,g1,g2,g3⟩:=jR hat (xl k3)
   exact ⟨f2,g1,updx g2 g3⟩
  obtain ⟨f2',m1,m2⟩:=fin k2 k3 hx2
  exact ⟨f1,S2,f2',k1,m1,m2,zy',zx.agree (xl k3),py,fun q=>by omega⟩
 ·
  have hq4:=Nat.eq_of_beq_eq_true q
  have hq1:=Nat.eq_of_beq_eq_true q2
  obtain ⟨hy1,hy2⟩:=zy'.one hq1
  have e2S:=step1 hy1 hy
  subst e2S
  obtain ⟨vy,f0,k1,k2,k3⟩:=jR hy hyl
  have hyS:fG C h nt ops y e S=some (.go f0 S):=Bw (S:=S2) (S2:=S) hy1 (fun id hid=>(px hq4 id (hy2 id hid)).symm) k1
  obtain ⟨v3,f2,g1,g2,g3⟩:=jR hx (xl k3)
  obtain ⟨f2',m1,m2⟩:=fin k2 k3 ⟨f2,g1,updx g2 g3⟩
  exact ⟨f0,S,f2',hyS,m1,m2,zy',zx.agree (xl k3),fun q=>by omega,px⟩
end
end Go.Ev

namespace Go.Ev
noncomputable section
set_option linter.unusedVariables false
set_option linter.unusedSimpArgs false
section
variable {C:eT} {h:Hand} {nt:Nat} {ops:Array Oper} {I:List Nat} {K:Nat→Nat}
inductive Run (C:eT) (h:Hand) (nt:Nat) (ops:Array Oper) (I:List Nat) (K:Nat→Nat):List Nat→Env→St→Env→St→Prop
 | nil (e:Env) (S:St):Run C h nt ops I K [] e S e S
 | cons (i:Nat) (l:List Nat) (o:Oper) (e e1 e2:Env) (S S1 S2:St) (ho:ops[i]? = some o) (hs:fG C h nt ops o e S=some (.go e1 S1)) (hk:JH C h nt ops I o e (K i)) (hp:EU I (K i) S S1) (hr:Run C h nt ops I K l e1 S1 e2 S2):Run C h nt ops I K (i :: l) e S e2 S2
theorem Run.congr:∀ (l:List Nat) {e e2 e':Env} {S S':St},Ky e2 e→Run C h nt ops I K l e S e' S'→∃ e2',Run C h nt ops I K l e2 S e2' S'∧Ky e2' e'
 | [],e,e2,e',S,S',hq,hv=>by cases hv; exact ⟨e2,.nil _ _,hq⟩
 | i :: l,e,e2,e',S,S',hq,hv=>by
  cases hv with
  | cons _ _ o _ e1 _ _ S1 _ ho hs hk hp hr =>
   obtain ⟨x,e3,k1,k2,k3⟩:=jR hs (e2:=e2) (fun t _=>hq t)
   obtain ⟨e4,m1,m2⟩:=Run.congr l (e2:=e3) (fun t=>by rw [k3 t,k2 t,hq t]) hr
   exact ⟨e4,.cons i l o _ _ _ _ _ _ ho k1 (hk.agree (fun t _=>hq t)) hp m1,m2⟩
theorem bubble:∀ (l1 l2:List Nat) (i:Nat) {o:Oper} {e e':Env} {S S':St},ops[i]? = some o→(∀ k ∈ l1,∀ x,ops[k]? = some x→x.apart ops o=true∧MK (K k) (K i)=true)→Run C h nt ops I K (l1 ++ i :: l2) e S e' S' →
  ∃ e1 S1 e2,fG C h nt ops o e S=some (.go e1 S1)∧JH C h nt ops I o e (K i)∧EU I (K i) S S1∧Run C h nt ops I K (l1 ++ l2) e1 S1 e2 S'∧Ky e2 e'
 | [],l2,i,o,e,e',S,S',ho,_,hv=>by
  cases hv with
  | cons _ _ o' _ e1 _ _ S1 _ ho' hs hk hp hr =>
   rw [ho] at ho'; cases ho'
   exact ⟨e1,S1,e',hs,hk,hp,hr,fun _=>rfl⟩
 | k :: l1,l2,i,o,e,e',S,S',ho,hok,hv=>by
  rw [List.cons_append] at hv
  cases hv with
  | cons _ _ x _ ek _ _ Sk _ hx hs hk hp hr =>
   obtain ⟨e1,S1,e2,k1,kk,kp,k2,k3⟩:=bubble l1 l2 i ho (fun k hk=>hok k (by simp [hk])) hr
   obtain ⟨g1,g2⟩:=hok k (by simp) x hx
   obtain ⟨f1,T1,f2,c1,c2,c3,c4,c5,c6,c7⟩:=JR g1 g2 hk kk hp kp hs k1
   obtain ⟨e3,m1,m2⟩:=Run.congr (l1 ++ l2) c3 k2
   exact ⟨f1,T1,e3,c1,c4,c6,.cons k _ x _ _ _ _ _ _ hx c2 c5 c7 m1,fun t=>(m2 t).trans (k3 t)⟩
end
def oD (ops:Array Oper):Bool :=
 let B:=Region.before ops
 (List.range ops.size).all fun i=>match ops[i]? with
  | none=>false
  | some o=>Nat.blt (B.getD i 0) (2 ^ i) && (o.after.all fun e=>!Region.binds .any e || Nat.blt e.on i) &&
   (List.range i).all fun k=>match ops[k]? with
    | none=>false
    | some x=>if (B.getD i 0).testBit k then (o.after.any fun e=>Region.binds .any e && (Nat.beq e.on k || (B.getD e.on 0).testBit k)) else x.apart ops o
theorem jq {ops:Array Oper} (hr:oD ops=true) {i:Nat} {o:Oper} (hi:ops[i]? = some o) :
  (∀ e ∈ o.after,Region.binds .any e=true→e.on < i) ∧
  (∀ k x,k < i→ops[k]? = some x→if ((Region.before ops).getD i 0).testBit k=true then ∃ e ∈ o.after,Region.binds .any e=true∧(e.on=k∨((Region.before ops).getD e.on 0).testBit k=true) else x.apart ops o=true)∧∀ k,i ≤ k→((Region.before ops).getD i 0).testBit k=false:=by
 have hlt:i < ops.size:=(Array.getElem?_eq_some_iff.1 hi).1
 simp only [oD,List.all_eq_true,List.mem_range] at hr
 have h1:=hr i hlt
 rw [hi] at h1
 simp only [Bool.and_eq_true] at h1
 obtain ⟨⟨h0,h1⟩,h2⟩:=h1
 refine ⟨fun e he hb=>?_,fun k x hk hx=>?_,fun k hk=>Nat.testBit_lt_two_pow (Nat.lt_of_lt_of_le (Nat.le_of_ble_eq_true h0) (Nat.pow_le_pow_right (by omega) hk))⟩
 ·
  have:=Array.all_eq_true_iff_forall_mem.1 h1 e he
  simp only [hb,Bool.not_true,Bool.false_or] at this
  exact Nat.le_of_ble_eq_true this
 ·
  rw [List.all_eq_true] at h2
  have:=h2 k (List.mem_range.2 hk)
  rw [hx] at this
  simp only at this
  split at this
  ·
   rename_i hb
   rw [if_pos hb]
   obtain ⟨e,he,hq⟩:=Array.any_eq_true'.1 this
   simp only [Bool.and_eq_true,Bool.or_eq_true] at hq
   exact ⟨e,he,hq.1,hq.2.imp (fun q=>Nat.eq_of_beq_eq_true q) id⟩
  ·
   rename_i hb
   rw [if_neg hb]; exact this
def Closed (ops:Array Oper) (listed:Array Bool):Prop:=∀ j,listed.getD j false=true→∀ k,k < j→((Region.before ops).getD j 0).testBit k=true→listed.getD k false=true
end
end Go.Ev

namespace Go.Ev
noncomputable section
set_option linter.unusedVariables false
set_option linter.unusedSimpArgs false
theorem run_next_at {P:Program} {w:World} (ty b bm since c0:Nat) (seen:Array Nat) (es:Array MapEntry) (clock:Nat) (hb:w.heap[b]? = some (.mapIter (some bm) since seen c0)) (hm:w.heap[bm]? = some (.map es clock))
  (hold:∀ x ∈ es.toList,x.born < since) (hsc:since ≤ c0) :
  ((∀ e ∈ es.toList,seen.contains e.born=true)∧(Instr.next (.pointer (some ⟨b,0,none⟩)) false ty).run P w=.ok (.tuple #[.bool false]) w) ∨
  ∃ e ∈ es.toList,seen.contains e.born=false∧∃ w1:World,w1.heap=w.heap∧w1.os=w.os∧w1.output=w.output∧w1.tape=w.tape ∧
   (Instr.next (.pointer (some ⟨b,0,none⟩)) false ty).run P w=.ok (.tuple #[.bool true,e.key,e.val]) { w1 with heap:=w1.heap.setIfInBounds b (.mapIter (some bm) since (seen.push e.born) clock) }:=by
 simp only [Instr.next,getObj,Sem.run_bind,Sem.run,hb,hm,Result.andThen,next_test_false seen es since c0 hold hsc,Bool.false_eq_true,if_false]
 have hmem:∀ x ∈ (Array.filter (fun e=>!seen.contains e.born) es).toList,x ∈ es.toList∧seen.contains x.born=false:=fun x hx=>by
  simp at hx ⊢
  exact hx
 have hemp:Array.filter (fun e=>!seen.contains e.born) es = #[]→∀ e ∈ es.toList,seen.contains e.born=true:=fun h e he=>by
  rw [Array.filter_eq_empty_iff] at h
  have:=h e (by simpa using he)
  simpa using this
 generalize Array.filter (fun e=>!seen.contains e.born) es=L at hmem hemp ⊢
 have e1:L.filter (fun x=>decide (x.born < since))=L:=Array.filter_eq_self.2 (fun x hx=>by simpa using hold x (hmem x (by simpa using hx)).1)
 have e2:L.filter (fun x=>decide (x.born ≥ since)) = #[]:=by
  rw [Array.filter_eq_empty_iff]
  intro x hx
  have:=hold x (hmem x (by simpa using hx)).1
  simp
  omega
 simp only [e1,e2,Array.append_empty]
 by_cases h0:L.size=0
 ·
  left
  have:L = #[]:=Array.eq_empty_of_size_eq_zero h0
  subst this
  refine ⟨hemp rfl,?_⟩
  simp [choose,Sem.run,Question.forced]
 ·
  right
  have hne:L.isEmpty=false:=by simp [Array.isEmpty,h0]
  simp only [hne,Bool.false_eq_true,if_false,Array.empty_append,Array.size_map]
  have hch:∃ (j:Nat) (w1:World),j < L.size∧(w1.heap=w.heap∧w1.os=w.os∧w1.output=w.output∧w1.tape=w.tape)∧(choose (Question.mapNext L.size)).run P w=.ok j w1:=by
   by_cases hf:L.size ≤ 1
   ·
    exact ⟨0,w,by omega,⟨rfl,rfl,rfl,rfl⟩,by simp [choose,Sem.run,Question.forced,hf]⟩
   ·
    exact ⟨_,w.drew,Nat.mod_lt _ (by omega),⟨rfl,rfl,rfl,rfl⟩,by
     simp only [choose,Sem.run,Question.forced,decide_eq_true_eq,hf,if_false,Question.cut]
     rfl⟩
  obtain ⟨j,w1,hj,hal,hrun⟩:=hch
  have hLj:L[j] ∈ L.toList:=by simp
  refine ⟨L[j],(hmem _ hLj).1,(hmem _ hLj).2,w1,hal.1,hal.2.1,hal.2.2.1,hal.2.2.2,?_⟩
  have hlt:b < w1.heap.size:=by rw [hal.1]; exact (Array.getElem?_eq_some_iff.1 hb).1
  have hb1:w1.heap[b]? = some (.mapIter (some bm) since seen c0):=by rw [hal.1]; exact hb
  have hset:∀ (o':Obj),(setObj b o').run P w1=.ok () { w1 with heap:=w1.heap.setIfInBounds b o' }:=fun o'=>by
   simp only [setObj,Sem.run,hb1]
   try rfl
  simp only [hrun,Array.getElem?_map,Array.getElem?_eq_getElem hj,Option.map_some,Sem.run_bind,hset,Result.andThen]
  rfl
theorem CQ {P:Program} {w:World} (ty b:Nat) (hb:w.heap[b]? = some (.mapIter none 0 #[] 0)) :
  (Instr.next (.pointer (some ⟨b,0,none⟩)) false ty).run P w=.ok (.tuple #[.bool false]) w:=by
 simp only [Instr.next,getObj,Sem.run_bind,Sem.run,hb,Result.andThen]
 rfl
def Gb (R:bO) (P:Program) (h:Af):Prop :=
 ∀ f args S rs,h f args S=some rs→(∃ fn,P.funcs[f]? = some fn∧fn.body.isSome=true∧fn.name ≠ "runtime.NumGoroutine") ∧
  ∀ cx w (us:List Value),bg R cx S w→us.length=args.length→(∀ (i:Nat) (x:AV) (u:Value),args[i]? = some x→us[i]? = some u→aO cx S w x u) →
  Calls P f us.toArray w (fun e w'=>∃ r ∈ rs,∃ cx',bg R cx' r.2.2 w'∧Ext cx S w cx' r.2.2 w'∧A8 cx' r.2.2 w' r.1 r.2.1 e)
theorem Lr {R:bO} {P:Program} {h:Af} (hh:Gb R P h):Ce R P (xg h):=by
 intro f args S p v S' hd
 unfold xg at hd
 split at hd
 ·
  rename_i r hr
  simp only [Option.some.injEq] at hd
  subst hd
  obtain ⟨h1,h2⟩:=hh f args S _ hr
  refine ⟨h1,fun cx w us hS hl hu=>(h2 cx w us hS hl hu).mono fun e w' he=>?_⟩
  obtain ⟨r',hr',cx',k⟩:=he
  simp only [List.mem_singleton] at hr'
  subst hr'
  exact ⟨cx',k⟩
 ·
  cases hd
theorem Eo {α β:Type} {f:α→Option β}:∀ {l:List α} {rs:List β},fV f l=some rs→∀ x ∈ l,∃ r,f x=some r∧r ∈ rs
 | [],_,_,x,hx=>by cases hx
 | y :: l,rs,h,x,hx=>by
  simp only [fV] at h
  split at h
  ·
   rename_i z hz
   simp only [Option.map_eq_some_iff] at h
   obtain ⟨zs,hzs,rfl⟩:=h
   rcases List.mem_cons.1 hx with rfl | hx
   ·
    exact ⟨z,hz,by simp⟩
   ·
    obtain ⟨r,h1,h2⟩:=Eo hzs x hx
    exact ⟨r,h1,List.mem_cons_of_mem _ h2⟩
  ·
   cases h
theorem Fe {R:bO} {C:eT} (hR:kG R C) {cx:Cx} {S:St} {w:World} {nt:Nat} {e:Env} {a:Act} {ops:Array Oper} {o:Oper} {t:Nat} {rs:List Stp} (hop:o.op=.next (.tmp t) false)
  (hs:Gi nt o t e S=some rs) (hS:bg R cx S w) (he:iG cx S w nt e a) {K:Act→World→Prop} {Q:Exit→Act→World→Prop} (hk:∀ r ∈ rs,After R cx S w nt a K Q r) {i:Nat} (hi:ops[i]? = some o) :
  wpOp C.P ops Q i K a w:=by
 unfold Gi at hs
 have hrefl:=Ext.refl (cx:=cx) w hS.wf
 have enter:o.guard=none→(∃ v w',(Instr.next (a.eval (.tmp t)) false o.type).run C.P w=.ok v w'∧K (a.put o.dst v) w')→wpOp C.P ops Q i K a w:=by
  intro hg ⟨v,w',h1,h2⟩
  unfold wpOp
  rw [hi]
  simp only
  rw [if_pos (by unfold Region.wanted; rw [hg])]
  left
  unfold Oper.wp
  have hq:(execOp a.eval o).run C.P w=.ok (.value v) w':=by
   obtain ⟨dst,op,ty,pos,after,guard⟩:=o
   simp only at hop
   subst hop
   exact rQ h1
  rw [hq]
  exact h2
 split at hs
 ·
  rename_i k g since seen st hg ht
  split at hs
  ·
   rename_i c hc
   split at hs
   ·
    rename_i hcg
    subst hcg
    simp only [Option.map_eq_some_iff] at hs
    obtain ⟨e',hp,rfl⟩:=hs
    obtain ⟨u,h1,h2⟩:=he.rel t _ ht
    have hev:a.eval (.tmp t)=u:=by simp [Act.eval,h1]
    cases h2 with
    | it0 _ _ _ _ b _ hn hpos =>
    obtain ⟨_,_,_,hb⟩:=hpos hc
    refine enter hg ⟨.tuple #[.bool false],w,?_,?_⟩
    ·
     rw [hev]; exact CQ _ b hb
    ·
     refine hk (.go e' S) (by simp) cx _ w hS hrefl (he.put hp ?_) (put_defers _ _ _)
     refine .tup [.d (.bool false)] [.bool false] rfl (fun j x u hx hu=>?_)
     match j,hx,hu with
     | 0,hx,hu=>simp at hx hu; subst hx; subst hu; exact .of_bool _
   ·
    cases hs
  ·
   cases hs
 ·
  rename_i k g id since seen st hg ht
  split at hs
  ·
   rename_i M c hM hc
   split at hs
   ·
    rename_i hcond
    obtain ⟨hcg,hold,hsc,hnt⟩:=hcond
    subst hcg
    obtain ⟨u,h1,h2⟩:=he.rel t _ ht
    have hev:a.eval (.tmp t)=u:=by simp [Act.eval,h1]
    have hidk:id ≠ k:=fun q=>by subst q; rw [hM] at hc; cases hc
    cases h2 with
    | it _ _ _ _ _ b m _ hn hni hm hpos =>
    have hkg:isIt S k g:=hc
    obtain ⟨hbk,hfk,honly,hb⟩:=hpos hkg
    have hm:=hm (by simp [cur,hM])
    obtain ⟨c1,c2,ms,clk,c3,⟨c4,c4',c4''⟩,c5⟩:=hS.maps id M hM
    rw [← hm] at c3
    have hborn:∀ x ∈ ms.toList,∃ (j:Nat) (p:D × AV × Nat),M.es[j]? = some p∧ms[j]? = some x∧x.born=p.2.2:=fun x hx=>by
     obtain ⟨j,hj,rfl⟩:=List.getElem_of_mem hx
     have hj':j < ms.size:=by simpa using hj
     have hjm:j < M.es.length:=by rw [← c4]; exact hj'
     have hp:=List.getElem?_eq_getElem hjm
     refine ⟨j,M.es[j],hp,by simp [hj'],?_⟩
     exact c4'' j _ _ hp (by simp [hj'])
    have holdm:∀ x ∈ ms.toList,x.born < since:=fun x hx=>by
     obtain ⟨j,p,p1,p2,p3⟩:=hborn x hx
     rw [p3]
     exact Nat.le_of_ble_eq_true (List.all_eq_true.1 hold p (List.mem_of_getElem? p1))
    rcases run_next_at (P:=C.P) o.type b m since st seen.toArray ms clk hb c3 holdm hsc with ⟨r1,r2⟩ | ⟨x,r1,r2,w1,r3,r4,r5,r6,r7⟩
    ·
     have hnil:M.es.filter (fun p=>!(seen.contains p.2.2))=[]:=by
      rw [List.filter_eq_nil_iff]
      intro p hp
      obtain ⟨j,hj,rfl⟩:=List.getElem_of_mem hp
      have hjm:j < ms.size:=by rw [c4]; exact hj
      have hb2:=c4'' j _ _ (List.getElem?_eq_getElem hj) (Array.getElem?_eq_getElem hjm)
      have:=r1 ms[j] (by simp)
      rw [hb2] at this
      simpa using this
     rw [hnil] at hs
     simp only [Option.map_eq_some_iff] at hs
     obtain ⟨e',hp,rfl⟩:=hs
     refine enter hg ⟨.tuple #[.bool false],w,by rw [hev]; exact r2,?_⟩
     refine hk (.go e' S) (by simp) cx _ w hS hrefl (he.put hp ?_) (put_defers _ _ _)
     refine .tup [.d (.bool false)] [.bool false] rfl (fun j x u hx hu=>?_)
     match j,hx,hu with
     | 0,hx,hu=>simp at hx hu; subst hx; subst hu; exact .of_bool _
    ·
     obtain ⟨j,p,p1,p2,p3⟩:=hborn x r1
     have hpm:p ∈ M.es.filter (fun p=>!(seen.contains p.2.2)):=by
      rw [List.mem_filter]
      refine ⟨List.mem_of_getElem? p1,?_⟩
      rw [p3] at r2
      simpa using r2
     have hs':fV (fun p:D × AV × Nat=>(Env.put nt ((t,.it k (g + 1) (some id) since (seen ++ [p.2.2]) M.clk) :: e) o.dst (.tup [.d (.bool true),.d p.1,p.2.1])).map fun e' =>
      Stp.go e' { S with H:=S.H.set k (.obj 3 (.int .i64 ((g + 1:Nat):Int))) }) (M.es.filter (fun p=>!(seen.contains p.2.2)))=some rs:=by
      split at hs
      ·
       rename_i hnil; rw [hnil] at hpm; cases hpm
      ·
       exact hs
     obtain ⟨rr,q1,q2⟩:=Eo hs' p hpm
     simp only [Option.map_eq_some_iff] at q1
     obtain ⟨e',hp,rfl⟩:=q1
     generalize hS':({ S with H:=S.H.set k (.obj 3 (.int .i64 ((g + 1:Nat):Int))) }:St)=S' at hp q2
     generalize hw':({ w1 with heap:=w1.heap.setIfInBounds b (.mapIter (some m) since (seen.toArray.push x.born) clk) }:World)=w' at r7
     have hget:S'.H.get k=some (.obj 3 (.int .i64 ((g + 1:Nat):Int))):=by rw [← hS']; simp [AL.aP]
     have hheap:w'.heap=w.heap.setIfInBounds b (.mapIter (some m) since (seen.toArray.push x.born) clk):=by rw [← hw',← r3]
     have hblt:b < w.heap.size:=JO hb
     have hsz:w'.heap.size=w.heap.size:=by rw [hheap]; simp
     have hfpk:∀ c,cx.fp k c↔c=b:=by
      have:=((hR.toObjOk.it _ _ _ _).1 (hS.objs k 3 _ hc).1).2
      intro c; rw [this c,hbk]
     have hcurk:cur S' k=some (g + 1):=by simp [cur,hget,Av]
     have hnx:S'.nx=S.nx:=by rw [← hS']
     have hT:S'.T=S.T:=by rw [← hS']
     obtain ⟨k1,k2⟩:=GM hR.toObjOk (cx':=cx) (S':=S') (w':=w') hS hc
      (fun kk xx hx=>by rw [hget] at hx; simp only [Option.some.injEq,uZ.obj.injEq] at hx; obtain ⟨_,rfl⟩:=hx; simp only [Av]; omega)
      (fun g' _=>⟨g,hkg⟩)
      (fun g' h0 h2=>by
       unfold isIt at h0 h2
       rw [hc] at h0
       rw [hget] at h2
       simp only [Option.some.injEq,uZ.obj.injEq,true_and,D.int.injEq] at h0 h2
       omega)
      hT hnx (fun ii hne=>by rw [← hS']; simp only [AL.aP]; rw [if_neg (Ne.symm hne)])
      (.inr ⟨3,_,hget,(hR.toObjOk.it _ _ _ _).2 ⟨by rw [hsz,← hbk]; exact hblt,fun c=>by rw [hfpk c,hbk]⟩⟩)
      (by omega) (by rw [← hw']; exact r4) (by rw [← hw']; exact r6) (by rw [← hw']; exact r5)
      (fun c hc1 hc2=>by
       rw [hheap,Array.getElem?_setIfInBounds_ne (fun q=>hc2 ((hfpk c).2 q.symm))])
      (fun _=>rfl) (fun _ _ _=>Iff.rfl) (fun _=>rfl) (fun _=>rfl) (fun c hc1=>.inl hc1)
      (fun c oo hc1=>(hS.objs k 3 _ hc).2 c oo hc1) (fun _ _ q _=>q) (fun _ _ q=>q) (fun c oo q=>by rw [hsz]; exact hS.lt c oo q)
     have hw2:w'.heap[b]? = some (.mapIter (some m) since (seen ++ [p.2.2]).toArray M.clk):=by
      rw [hheap,Array.getElem?_setIfInBounds_self,if_pos hblt,c4',p3]
      simp
     have hlive:∀ ii,cur S' ii ≠ none→cur S ii ≠ none:=fun ii hii=>by
      by_cases q:ii=k
      ·
       subst q; rw [oP hkg]; simp
      ·
       unfold cur at hii ⊢
       have:S'.H.get ii=S.H.get ii:=by rw [← hS']; simp only [AL.aP]; rw [if_neg (Ne.symm q)]
       rw [this,hT] at hii
       exact hii
     refine enter hg ⟨.tuple #[.bool true,x.key,x.val],w',by rw [hev]; exact r7,?_⟩
     refine hk (.go e' S') q2 cx _ w' k1 k2 (iG.put (e:=(t,.it k (g + 1) (some id) since (seen ++ [p.2.2]) M.clk) :: e) ?_ hp ?_) (put_defers _ _ _)
     ·
      refine ⟨he.size,fun t' x' hx'=>?_⟩
      rw [AL.gm] at hx'
      by_cases q:t=t'
      ·
       subst q
       rw [if_pos rfl] at hx'
       cases hx'
       refine ⟨_,h1,.it k (g + 1) id since M.clk b m _ ⟨by rw [hnx]; exact hn.1,fun g' hg'=>by rw [hcurk] at hg'; cases hg'; exact Nat.le_refl _⟩ (hni.mono k2) (fun hcur=>?_) (fun _=>⟨hbk,hfk,fun ii hii hf=>honly ii (hlive ii hii) hf,hw2⟩)⟩
       exact hm
      ·
       rw [if_neg q] at hx'
       obtain ⟨v,v1,v2⟩:=he.rel t' x' hx'
       exact ⟨v,v1,v2.mono k2⟩
     ·
      obtain ⟨d1,d2⟩:=c5 j p x p1 p2
      refine .tup [.d (.bool true),.d p.1,p.2.1] [.bool true,x.key,x.val] rfl (fun j' x' u' hx' hu'=>?_)
      match j',hx',hu' with
      | 0,hx',hu'=>simp at hx' hu'; subst hx'; subst hu'; exact .of_bool _
      | 1,hx',hu'=>simp at hx' hu'; subst hx'; subst hu'; exact .d _ _ (d1.mono k2.prot)
      | 2,hx',hu'=>simp at hx' hu'; subst hx'; subst hu'; exact d2.mono k2
   ·
    cases hs
  ·
   cases hs
 ·
  cases hs
end
end Go.Ev

namespace Go.Ev
noncomputable section
set_option linter.unusedVariables false
set_option linter.unusedSimpArgs false
theorem AL.zD {α:Type}:∀ {l:AL α} {k:Nat},AL.has l k=true→∃ v,AL.get l k=some v
 | [],k,h=>by cases h
 | (a,x) :: l,k,h=>by
  simp only [AL.has] at h
  rw [AL.gm]
  by_cases hk:a=k
  ·
   exact ⟨x,by rw [if_pos hk]⟩
  ·
   have:Nat.beq a k=false:=by
    cases hb:Nat.beq a k
    ·
     rfl
    ·
     exact absurd (Nat.eq_of_beq_eq_true hb) hk
   rw [this] at h
   obtain ⟨v,hv⟩:=AL.zD h
   exact ⟨v,by rw [if_neg hk]; exact hv⟩
section
variable {R:bO} {cx cx0:Cx} {S S' S0:St} {w w0:World} {n0:Nat} {l:AL Nat}
end
end
end Go.Ev

namespace Go.Ev
noncomputable section
set_option linter.unusedVariables false
set_option linter.unusedSimpArgs false
end
end Go.Ev

namespace Go.Ev
noncomputable section
set_option linter.unusedVariables false
set_option linter.unusedSimpArgs false
theorem qp (n j:Nat):(Array.replicate n false).getD j false=false:=by
 unfold Array.getD; split <;> simp
def Fin (R:bO) (cx:Cx) (S:St) (w:World) (nt:Nat) (a:Act) (Q:Exit→Act→World→Prop) (r:M7 × Env × St):Prop :=
 match r.1 with
 | .normal=>∀ cx' a' w',bg R cx' r.2.2 w'→Ext cx S w cx' r.2.2 w'→iG cx' r.2.2 w' nt r.2.1 a'→a'.defers=a.defers→Q .normal a' w'
 | .exit id=>∀ cx' a' w',bg R cx' r.2.2 w'→Ext cx S w cx' r.2.2 w'→iG cx' r.2.2 w' nt r.2.1 a'→a'.defers=a.defers→Q (.exit id) a' w'
 | .ret=>∀ cx' a' w',bg R cx' r.2.2 w'→Ext cx S w cx' r.2.2 w'→iG cx' r.2.2 w' nt r.2.1 a'→a'.defers=a.defers→Q .ret a' w'
 | .panic v=>∀ cx' a' w' u,bg R cx' r.2.2 w'→Ext cx S w cx' r.2.2 w'→aO cx' r.2.2 w' v u→a'.defers=a.defers→Q (.panic [{ v:=u,recovered:=false }]) a' w'
theorem Fin.trans {R:bO} {cx cx1:Cx} {S S1:St} {w w1:World} {nt:Nat} {a a1:Act} {Q:Exit→Act→World→Prop} {r:M7 × Env × St} (x:Ext cx S w cx1 S1 w1) (d:a1.defers=a.defers) (h:Fin R cx S w nt a Q r):Fin R cx1 S1 w1 nt a1 Q r:=by
 unfold Fin at *
 split at h
 ·
  exact fun cx' a' w' q1 q2 q3 q4=>h cx' a' w' q1 (x.trans q2) q3 (q4.trans d)
 ·
  exact fun cx' a' w' q1 q2 q3 q4=>h cx' a' w' q1 (x.trans q2) q3 (q4.trans d)
 ·
  exact fun cx' a' w' q1 q2 q3 q4=>h cx' a' w' q1 (x.trans q2) q3 (q4.trans d)
 ·
  exact fun cx' a' w' u q1 q2 q3 q4=>h cx' a' w' u q1 (x.trans q2) q3 (q4.trans d)
def codeOk:Code→Bool
 | .region _ ops draw=>!draw || oD ops
 | .seq a b=>codeOk a && codeOk b
 | .cond _ a b=>codeOk a && codeOk b
 | .block _ a=>codeOk a
 | .loop a=>codeOk a
 | _=>true
end
end Go.Ev

namespace Go.Ev
noncomputable section
set_option linter.unusedVariables false
set_option linter.unusedSimpArgs false
theorem Ad:∀ (l:List AV) (k t:Nat),AL.get (sH k l) t=if k ≤ t then l[t - k]? else none
 | [],k,t=>by simp [sH,AL.get]
 | v :: l,k,t=>by
  simp only [sH]
  rw [AL.gm,Ad l (k + 1) t]
  by_cases h:k=t
  ·
   subst h; simp
  ·
   by_cases h2:k ≤ t
   ·
    rw [if_neg h,if_pos (by omega),if_pos h2,show t - k=(t - (k + 1)) + 1 by omega]; simp
   ·
    rw [if_neg h,if_neg (by omega),if_neg h2]
def wR (tmps:Array Value):ResultVar→Sem Value
 | .tmp t=>pure (tmps.getD t undef)
 | .cell b t=>do loadVar t (← asAddr (tmps.getD b undef))
theorem G7 {R:bO} {C:eT} {cx:Cx} {S:St} {w:World} (hS:bg R cx S w) {nt:Nat} {e:Env} {a:Act} (he:iG cx S w nt e a) {rv:ResultVar} {v:AV} (h:zh C e S rv=some v) :
  ∃ u,(wR a.tmps rv).run C.P w=.ok u w∧aO cx S w v u:=by
 cases rv with
 | tmp t =>
  simp only [zh] at h
  obtain ⟨u,h1,h2⟩:=he.rel t v h
  exact ⟨u,by simp [wR,h1],h2⟩
 | cell b t =>
  simp only [zh] at h
  split at h
  ·
   rename_i p hp
   obtain ⟨u,h1,h2⟩:=he.rel b p hp
   obtain ⟨z,z1,z2⟩:=zo (C:=C) hS h h2
   refine ⟨z,?_,z2⟩
   have hu:a.tmps.getD b undef=u:=by simp [h1]
   simp only [wR,hu]
   unfold kT at h
   cases h2 with
   | ptr id g off bb hn hq=>simp only [asAddr,Sem.run_bind,Sem.run_pure,Result.andThen_ok]; rw [qQ] at z1; exact z1
   | eptr x off bb o vs hc hm=>simp only [asAddr,Sem.run_bind,Sem.run_pure,Result.andThen_ok]; rw [qQ] at z1; exact z1
   | _=>simp at h
  ·
   cases h
theorem uw {R:bO} {C:eT} {cx:Cx} {S:St} {w:World} (hS:bg R cx S w) {nt:Nat} {e:Env} {a:Act} (he:iG cx S w nt e a) {fn:Func} {v:AV} (h:mW C fn e S=some v) :
  ∃ u,(results fn a.tmps).run C.P w=.ok u w∧aO cx S w v u:=by
 unfold mW at h
 have key:∀ {l:List ResultVar} {vs:List AV},fV (zh C e S) l=some vs→∃ us:List Value,us.length=vs.length∧(l.mapM (wR a.tmps)).run C.P w=.ok us w∧∀ (i:Nat) (x:AV) (u:Value),vs[i]? = some x→us[i]? = some u→aO cx S w x u:=by
  intro l
  induction l with
  | nil=>intro vs h; simp [fV] at h; subst h; exact ⟨[],rfl,by simp,by simp⟩
  | cons rv l ih =>
   intro vs h
   simp only [fV] at h
   split at h
   ·
    rename_i y hy
    simp only [Option.map_eq_some_iff] at h
    obtain ⟨ys,hys,rfl⟩:=h
    obtain ⟨us,u1,u2,u3⟩:=ih hys
    obtain ⟨u,r1,r2⟩:=G7 hS he hy
    refine ⟨u :: us,by simp [u1],?_,fun i x z hx hz=>?_⟩
    ·
     rw [List.mapM_cons]
     simp only [Sem.run_bind]
     rw [r1]
     simp only [Result.andThen_ok]
     rw [u2]
     rfl
    ·
     cases i with
     | zero=>simp at hx hz; subst hx; subst hz; exact r2
     | succ i=>exact u3 i x z (by simpa using hx) (by simpa using hz)
   ·
    cases h
 have run:∀ {us:List Value},(fn.results.toList.mapM (wR a.tmps)).run C.P w=.ok us w→(results fn a.tmps).run C.P w=.ok (if h:us.toArray.size=1 then us.toArray[0] else .tuple us.toArray) w:=by
  intro us hu
  have hres:results fn a.tmps=(do let vs ← fn.results.mapM (wR a.tmps); pure (if h:vs.size=1 then vs[0] else .tuple vs)):=rfl
  rw [hres,Array.mapM_eq_mapM_toList]
  simp only [Sem.run_bind,Sem.run_map,hu,Result.andThen_ok]
  rfl
 split at h
 ·
  rename_i x hx
  simp only [Option.some.injEq] at h; subst h
  obtain ⟨us,u1,u2,u3⟩:=key hx
  match us,u1 with
  | [u],_=>exact ⟨u,by rw [run u2]; rfl,u3 0 x u rfl rfl⟩
 ·
  rename_i vs hne hx
  simp only [Option.some.injEq] at h; subst h
  obtain ⟨us,u1,u2,u3⟩:=key hx
  refine ⟨.tuple us.toArray,?_,.tup vs us u1 u3⟩
  rw [run u2,dif_neg]
  intro q
  simp at q
  rw [u1] at q
  match vs,q with
  | [x],_=>exact hne x rfl
 ·
  cases h
theorem Ey {R:bO} {cx:Cx} {S:St} {w:World} (h:bg R cx S w):bg R cx aK w where
 wf:=fun id hl=>absurd rfl hl
 uf:=fun id b hb=>by simp [aK,AL.get] at hb
 cells:=fun id g cs hb=>by simp [aK,AL.get] at hb
 maps:=fun id es hb=>by simp [aK,AL.get] at hb
 objs:=fun id k x hb=>by simp [aK,AL.get] at hb
 toks:=fun id en hb=>by simp [aK,AL.get] at hb
 sep:=fun id id' b hl=>absurd rfl hl
 stat:=h.stat
 lt:=h.lt
theorem Br {R:bO} (hR:ObjOk R) {cx cx1:Cx} {S S1:St} {w w1:World} (h:bg R cx S w) (e:Ext cx aK w cx1 S1 w1) :
  bg R cx S w1∧Ext cx S w cx S w1∧∀ x v,bL w1 cx1.fr x v→bL w1 cx.fr x v:=by
 have hb:∀ b,b < w.heap.size→w1.heap[b]? = w.heap[b]?∧∀ o,(cx1.fr b o↔cx.fr b o):=fun b hb=>e.other b hb (fun id hl=>absurd rfl hl)
 have ex:Ext cx S w cx S w1:=Ext.old h e.size (fun b q=>(hb b q).1) e.os e.tape e.output
 refine ⟨bg.old hR h e.size (fun b q=>(hb b q).1) ex,ex,fun x v hd=>hd.mono (fun b o v hf hc=>⟨hc,fun q=>?_⟩)⟩
 have hlt:=h.lt b o q
 exact hf (((hb b hlt).2 o).2 q)
theorem EF {cx cx':Cx} {S S':St} {w w':World} {v v':AV} {u:Value} (hv:yQ v=some v') (h:aO cx S w v u) (hd:∀ x z,bL w cx.fr x z→bL w' cx'.fr x z):aO cx' S' w' v' u:=by
 unfold yQ at hv
 split at hv
 ·
  rename_i vs
  simp only [Option.map_eq_some_iff] at hv
  obtain ⟨xs,hxs,rfl⟩:=hv
  obtain ⟨x1,x2⟩:=Bj hxs
  cases h with
  | tup _ us' hl' hr' =>
   refine .tup _ us' (by simp [hl',x1]) (fun i x z hx hz=>?_)
   simp only [List.getElem?_map,Option.map_eq_some_iff] at hx
   obtain ⟨y,hy,rfl⟩:=hx
   have hlt:i < vs.length:=by rw [← x1]; exact (List.getElem?_eq_some_iff.1 hy).1
   have ha:=List.getElem?_eq_getElem hlt
   exact .d y z (hd _ _ (qB (x2 i _ y ha hy) (hr' i _ z ha hz)))
 ·
  simp only [Option.map_eq_some_iff] at hv
  obtain ⟨x,hx,rfl⟩:=hv
  exact .d x u (hd _ _ (qB hx h))
theorem JX {h:Af} {f:Nat} {args:List AV} {S:St} {r:Out} (hd:xg h f args S=some r):h f args S=some [r]:=by
 unfold xg at hd
 split at hd
 ·
  rename_i r' hr
  simp only [Option.some.injEq] at hd
  subst hd
  exact hr
 ·
  cases hd
end
end Go.Ev

namespace Go.Ev
noncomputable section
set_option linter.unusedVariables false
set_option linter.unusedSimpArgs false
variable {R:bO} {C:eT}
def iE (R:bO) (P:Program) (f:Nat) (args:List AV) (S:St) (Q:Out→Prop):Prop :=
 (∃ fn,P.funcs[f]? = some fn∧fn.body.isSome=true∧fn.name ≠ "runtime.NumGoroutine") ∧
 ∀ cx w (us:List Value),bg R cx S w→us.length=args.length→(∀ (i:Nat) (x:AV) (u:Value),args[i]? = some x→us[i]? = some u→aO cx S w x u) →
  Calls P f us.toArray w (fun e w'=>∃ r,Q r∧∃ cx',bg R cx' r.2.2 w'∧Ext cx S w cx' r.2.2 w'∧A8 cx' r.2.2 w' r.1 r.2.1 e)
theorem iE.mono {P:Program} {f:Nat} {args:List AV} {S:St} {Q Q':Out→Prop} (h:iE R P f args S Q) (hq:∀ r,Q r→Q' r):iE R P f args S Q' :=
 ⟨h.1,fun cx w us h1 h2 h3=>(h.2 cx w us h1 h2 h3).mono fun e w' ⟨r,q,k⟩=>⟨r,hq r q,k⟩⟩
def aC (R:bO) (P:Program) (nt:Nat) (c:Code) (e:Env) (S:St) (Q:u6→Prop):Prop :=
 ∀ (cx:Cx) (w:World) (a:Act) (K:Exit→Act→World→Prop),bg R cx S w→iG cx S w nt e a→(∀ r,Q r→Fin R cx S w nt a K r)→c.wp P K a w
def qd (R:bO) (P:Program) (nt:Nat) (c:Code) (e:Env) (S:St) (Q:u6→Prop):Prop :=
 ∀ (cx:Cx) (w:World) (a:Act) (K:Exit→Act→World→Prop),bg R cx S w→iG cx S w nt e a→(∀ r,Q r→Fin R cx S w nt a K r) →
  ∀ (b:Frame) (k:List Go.Item) (cs:List Frame),∃ x a' w',K x a' w'∧Arrives P (lone (b.at a (.code c :: .inLoop c :: k)) cs w) b k cs x a' w'
variable {P:Program} {nt:Nat}
theorem aC.mono {c:Code} {e:Env} {S:St} {Q Q':u6→Prop} (h:aC R P nt c e S Q) (hq:∀ r,Q r→Q' r):aC R P nt c e S Q' :=
 fun cx w a K h1 h2 h3=>h cx w a K h1 h2 (fun r q=>h3 r (hq r q))
theorem aC.skip {e:Env} {S:St} {Q:u6→Prop} (h:Q (.normal,e,S)):aC R P nt .skip e S Q :=
 fun cx w a K h1 h2 h3=>wp_skip (h3 _ h cx a w h1 (Ext.refl w h1.wf) h2 rfl)
theorem aC.exit {id:Nat} {e:Env} {S:St} {Q:u6→Prop} (h:Q (.exit id,e,S)):aC R P nt (.exit id) e S Q :=
 fun cx w a K h1 h2 h3=>wp_exit (h3 _ h cx a w h1 (Ext.refl w h1.wf) h2 rfl)
theorem aC.ret {e:Env} {S:St} {Q:u6→Prop} (h:Q (.ret,e,S)):aC R P nt .ret e S Q :=
 fun cx w a K h1 h2 h3=>wp_ret (h3 _ h cx a w h1 (Ext.refl w h1.wf) h2 rfl)
def Eg (k:Env→St→Prop) (Q:u6→Prop):u6→Prop
 | (.normal,e,S)=>k e S
 | r=>Q r
theorem aC.seq {x y:Code} {e:Env} {S:St} {Q:u6→Prop} (h:aC R P nt x e S (Eg (fun e' S'=>aC R P nt y e' S' Q) Q)):aC R P nt (.seq x y) e S Q:=by
 intro cx w a K h1 h2 h3
 refine wp_seq (h cx w a _ h1 h2 (fun r hr=>?_))
 obtain ⟨x1,e',S'⟩:=r
 cases x1 with
 | normal =>
  intro cx' a' w' q1 q2 q3 q4
  exact hr cx' w' a' K q1 q3 (fun r q=>(h3 r q).trans q2 q4)
 | exit id=>exact h3 _ hr
 | ret=>exact h3 _ hr
 | panic v=>exact h3 _ hr
theorem aC.cond {c:Operand} {x y:Code} {e:Env} {S:St} {Q:u6→Prop} {b:Bool} (hc:bB e c=some (.d (.bool b))) (h1:b=true→aC R P nt x e S Q) (h2:b=false→aC R P nt y e S Q):aC R P nt (.cond c x y) e S Q:=by
 intro cx w a K hS he hk
 cases b with
 | true=>exact wp_cond_true ((he.eval c _ hc).bool) (h1 rfl cx w a K hS he hk)
 | false=>exact wp_cond_false ((he.eval c _ hc).bool) (h2 rfl cx w a K hS he hk)
def Jq (id:Nat) (Q:u6→Prop):u6→Prop
 | (.exit j,e,S)=>bif Nat.beq j id then Q (.normal,e,S) else Q (.exit j,e,S)
 | r=>Q r
theorem aC.block {id:Nat} {c:Code} {e:Env} {S:St} {Q:u6→Prop} (h:aC R P nt c e S (Jq id Q)):aC R P nt (.block id c) e S Q:=by
 intro cx w a K h1 h2 h3
 refine wp_block (h cx w a _ h1 h2 (fun r hr=>?_))
 obtain ⟨x1,e',S'⟩:=r
 cases x1 with
 | normal=>exact h3 _ hr
 | exit j =>
  simp only [Jq] at hr
  by_cases hj:j=id
  ·
   have hb:Nat.beq j id=true:=by rw [hj]; exact Nat.beq_refl id
   rw [hb] at hr
   intro cx' a' w' q1 q2 q3 q4
   simp only [Exit.inBlock,if_pos hj]
   exact h3 _ hr cx' a' w' q1 q2 q3 q4
  ·
   have hb:Nat.beq j id=false:=by
    cases hb:Nat.beq j id
    ·
     rfl
    ·
     exact absurd (Nat.eq_of_beq_eq_true hb) hj
   rw [hb] at hr
   intro cx' a' w' q1 q2 q3 q4
   simp only [Exit.inBlock,if_neg hj]
   exact h3 _ hr cx' a' w' q1 q2 q3 q4
 | ret=>exact h3 _ hr
 | panic v=>exact h3 _ hr
theorem aC.loop {c:Code} {e:Env} {S:St} {Q:u6→Prop} (h:qd R P nt c e S Q):aC R P nt (.loop c) e S Q:=by
 intro cx w a K h1 h2 h3 b k cs
 obtain ⟨x,a',w',q,harr⟩:=h cx w a K h1 h2 h3 b k cs
 exact ⟨x,a',w',q,.of_steps (.one step_loop) harr⟩
theorem qd.round {c:Code} {e:Env} {S:St} {Q:u6→Prop} (h:aC R P nt c e S (Eg (fun e' S'=>qd R P nt c e' S' Q) Q)):qd R P nt c e S Q:=by
 intro cx w a K hS he hk b k cs
 let K':Exit→Act→World→Prop:=fun x a' w'=>match x with
  | .normal=>∃ cx1 e1 S1,bg R cx1 S1 w'∧iG cx1 S1 w' nt e1 a'∧Ext cx S w cx1 S1 w'∧a'.defers=a.defers∧qd R P nt c e1 S1 Q
  | x=>K x a' w'
 have hround:c.wp P K' a w:=by
  refine h cx w a K' hS he (fun r hr=>?_)
  obtain ⟨x,e',S'⟩:=r
  cases x with
  | normal=>exact fun cx' a' w' q1 q2 q3 q4=>⟨cx',e',S',q1,q3,q2,q4,hr⟩
  | exit id=>exact hk _ hr
  | ret=>exact hk _ hr
  | panic v=>exact hk _ hr
 obtain ⟨x,a₁,w₁,hq,harr⟩:=hround b (.inLoop c :: k) cs
 cases x with
 | normal =>
  obtain ⟨cx1,e1,S1,s1,er1,x1,d1,hl⟩:=hq
  obtain ⟨x2,a₂,w₂,hq₂,harr₂⟩:=hl cx1 w₁ a₁ K s1 er1 (fun r hr=>(hk r hr).trans x1 d1) b k cs
  exact ⟨x2,a₂,w₂,hq₂,.of_steps (Steps.trans harr (.one step_inLoop)) harr₂⟩
 | exit id=>exact ⟨_,a₁,w₁,hq,.pass (x:=.inLoop c) rfl (fun _ _=>.inl (by simp)) harr⟩
 | goto l=>exact ⟨_,a₁,w₁,hq,.pass (x:=.inLoop c) rfl (fun _ _=>.inl (by simp)) harr⟩
 | ret=>exact ⟨_,a₁,w₁,hq,.pass (x:=.inLoop c) rfl (fun _ _=>.inl (by simp)) harr⟩
 | panic ch=>exact ⟨_,a₁,w₁,hq,.pass (x:=.inLoop c) rfl (fun _ _=>.inl (by simp)) harr⟩
 | outgrown=>exact ⟨_,a₁,w₁,hq,.pass (x:=.inLoop c) rfl (fun _ _=>.inl (by simp)) harr⟩
def Less (y x:AV):Prop:=∀ (cx:Cx) (S:St) (w:World) (v:Value),aO cx S w x v→aO cx S w y v
theorem Less.refl (x:AV):Less x x:=fun _ _ _ _ h=>h
theorem Less.trans {x y z:AV} (a:Less z y) (b:Less y x):Less z x:=fun cx S w v h=>a cx S w v (b cx S w v h)
def ai (e2 e:Env):Prop:=∀ t x,AL.get e2 t=some x→∃ y,AL.get e t=some y∧Less x y
theorem ai.refl (e:Env):ai e e:=fun _ x h=>⟨x,h,.refl x⟩
theorem ai.trans {e1 e2 e3:Env} (a:ai e1 e2) (b:ai e2 e3):ai e1 e3:=fun t x h=>by
 obtain ⟨y,h1,h2⟩:=a t x h
 obtain ⟨z,h3,h4⟩:=b t y h1
 exact ⟨z,h3,h2.trans h4⟩
theorem ai.top {e:Env} {t:Nat} {x y:AV} (h:Less y x):ai ((t,y) :: e) ((t,x) :: e):=fun u z hz=>by
 rw [AL.gm] at hz ⊢
 by_cases hu:t=u
 ·
  rw [if_pos hu] at hz ⊢; cases hz; exact ⟨x,rfl,h⟩
 ·
  rw [if_neg hu] at hz ⊢; exact ⟨z,hz,.refl z⟩
theorem ai.nil {e:Env}:ai [] e:=fun _ _ h=>by simp [AL.get] at h
theorem ai.cons {t:Nat} {x y:AV} {e2 e:Env} (h:AL.get e t=some y) (hl:Less x y) (k:ai e2 e):ai ((t,x) :: e2) e:=fun u z hz=>by
 rw [AL.gm] at hz
 by_cases hu:t=u
 ·
  subst hu; rw [if_pos rfl] at hz; cases hz; exact ⟨y,h,hl⟩
 ·
  rw [if_neg hu] at hz; exact k u z hz
theorem iG.weak {cx:Cx} {S:St} {w:World} {e2 e:Env} {a:Act} (h:iG cx S w nt e a) (s:ai e2 e):iG cx S w nt e2 a :=
 ⟨h.size,fun t x hx=>by
  obtain ⟨y,h1,h2⟩:=s t x hx
  obtain ⟨v,v1,v2⟩:=h.rel t y h1
  exact ⟨v,v1,h2 _ _ _ _ v2⟩⟩
theorem aC.weak {c:Code} {e2 e:Env} {S:St} {Q:u6→Prop} (s:ai e2 e) (h:aC R P nt c e2 S Q):aC R P nt c e S Q :=
 fun cx w a K h1 h2 h3=>h cx w a K h1 (h2.weak s) h3
theorem qd.weak {c:Code} {e2 e:Env} {S:St} {Q:u6→Prop} (s:ai e2 e) (h:qd R P nt c e2 S Q):qd R P nt c e S Q :=
 fun cx w a K h1 h2 h3=>h cx w a K h1 (h2.weak s) h3
def Dy (R:bO) (C:eT) (nt:Nat) (dst:Option Nat) (op:Op) (e:Env) (S:St) (Q:Stp→Prop):Prop :=
 (∃ v S' e',oper C (bB e) S op=some (.val v S')∧e.put nt dst v=some e'∧Q (.go e' S')) ∨
 (∃ S',oper C (bB e) S op=some (.skip S')∧dst=none∧Q (.go e S')) ∨
 (∃ f args,oper C (bB e) S op=some (.call f args)∧iE R C.P f args S (fun r=>match r with
  | (none,v,S')=>∃ e',e.put nt dst v=some e'∧Q (.go e' S')
  | (some p,_,S')=>Q (.stop p S'))) ∨
 (∃ t x y ty xs b el,op=.binOp .eql t x y ty∧bB e x=some (.d (.sl xs b))∧bB e y=some (.d .aS)∧C.P.underlying t=some (.slice el) ∧
  ∀ bb:Bool,(bb=true→xs=[])→∃ e',e.put nt dst (.d (.bool bb))=some e'∧Q (.go e' S))
theorem Dy.mono {dst:Option Nat} {op:Op} {e:Env} {S:St} {Q Q':Stp→Prop} (h:Dy R C nt dst op e S Q) (hq:∀ r,Q r→Q' r):Dy R C nt dst op e S Q':=by
 rcases h with ⟨v,S',e',h1,h2,h3⟩ | ⟨S',h1,h2,h3⟩ | ⟨f,args,h1,h2⟩ | ⟨t,x,y,ty,xs,b,el,h1,h2,h3,h4,h5⟩
 ·
  exact .inl ⟨v,S',e',h1,h2,hq _ h3⟩
 ·
  exact .inr (.inl ⟨S',h1,h2,hq _ h3⟩)
 ·
  exact .inr (.inr (.inl ⟨f,args,h1,h2.mono fun r hr=>by
   obtain ⟨p,v,S'⟩:=r
   cases p with
   | none=>obtain ⟨e',a,b⟩:=hr; exact ⟨e',a,hq _ b⟩
   | some p=>exact hq _ hr⟩))
 ·
  exact .inr (.inr (.inr ⟨t,x,y,ty,xs,b,el,h1,h2,h3,h4,fun bb hb=>let ⟨e',a,c⟩:=h5 bb hb; ⟨e',a,hq _ c⟩⟩))
theorem DJ {w:World} {fr:Nat→Nat→Prop} {xs:List D} {b:Bool} {v:Value} (h:bL w fr (.sl xs b) v):∃ a n c,v=.slice a n c∧(a=none→xs=[]):=by
 have h1:=h.val rfl
 cases h1 with
 | sl0 a cap _ _=>exact ⟨a,0,cap,rfl,fun _=>rfl⟩
 | sl _ _ b off cap sz vs hne hcap ht hsz hlen hx hc=>exact ⟨_,_,_,rfl,fun h=>by cases h⟩
def wC (R:bO) (C:eT) (nt:Nat) (ops:Array Oper) (o:Oper) (e:Env) (S:St) (Q:Stp→Prop):Prop :=
 (∃ t rs,o.op=.next (.tmp t) false∧Gi nt o t e S=some rs∧∀ r ∈ rs,Q r) ∨
 (∃ e2,ai e2 e∧bC ops e o=some true∧Dy R C nt o.dst o.op e2 S Q) ∨
 (∃ e2 e',ai e2 e∧bC ops e o=some false∧(match o.dst with | none=>e'=e2 | some t=>e2.put nt (some t) (.tup [])=some e')∧Q (.go e' S))
theorem wC.mono {ops:Array Oper} {o:Oper} {e:Env} {S:St} {Q Q':Stp→Prop} (h:wC R C nt ops o e S Q) (hq:∀ r,Q r→Q' r):wC R C nt ops o e S Q':=by
 rcases h with ⟨t,rs,h1,h2,h3⟩ | ⟨e2,h1,h2,h3⟩ | ⟨e2,e',h1,h2,h3,h4⟩
 ·
  exact .inl ⟨t,rs,h1,h2,fun r hr=>hq r (h3 r hr)⟩
 ·
  exact .inr (.inl ⟨e2,h1,h2,h3.mono hq⟩)
 ·
  exact .inr (.inr ⟨e2,e',h1,h2,h3,hq _ h4⟩)
theorem Cu (hR:kG R C) {ops:Array Oper} {o:Oper} {e:Env} {S:St} {Q:Stp→Prop} (h:wC R C nt ops o e S Q) {cx:Cx} {w:World} {a:Act} (hS:bg R cx S w) (he:iG cx S w nt e a)
  {K:Act→World→Prop} {Kx:Exit→Act→World→Prop} (hk:∀ r,Q r→After R cx S w nt a K Kx r) {i:Nat} (hi:ops[i]? = some o):wpOp C.P ops Kx i K a w:=by
 have hrefl:=Ext.refl (cx:=cx) w hS.wf
 rcases h with ⟨t,rs,h1,h2,h3⟩ | ⟨e2,hw,h1,h2⟩ | ⟨e2,e',hw,h1,h2,h3⟩
 ·
  exact Fe hR h1 h2 hS he (fun r hr=>hk r (h3 r hr)) hi
 ·
  have he2:=he.weak hw
  unfold wpOp
  rw [hi]
  simp only
  rw [if_pos (eU he h1)]
  left
  rcases h2 with ⟨v,S',e',h1,h2,h3⟩ | ⟨S',h1,h2,h3⟩ | ⟨f,args,h1,h2⟩ | ⟨t,x,y,ty,xs,b,el,hop,hx,hy,hu,hq⟩
  rotate_left 3
  ·
   have rx:=he2.eval x _ hx
   have ry:=he2.eval y _ hy
   obtain ⟨a0,n,c,ex,hnil⟩:=DJ rx.dd
   have ey:a.eval y=.slice none 0 0:=by
    have:=ry.dd.val rfl
    generalize a.eval y=z at this
    cases this
    rfl
   have hrun:(execOp a.eval o).run C.P w=.ok (.value (.bool a0.isNone)) w:=by
    obtain ⟨dst,op,ty',pos,after,guard⟩:=o
    simp only at hop
    subst hop
    exact rQ (by
     rw [ex,ey]
     have hg:(eqGuard .eql t x y (.slice a0 n c) (.slice none 0 0)).run C.P w=.ok () w:=gZ rfl
     simp only [Sem.run_bind,hg,Result.andThen_ok]
     exact Lib.run_eql_slice_nil w t el a0 n c 0 0 hu)
   obtain ⟨e',hp,hk'⟩:=hq a0.isNone (fun h=>hnil (by cases a0 with | none=>rfl | some a=>cases h))
   unfold Oper.wp
   rw [hrun]
   exact hk _ hk' cx _ w hS hrefl (he2.put hp (.of_bool _)) (put_defers _ _ _)
  ·
   obtain ⟨cx',w',u,k1,k2,k3,k4⟩:=fP hR hS he2.eval o h1
   unfold Oper.wp
   rw [k1]
   exact hk _ h3 cx' _ w' k2 k3 ((he2.mono k3).put h2 k4) (put_defers _ _ _)
  ·
   obtain ⟨cx',w',k1,k2,k3⟩:=fP hR hS he2.eval o h1
   unfold Oper.wp
   rw [k1]
   show K (a.put o.dst undef) w'
   rw [h2]
   exact hk _ h3 cx' _ w' k2 k3 (he2.mono k3) rfl
  ·
   obtain ⟨us,k1,k2,k3⟩:=fP hR hS he2.eval o h1
   obtain ⟨⟨fn,f1,f2,f3⟩,hcalls⟩:=h2
   unfold Oper.wp
   rw [k3 fn f1 f2 f3]
   refine (hcalls cx w us hS k1 k2).mono (fun en w' hen=>?_)
   obtain ⟨⟨p,v,S'⟩,hq,cx',m1,m2,m3⟩:=hen
   cases p with
   | none =>
    obtain ⟨u,rfl,m3⟩:=m3
    obtain ⟨e',hp,hq⟩:=hq
    exact hk _ hq cx' _ w' m1 m2 ((he2.mono m2).put hp m3) (put_defers _ _ _)
   | some p =>
    obtain ⟨u,rfl,m3⟩:=m3
    exact hk _ hq cx' w' u m1 m2 m3
 ·
  have he2:=he.weak hw
  unfold wpOp
  rw [hi]
  simp only
  rw [if_neg (by rw [eU he h1]; simp)]
  split at h2
  ·
   rename_i hd
   subst h2
   rw [hd]
   exact hk _ h3 cx _ w hS hrefl he2 rfl
  ·
   rename_i t hd
   rw [hd]
   exact hk _ h3 cx _ w hS hrefl (he2.put h2 (.tup [] [] rfl (fun i x v hx=>by simp at hx))) (put_defers _ _ _)
def ou (R:bO) (nt:Nat) (e:Env) (S:St) (e2:Env) (S2:St):Prop :=
 ∀ cx w a,bg R cx S w→iG cx S w nt e a→∃ cx2,bg R cx2 S2 w∧Ext cx S w cx2 S2 w∧iG cx2 S2 w nt e2 a
theorem ou.refl (e:Env) (S:St):ou R nt e S e S:=fun cx w a h1 h2=>⟨cx,h1,Ext.refl w h1.wf,h2⟩
theorem ou.weak {e2 e:Env} (S:St) (s:ai e2 e):ou R nt e S e2 S:=fun cx w a h1 h2=>⟨cx,h1,Ext.refl w h1.wf,h2.weak s⟩
theorem ou.trans {e1 e2 e3:Env} {S1 S2 S3:St} (a:ou R nt e1 S1 e2 S2) (b:ou R nt e2 S2 e3 S3):ou R nt e1 S1 e3 S3:=fun cx w ac h1 h2=>by
 obtain ⟨c2,q1,q2,q3⟩:=a cx w ac h1 h2
 obtain ⟨c3,r1,r2,r3⟩:=b c2 w ac q1 q3
 exact ⟨c3,r1,q2.trans r2,r3⟩
def aj (R:bO) (C:eT) (nt:Nat) (ops:Array Oper):List Oper→Env→St→(Stp→Prop)→Prop
 | [],e,S,Q=>∃ e2,ai e2 e∧Q (.go e2 S)
 | o :: rest,e,S,Q=>∃ e2 S2,ou R nt e S e2 S2∧wC R C nt ops o e2 S2 (fun r=>match r with
  | .go e' S'=>aj R C nt ops rest e' S' Q
  | .stop v S'=>Q (.stop v S'))
theorem aj.weak {ops:Array Oper} {l:List Oper} {e2 e:Env} {S:St} {Q:Stp→Prop} (s:ai e2 e) (h:aj R C nt ops l e2 S Q):aj R C nt ops l e S Q:=by
 cases l with
 | nil=>obtain ⟨e3,h1,h2⟩:=h; exact ⟨e3,h1.trans s,h2⟩
 | cons o l=>obtain ⟨e3,S3,h1,h2⟩:=h; exact ⟨e3,S3,(ou.weak S s).trans h1,h2⟩
theorem AU (hR:kG R C) {ops:Array Oper} {Kx:Exit→Act→World→Prop}:∀ (l:List Oper) (k:Nat) {cx:Cx} {S:St} {w:World} {e:Env} {a:Act} {Q:Stp→Prop},
  (∀ j,l[j]? = ops[k + j]?)→aj R C nt ops l e S Q→bg R cx S w→iG cx S w nt e a →
  (∀ r,Q r→match r with
   | .go e' S'=>∀ cx' a' w',bg R cx' S' w'→Ext cx S w cx' S' w'→iG cx' S' w' nt e' a'→a'.defers=a.defers→Kx .normal a' w'
   | .stop v S'=>∀ cx' a' w' u,bg R cx' S' w'→Ext cx S w cx' S' w'→aO cx' S' w' v u→a'.defers=a.defers→Kx (.panic [{ v:=u,recovered:=false }]) a' w') →
  wpOps C.P ops Kx ((List.range l.length).map (k + ·)) a w
 | [],k,cx,S,w,e,a,Q,hl,⟨e2,hs,hev⟩,hS,he,hk=>hk (.go e2 S) hev cx a w hS (Ext.refl w hS.wf) (he.weak hs) rfl
 | o :: l,k,cx,S,w,e,a,Q,hl,⟨e2,S2,hs,hev⟩,hS,he,hk=>by
  obtain ⟨c2,hS,x0,he⟩:=hs cx w a hS he
  replace hk:∀ r,Q r→match r with
   | .go e' S'=>∀ cx' a' w',bg R cx' S' w'→Ext c2 S2 w cx' S' w'→iG cx' S' w' nt e' a'→a'.defers=a.defers→Kx .normal a' w'
   | .stop v S'=>∀ cx' a' w' u,bg R cx' S' w'→Ext c2 S2 w cx' S' w'→aO cx' S' w' v u→a'.defers=a.defers→Kx (.panic [{ v:=u,recovered:=false }]) a' w':=fun r hr=>by
   have hk:=hk r hr
   cases r with
   | go e' S'=>exact fun cx' a' w' q1 q2 q3 q4=>hk cx' a' w' q1 (x0.trans q2) q3 q4
   | stop v S'=>exact fun cx' a' w' u q1 q2 q3 q4=>hk cx' a' w' u q1 (x0.trans q2) q3 q4
  have h0:ops[k]? = some o:=by simpa using (hl 0).symm
  rw [List.length_cons,List.range_succ_eq_map,List.map_cons,wpOps_cons,Nat.add_zero]
  refine Cu hR hev hS he (fun r hr=>?_) h0
  cases r with
  | go e' S' =>
   intro cx1 a1 w1 s1 x1 er1 d1
   have ih:=AU hR (Kx:=Kx) l (k + 1) (cx:=cx1) (S:=S') (w:=w1) (e:=e') (a:=a1) (Q:=Q) (fun j=>by have:=hl (j + 1); simpa [Nat.add_assoc,Nat.add_comm 1 j] using this) hr s1 er1 (fun r hr=>by
    have hk':=hk r hr
    cases r with
    | go e2 S2=>exact fun cx' a' w' q1 q2 q3 q4=>hk' cx' a' w' q1 (x1.trans q2) q3 (q4.trans d1)
    | stop v S2=>exact fun cx' a' w' u q1 q2 q3 q4=>hk' cx' a' w' u q1 (x1.trans q2) q3 (q4.trans d1))
   rw [List.map_map]
   have:((fun x=>k + x) ∘ Nat.succ)=(fun x=>k + 1 + x):=by funext x; simp; omega
   rw [this]; exact ih
  | stop v S'=>exact fun cx1 w1 u s1 x1 r1=>hk (.stop v S') hr cx1 a w1 u s1 x1 r1 rfl
theorem aC.region (hR:kG R C) {id:Nat} {ops:Array Oper} {l:List Oper} (hl:ops.toList=l) {e:Env} {S:St} {Q:u6→Prop} (h:aj R C nt ops l e S (fun r=>Q (Mh e r))):aC R C.P nt (.region id ops false) e S Q:=by
 intro cx w a K h1 h2 h3
 refine wp_region ?_
 have:=AU hR (Kx:=K) ops.toList 0 (by simp) (hl ▸ h) h1 h2 (fun r hr=>by
  have hk':=h3 _ hr
  cases r with
  | go e' S'=>exact fun cx' a' w' q1 q2 q3 q4=>hk' cx' a' w' q1 q2 q3 q4
  | stop v S'=>exact fun cx' a' w' u q1 q2 q3 q4=>hk' cx' a' w' u q1 q2 q3 q4)
 simpa using this
inductive Fact where
 | pure (f:Nat) (args:List AV) (v:AV)
 | full (f:Nat) (args:List AV) (S:St) (v:AV) (S':St)
def L6 (R:bO) (P:Program) (f:Nat) (args:List AV) (v:AV):Prop:=∀ S,iE R P f args S (fun r=>r=(none,v,S))
def Fact.ok (R:bO) (P:Program):Fact→Prop
 | .pure f args v=>L6 R P f args v
 | .full f args S v S'=>iE R P f args S (fun r=>r=(none,v,S'))∧((lG args).isSome && (yQ v).isSome)=false
def Fact.is (f:Nat) (args:List AV) (S:St) (v:AV) (S':St):Fact→Prop
 | .pure f' args' v'=>f'=f∧args'=args∧v'=v∧S'=S
 | .full f' args' S1 v' S1'=>f'=f∧args'=args∧S1=S∧v'=v∧S1'=S'
open Classical in
def gW (T:List Fact):Af:=fun f args S =>
 if h:∃ r:AV × St,(∃ x ∈ T,x.is f args S r.1 r.2)∧∀ r':AV × St,(∃ x ∈ T,x.is f args S r'.1 r'.2)→r'=r then some [(none,(Classical.choose h).1,(Classical.choose h).2)] else none
theorem Hy {T:List Fact} {f:Nat} {args:List AV} {S:St} {v:AV} {S':St} (h1:∃ x ∈ T,x.is f args S v S') (h2:∀ x ∈ T,∀ v' S'',x.is f args S v' S''→v'=v∧S''=S'):gW T f args S=some [(none,v,S')]:=by
 have hex:∃ r:AV × St,(∃ x ∈ T,x.is f args S r.1 r.2)∧∀ r':AV × St,(∃ x ∈ T,x.is f args S r'.1 r'.2)→r'=r :=
  ⟨(v,S'),h1,fun r' ⟨x,hx,hr⟩=>Prod.ext (h2 x hx _ _ hr).1 (h2 x hx _ _ hr).2⟩
 unfold gW
 rw [dif_pos hex]
 have hc:=Classical.choose_spec hex
 have:(v,S')=Classical.choose hex:=hc.2 (v,S') h1
 rw [← this]
theorem zt {T:List Fact} {f:Nat} {args:List AV} {S:St} {rs:List Out} (h:gW T f args S=some rs):∃ v S',rs=[(none,v,S')]∧(∃ x ∈ T,x.is f args S v S')∧∀ v' S'',(∃ x ∈ T,x.is f args S v' S'')→v'=v∧S''=S':=by
 unfold gW at h
 split at h
 ·
  rename_i hex
  have hc:=Classical.choose_spec hex
  simp only [Option.some.injEq] at h
  exact ⟨_,_,h.symm,hc.1,fun v' S'' hx=>by have:=hc.2 (v',S'') hx; rw [← this]; exact ⟨rfl,rfl⟩⟩
 ·
  cases h
theorem GQ {T:List Fact} (hT:∀ x ∈ T,x.ok R P):Gb R P (gW T):=by
 intro f args S rs h
 obtain ⟨v,S',rfl,⟨x,hx,hi⟩,_⟩:=zt h
 have hok:=hT x hx
 have key:iE R P f args S (fun r=>r=(none,v,S')):=by
  cases x with
  | pure f' args' v' =>
   obtain ⟨rfl,rfl,rfl,rfl⟩:=hi
   exact hok _
  | full f' args' S1 v' S1' =>
   obtain ⟨rfl,rfl,rfl,rfl,rfl⟩:=hi
   exact hok.1
 refine ⟨key.1,fun cx w us h1 h2 h3=>(key.2 cx w us h1 h2 h3).mono fun e w' ⟨r,q,k⟩=>⟨r,by simp [q],k⟩⟩
theorem yT {T:List Fact} {f:Nat} {args:List AV} {S:St} {v:AV} {S':St} (h1:∃ x ∈ T,x.is f args S v S') (h2:∀ x ∈ T,∀ v' S'',x.is f args S v' S''→v'=v∧S''=S'):xg (gW T) f args S=some (none,v,S'):=by
 unfold xg; rw [Hy h1 h2]
theorem Ea {T:List Fact} (hT:∀ x ∈ T,x.ok R P) (hsep:∀ f args v S v' S',Fact.pure f args v ∈ T→Fact.full f args S v' S' ∈ T→False):CP (xg (gW T)):=by
 intro f args S v S' h ha hv S2
 have h:=JX h
 obtain ⟨v1,S1,he,⟨x,hx,hi⟩,huniq⟩:=zt h
 simp only [List.cons.injEq,Prod.mk.injEq,true_and,and_true] at he
 obtain ⟨rfl,rfl⟩:=he
 have hxp:x=.pure f args v:=by
  have hok:=hT x hx
  cases x with
  | pure f' args' v2=>obtain ⟨rfl,rfl,rfl,rfl⟩:=hi; rfl
  | full f' args' S3 v2 S3' =>
   obtain ⟨rfl,rfl,rfl,rfl,rfl⟩:=hi
   have:=hok.2
   rw [ha,hv] at this
   cases this
 subst hxp
 obtain ⟨_,_,_,rfl⟩:=hi
 refine yT ⟨_,hx,rfl,rfl,rfl,rfl⟩ (fun y hy v' S'' hq=>?_)
 cases y with
 | pure f' args' v2 =>
  obtain ⟨rfl,rfl,rfl,rfl⟩:=hq
  exact ⟨(huniq _ _ ⟨_,hy,rfl,rfl,rfl,rfl⟩).1,rfl⟩
 | full f' args' S3 v2 S3' =>
  obtain ⟨rfl,rfl,rfl,rfl,rfl⟩:=hq
  exact (hsep _ _ _ _ _ _ hx hy).elim
def LD (C:eT) (fn:Func) (Q:Out→Prop):u6→Prop
 | (.normal,e,S)=>∃ v,mW C fn e S=some v∧Q (none,v,S)
 | (.ret,e,S)=>∃ v,mW C fn e S=some v∧Q (none,v,S)
 | (.panic v,_,S)=>Q (some v,.d (.bool false),S)
 | _=>False
theorem iE.of_wp {f:Nat} {fn:Func} {c:Code} (hf:C.P.funcs[f]? = some fn) (hc:fn.body=some c) (hn:(fn.name == "runtime.NumGoroutine")=false) {args:List AV} (hle:args.length ≤ fn.ntmps) {S:St} {Q:Out→Prop}
  (h:aC R C.P fn.ntmps c (sH 0 args) S (LD C fn Q)):iE R C.P f args S Q:=by
 refine ⟨⟨fn,hf,by simp [hc],by simpa using hn⟩,fun cx w us hS hl hr=>?_⟩
 refine calls_of_wp hf hc ?_
 have he:iG cx S w fn.ntmps (sH 0 args) { tmps:=us.toArray ++ Array.replicate (fn.ntmps - us.toArray.size) undef,defers:=[] }:=by
  refine ⟨by simp; omega,fun t x hx=>?_⟩
  rw [Ad] at hx
  simp only [Nat.zero_le,if_true,Nat.sub_zero] at hx
  have hlt:t < us.length:=by rw [hl]; exact (List.getElem?_eq_some_iff.1 hx).1
  have hu:=List.getElem?_eq_getElem hlt
  exact ⟨us[t],by rw [Array.getElem?_append_left (by simpa using hlt)]; simp,hr t x _ hx hu⟩
 refine h cx w _ _ hS he (fun r hr=>?_)
 obtain ⟨x,e,S1⟩:=r
 cases x with
 | normal =>
  obtain ⟨rv,hrv,hq⟩:=hr
  intro cx' a' w' q1 q2 q3 q4
  obtain ⟨u,r1,r2⟩:=uw q1 q3 hrv
  exact ⟨q4,u,r1,_,hq,cx',q1,q2,u,rfl,r2⟩
 | ret =>
  obtain ⟨rv,hrv,hq⟩:=hr
  intro cx' a' w' q1 q2 q3 q4
  obtain ⟨u,r1,r2⟩:=uw q1 q3 hrv
  exact ⟨q4,u,r1,_,hq,cx',q1,q2,u,rfl,r2⟩
 | panic pv =>
  intro cx' a' w' u q1 q2 q3 q4
  exact ⟨q4,_,hr,cx',q1,q2,u,rfl,q3⟩
 | exit id=>exact hr.elim
end
end Go.Ev

namespace Go.Ev
noncomputable section
set_option linter.unusedVariables false
set_option linter.unusedSimpArgs false
variable {R:bO} {C:eT} {P:Program} {nt:Nat}
structure Jn (S S':St):Prop where
 nx:S.nx ≤ S'.nx
 H:∀ id b,S.H.get id=some b→S'.H.get id=some b
 T:∀ id n,S.T.get id=some n→S'.T.get id=some n
theorem Jn.refl (S:St):Jn S S:=⟨Nat.le_refl _,fun _ _ h=>h,fun _ _ h=>h⟩
def St.Wf (S:St):Prop:=∀ id,live S id→id < S.nx
theorem St.Wf.H {S:St} (h:S.Wf) {id:Nat} {b:uZ} (hb:S.H.get id=some b):id < S.nx:=h id (by unfold live cur; rw [hb]; cases b <;> simp)
theorem St.Wf.fresh {S:St} (h:S.Wf) {id:Nat} (hi:S.nx ≤ id):S.H.get id=none:=by
 cases hb:S.H.get id with
 | none=>rfl
 | some b=>have:=h.H hb; omega
theorem aj.nil {ops:Array Oper} {e:Env} {S:St} {Q:Stp→Prop} (h:Q (.go e S)):aj R C nt ops [] e S Q:=⟨e,.refl e,h⟩
end
end Go.Ev

namespace Go.Ev
noncomputable section
set_option linter.unusedVariables false
set_option linter.unusedSimpArgs false
variable {R:bO} {C:eT} {P:Program} {nt:Nat}
mutual
def D.cn:D→D
 | .aS=>.sl [] false
 | .sl xs _=>.sl (D.Gx xs) false
 | .agg xs=>.agg (D.Gx xs)
 | .iface t x=>.iface t (D.cn x)
 | x=>x
def D.Gx:List D→List D
 | []=>[]
 | x :: xs=>D.cn x :: D.Gx xs
end
theorem D.Gd:∀ (l:List D),D.Gx l=l.map D.cn
 | []=>rfl
 | x :: l=>by rw [D.Gx,D.Gd l]; rfl
theorem Less.any (x:AV):Less .any x:=fun _ _ _ v _=>.any v
def mX (y x:D):Prop:=∀ (w:World) (fr:Nat→Nat→Prop) (v:Value),bL w fr x v→bL w fr y v
theorem mX.refl (x:D):mX x x:=fun _ _ _ h=>h
theorem mX.less {x y:D} (h:mX y x):Less (.d y) (.d x):=fun cx S w v hr=>.d _ _ (h _ _ _ hr.dd)
inductive l9:List D→List D→Prop
 | nil:l9 [] []
 | cons {y x:D} {ys xs:List D} (h:mX y x) (k:l9 ys xs):l9 (y :: ys) (x :: xs)
theorem l9.len {ys xs:List D} (h:l9 ys xs):ys.length=xs.length:=by
 induction h with
 | nil=>rfl
 | cons _ _ ih=>simp [ih]
theorem l9.get {ys xs:List D} (h:l9 ys xs):∀ {i:Nat} {y x:D},ys[i]? = some y→xs[i]? = some x→mX y x:=by
 induction h with
 | nil=>intro i y x h; simp at h
 | cons h k ih =>
  intro i y x h1 h2
  cases i with
  | zero=>simp at h1 h2; subst h1; subst h2; exact h
  | succ i=>exact ih (by simpa using h1) (by simpa using h2)
theorem l9.refl:∀ (l:List D),l9 l l
 | []=>.nil
 | x :: l=>.cons (.refl x) (.refl l)
def aQ (args:List AV) (ds:List D):Prop:=∃ ds',lG args=some ds'∧l9 ds ds'
def fw (R:bO) (P:Program) (f:Nat) (ds:List D) (v:AV):Prop:=∀ args S,aQ args ds→iE R P f args S (fun r=>r=(none,v,S))
inductive HY:AV→AV→Prop
 | one {y x:D} (h:mX y x):HY (.d y) (.d x)
 | tup {ys xs:List D} (h:l9 ys xs):HY (.tup (ys.map .d)) (.tup (xs.map .d))
theorem HY.rel {y x:AV} (h:HY y x) {cx:Cx} {S:St} {w:World} {v:Value} (hr:aO cx S w x v):aO cx S w y v:=by
 cases h with
 | one h=>exact h.less cx S w v hr
 | tup h =>
  cases hr with
  | tup _ us hl hr =>
   refine .tup _ us (by rw [hl]; simp [h.len]) (fun i x z hx hz=>?_)
   simp only [List.getElem?_map,Option.map_eq_some_iff] at hx
   obtain ⟨y,hy,rfl⟩:=hx
   rename_i xs
   have hlt:i < xs.length:=by rw [← h.len]; exact (List.getElem?_eq_some_iff.1 hy).1
   have hx':=List.getElem?_eq_getElem hlt
   exact .d _ _ (h.get hy hx' _ _ _ (hr i (.d xs[i]) z (by simp [hx']) hz).dd)
theorem fw.of_wp (hR:ObjOk R) {f:Nat} {fn:Func} {c:Code} (hf:C.P.funcs[f]? = some fn) (hc:fn.body=some c) (hn:(fn.name == "runtime.NumGoroutine")=false) {ds:List D} (hle:Nat.ble ds.length fn.ntmps=true) {v:AV}
  (h:aC R C.P fn.ntmps c (sH 0 (ds.map .d)) aK (LD C fn (fun r=>r.1=none∧∃ v',yQ r.2.1=some v'∧HY v v'))):fw R C.P f ds v:=by
 intro args S ⟨ds',ha,hds⟩
 obtain ⟨d1,d2⟩:=Bj ha
 have hlen:ds.length=args.length:=by rw [hds.len,d1]
 have hs:=iE.of_wp hf hc hn (args:=ds.map .d) (by simpa using Nat.le_of_ble_eq_true hle) h
 refine ⟨hs.1,fun cx w us hS hl hr=>?_⟩
 refine (hs.2 cx w us (Ey hS) (by simp [hl,hlen]) (fun i x u hx hu=>?_)).mono (fun e w' he=>?_)
 ·
  simp only [List.getElem?_map,Option.map_eq_some_iff] at hx
  obtain ⟨y,hy,rfl⟩:=hx
  have hlt:i < args.length:=by rw [← hlen]; exact (List.getElem?_eq_some_iff.1 hy).1
  have ha:=List.getElem?_eq_getElem hlt
  have hz:=List.getElem?_eq_getElem (show i < ds'.length by rw [← hds.len,hlen]; exact hlt)
  exact .d _ u (hds.get hy hz _ _ _ (qB (d2 i _ _ ha hz) (hr i _ u ha hu)))
 ·
  obtain ⟨⟨p,v1,S1⟩,⟨hp,v',hv,hcn⟩,cx1,k1,k2,k3⟩:=he
  simp only at hp hv
  subst hp
  obtain ⟨m1,m2,m3⟩:=Br hR hS k2
  obtain ⟨u,rfl,k3⟩:=k3
  exact ⟨_,rfl,cx,m1,m2,u,rfl,hcn.rel (EF hv k3 (cx':=cx) (S':=S) (w':=w') m3)⟩
inductive gJ:List AV→List AV→Prop
 | nil:gJ [] []
 | cons {y x:AV} {ys xs:List AV} (h:Less y x) (k:gJ ys xs):gJ (y :: ys) (x :: xs)
theorem gJ.len {ys xs:List AV} (h:gJ ys xs):ys.length=xs.length:=by
 induction h with
 | nil=>rfl
 | cons _ _ ih=>simp [ih]
theorem gJ.get {ys xs:List AV} (h:gJ ys xs):∀ {i:Nat} {y x:AV},ys[i]? = some y→xs[i]? = some x→Less y x:=by
 induction h with
 | nil=>intro i y x h; simp at h
 | cons h k ih =>
  intro i y x h1 h2
  cases i with
  | zero=>simp at h1 h2; subst h1; subst h2; exact h
  | succ i=>exact ih (by simpa using h1) (by simpa using h2)
theorem gJ.refl:∀ (l:List AV),gJ l l
 | []=>.nil
 | x :: l=>.cons (.refl x) (.refl l)
inductive bG where
 | box (id:Nat) (cs:List AV)
 | grow (v:AV) (xs:List D)
 | obj (id k:Nat) (x:D)
 | map (id:Nat) (m:vg)
 | row (sz:Nat) (v:AV) (xs:List D)
 | abs (ids:List Nat) (p:St→Prop)
def kJ:List D→Bool
 | []=>true
 | x :: l=>!x.isAgg && kJ l
def bG.fp:bG→List Nat
 | .box id _=>[id]
 | .grow (.tsl _ tok) _=>[tok]
 | .grow _ _=>[]
 | .obj id _ _=>[id]
 | .map id _=>[id]
 | .row _ (.eD id _ _ _ _ _) _=>[id]
 | .row _ _ _=>[]
 | .abs ids _=>ids
def bG.ok (S:St):bG→Prop
 | .box id cs=>S.H.get id=some (.cells 0 cs)
 | .grow v xs=>match v with
  | .d .aS=>xs=[]
  | .d (.sl ys true)=>ys=xs
  | .tsl ys tok=>ys=xs∧xs ≠ []∧S.T.get tok=some xs.length∧S.H.get tok=none
  | _=>False
 | .obj id k x=>S.H.get id=some (.obj k x)
 | .map id m=>S.H.get id=some (.map m)
 | .row sz v xs=>match v with
  | .d .aS=>xs=[]
  | .d (.sl [] true)=>xs=[]
  | .eD id g off len lim sz'=>off=0∧len=xs.length∧lim=xs.length∧sz'=sz∧0 < sz∧(∀ x ∈ xs,x.cells.length=sz∧kJ x.cells=true)∧∃ cs,gJ ((xs.map D.cells).flatten.map .d) cs∧S.H.get id=some (.cells g cs)
  | _=>False
 | .abs ids p=>(∀ id ∈ ids,∃ b,S.H.get id=some b)∧∀ S',(∀ id ∈ ids,S'.H.get id=S.H.get id)→p S'
structure Has (B S:St) (l:List bG):Prop where
 wf:S.Wf
 ok:∀ a ∈ l,a.ok S
 nd:(l.map bG.fp).flatten.Nodup
 bwf:B.Wf
 keeps:Jn B S
 out:∀ a ∈ l,∀ id ∈ a.fp,B.H.get id=none∧B.T.get id=none
theorem uG {S:St} {id n:Nat} (h:S.T.get id=some n):live S id:=by
 unfold live cur
 cases hH:S.H.get id with
 | none=>simp only [h]; simp
 | some b=>cases b <;> simp
theorem oJ {S:St} {id:Nat} {b:uZ} (h:S.H.get id=some b):live S id:=by
 unfold live cur; rw [h]; cases b <;> simp
theorem bG.lt {S:St} (wf:S.Wf) {a:bG} (h:a.ok S):∀ id ∈ a.fp,id < S.nx:=by
 intro id hid
 cases a with
 | box i cs=>simp only [bG.fp,List.mem_singleton] at hid; subst hid; exact wf _ (oJ h)
 | grow v xs =>
  cases v <;> simp only [bG.fp,List.not_mem_nil,List.mem_singleton] at hid
  subst hid
  exact wf _ (uG h.2.2.1)
 | obj i k x=>simp only [bG.fp,List.mem_singleton] at hid; subst hid; exact wf _ (oJ h)
 | map i m=>simp only [bG.fp,List.mem_singleton] at hid; subst hid; exact wf _ (oJ h)
 | row sz v xs =>
  cases v <;> simp only [bG.fp,List.not_mem_nil,List.mem_singleton] at hid
  subst hid
  obtain ⟨_,_,hc⟩:=h.2.2.2.2.2.2; exact wf _ (oJ hc)
 | abs ids p =>
  obtain ⟨b,hb⟩:=h.1 id hid
  exact wf _ (oJ hb)
theorem bG.keep {S S':St} {a:bG} (h:a.ok S) (hH:∀ id ∈ a.fp,S'.H.get id=S.H.get id) (hT:∀ id ∈ a.fp,S'.T.get id=S.T.get id):a.ok S':=by
 cases a with
 | box i cs=>simp only [bG.ok] at h ⊢; rw [hH i (by simp [bG.fp])]; exact h
 | grow v xs =>
  cases v with
  | tsl ys tok=>simp only [bG.ok] at h ⊢; rw [hH tok (by simp [bG.fp]),hT tok (by simp [bG.fp])]; exact h
  | d x=>cases x with
   | sl ys t=>cases t <;> exact h
   | _=>exact h
  | _=>exact h
 | obj i k x=>simp only [bG.ok] at h ⊢; rw [hH i (by simp [bG.fp])]; exact h
 | map i m=>simp only [bG.ok] at h ⊢; rw [hH i (by simp [bG.fp])]; exact h
 | row sz v xs =>
  cases v with
  | eD id g off len lim sz=>simp only [bG.ok] at h ⊢; rw [hH id (by simp [bG.fp])]; exact h
  | d x=>cases x with
   | sl ys t=>cases ys <;> cases t <;> exact h
   | _=>exact h
  | _=>exact h
 | abs ids p=>exact ⟨fun id hid=>by rw [hH id hid]; exact h.1 id hid,fun S2 h2=>h.2 S2 (fun id hid=>(h2 id hid).trans (hH id hid))⟩
theorem bG.Ni {S S':St} {ids:List Nat} {p:St→Prop} (h:(bG.abs ids p).ok S) (k:∀ id b,id ∈ ids→S.H.get id=some b→S'.H.get id=some b):(bG.abs ids p).ok S' :=
 have e:∀ id ∈ ids,S'.H.get id=S.H.get id:=fun id hid=>by obtain ⟨b,hb⟩:=h.1 id hid; rw [k id b hid hb,hb]
 ⟨fun id hid=>by rw [e id hid]; exact h.1 id hid,fun S2 h2=>h.2 S2 (fun id hid=>(h2 id hid).trans (e id hid))⟩
theorem Has.start {S:St} (wf:S.Wf):Has S S []:=⟨wf,(fun a h=>by cases h),by simp,wf,.refl S,(fun a h=>by cases h)⟩
theorem Has.pure:Has aK aK []:=.start fun id h=>absurd rfl h
theorem Jz {α β:Type} (f:α→List β) {l' l:List α} (s:l'.Sublist l):(l'.map f).flatten.Sublist (l.map f).flatten:=by
 induction s with
 | slnil=>exact List.Sublist.refl _
 | cons a _ ih=>exact ih.trans (by simp)
 | cons_cons a _ ih=>simpa using ih.append_left (f a)
theorem Has.new {B S:St} {l:List bG} (h:Has B S l) (b:uZ) {a:bG} (hf:a.fp=[S.nx]) (ha:a.ok (bH S b)):Has B (bH S b) (a :: l):=by
 have hlt:∀ x ∈ l,∀ id ∈ x.fp,id < S.nx:=fun x hx=>bG.lt h.wf (h.ok x hx)
 refine ⟨fun id hl=>?_,fun x hx=>?_,?_,h.bwf,⟨Nat.le_trans h.keeps.nx (Nat.le_succ _),fun id b' hb'=>?_,fun id n hn=>h.keeps.T id n hn⟩,fun x hx id hid=>?_⟩
 rotate_left 3
 ·
  have:=h.bwf.H hb'
  have:=h.keeps.nx
  simp only [bH,AL.aP]
  rw [if_neg (by omega)]; exact h.keeps.H id b' hb'
 ·
  rcases List.mem_cons.1 hx with rfl | hx
  ·
   rw [hf,List.mem_singleton] at hid
   subst hid
   have hnl:¬ live B S.nx:=fun hl=>by have:=h.bwf _ hl; have:=h.keeps.nx; omega
   refine ⟨?_,?_⟩
   ·
    cases hB:B.H.get S.nx with
    | none=>rfl
    | some b'=>exact (hnl (oJ hB)).elim
   ·
    cases hB:B.T.get S.nx with
    | none=>rfl
    | some b'=>exact (hnl (uG hB)).elim
  ·
   exact h.out x hx id hid
 ·
  show id < S.nx + 1
  unfold live cur at hl
  simp only [bH,AL.aP] at hl
  by_cases hi:S.nx=id
  ·
   omega
  ·
   rw [if_neg hi] at hl
   have:=h.wf id hl
   omega
 ·
  rcases List.mem_cons.1 hx with rfl | hx
  ·
   exact ha
  ·
   refine bG.keep (h.ok x hx) (fun id hid=>?_) (fun id hid=>rfl)
   have:=hlt x hx id hid
   simp only [bH,AL.aP]
   rw [if_neg (by omega)]
 ·
  rw [List.map_cons,List.flatten_cons,hf,List.singleton_append,List.nodup_cons]
  refine ⟨fun hm=>?_,h.nd⟩
  obtain ⟨iM,hfps,hid⟩:=List.mem_flatten.1 hm
  obtain ⟨x,hx,rfl⟩:=List.mem_map.1 hfps
  have:=hlt x hx _ hid
  omega
theorem Has.box {B S:St} {l:List bG} (h:Has B S l) (cs:List AV):Has B (bH S (.cells 0 cs)) (.box S.nx cs :: l) :=
 h.new _ rfl (by simp [bG.ok,bH,AL.aP])
theorem Has.Cf {B S:St} {l:List bG} (h:Has B S l):AL.has S.H S.nx=false:=by
 cases hb:AL.has S.H S.nx with
 | false=>rfl
 | true =>
  obtain ⟨b,hb⟩:=AL.zD hb
  have:=h.wf _ (oJ hb)
  omega
theorem zC {l:List bG} (hn:(l.map bG.fp).flatten.Nodup) {i j:Nat} {a b:bG} (ha:l[i]? = some a) (hb:l[j]? = some b) (hij:i ≠ j) {id:Nat} (h1:id ∈ a.fp) (h2:id ∈ b.fp):False:=by
 induction l generalizing i j with
 | nil=>simp at ha
 | cons x l ih =>
  rw [List.map_cons,List.flatten_cons,List.nodup_append] at hn
  obtain ⟨n1,n2,n3⟩:=hn
  cases i with
  | zero =>
   cases j with
   | zero=>exact hij rfl
   | succ j =>
    simp only [List.getElem?_cons_zero,Option.some.injEq] at ha
    subst ha
    simp only [List.getElem?_cons_succ] at hb
    exact n3 id h1 id (List.mem_flatten.2 ⟨_,List.mem_map.2 ⟨b,List.mem_of_getElem? hb,rfl⟩,h2⟩) rfl
  | succ i =>
   simp only [List.getElem?_cons_succ] at ha
   cases j with
   | zero =>
    simp only [List.getElem?_cons_zero,Option.some.injEq] at hb
    subst hb
    exact n3 id h2 id (List.mem_flatten.2 ⟨_,List.mem_map.2 ⟨a,List.mem_of_getElem? ha,rfl⟩,h1⟩) rfl
   | succ j =>
    simp only [List.getElem?_cons_succ] at hb
    exact ih n2 ha hb (by omega)
theorem Has.set {B S S':St} {l:List bG} (h:Has B S l) {i:Nat} {a a':bG} (hi:l[i]? = some a) (hf:a'.fp=a.fp) (ha:a'.ok S') (wf:S'.Wf)
  (hH:∀ id,id ∉ a.fp→S'.H.get id=S.H.get id) (hT:∀ id,id ∉ a.fp→S'.T.get id=S.T.get id) (hnx:S'.nx=S.nx):Has B S' (l.set i a'):=by
 have hil:i < l.length:=(List.getElem?_eq_some_iff.1 hi).1
 have hma:=List.mem_of_getElem? hi
 refine ⟨wf,fun x hx=>?_,?_,h.bwf,⟨by rw [hnx]; exact h.keeps.nx,fun id b hb=>?_,fun id n hn=>?_⟩,fun x hx id hid=>?_⟩
 rotate_left 2
 ·
  rw [hH id (fun q=>by rw [(h.out a hma id q).1] at hb; cases hb)]; exact h.keeps.H id b hb
 ·
  rw [hT id (fun q=>by rw [(h.out a hma id q).2] at hn; cases hn)]; exact h.keeps.T id n hn
 ·
  rcases List.mem_or_eq_of_mem_set hx with hx | rfl
  ·
   exact h.out x hx id hid
  ·
   rw [hf] at hid; exact h.out a hma id hid
 ·
  obtain ⟨j,hj,rfl⟩:=List.getElem_of_mem hx
  rw [List.length_set] at hj
  by_cases hij:i=j
  ·
   subst hij; rw [List.getElem_set_self]; exact ha
  ·
   rw [List.getElem_set_ne hij]
   have hlj:l[j]? = some l[j]:=List.getElem?_eq_getElem hj
   refine bG.keep (h.ok l[j] (List.getElem_mem hj)) (fun id hid=>hH id (fun q=>zC h.nd hi hlj hij q hid)) (fun id hid=>hT id (fun q=>zC h.nd hi hlj hij q hid))
 ·
  have:(l.set i a').map bG.fp=l.map bG.fp:=by
   apply List.ext_getElem?
   intro j
   rw [List.getElem?_map,List.getElem?_map,List.getElem?_set]
   by_cases hij:i=j
   ·
    subst hij; have:=(List.getElem?_eq_some_iff.1 hi).2; simp [hil,hf,this]
   ·
    simp [hij]
  rw [this]; exact h.nd
theorem Has.at {B S:St} {l:List bG} (h:Has B S l) {i:Nat} {a:bG} (hi:l[i]? = some a):a.ok S:=h.ok a (List.mem_of_getElem? hi)
theorem Has.write {B S:St} {l:List bG} (h:Has B S l) {i id:Nat} {cs cs':List AV} (hi:l[i]? = some (.box id cs)):Has B { S with H:=S.H.set id (.cells 0 cs') } (l.set i (.box id cs')):=by
 have hid:=h.at hi
 refine h.set hi rfl (by simp [bG.ok,AL.aP]) (fun j hl=>?_) (fun j hj=>?_) (fun j hj=>rfl) rfl
 ·
  refine h.wf j ?_
  unfold live cur at hl ⊢
  simp only [AL.aP] at hl
  by_cases hij:id=j
  ·
   subst hij; rw [show S.H.get id=_ from hid]; simp
  ·
   rw [if_neg hij] at hl; exact hl
 ·
  simp only [bG.fp,List.mem_singleton] at hj
  simp only [AL.aP]
  rw [if_neg (fun q=>hj q.symm)]
end
end Go.Ev

namespace Go.Ev
noncomputable section
set_option linter.unusedVariables false
set_option linter.unusedSimpArgs false
variable {R:bO} {C:eT} {P:Program} {nt:Nat}
def mJ:Option uZ→Option uZ→Prop
 | some (.cells g' cs'),some (.cells g cs)=>g'=g∧gJ cs' cs
 | a,b=>a=b
theorem mJ.refl (a:Option uZ):mJ a a:=by
 cases a with
 | none=>rfl
 | some b=>cases b with
  | cells g cs=>exact ⟨rfl,.refl _⟩
  | map m=>rfl
  | obj k x=>rfl
structure kC (S2 S:St):Prop where
 nx:S2.nx=S.nx
 T:∀ id,S2.T.get id=S.T.get id
 H:∀ id,mJ (S2.H.get id) (S.H.get id)
theorem mJ.cases {a b:Option uZ} (h:mJ a b):a=b∨∃ g cs' cs,a=some (.cells g cs')∧b=some (.cells g cs)∧gJ cs' cs:=by
 unfold mJ at h
 split at h
 ·
  obtain ⟨rfl,h⟩:=h; exact .inr ⟨_,_,_,rfl,rfl,h⟩
 ·
  exact .inl h
theorem kC.cur {S2 S:St} (k:kC S2 S) (id:Nat):cur S2 id=cur S id:=by
 unfold Ev.cur
 rcases (k.H id).cases with h | ⟨g,cs',cs,h1,h2,_⟩
 ·
  rw [h,k.T]
 ·
  rw [h1,h2]
theorem kC.isIt {S2 S:St} (k:kC S2 S) {id g:Nat}:isIt S2 id g↔isIt S id g:=by
 unfold Ev.isIt
 rcases (k.H id).cases with h | ⟨g,cs',cs,h1,h2,_⟩
 ·
  rw [h]
 ·
  rw [h1,h2]; simp
theorem kC.live {S2 S:St} (k:kC S2 S) {id:Nat}:live S2 id↔live S id:=by unfold Ev.live; rw [k.cur]
theorem kC.refl (S:St):kC S S:=⟨rfl,fun _=>rfl,fun _=>mJ.refl _⟩
theorem aO.iA {cx:Cx} {S2 S:St} {w:World} (k:kC S2 S) {x:AV} {v:Value} (h:aO cx S w x v):aO cx S2 w x v:=by
 have nm:∀ {id g:Nat},Names S id g→Names S2 id g:=fun h=>⟨by rw [k.nx]; exact h.1,fun g' hg=>h.2 g' (by rw [← k.cur]; exact hg)⟩
 have cr:∀ {id:Nat} {o:Option Nat},cur S2 id=o→cur S id=o:=fun h=>by rw [← k.cur]; exact h
 induction h with
 | d x v hd=>exact .d x v hd
 | tsl xs tok b off cap hn hd hp=>exact .tsl xs tok b off cap (nm hn) hd (fun hc=>hp (cr hc))
 | ptr id g off b hn hp=>exact .ptr id g off b (nm hn) (fun hc=>hp (cr hc))
 | eD id g off len lim sz b cap hn hl hcap h63 hp=>exact .eD id g off len lim sz b cap (nm hn) hl hcap h63 (fun hc=>hp (cr hc))
 | any v=>exact .any v
 | eptr x off b o vs hd hc=>exact .eptr x off b o vs hd hc
 | map id b hn hp=>exact .map id b (nm hn) (fun hc=>hp (cr hc))
 | asl id g off len sz b hn h63 hp=>exact .asl id g off len sz b (nm hn) h63 (fun hc=>hp (cr hc))
 | fn f cs vs hl hr ih=>exact .fn f cs vs hl ih
 | agg xs vs hl ho hr ih=>exact .agg xs vs hl ho ih
 | tup xs vs hl hr ih=>exact .tup xs vs hl ih
 | it0 k' g since st b seen hn hp =>
  exact .it0 k' g since st b seen (nm hn) (fun hk=>by
   obtain ⟨p1,p2,p3,p4⟩:=hp (k.isIt.1 hk)
   exact ⟨p1,p2,fun i hi hf=>p3 i (by rw [← k.cur]; exact hi) hf,p4⟩)
 | it k' g id since st b m seen hn hni hm hp =>
  exact .it k' g id since st b m seen (nm hn) (nm hni) (fun hc=>hm (cr hc)) (fun hk=>by
   obtain ⟨p1,p2,p3,p4⟩:=hp (k.isIt.1 hk)
   exact ⟨p1,p2,fun i hi hf=>p3 i (by rw [← k.cur]; exact hi) hf,p4⟩)
theorem bg.iA {cx:Cx} {S2 S:St} {w:World} (h:bg R cx S w) (k:kC S2 S):bg R cx S2 w where
 wf:=fun id hl=>by rw [k.nx]; exact h.wf id (k.live.1 hl)
 uf:=fun id b hb=>by
  rw [k.T]
  rcases (k.H id).cases with q | ⟨g,cs',cs,h1,h2,_⟩
  ·
   rw [q] at hb; exact h.uf id b hb
  ·
   exact h.uf id _ h2
 cells:=fun id g cs hb=>by
  rcases (k.H id).cases with q | ⟨g',cs',ds,h1,h2,h3⟩
  ·
   rw [q] at hb
   obtain ⟨c1,c2,arr,el,c3,c4,c5⟩:=h.cells id g cs hb
   refine ⟨c1,c2,arr,el,c3,c4,fun i x hx=>?_⟩
   obtain ⟨v,v1,v2,v3⟩:=c5 i x hx
   exact ⟨v,v1,v2.iA k,v3⟩
  ·
   rw [h1] at hb; cases hb
   obtain ⟨c1,c2,arr,el,c3,c4,c5⟩:=h.cells id _ ds h2
   refine ⟨c1,c2,arr,el,c3,by rw [h3.len]; exact c4,fun i x hx=>?_⟩
   have hlt:i < ds.length:=by rw [← h3.len]; exact (List.getElem?_eq_some_iff.1 hx).1
   have hy:=List.getElem?_eq_getElem hlt
   obtain ⟨v,v1,v2,v3⟩:=c5 i _ hy
   exact ⟨v,v1,(h3.get hx hy _ _ _ _ v2).iA k,v3⟩
 maps:=fun id es hb=>by
  rcases (k.H id).cases with q | ⟨g',cs',ds,h1,h2,h3⟩
  ·
   rw [q] at hb
   obtain ⟨c1,c2,ms,clk,c3,c4,c5⟩:=h.maps id es hb
   refine ⟨c1,c2,ms,clk,c3,c4,fun i p m hp hm=>?_⟩
   obtain ⟨v1,v2⟩:=c5 i p m hp hm
   exact ⟨v1,v2.iA k⟩
  ·
   rw [h1] at hb; cases hb
 objs:=fun id kd x hb=>by
  rcases (k.H id).cases with q | ⟨g',cs',ds,h1,h2,h3⟩
  ·
   rw [q] at hb; exact h.objs id kd x hb
  ·
   rw [h1] at hb; cases hb
 toks:=fun id en hb=>h.toks id en (by rw [← k.T]; exact hb)
 sep:=fun id id' b a1 a2=>h.sep id id' b (k.live.1 a1) (k.live.1 a2)
 lt:=h.lt
 stat:=h.stat
theorem Ext.iA {cx cx':Cx} {S2 S S':St} {w w':World} (k:kC S2 S) (e:Ext cx S2 w cx' S' w'):Ext cx S w cx' S' w' where
 size:=e.size
 os:=e.os
 tape:=e.tape
 output:=e.output
 nx:=by rw [← k.nx]; exact e.nx
 prot:=e.prot
 other:=fun b hb hn=>e.other b hb (fun id hl hf=>by
  obtain ⟨q1,g,q2,q3⟩:=hn id (k.live.1 hl) hf
  exact ⟨by rw [k.nx]; exact q1,g,k.isIt.2 q2,q3⟩)
 own:=fun id b hl hf=>by
  obtain ⟨q1,q2⟩:=e.own id b hl hf
  rw [k.nx] at q1 q2
  exact ⟨fun h=>⟨k.live.1 (q1 h).1,(q1 h).2⟩,q2⟩
 back:=fun id g hid hi=>by
  obtain ⟨g',h⟩:=e.back id g (by rw [k.nx]; exact hid) hi
  exact ⟨g',k.isIt.1 h⟩
 keep:=fun id g b hid h0 hi hf=>e.keep id g b (by rw [k.nx]; exact hid) (k.isIt.2 h0) hi hf
 curs:=fun id g hid hg=>by
  obtain ⟨g0,h0,h1⟩:=e.curs id g (by rw [k.nx]; exact hid) hg
  exact ⟨g0,by rw [← k.cur]; exact h0,h1⟩
theorem Fin.iA {cx:Cx} {S2 S:St} {w:World} {a:Act} {K:Exit→Act→World→Prop} (k:kC S2 S) {r:u6} (h:Fin R cx S w nt a K r):Fin R cx S2 w nt a K r:=by
 obtain ⟨x,e,S'⟩:=r
 cases x with
 | normal=>exact fun cx' a' w' q1 q2 q3 q4=>h cx' a' w' q1 (q2.iA k) q3 q4
 | exit id=>exact fun cx' a' w' q1 q2 q3 q4=>h cx' a' w' q1 (q2.iA k) q3 q4
 | ret=>exact fun cx' a' w' q1 q2 q3 q4=>h cx' a' w' q1 (q2.iA k) q3 q4
 | panic v=>exact fun cx' a' w' u q1 q2 q3 q4=>h cx' a' w' u q1 (q2.iA k) q3 q4
theorem iG.iA {cx:Cx} {S2 S:St} {w:World} {e:Env} {a:Act} (k:kC S2 S) (h:iG cx S w nt e a):iG cx S2 w nt e a :=
 ⟨h.size,fun t x hx=>let ⟨v,v1,v2⟩:=h.rel t x hx; ⟨v,v1,v2.iA k⟩⟩
theorem aC.iA {c:Code} {e:Env} {S2 S:St} {Q:u6→Prop} (k:kC S2 S) (h:aC R P nt c e S2 Q):aC R P nt c e S Q :=
 fun cx w a K h1 h2 h3=>h cx w a K (h1.iA k) (h2.iA k) (fun r q=>(h3 r q).iA k)
theorem qd.iA {c:Code} {e:Env} {S2 S:St} {Q:u6→Prop} (k:kC S2 S) (h:qd R P nt c e S2 Q):qd R P nt c e S Q :=
 fun cx w a K h1 h2 h3=>h cx w a K (h1.iA k) (h2.iA k) (fun r q=>(h3 r q).iA k)
theorem Has.KC {B S:St} {l:List bG} (h:Has B S l) {i id:Nat} {cs cs':List AV} (hi:l[i]? = some (.box id cs)) (hl:gJ cs' cs):∃ S2,kC S2 S∧Has B S2 (l.set i (.box id cs')):=by
 refine ⟨{ S with H:=S.H.set id (.cells 0 cs') },⟨rfl,fun _=>rfl,fun j=>?_⟩,h.write hi⟩
 simp only [AL.aP]
 by_cases hj:id=j
 ·
  subst hj
  have:S.H.get id=some (.cells 0 cs):=h.at hi
  rw [if_pos rfl,this]; exact ⟨rfl,hl⟩
 ·
  rw [if_neg hj]; exact mJ.refl _
theorem aC.ghost {c:Code} {e e2:Env} {S S2:St} {Q:u6→Prop} (g:ou R nt e S e2 S2) (h:aC R P nt c e2 S2 Q):aC R P nt c e S Q:=fun cx w a K h1 h2 h3=>by
 obtain ⟨c2,q1,q2,q3⟩:=g cx w a h1 h2
 exact h c2 w a K q1 q3 (fun r q=>(h3 r q).trans q2 rfl)
theorem qd.ghost {c:Code} {e e2:Env} {S S2:St} {Q:u6→Prop} (g:ou R nt e S e2 S2) (h:qd R P nt c e2 S2 Q):qd R P nt c e S Q:=fun cx w a K h1 h2 h3=>by
 obtain ⟨c2,q1,q2,q3⟩:=g cx w a h1 h2
 exact h c2 w a K q1 q3 (fun r q=>(h3 r q).trans q2 rfl)
end
end Go.Ev

namespace Go.Ev
noncomputable section
set_option linter.unusedVariables false
set_option linter.unusedSimpArgs false
variable {B:St}
section steps
variable {R:bO} {C:eT} {nt:Nat} {ops:Array Oper} {rest:List Oper} {e:Env} {S S':St} {Q:Stp→Prop} {l l':List bG} {t ty:Nat} {p:String} {af:Array Edge} {g:Option (Nat × Bool)}
theorem aj.one {o:Oper} (hw:bC ops e o=some true) (h:Dy R C nt o.dst o.op e S (fun r=>match r with
  | .go e' S'=>aj R C nt ops rest e' S' Q
  | .stop v S'=>Q (.stop v S'))):aj R C nt ops (o :: rest) e S Q:=⟨e,S,.refl e S,.inr (.inl ⟨e,.refl e,hw,h⟩)⟩
theorem aj.val {op:Op} {v:AV} (hw:bC ops e { dst:=some t,op:=op,type:=ty,pos:=p,after:=af,guard:=g }=some true) (ho:oper C (bB e) S op=some (.val v S')) (ht:Nat.blt t nt=true) (k:aj R C nt ops rest ((t,v) :: e) S' Q) :
  aj R C nt ops ({ dst:=some t,op:=op,type:=ty,pos:=p,after:=af,guard:=g } :: rest) e S Q :=
 aj.one hw (.inl ⟨v,S',_,ho,by simp only [Env.put,ht,cond_true],k⟩)
theorem aj.K3 {op:Op} {v:AV} (hw:bC ops e { dst:=none,op:=op,type:=ty,pos:=p,after:=af,guard:=g }=some true) (ho:oper C (bB e) S op=some (.val v S')) (k:aj R C nt ops rest e S' Q) :
  aj R C nt ops ({ dst:=none,op:=op,type:=ty,pos:=p,after:=af,guard:=g } :: rest) e S Q :=
 aj.one hw (.inl ⟨v,S',_,ho,rfl,k⟩)
theorem aj.skip {op:Op} (hw:bC ops e { dst:=none,op:=op,type:=ty,pos:=p,after:=af,guard:=g }=some true) (ho:oper C (bB e) S op=some (.skip S')) (k:aj R C nt ops rest e S' Q) :
  aj R C nt ops ({ dst:=none,op:=op,type:=ty,pos:=p,after:=af,guard:=g } :: rest) e S Q :=
 aj.one hw (.inr (.inl ⟨S',ho,rfl,k⟩))
theorem aj.ret {op:Op} {f:Nat} {args:List AV} {v:AV} (hw:bC ops e { dst:=some t,op:=op,type:=ty,pos:=p,after:=af,guard:=g }=some true) (ho:oper C (bB e) S op=some (.call f args)) (hs:iE R C.P f args S (fun r=>r=(none,v,S'))) (ht:Nat.blt t nt=true) (k:aj R C nt ops rest ((t,v) :: e) S' Q) :
  aj R C nt ops ({ dst:=some t,op:=op,type:=ty,pos:=p,after:=af,guard:=g } :: rest) e S Q :=
 aj.one hw (.inr (.inr (.inl ⟨f,args,ho,hs.mono fun r hr=>by subst hr; exact ⟨_,by simp only [Env.put,ht,cond_true],k⟩⟩)))
theorem aj.Mr {t1 ty1 el:Nat} {x y:Operand} {xs:List D} {b:Bool} (hw:bC ops e { dst:=some t,op:=.binOp .eql t1 x y ty1,type:=ty,pos:=p,after:=af,guard:=g }=some true) (hx:bB e x=some (.d (.sl xs b))) (hy:bB e y=some (.d .aS)) (hu:C.P.underlying t1=some (.slice el)) (ht:Nat.blt t nt=true)
  (k:∀ bb:Bool,(bb=true→xs=[])→aj R C nt ops rest ((t,.d (.bool bb)) :: e) S Q) :
  aj R C nt ops ({ dst:=some t,op:=.binOp .eql t1 x y ty1,type:=ty,pos:=p,after:=af,guard:=g } :: rest) e S Q :=
 aj.one hw (.inr (.inr (.inr ⟨t1,x,y,ty1,xs,b,el,rfl,hx,hy,hu,fun bb hb=>⟨_,by simp only [Env.put,ht,cond_true],k bb hb⟩⟩)))
theorem aj.no {op:Op} (hw:bC ops e { dst:=some t,op:=op,type:=ty,pos:=p,after:=af,guard:=g }=some false) (ht:Nat.blt t nt=true)
  (k:aj R C nt ops rest ((t,.tup []) :: e) S Q) :
  aj R C nt ops ({ dst:=some t,op:=op,type:=ty,pos:=p,after:=af,guard:=g } :: rest) e S Q :=
 ⟨e,S,.refl e S,.inr (.inr ⟨e,_,.refl e,hw,(by simp only [Env.put,ht,cond_true]),k⟩)⟩
theorem aj.app:∀ (l1:List Oper) {l2:List Oper} {e:Env} {S:St} {Q:Stp→Prop},aj R C nt ops l1 e S (fun r=>match r with | .go e' S'=>aj R C nt ops l2 e' S' Q | .stop v S'=>Q (.stop v S'))→aj R C nt ops (l1 ++ l2) e S Q
 | [],l2,e,S,Q,⟨e2,hs,h⟩=>aj.weak hs h
 | o :: l1,l2,e,S,Q,⟨e2,S2,hs,h⟩=>⟨e2,S2,hs,h.mono fun r hr=>by
   cases r with
   | go e' S'=>exact aj.app l1 hr
   | stop v S'=>exact hr⟩
theorem aj.mono:∀ {L:List Oper} {e:Env} {S:St} {Q Q':Stp→Prop},aj R C nt ops L e S Q→(∀ r,Q r→Q' r)→aj R C nt ops L e S Q'
 | [],e,S,Q,Q',⟨e2,hs,h⟩,hq=>⟨e2,hs,hq _ h⟩
 | o :: l1,e,S,Q,Q',⟨e2,S2,hs,h⟩,hq=>⟨e2,S2,hs,h.mono fun r hr=>by
   cases r with
   | go e' S'=>exact aj.mono hr hq
   | stop v S'=>exact hq _ hr⟩
end steps
section opers
variable {C:eT} {e:Env} {ρ:Operand→Option AV} {S:St} {l l':List bG} {v:AV} {x y:Operand} {t:Nat}
theorem au (h:ρ x=some v):oper C ρ S (.assign x)=some (.val v S):=by simp only [oper,h,Option.map_some]
theorem aa (h:ρ x=some v):oper C ρ S (.move x)=some (.val v S):=by simp only [oper,h,Option.map_some]
theorem aB {c:Operand} {b:Bool} (hc:ρ c=some (.d (.bool b))) (h:ρ (if b then x else y)=some v):oper C ρ S (.pick c x y)=some (.val v S):=by simp only [oper,hc,h,Option.map_some]
theorem IG (H:Has B S l) {cs:List AV} (h:ρ x=some v) (hp:v.plain=true) (hc:v.cells=cs):oper C ρ S (.box t x)=some (.val (.ptr S.nx 0 0) (bH S (.cells 0 cs))):=by
 subst hc
 simp only [oper,h,hp,if_true,H.Cf,cond_false]; rfl
theorem yX (H:Has B S l) {z:D} {cs:List AV} (ho:C.objT t=none) (hz:zeroOf C.P t=some z) (hc:(AV.d z).cells=cs):oper C ρ S (.alloc t)=some (.val (.ptr S.nx 0 0) (bH S (.cells 0 cs))):=by
 subst hc
 simp only [oper,ho,hz,Option.map_some,H.Cf,cond_false]; rfl
theorem aF {s fld id g off fo ft o':Nat} (h:ρ x=some (.ptr id g off)) (hf:eZ C.P s fld=some (fo,ft)) (hz:Nat.beq (aM C.P ft) 0=false) (ho:off + fo=o'):oper C ρ S (.fieldAddr s x fld)=some (.val (.ptr id g o') S):=by
 subst ho
 simp only [oper,h,hf]
 rw [if_neg (fun q=>by rw [q] at hz; simp at hz)]
theorem x9 {s fld off fo ft o':Nat} {d:D} (h:ρ x=some (.eptr d off)) (hf:eZ C.P s fld=some (fo,ft)) (hz:Nat.beq (aM C.P ft) 0=false) (ho:off + fo=o'):oper C ρ S (.fieldAddr s x fld)=some (.val (.eptr d o') S):=by
 subst ho
 simp only [oper,h,hf]
 rw [if_neg (fun q=>by rw [q] at hz; simp at hz)]
theorem aU {P:Program} {cs:List AV} {off:Nat} (ha:eQ P t=some false) (h:cs[off]? = some v):part P t cs off=some v:=by simp only [part,ha,h]
theorem aZ {P:Program} {cs:List AV} {off n:Nat} (ha:eQ P t=some true) (hz:aM P t=n) (hl:Nat.ble (off + n) cs.length=true):part P t cs off=some (fD ((cs.drop off).take n)):=by
 subst hz
 simp only [part,ha]; rw [if_pos (Nat.le_of_ble_eq_true hl)]
theorem bK {P:Program} {cs:List D} {off:Nat} {d:D} (ha:eQ P t=some false) (h:cs[off]? = some d):jf P t cs off=some d:=by simp only [jf,ha,h]
theorem wE {P:Program} {cs:List D} {off n:Nat} (ha:eQ P t=some true) (hz:aM P t=n) (hl:Nat.ble (off + n) cs.length=true):jf P t cs off=some (.agg ((cs.drop off).take n)):=by
 subst hz
 simp only [jf,ha]; rw [if_pos (Nat.le_of_ble_eq_true hl)]
theorem aJ (H:Has B S l) {i id off:Nat} {cs:List AV} (h:ρ x=some (.ptr id 0 off)) (hi:l[i]? = some (.box id cs)) (hp:part C.P t cs off=some v):oper C ρ S (.load t x)=some (.val v S):=by
 have hb:S.H.get id=some (.cells 0 cs):=H.at hi
 simp only [oper,h,kT,St.look,hb,Nat.beq_refl,cond_true,hp,Option.map_some]
theorem aW {off:Nat} {d r:D} (h:ρ x=some (.eptr d off)) (hp:jf C.P t d.cells off=some r):oper C ρ S (.load t x)=some (.val (.d r) S):=by
 simp only [oper,h,kT,hp,Option.map_some]
theorem zH (H:Has B S l) {i id off n:Nat} {cs cv:List AV} (ha:ρ x=some (.ptr id 0 off)) (hy:ρ y=some v) (hcv:v.cells=cv) (hn:cv.length=n) (hz:aM C.P t=n) (hp:v.plain=true) (hag:(eQ C.P t).isSome=true) (hi:l[i]? = some (.box id cs)) (hb:Nat.ble (off + n) cs.length=true) :
  oper C ρ S (.store t x y)=some (.skip { S with H:=S.H.set id (.cells 0 (setAt cs off cv)) }):=by
 subst hcv
 subst hn
 have hg:S.H.get id=some (.cells 0 cs):=H.at hi
 simp only [oper,ha,hy,vZ,hg]
 rw [if_pos ⟨hz.symm,hp,hag⟩,if_pos trivial,if_pos (Nat.le_of_ble_eq_true hb)]
 rfl
theorem mM {tt:Nat} {n:Nat} (h:ρ x=some v) (ht:nG C tt v=true) (hn:ku v S=some n):oper C ρ S (.call { callee:=.builtin .len,args:=#[x],argTypes:=#[tt] })=some (.val (.d (.int .i64 (n:Int))) S):=by
 have:fV ρ [x]=some [v]:=by simp only [fV,h,Option.map_some]
 simp only [oper,this,dK,List.getElem?_toArray,List.getElem?_cons_zero,ht,if_true,hn,Option.map_some]
theorem aD {op:BinOp} {ty:Nat} {a b:AV} {r:D} (hx:ρ x=some a) (hy:ρ y=some b) (hb:jO C.P t op a b=some r):oper C ρ S (.binOp op t x y ty)=some (.val (.d r) S):=by
 simp only [oper,hx,hy,hb,Option.map_some]
theorem iI {b:Bool} (hx:ρ x=some (.d (.bool b))):oper C ρ S (.unOp .not t x)=some (.val (.d (.bool (!b))) S):=by simp only [oper,hx]
theorem AB {src dst:Nat} {k k':IntKind} {n:Int} (hx:ρ x=some (.d (.int k n))) (hs:(C.P.underlying src).isSome=true) (hk:Hl C.P dst=some k'):oper C ρ S (.convert src dst x)=some (.val (.d (.int k' (k'.wrap n))) S):=by
 simp only [oper,hx,zK,hs,if_true,hk,Option.map_some]
theorem iR {i:Nat} {vs:List AV} (hx:ρ x=some (.tup vs)) (hi:vs[i]? = some v):oper C ρ S (.extract x i)=some (.val v S):=by simp only [oper,hx,hi,Option.map_some]
theorem aH {f:Nat} {as:Array Operand} {ts:Array Nat} {args:List AV} (ha:fV ρ as.toList=some args) (hf:ρ (.func f)=some (.fn f [])):oper C ρ S (.call { callee:=.value (.func f),args:=as,argTypes:=ts })=some (.call f args):=by
 simp only [oper,hf,ha,List.append_nil]
theorem bA {n:Int} {k:IntKind} {r:AV} (hx:ρ x=some v) (hy:ρ y=some (.d (.int k n))) (hi:gF C t v (.d (.int k n))=some r):oper C ρ S (.indexAddr t x y)=some (.val r S):=by simp only [oper,hx,hy,hi,Option.map_some]
theorem dx {P:Program} {k:IntKind} {a b:Int}:jO P t .add (.d (.int k a)) (.d (.int k b))=some (.int k (k.wrap (a + b))):=by simp only [jO,if_true,nz]
theorem gX {P:Program} {k:IntKind} {a b:Int}:jO P t .sub (.d (.int k a)) (.d (.int k b))=some (.int k (k.wrap (a - b))):=by simp only [jO,if_true,nz]
theorem Im {P:Program} {k:IntKind} {a b:Int} (h:b ≠ 0):jO P t .rem (.d (.int k a)) (.d (.int k b))=some (.int k (a.tmod b)):=by simp only [jO,if_true,nz,if_neg h]
def LM (k:IntKind) (a b:Int):Int:=k.wrap (BitVec.ofInt k.bits a &&& BitVec.ofInt k.bits b).toNat
theorem IJ {P:Program} {k:IntKind} {a b:Int}:jO P t .and (.d (.int k a)) (.d (.int k b))=some (.int k (LM k a b)):=by simp only [jO,if_true,nz]; rfl
theorem bq {P:Program} {k:IntKind} {a b:Int}:jO P t .eql (.d (.int k a)) (.d (.int k b))=some (.bool (a == b)):=by simp only [jO,if_true,nz]
theorem jd {P:Program} {k:IntKind} {a b:Int}:jO P t .neq (.d (.int k a)) (.d (.int k b))=some (.bool (a != b)):=by simp only [jO,if_true,nz]
theorem dO {P:Program} {k:IntKind} {a b:Int}:jO P t .lss (.d (.int k a)) (.d (.int k b))=some (.bool (decide (a < b))):=by simp only [jO,if_true,nz]
theorem Er {P:Program} {k:IntKind} {a b:Int}:jO P t .gtr (.d (.int k a)) (.d (.int k b))=some (.bool (decide (b < a))):=by simp only [jO,if_true,nz]
theorem qD {P:Program} {k:IntKind} {a b:Int}:jO P t .geq (.d (.int k a)) (.d (.int k b))=some (.bool (decide (b ≤ a))):=by simp only [jO,if_true,nz]
theorem nR {P:Program} {a b:List UInt8}:jO P t .eql (.d (.str a)) (.d (.str b))=some (.bool (a == b)):=by simp only [jO,y5]
theorem nX {P:Program} {a b:List UInt8}:jO P t .neq (.d (.str a)) (.d (.str b))=some (.bool (!(a == b))):=by simp only [jO,y5]
theorem I9 {xs:List D} {b:Bool} (h:(bz C.P t).isSome=true):nG C t (.d (.sl xs b))=true:=by
 unfold bz at h
 unfold nG
 split at h
 ·
  rename_i hu; simp only [hu]
 ·
  cases h
def idx {α:Type} (l:List α) (n:Int):Option α:=if 0 ≤ n then l[n.toNat]? else none
theorem dR {α:Type} {l:List α} {n:Int} {x:α} (h:idx l n=some x):0 ≤ n∧l[n.toNat]? = some x:=by
 unfold idx at h
 split at h
 ·
  rename_i hn; exact ⟨hn,h⟩
 ·
  cases h
theorem bS {α:Type} {enc:α→D} {l:List α} {n:Int} {k:IntKind} {z:α} {el:Nat} {b:Bool} (h:idx l n=some z) (he:bz C.P t=some el) (ha:(eQ C.P el).isSome=true) (hz:(enc z).cells.length=aM C.P el) :
  gF C t (.d (.sl (l.map enc) b)) (.d (.int k n))=some (.eptr (enc z) 0):=by
 obtain ⟨h0,h1⟩:=dR h
 have:(l.map enc)[n.toNat]? = some (enc z):=by rw [List.getElem?_map,h1]; rfl
 simp only [gF,he,h0,ha,decide_true,Bool.and_self,if_true,this,hz]
end opers
theorem aQ.nil:aQ [] []:=⟨[],rfl,.nil⟩
theorem aQ.jI {x:AV} {d d':D} {xs:List AV} {ds:List D} (h:Ar x=some d') (hc:mX d d') (k:aQ xs ds):aQ (x :: xs) (d :: ds):=by
 obtain ⟨ds',k1,k2⟩:=k
 exact ⟨d' :: ds',by simp only [lG,h,k1,Option.map_some],.cons hc k2⟩
theorem aQ.eq {d:D} {xs:List AV} {ds:List D} (k:aQ xs ds):aQ (.d d :: xs) (d :: ds):=.jI rfl (.refl d) k
theorem dE {α:Type} {c:Bool} {x y:α} {r:α} (hb:c=true) (h:(if c=true then x else y)=r):x=r:=by rw [if_pos hb] at h; exact h
theorem dG {α:Type} {c:Bool} {x y:α} {r:α} (hb:c=false) (h:(if c=true then x else y)=r):y=r:=by rw [if_neg (by rw [hb]; simp)] at h; exact h
theorem bind_some {α β:Type} {o:Option α} {f:α→Option β} {r:β} (h:o.bind f=some r):∃ z,o=some z∧f z=some r:=Option.bind_eq_some_iff.1 h
section code
variable {R:bO} {P:Program} {nt:Nat}
def At (R:bO) (nt:Nat) (B:St) {α:Type} (sem:α→Prop) (env:α→Env) (shape:α→List bG) (e:Env) (S:St):Prop:=∃ a e1 S1 S2,ou R nt e S e1 S1∧kC S2 S1∧ai (env a) e1∧Has B S2 (shape a)∧sem a
theorem aC.join {α:Type} (sem:α→Prop) (env:α→Env) (shape:α→List bG) {x y:Code} {e:Env} {S:St} {Q:u6→Prop}
  (hj:∀ a S',Has B S' (shape a)→sem a→aC R P nt y (env a) S' Q)
  (hx:aC R P nt x e S (Eg (At R nt B sem env shape) Q)):aC R P nt (.seq x y) e S Q :=
 aC.seq (hx.mono fun r hr=>by
  obtain ⟨q,e',S'⟩:=r
  cases q with
  | normal=>obtain ⟨a,e1,S1,S2,hg,h0,h1,h2,h3⟩:=hr; exact (((hj a S2 h2 h3).weak h1).iA h0).ghost hg
  | exit id=>exact hr
  | ret=>exact hr
  | panic v=>exact hr)
theorem qd.ind {α:Type} (sem:Nat→α→Prop) (env:α→Env) (shape:α→List bG) {c:Code} {Q:u6→Prop} (h0:∀ a,¬ sem 0 a)
  (step:∀ k a S,Has B S (shape a)→sem (k + 1) a→aC R P nt c (env a) S (Eg (At R nt B (sem k) env shape) Q)) :
  ∀ k a S,Has B S (shape a)→sem k a→qd R P nt c (env a) S Q
 | 0,a,S,_,h=>(h0 a h).elim
 | k + 1,a,S,hH,h=>qd.round ((step k a S hH h).mono fun r hr=>by
   obtain ⟨q,e',S'⟩:=r
   cases q with
   | normal=>obtain ⟨a',e1,S1,S2,hg,h4,h1,h2,h3⟩:=hr; exact (((qd.ind sem env shape h0 step k a' S2 h2 h3).weak h1).iA h4).ghost hg
   | exit id=>exact hr
   | ret=>exact hr
   | panic v=>exact hr)
theorem qd.start {α:Type} (sem:Nat→α→Prop) (env:α→Env) (shape:α→List bG) {c:Code} {e:Env} {S:St} {Q:u6→Prop} (h0:∀ a,¬ sem 0 a)
  (step:∀ k a S,Has B S (shape a)→sem (k + 1) a→aC R P nt c (env a) S (Eg (At R nt B (sem k) env shape) Q))
  (k:Nat) (hat:At R nt B (sem k) env shape e S):aC R P nt (.loop c) e S Q:=by
 obtain ⟨a,e1,S1,S2,hg,h4,hs,hH,h⟩:=hat
 exact aC.loop ((((qd.ind sem env shape h0 step k a S2 hH h).weak hs).iA h4).ghost hg)
end code
theorem Has.OE {S:St} {l:List bG} (h:Has B S l) (is:List Nat) (hn:is.Nodup) {l':List bG} (hl:is.map (fun i=>l[i]?)=l'.map some):Has B S l':=by
 have hget:∀ (j:Nat) (a:bG),l'[j]? = some a→∃ i,is[j]? = some i∧l[i]? = some a:=fun j a hj=>by
  have:(is.map (fun i=>l[i]?))[j]? = some (some a):=by rw [hl,List.getElem?_map,hj]; rfl
  rw [List.getElem?_map,Option.map_eq_some_iff] at this
  exact this
 refine ⟨h.wf,fun a ha=>?_,?_,h.bwf,h.keeps,fun a ha=>?_⟩
 rotate_left 2
 ·
  obtain ⟨j,hj,rfl⟩:=List.getElem_of_mem ha
  obtain ⟨i,_,hi⟩:=hget j _ (List.getElem?_eq_getElem hj)
  exact h.out _ (List.mem_of_getElem? hi)
 ·
  obtain ⟨j,hj,rfl⟩:=List.getElem_of_mem ha
  obtain ⟨i,_,hi⟩:=hget j _ (List.getElem?_eq_getElem hj)
  exact h.at hi
 ·
  clear hl
  induction l' generalizing is with
  | nil=>simp
  | cons a l' ih =>
   cases is with
   | nil=>obtain ⟨i,hi,_⟩:=hget 0 a rfl; simp at hi
   | cons i is =>
    have hn':=List.nodup_cons.1 hn
    have hi:l[i]? = some a:=by
     obtain ⟨i',h1,h2⟩:=hget 0 a rfl
     simp at h1; subst h1; exact h2
    rw [List.map_cons,List.flatten_cons,List.nodup_append]
    have own:a.fp.Nodup:=by
     cases a with
     | grow v xs=>cases v <;> simp [bG.fp]
     | row sz v xs=>cases v <;> simp [bG.fp]
     | abs ids p=>exact h.nd.sublist (List.sublist_flatten_of_mem (List.mem_map.2 ⟨_,List.mem_of_getElem? hi,rfl⟩))
     | _=>simp [bG.fp]
    refine ⟨own,ih is hn'.2 (fun j b hj=>?_),fun x hx y hy hxy=>?_⟩
    ·
     obtain ⟨i',h1,h2⟩:=hget (j + 1) b (by simpa using hj)
     exact ⟨i',by simpa using h1,h2⟩
    ·
     subst hxy
     obtain ⟨iM,hfps,hid⟩:=List.mem_flatten.1 hy
     obtain ⟨b,hb,rfl⟩:=List.mem_map.1 hfps
     obtain ⟨j,hj,rfl⟩:=List.getElem_of_mem hb
     obtain ⟨i',h1,h2⟩:=hget (j + 1) l'[j] (by simp)
     refine zC h.nd hi h2 (fun q=>?_) hx hid
     subst q
     exact hn'.1 (List.mem_of_getElem? (by simpa using h1))
end
end Go.Ev

namespace Go.Ev
noncomputable section
set_option linter.unusedVariables false
set_option linter.unusedSimpArgs false
variable {B:St}
theorem vL {S:St} {v:AV} {xs:List D} (h:(bG.grow v xs).ok S):(∃ d,Ar v=some d∧d.cn=.sl (D.Gx xs) false)∧oK v=some xs∧ku v S=some xs.length∧v.plain=true∧v.cells=[v]:=by
 simp only [bG.ok] at h
 split at h
 ·
  subst h; exact ⟨⟨_,rfl,rfl⟩,rfl,rfl,rfl,rfl⟩
 ·
  subst h; exact ⟨⟨_,rfl,rfl⟩,rfl,rfl,rfl,rfl⟩
 ·
  obtain ⟨rfl,_,_⟩:=h; exact ⟨⟨_,rfl,rfl⟩,rfl,rfl,rfl,rfl⟩
 ·
  exact h.elim
theorem mX.vI (xs:List D) (t:Bool):mX (.sl xs false) (.sl xs t):=fun w fr v h=>by
 refine ⟨?_,h.2⟩
 have h1:=h.1
 generalize hcs:v.cells.toList=cs at h1 ⊢
 cases h1 with
 | sl0 a cap _ _=>exact .sl0 a cap false (fun h=>by cases h)
 | sl _ _ b off cap sz vs hne hcap ht hsz hlen hx hc=>exact .sl xs false b off cap sz vs hne hcap (fun h=>by cases h) hsz hlen hx hc
theorem mX.aS (b:Bool):mX (.sl [] b) .aS:=fun w fr v h=>by
 refine ⟨?_,h.2⟩
 have h1:=h.1
 generalize hcs:v.cells.toList=cs at h1 ⊢
 cases h1
 exact .sl0 none 0 b (fun _=>rfl)
theorem Jc {S:St} {v:AV} {xs:List D} (h:(bG.grow v xs).ok S):∃ d,Ar v=some d∧mX (.sl xs false) d:=by
 simp only [bG.ok] at h
 split at h
 ·
  subst h; exact ⟨_,rfl,.aS false⟩
 ·
  subst h; exact ⟨_,rfl,.vI _ _⟩
 ·
  obtain ⟨rfl,_,_⟩:=h; exact ⟨_,rfl,.refl _⟩
 ·
  exact h.elim
theorem EN {C:eT} {S:St} {l:List bG} (H:Has B S l) {i t:Nat} {v:AV} {xs:List D} (hi:l[i]? = some (.grow v xs)) (h:(bz C.P t).isSome=true):nG C t v=true:=by
 have hg:=H.at hi
 unfold bz at h
 unfold nG
 split at h
 ·
  rename_i hu
  simp only [hu]
  simp only [bG.ok] at hg
  split at hg
  ·
   rfl
  ·
   rfl
  ·
   rfl
  ·
   exact hg.elim
 ·
  cases h
theorem E8 {S S':St} {l:List bG} (H:Has B S l) {i:Nat} {v:AV} {xs:List D} (hi:l[i]? = some (.grow v xs)):ku v S'=some xs.length:=by
 have hg:=H.at hi
 simp only [bG.ok] at hg
 split at hg
 ·
  subst hg; rfl
 ·
  subst hg; rfl
 ·
  obtain ⟨rfl,_⟩:=hg; rfl
 ·
  exact hg.elim
theorem BM {C:eT} {α:Type} {enc:α→D} {S:St} {l:List bG} (H:Has B S l) {i t:Nat} {v:AV} {xs:List α} (hi:l[i]? = some (.grow v (xs.map enc))) {n:Int} {k:IntKind} {z:α} {el:Nat} (h:idx xs n=some z) (he:bz C.P t=some el) (ha:(eQ C.P el).isSome=true) (hz:(enc z).cells.length=aM C.P el) :
  gF C t v (.d (.int k n))=some (.eptr (enc z) 0):=by
 obtain ⟨h0,h1⟩:=dR h
 have hm:(xs.map enc)[n.toNat]? = some (enc z):=by rw [List.getElem?_map,h1]; rfl
 have hg:=H.at hi
 simp only [bG.ok] at hg
 split at hg
 ·
  rw [hg] at hm; simp at hm
 ·
  rw [hg]
  simp only [gF,he,h0,ha,decide_true,Bool.and_self,if_true,hm,hz]
 ·
  rw [hg.1]
  simp only [gF,he,h0,ha,decide_true,Bool.and_self,if_true,hm,hz]
 ·
  exact hg.elim
theorem Has.Gl {S:St} {l:List bG} (H:Has B S l) {a:bG} (hf:a.fp=[]) (ha:a.ok S):Has B S (a :: l) where
 wf:=H.wf
 ok:=fun x hx=>by
  rcases List.mem_cons.1 hx with rfl | hx
  ·
   exact ha
  ·
   exact H.ok x hx
 nd:=by rw [List.map_cons,List.flatten_cons,hf,List.nil_append]; exact H.nd
 bwf:=H.bwf
 keeps:=H.keeps
 out:=fun x hx id hid=>by
  rcases List.mem_cons.1 hx with rfl | hx
  ·
   rw [hf] at hid; cases hid
  ·
   exact H.out x hx id hid
theorem Has.IB {S:St} {l:List bG} (H:Has B S l):Has B S (.grow (.d .aS) [] :: l):=H.Gl rfl rfl
theorem Has.FN {S:St} {l:List bG} (H:Has B S l) (xs:List D):Has B S (.grow (.d (.sl xs true)) xs :: l):=H.Gl rfl rfl
theorem Has.LP {S S':St} {l:List bG} (h:Has B S l) {i:Nat} {a a':bG} (hi:l[i]? = some a) (hf0:a.fp=[]) (hf:a'.fp=[S.nx]) (ha:a'.ok S') (wf:S'.Wf)
  (hH:∀ id,id < S.nx→S'.H.get id=S.H.get id) (hT:∀ id,id < S.nx→S'.T.get id=S.T.get id) (hnx:S.nx ≤ S'.nx):Has B S' (l.set i a'):=by
 have hil:i < l.length:=(List.getElem?_eq_some_iff.1 hi).1
 have hlt:∀ x ∈ l,∀ id ∈ x.fp,id < S.nx:=fun x hx=>bG.lt h.wf (h.ok x hx)
 have hBlt:∀ id b,B.H.get id=some b→id < S.nx:=fun id b hb=>Nat.lt_of_lt_of_le (h.bwf.H hb) h.keeps.nx
 have hBltT:∀ id n,B.T.get id=some n→id < S.nx:=fun id b hb=>Nat.lt_of_lt_of_le (h.bwf _ (uG hb)) h.keeps.nx
 refine ⟨wf,fun x hx=>?_,?_,h.bwf,⟨Nat.le_trans h.keeps.nx hnx,fun id b hb=>?_,fun id n hn=>?_⟩,fun x hx id hid=>?_⟩
 rotate_left 2
 ·
  rw [hH id (hBlt id b hb)]; exact h.keeps.H id b hb
 ·
  rw [hT id (hBltT id n hn)]; exact h.keeps.T id n hn
 ·
  rcases List.mem_or_eq_of_mem_set hx with hx | rfl
  ·
   exact h.out x hx id hid
  ·
   rw [hf,List.mem_singleton] at hid
   subst hid
   refine ⟨?_,?_⟩
   ·
    cases hB:B.H.get S.nx with
    | none=>rfl
    | some b'=>have:=hBlt _ _ hB; omega
   ·
    cases hB:B.T.get S.nx with
    | none=>rfl
    | some b'=>have:=hBltT _ _ hB; omega
 ·
  obtain ⟨j,hj,rfl⟩:=List.getElem_of_mem hx
  rw [List.length_set] at hj
  by_cases hij:i=j
  ·
   subst hij; rw [List.getElem_set_self]; exact ha
  ·
   rw [List.getElem_set_ne hij]
   exact bG.keep (h.ok l[j] (List.getElem_mem hj)) (fun id hid=>hH id (hlt _ (List.getElem_mem hj) id hid)) (fun id hid=>hT id (hlt _ (List.getElem_mem hj) id hid))
 ·
  have hperm:∀ (l:List bG) (i:Nat),l[i]? = some a→(∀ x ∈ l,∀ id ∈ x.fp,id < S.nx)→(l.map bG.fp).flatten.Nodup→((l.set i a').map bG.fp).flatten.Nodup∧∀ id ∈ ((l.set i a').map bG.fp).flatten,id=S.nx∨id ∈ (l.map bG.fp).flatten:=by
   intro l
   induction l with
   | nil=>intro i hi; simp at hi
   | cons x l ih =>
    intro i hi hlt hnd
    rw [List.map_cons,List.flatten_cons,List.nodup_append] at hnd
    obtain ⟨n1,n2,n3⟩:=hnd
    cases i with
    | zero =>
     simp only [List.getElem?_cons_zero,Option.some.injEq] at hi
     subst hi
     simp only [List.set_cons_zero,List.map_cons,List.flatten_cons,hf,hf0,List.nil_append,List.singleton_append,List.nodup_cons]
     refine ⟨⟨fun hm=>?_,n2⟩,fun id hid=>?_⟩
     ·
      obtain ⟨iM,hfps,hid⟩:=List.mem_flatten.1 hm
      obtain ⟨y,hy,rfl⟩:=List.mem_map.1 hfps
      have:=hlt y (List.mem_cons_of_mem _ hy) _ hid
      omega
     ·
      rcases List.mem_cons.1 hid with rfl | hid
      ·
       exact .inl rfl
      ·
       exact .inr hid
    | succ i =>
     simp only [List.getElem?_cons_succ] at hi
     obtain ⟨m1,m2⟩:=ih i hi (fun y hy=>hlt y (List.mem_cons_of_mem _ hy)) n2
     simp only [List.set_cons_succ,List.map_cons,List.flatten_cons]
     refine ⟨List.nodup_append.2 ⟨n1,m1,fun u hu v hv huv=>?_⟩,fun id hid=>?_⟩
     ·
      subst huv
      rcases m2 u hv with rfl | hv
      ·
       have:=hlt x List.mem_cons_self _ hu; omega
      ·
       exact n3 u hu u hv rfl
     ·
      rcases List.mem_append.1 hid with hid | hid
      ·
       exact .inr (List.mem_append.2 (.inl hid))
      ·
       rcases m2 id hid with rfl | hid
       ·
        exact .inl rfl
       ·
        exact .inr (List.mem_append.2 (.inr hid))
  exact (hperm l i hi hlt h.nd).1
def app {α:Type} (nb:Nat) (l ys:List α):Option (List α):=if (l.length + ys.length) * nb ≤ bound then some (l ++ ys) else none
theorem mO {α:Type} {nb:Nat} {l ys r:List α} (h:app nb l ys=some r):(l.length + ys.length) * nb ≤ bound∧r=l ++ ys:=by
 unfold app at h
 split at h
 ·
  rename_i hb; exact ⟨hb,(Option.some.inj h).symm⟩
 ·
  cases h
theorem fI {α:Type} {enc:α→D} {n:Nat} (h:∀ z,(enc z).cells.length=n):∀ (l:List α),sizes n (l.map enc)=true
 | []=>rfl
 | x :: l=>by simp only [List.map_cons,sizes,h,Nat.beq_refl,fI h l,Bool.and_self]
theorem De {C:eT} {S:St} {l:List bG} (H:Has B S l) {i:Nat} {v:AV} {xs ys:List D} (hi:l[i]? = some (.grow v xs)) {el nb:Nat} (hb:(xs.length + ys.length) * nb ≤ bound) (hnb:bytesOf C.P el=nb) (h0:(Nat.blt 0 nb && Nat.ble nb 65536)=true)
  (hx:sizes (aM C.P el) xs=true) (hy:sizes (aM C.P el) ys=true) (hz:fK C el=true):∃ v' S',jb C el S v ys=some (v',S')∧Has B S' (l.set i (.grow v' (xs ++ ys))):=by
 subst hnb
 simp only [Bool.and_eq_true] at h0
 have h1:=Nat.le_of_ble_eq_true h0.1
 have h2:=Nat.le_of_ble_eq_true h0.2
 have h1:0 < bytesOf C.P el:=h1
 have hinfo:(C.P.info? el).isSome=true:=by
  unfold fK at hz
  cases hq:C.P.info? el with
  | none=>rw [hq] at hz; cases hz
  | some x=>rfl
 have hil:i < l.length:=(List.getElem?_eq_some_iff.1 hi).1
 have hg:=H.at hi
 by_cases hne:ys.length=0
 ·
  have:ys=[]:=List.eq_nil_of_length_eq_zero hne
  subst this
  refine ⟨v,S,?_,?_⟩
  ·
   simp only [bG.ok] at hg
   split at hg <;> simp_all [jb]
  ·
   rw [List.append_nil]
   have:l.set i (.grow v xs)=l:=by
    apply List.ext_getElem?
    intro j
    rw [List.getElem?_set]
    by_cases hij:i=j
    ·
     subst hij; simp [hil]; exact (List.getElem?_eq_some_iff.1 hi).2.symm
    ·
     simp [hij]
   rw [this]; exact H
 ·
  have fresh:S.H.get S.nx=none:=H.wf.fresh (Nat.le_refl _)
  have new:∀ zs:List D,zs ≠ []→(bG.grow v xs).fp=[]→Has B { S with T:=S.T.set S.nx zs.length,nx:=S.nx + 1 } (l.set i (.grow (.tsl zs S.nx) zs)):=fun zs hzs hfp=>by
   refine H.LP hi hfp rfl ⟨rfl,hzs,by simp [AL.aP],fresh⟩ (fun id hl=>?_) (fun id hid=>rfl) (fun id hid=>by simp only [AL.aP]; rw [if_neg (by omega)]) (Nat.le_succ _)
   show id < S.nx + 1
   unfold live cur at hl
   cases hH:S.H.get id with
   | some b=>have:=H.wf.H hH; omega
   | none =>
    simp only [hH,AL.aP] at hl
    by_cases hq:S.nx=id
    ·
     omega
    ·
     rw [if_neg hq] at hl
     cases hT:S.T.get id with
     | none=>exact absurd hT hl
     | some n=>have:=H.wf id (uG hT); omega
  simp only [bG.ok] at hg
  split at hg
  ·
   subst hg
   refine ⟨_,_,?_,new ys (fun q=>hne (by rw [q]; rfl)) rfl⟩
   simp only [List.length_nil,Nat.zero_add] at hb
   simp only [jb,if_neg hne,if_pos (show ys.length * bytesOf C.P el ≤ bound∧0 < bytesOf C.P el∧bytesOf C.P el ≤ 65536∧sizes (aM C.P el) ys=true∧fK C el=true from ⟨hb,h1,h2,hy,hz⟩)]
  ·
   rename_i zs
   subst hg
   refine ⟨_,_,?_,new (zs ++ ys) (fun q=>hne (by simp at q; simp [q.2])) rfl⟩
   simp only [jb,if_neg hne,if_pos (show (zs.length + ys.length) * bytesOf C.P el ≤ bound∧0 < bytesOf C.P el∧bytesOf C.P el ≤ 65536∧sizes (aM C.P el) ys=true∧sizes (aM C.P el) zs=true∧fK C el=true from ⟨hb,h1,h2,hy,hx,hz⟩),if_true,List.length_append]
  ·
   rename_i zs tok
   obtain ⟨rfl,hne2,hT,hHt⟩:=hg
   have hpos:0 < zs.length:=List.length_pos_iff.2 hne2
   refine ⟨.tsl (zs ++ ys) tok,{ S with T:=S.T.set tok (zs.length + ys.length) },?_,?_⟩
   ·
    simp only [jb,if_neg hne,if_pos (show (zs.length + ys.length) * bytesOf C.P el ≤ bound∧0 < bytesOf C.P el∧bytesOf C.P el ≤ 65536∧sizes (aM C.P el) ys=true∧sizes (aM C.P el) zs=true∧fK C el=true from ⟨hb,h1,h2,hy,hx,hz⟩),hT]
    rw [if_pos ⟨trivial,hpos⟩]
   ·
    refine H.set hi rfl ⟨rfl,by simp [hne2],by simp [AL.aP],hHt⟩ (fun id hl=>?_) (fun id hid=>rfl) (fun id hid=>?_) rfl
    ·
     show id < S.nx
     refine H.wf id ?_
     unfold live cur at hl ⊢
     cases hH:S.H.get id with
     | some b=>cases b <;> simp
     | none =>
      simp only [hH,AL.aP] at hl ⊢
      by_cases hq:tok=id
      ·
       subst hq; rw [hT]; simp
      ·
       rw [if_neg hq] at hl; exact hl
    ·
     simp only [bG.fp,List.mem_singleton] at hid
     simp only [AL.aP]; rw [if_neg (fun q=>hid q.symm)]
  ·
   exact hg.elim
theorem DV {C:eT} {ρ:Operand→Option AV} {x y:Operand} {S:St} {l:List bG} (H:Has B S l) {i t u:Nat} {v vy:AV} {xs ys:List D} (hx:ρ x=some v) (hy:ρ y=some vy) (hi:l[i]? = some (.grow v xs)) (hd:oK vy=some ys) (hnr:C.rowT t=false) (hu:iX C u=true) {el nb:Nat} (he:bz C.P t=some el)
  (hb:(xs.length + ys.length) * nb ≤ bound) (hnb:bytesOf C.P el=nb) (h0:(Nat.blt 0 nb && Nat.ble nb 65536)=true) (hsx:sizes (aM C.P el) xs=true) (hsy:sizes (aM C.P el) ys=true) (hz:fK C el=true) :
  ∃ v' S',oper C ρ S (.call { callee:=.builtin .append,args:=#[x,y],argTypes:=#[t,u] })=some (.val v' S')∧Has B S' (l.set i (.grow v' (xs ++ ys))):=by
 obtain ⟨v',S',h1,h2⟩:=De (C:=C) H hi hb hnb h0 hsx hsy hz
 refine ⟨v',S',?_,h2⟩
 have hm:fV ρ [x,y]=some [v,vy]:=by simp only [fV,hx,hy,Option.map_some]
 have hg:=H.at hi
 simp only [oper,hm,dK,List.getElem?_toArray,List.getElem?_cons_zero,List.getElem?_cons_succ,hu,if_true,he]
 simp only [bG.ok] at hg
 split at hg
 ·
  simp only [hnr,cond_false,hd,h1,Option.map_some]
 ·
  simp only [hnr,cond_false,hd,h1,Option.map_some]
 ·
  simp only [hnr,cond_false,hd,h1,Option.map_some]
 ·
  exact hg.elim
def cut {α:Type} (l:List α) (lo hi:Int):Option (List α):=if 0 ≤ lo∧lo ≤ hi∧hi ≤ l.length then some ((l.take hi.toNat).drop lo.toNat) else none
theorem yF {α:Type} {l r:List α} {lo hi:Int} (h:cut l lo hi=some r):(0 ≤ lo∧lo ≤ hi∧hi ≤ l.length)∧r=(l.take hi.toNat).drop lo.toNat:=by
 unfold cut at h
 split at h
 ·
  rename_i hb; exact ⟨hb,(Option.some.inj h).symm⟩
 ·
  cases h
end
end Go.Ev

namespace Go.Ev
noncomputable section
set_option linter.unusedVariables false
set_option linter.unusedSimpArgs false
variable {B:St}
section steps
variable {R:bO} {C:eT} {nt:Nat} {ops:Array Oper} {rest:List Oper} {e:Env} {S S':St} {Q:Stp→Prop} {l l':List bG} {t ty:Nat} {p:String} {af:Array Edge} {g:Option (Nat × Bool)} {v:AV} {x y:Operand}
theorem aj.box {bt:Nat} {cs:List AV} (H:Has B S l) (hw:bC ops e { dst:=some t,op:=.box bt x,type:=ty,pos:=p,after:=af,guard:=g }=some true) (hx:bB e x=some v) (hp:v.plain=true) (hc:v.cells=cs) (ht:Nat.blt t nt=true)
  (k:∀ b S',Has B S' (.box b cs :: l)→aj R C nt ops rest ((t,.ptr b 0 0) :: e) S' Q) :
  aj R C nt ops ({ dst:=some t,op:=.box bt x,type:=ty,pos:=p,after:=af,guard:=g } :: rest) e S Q :=
 aj.val hw (IG H hx hp hc) ht (k _ _ (H.box cs))
theorem aj.alloc {bt:Nat} {z:D} {cs:List AV} (H:Has B S l) (hw:bC ops e { dst:=some t,op:=.alloc bt,type:=ty,pos:=p,after:=af,guard:=g }=some true) (ho:C.objT bt=none) (hz:zeroOf C.P bt=some z) (hc:(AV.d z).cells=cs) (ht:Nat.blt t nt=true)
  (k:∀ b S',Has B S' (.box b cs :: l)→aj R C nt ops rest ((t,.ptr b 0 0) :: e) S' Q) :
  aj R C nt ops ({ dst:=some t,op:=.alloc bt,type:=ty,pos:=p,after:=af,guard:=g } :: rest) e S Q :=
 aj.val hw (yX H ho hz hc) ht (k _ _ (H.box cs))
theorem aj.store {bt i id off n:Nat} {cs cv cs':List AV} (H:Has B S l) (hw:bC ops e { dst:=none,op:=.store bt x y,type:=ty,pos:=p,after:=af,guard:=g }=some true) (ha:bB e x=some (.ptr id 0 off)) (hy:bB e y=some v) (hi:l[i]? = some (.box id cs)) (hcv:v.cells=cv) (hn:cv.length=n) (hz:aM C.P bt=n) (hp:v.plain=true) (hag:(eQ C.P bt).isSome=true) (hb:Nat.ble (off + n) cs.length=true)
  (hs:setAt cs off cv=cs') (hl:l.set i (.box id cs')=l') (k:∀ S',Has B S' l'→aj R C nt ops rest e S' Q) :
  aj R C nt ops ({ dst:=none,op:=.store bt x y,type:=ty,pos:=p,after:=af,guard:=g } :: rest) e S Q:=by
 subst hs
 subst hl
 exact aj.skip hw (zH H ha hy hcv hn hz hp hag hi hb) (k _ (H.write hi))
theorem aj.append {t1 u i:Nat} {vy:AV} {xs ys zs:List D} {el nb:Nat} (H:Has B S l) (hw:bC ops e { dst:=some t,op:=.call { callee:=.builtin .append,args:=#[x,y],argTypes:=#[t1,u] },type:=ty,pos:=p,after:=af,guard:=g }=some true)
  (hx:bB e x=some v) (hy:bB e y=some vy) (hi:l[i]? = some (.grow v xs)) (hd:oK vy=some ys) (hnr:C.rowT t1=false) (hu:iX C u=true) (he:bz C.P t1=some el) (hb:(xs.length + ys.length) * nb ≤ bound) (hnb:bytesOf C.P el=nb) (h0:(Nat.blt 0 nb && Nat.ble nb 65536)=true)
  (hsx:sizes (aM C.P el) xs=true) (hsy:sizes (aM C.P el) ys=true) (hz:fK C el=true) (ht:Nat.blt t nt=true) (hzs:xs ++ ys=zs)
  (k:∀ v' S',Has B S' (l.set i (.grow v' zs))→aj R C nt ops rest ((t,v') :: e) S' Q) :
  aj R C nt ops ({ dst:=some t,op:=.call { callee:=.builtin .append,args:=#[x,y],argTypes:=#[t1,u] },type:=ty,pos:=p,after:=af,guard:=g } :: rest) e S Q:=by
 subst hzs
 obtain ⟨v',S',h1,h2⟩:=DV (ρ:=bB e) H hx hy hi hd hnr hu he hb hnb h0 hsx hsy hz
 exact aj.val hw h1 ht (k v' S' h2)
theorem ai.put {t:Nat} {x y:AV} {e2 e:Env} (h:ai e2 e) (hl:Less y x):ai ((t,y) :: e2) ((t,x) :: e):=fun u z hz=>by
 rw [AL.gm] at hz ⊢
 by_cases hu:t=u
 ·
  rw [if_pos hu] at hz ⊢; cases hz; exact ⟨x,rfl,hl⟩
 ·
  rw [if_neg hu] at hz ⊢; exact h u z hz
def Gc (t:Nat):Env→Bool
 | []=>true
 | (k,_) :: l=>!(Nat.beq k t) && Gc t l
theorem Bg {t:Nat}:∀ {e:Env},Gc t e=true→AL.get e t=none
 | [],_=>rfl
 | (k,v) :: l,h=>by
  simp only [Gc,Bool.and_eq_true,Bool.not_eq_true'] at h
  rw [AL.gm,if_neg (fun q=>by subst q; rw [Nat.beq_refl] at h; cases h.1)]
  exact Bg h.2
theorem ai.push {t:Nat} {x:AV} {e2 e:Env} (hk:Gc t e2=true) (h:ai e2 e):ai e2 ((t,x) :: e):=fun u z hz=>by
 have:t ≠ u:=fun q=>by subst q; rw [Bg hk] at hz; cases hz
 rw [AL.gm,if_neg this]
 exact h u z hz
theorem aj.kS {L:List Oper} (n t:Nat) (v:AV) (h:aj R C nt ops (L.take n) e S (fun r=>∃ e',r=.go e' S∧ai ((t,v) :: e) e')) (k:aj R C nt ops (L.drop n) ((t,v) :: e) S Q):aj R C nt ops L e S Q:=by
 have:=aj.app (R:=R) (C:=C) (nt:=nt) (ops:=ops) (L.take n) (l2:=L.drop n) (e:=e) (S:=S) (Q:=Q) (h.mono fun r hr=>by obtain ⟨e',rfl,hw⟩:=hr; exact aj.weak hw k)
 rwa [List.take_append_drop] at this
theorem aj.bool {b c:Bool} (hb:b=c) (k:aj R C nt ops rest ((t,.d (.bool c)) :: e) S Q):aj R C nt ops rest ((t,.d (.bool b)) :: e) S Q:=by subst hb; exact k
theorem aj.less {y':AV} (h:Less y' v) (k:aj R C nt ops rest ((t,y') :: e) S Q):aj R C nt ops rest ((t,v) :: e) S Q:=aj.weak (ai.top h) k
end steps
theorem Less.eq {x y:AV} (h:x=y):Less x y:=by subst h; exact .refl x
theorem Fg:∀ (l:List D),lG (l.map .d)=some l
 | []=>rfl
 | x :: l=>by simp [lG,Ar,Fg l]
theorem AY:∀ {cs:List AV} {xs:List D},qU cs=some xs→lG cs=some xs
 | [],xs,h=>by simp only [qU,Option.some.injEq] at h; subst h; rfl
 | .d x :: l,xs,h=>by
  simp only [qU,Option.map_eq_some_iff] at h
  obtain ⟨ys,h1,rfl⟩:=h
  simp [lG,Ar,AY h1]
theorem Ir {ys xs:List D} (h:l9 ys xs) (hy:∀ y ∈ ys,y.isAgg=false) (hx:∀ x ∈ xs,x.isAgg=false):mX (.agg ys) (.agg xs):=fun w fr v hr=>by
 refine ⟨?_,hr.2⟩
 have h1:=hr.1
 generalize hcs:v.cells.toList=cs at h1 ⊢
 cases h1 with
 | agg _ _ hl ho hn hh =>
  refine .agg ys cs (by rw [hl,h.len]) ho hy (fun i y u hi hu=>?_)
  have hlt:i < xs.length:=by rw [← h.len]; exact (List.getElem?_eq_some_iff.1 hi).1
  have hx':=List.getElem?_eq_getElem hlt
  have ho':=ho u (List.mem_of_getElem? hu)
  have:=hh i _ u hx' hu
  have hcell:u.cells = #[u]∧wz u=false:=by
   cases u <;> simp_all [Value.oneCell',Value.cells,wz]
  have hd:bL w fr xs[i] u:=⟨by rw [hcell.1]; exact this,by rw [hcell.2]; exact hx _ (List.mem_of_getElem? hx')⟩
  have:=(h.get hi hx' w fr u hd).1
  rw [hcell.1] at this
  exact this
def ax (cs:List AV) (ds:List D):Prop:=∃ ds',lG cs=some ds'∧l9 ds ds'∧(∀ d ∈ ds,d.isAgg=false)∧∀ d ∈ ds',d.isAgg=false
theorem ax.nil:ax [] []:=⟨[],rfl,.nil,by simp,by simp⟩
theorem ax.jI {x:AV} {d d':D} {xs:List AV} {ds:List D} (h:Ar x=some d') (hc:mX d d') (h1:d.isAgg=false) (h2:d'.isAgg=false) (k:ax xs ds):ax (x :: xs) (d :: ds):=by
 obtain ⟨ds',k1,k2,k3,k4⟩:=k
 exact ⟨d' :: ds',by simp only [lG,h,k1,Option.map_some],.cons hc k2,fun y hy=>by rcases List.mem_cons.1 hy with rfl | hy; exact h1; exact k3 y hy,fun y hy=>by rcases List.mem_cons.1 hy with rfl | hy; exact h2; exact k4 y hy⟩
theorem ax.eq {d:D} {xs:List AV} {ds:List D} (h:d.isAgg=false) (k:ax xs ds):ax (.d d :: xs) (d :: ds):=.jI rfl (.refl d) h h k
theorem ax.pack {cs:List AV} {ds:List D} (h:ax cs ds):aQ [fD cs] [.agg ds]:=by
 obtain ⟨ds',h1,h2,h3,h4⟩:=h
 refine ⟨[.agg ds'],?_,.cons (Ir h2 h3 h4) .nil⟩
 have:Ar (fD cs)=some (.agg ds'):=by
  unfold fD
  split
  ·
   rename_i xs hx
   have:=AY hx
   rw [h1] at this
   cases this
   rfl
  ·
   show (lG cs).map D.agg=_
   rw [h1]; rfl
 simp only [lG,this,Option.map_some]
theorem aQ.less {x:AV} {d:D} (h:aQ [x] [d]):Less (.d d) x:=by
 obtain ⟨ds',h1,h2⟩:=h
 simp only [lG] at h1
 split at h1
 ·
  rename_i y hy
  simp only [Option.map_some,Option.some.injEq] at h1
  subst h1
  cases h2 with
  | cons h _=>exact fun cx S w v hr=>.d _ _ (h _ _ _ (qB hy hr))
 ·
  cases h1
theorem Less.fD {cs:List AV} {ds:List D} (h:ax cs ds):Less (.d (.agg ds)) (fD cs):=h.pack.less
theorem MI {α:Type} {enc:α→D} (h:∀ x,(enc x).cn=enc x) (l:List α) (b:Bool):(D.sl (l.map enc) b).cn=.sl (l.map enc) false:=by
 simp only [D.cn,D.Gd,List.map_map]
 congr 1
 exact List.map_congr_left (fun x _=>h x)
theorem aQ.grow {α:Type} {enc:α→D} {S:St} {l:List bG} (H:Has B S l) {i:Nat} {v:AV} {xs:List α} (hi:l[i]? = some (.grow v (xs.map enc))) {vs:List AV} {ds:List D} (k:aQ vs ds):aQ (v :: vs) (.sl (xs.map enc) false :: ds):=by
 obtain ⟨d,h1,h2⟩:=Jc (H.at hi)
 exact aQ.jI h1 h2 k
theorem ax.grow {α:Type} {enc:α→D} {S:St} {l:List bG} (H:Has B S l) {i:Nat} {v:AV} {xs:List α} (hi:l[i]? = some (.grow v (xs.map enc))) {vs:List AV} {ds:List D} (k:ax vs ds):ax (v :: vs) (.sl (xs.map enc) false :: ds):=by
 obtain ⟨d,h1,h2⟩:=Jc (H.at hi)
 refine ax.jI h1 h2 rfl ?_ k
 have hg:=H.at hi
 simp only [bG.ok] at hg
 split at hg
 ·
  cases h1; rfl
 ·
  cases h1; rfl
 ·
  cases h1; rfl
 ·
  exact hg.elim
theorem jW {v:AV} {d:D} (h:aQ [v] [d]):∃ v',yQ v=some v'∧HY (.d d) v':=by
 obtain ⟨ds',h1,h2⟩:=h
 simp only [lG] at h1
 split at h1
 ·
  rename_i y hy
  simp only [Option.map_some,Option.some.injEq] at h1
  subst h1
  cases h2 with
  | cons h2 _ =>
  refine ⟨.d y,?_,.one h2⟩
  unfold yQ
  split
  ·
   simp [Ar] at hy
  ·
   rw [hy]; rfl
 ·
  cases h1
theorem mH {C:eT} {fn:Func} {e:Env} {S:St} {l:List bG} (H:Has B S l) {a t i id:Nat} {cs:List AV} {v:AV} (hf:fn.results = #[.cell a t]) (ha:AL.get e a=some (.ptr id 0 0)) (hi:l[i]? = some (.box id cs)) (hp:part C.P t cs 0=some v):mW C fn e S=some v:=by
 have hb:S.H.get id=some (.cells 0 cs):=H.at hi
 simp only [mW,hf,fV,zh,ha,kT,St.look,hb,Nat.beq_refl,cond_true,hp,Option.map_some]
end
end Go.Ev

namespace Go.Ev
set_option linter.unusedVariables false
set_option linter.unusedSimpArgs false
variable {B:St}
abbrev Str:=List UInt8
abbrev Nw {α:Type} (enc:α→D) (l:List α):D:=.sl (l.map enc) false
theorem C8:∀ {l:List D},(∀ d ∈ l,d.cn=d)→D.Gx l=l
 | [],_=>rfl
 | x :: l,h=>by rw [D.Gx,h x List.mem_cons_self,C8 (fun d hd=>h d (List.mem_cons_of_mem _ hd))]
theorem Jf {l:List D} (h:∀ d ∈ l,d.cn=d):(D.agg l).cn=.agg l:=by rw [D.cn,C8 h]
theorem Less.agg' {cs:List AV} {ds:List D} {d:D} (h:ax cs ds) (hd:d=.agg ds):Less (.d d) (Ev.fD cs):=by subst hd; exact Less.fD h
theorem aQ.lV {cs:List AV} {ds:List D} {d:D} (h:ax cs ds) (hd:d=.agg ds):aQ [Ev.fD cs] [d]:=by subst hd; exact h.pack
theorem KS {α:Type} {enc:α→D} {S:St} {l:List bG} (H:Has B S l) {i:Nat} {v:AV} {xs:List α} (hi:l[i]? = some (.grow v (xs.map enc))):Less (.d (.sl (xs.map enc) false)) v:=(aQ.grow H hi .nil).less
theorem LY {xs:List D} {b:Bool}:Less (.d (.sl xs false)) (.d (.sl xs b)):=(mX.vI xs b).less
theorem LF {b:Bool}:Less (.d (.sl [] b)) (.d .aS):=(mX.aS b).less
theorem lC {α:Type} {enc:α→D} {nb:Nat} {l ys r:List α} (h:app nb l ys=some r):((l.map enc).length + (ys.map enc).length) * nb ≤ bound:=by
 have:=(mO h).1
 simpa using this
theorem sG {α:Type} {enc:α→D} {nb:Nat} {l ys r:List α} (h:app nb l ys=some r):l.map enc ++ ys.map enc=r.map enc:=by
 rw [(mO h).2,List.map_append]
def G9 (k:IntKind) (a b:Int):Option Int:=if b=0 then none else some (a.tmod b)
theorem BG {P:Program} {t:Nat} {k:IntKind} {a b z:Int} (h:G9 k a b=some z):jO P t .rem (.d (.int k a)) (.d (.int k b))=some (.int k z):=by
 unfold G9 at h
 split at h
 ·
  cases h
 ·
  rename_i hb; rw [Im hb]; cases h; rfl
def wK (a b:Int):Int:=if b < a then b else a
def vk (a b:Int):Int:=if b > a then b else a
section
variable {C:eT} {ρ:Operand→Option AV} {S:St} {x y z:Operand} {t:Nat}
theorem Dk {k:IntKind} {a b:Int} {ts:Array Nat} (hx:ρ x=some (.d (.int k a))) (hy:ρ y=some (.d (.int k b))):oper C ρ S (.call { callee:=.builtin .min,args:=#[x,y],argTypes:=ts })=some (.val (.d (.int k (wK a b))) S):=by
 have:fV ρ [x,y]=some [.d (.int k a),.d (.int k b)]:=by simp only [fV,hx,hy,Option.map_some]
 simp only [oper,this,dK,rX,if_true,Option.map_some]; rfl
theorem zm {k:IntKind} {a b:Int} {ts:Array Nat} (hx:ρ x=some (.d (.int k a))) (hy:ρ y=some (.d (.int k b))):oper C ρ S (.call { callee:=.builtin .max,args:=#[x,y],argTypes:=ts })=some (.val (.d (.int k (vk a b))) S):=by
 have:fV ρ [x,y]=some [.d (.int k a),.d (.int k b)]:=by simp only [fV,hx,hy,Option.map_some]
 simp only [oper,this,dK,rX,if_true,Option.map_some]; rfl
theorem bu {α:Type} {enc:α→D} {l:List α} {b:Bool} {tt:Nat} (h:ρ x=some (.d (.sl (l.map enc) b))) (ht:(bz C.P tt).isSome=true):oper C ρ S (.call { callee:=.builtin .len,args:=#[x],argTypes:=#[tt] })=some (.val (.d (.int .i64 (l.length:Int))) S) :=
 mM h (I9 ht) (by simp [ku])
theorem GJ {α:Type} {enc:α→D} {xs:List α} {tt:Nat} {S0:St} {l:List bG} (H:Has B S0 l) {i:Nat} {v:AV} (hi:l[i]? = some (.grow v (xs.map enc))) (h:ρ x=some v) (ht:(bz C.P tt).isSome=true):oper C ρ S (.call { callee:=.builtin .len,args:=#[x],argTypes:=#[tt] })=some (.val (.d (.int .i64 (xs.length:Int))) S) :=
 mM h (EN H hi ht) (by rw [E8 H hi]; simp)
theorem vo:∀ (l:List Int),lS (l.map (D.int .u8))=some (l.map fun n=>UInt8.ofNat n.toNat)
 | []=>rfl
 | n :: l=>by simp only [List.map_cons,lS,vo l,Option.map_some]
theorem yf {src dst:Nat} {l:List Int} {b:Bool} (h:ρ x=some (.d (.sl (l.map (D.int .u8)) b))) (hd:yg C.P dst=true) (hs:sM C src=true):oper C ρ S (.convert src dst x)=some (.val (.d (.str (l.map fun n=>UInt8.ofNat n.toNat))) S):=by
 simp only [oper,h,zK,hd,hs,Bool.and_self,if_true,vo,Option.map_some]
def sS (l:List (Nat × Nat)):Nat→Option (Nat × Nat):=fun i=>l[i]?
def placesOf (P:Program) (t:Nat):Option (List (Nat × Nat)):=match P.underlying t with
 | some (.struct fs)=>if fs.all fun f=>(P.underlying f.type).isSome then some (fs.toList.map fun x=>(x.offset,aM P x.type)) else none
 | _=>none
theorem nS {l:List (Nat × Nat)} (h:placesOf C.P t=some l):oper.P_place C t=some (sS l):=by
 unfold placesOf at h
 unfold oper.P_place
 split at h
 ·
  rename_i fs hu
  simp only [hu]
  split at h
  ·
   rename_i ha
   rw [if_pos ha]
   simp only [Option.some.injEq] at h
   subst h
   congr 1
   funext i
   simp [sS]
  ·
   cases h
 ·
  cases h
theorem fu {ps:Array (Nat × Operand)} {z:D} {pv:List (Nat × AV)} {pl:Nat→Option (Nat × Nat)} {cs:List AV} (hz:zeroOf C.P t=some z) (he:mZ ρ ps=some pv) (hp:oper.P_place C t=some pl) (hf:jJ nA pl (AV.d z).cells pv=some cs):oper C ρ S (.build t ps)=some (.val (fD cs) S):=by
 simp only [oper,hz,he,hp,hf,Option.map_some]
inductive uU (sz:Nat):List AV→List D→Prop
 | nil:uU sz [] []
 | cons {v:AV} {d:D} {vs:List AV} {ds:List D} (h:Ar v=some d) (hl:d.cells.length=sz) (k:uU sz vs ds):uU sz (v :: vs) (d :: ds)
def uj (n:Nat):List AV→List (Nat × AV)
 | []=>[]
 | v :: l=>(n,v) :: uj (n + 1) l
theorem qx {α:Type}:∀ (l a b c:List α),l.length=b.length→setAt (a ++ b ++ c) a.length l=a ++ l ++ c
 | [],a,b,c,h=>by
  have:b=[]:=List.eq_nil_of_length_eq_zero h.symm
  subst this; simp [setAt]
 | v :: l,a,b,c,h=>by
  cases b with
  | nil=>simp at h
  | cons w b =>
   simp only [List.length_cons,Nat.add_right_cancel_iff] at h
   have:=qx l (a ++ [v]) b c h
   simp only [setAt]
   have e:(a ++ w :: b ++ c).set a.length v=a ++ [v] ++ b ++ c:=by
    simp [List.set_append]
   rw [e,show a.length + 1=(a ++ [v]).length by simp,this]
   simp
theorem Fw {sz:Nat} {vs:List AV} {ds:List D} (h:uU sz vs ds):∀ (done:List D) (todo:List D),(∀ d ∈ done,d.cells.length=sz)→todo.length=vs.length * sz →
  jJ cellsD (fun i=>some (i * sz,sz)) ((done.map D.cells).flatten ++ todo) (uj done.length vs)=some (((done ++ ds).map D.cells).flatten):=by
 induction h with
 | nil =>
  intro done todo _ ht
  have:todo=[]:=List.eq_nil_of_length_eq_zero (by simpa using ht)
  subst this
  simp [uj,jJ]
 | @cons v d vs ds h hl k ih =>
  intro done todo hd ht
  have hlen:((done.map D.cells).flatten).length=done.length * sz:=by
   clear ih ht
   induction done with
   | nil=>simp
   | cons x l ihl =>
    simp only [List.map_cons,List.flatten_cons,List.length_append,hd x List.mem_cons_self,List.length_cons,ihl (fun d h=>hd d (List.mem_cons_of_mem _ h))]
    rw [Nat.add_mul]; omega
  simp only [List.length_cons] at ht
  rw [Nat.add_mul,Nat.one_mul] at ht
  have hc:cellsD v=some d.cells:=by simp only [cellsD,h]
  simp only [uj,jJ,hc]
  rw [if_pos ⟨hl,by rw [List.length_append,hlen,hl]; omega⟩]
  have e1:todo=todo.take sz ++ todo.drop sz:=(List.take_append_drop sz todo).symm
  have e2:setAt ((done.map D.cells).flatten ++ todo) (done.length * sz) d.cells=((done ++ [d]).map D.cells).flatten ++ todo.drop sz:=by
   rw [e1,← List.append_assoc,← hlen,qx _ _ _ _ (by rw [hl,List.length_take]; omega)]
   simp
  rw [e2]
  have:=ih (done ++ [d]) (todo.drop sz) (fun x hx=>by
   rcases List.mem_append.1 hx with hx | hx
   ·
    exact hd x hx
   ·
    rw [List.mem_singleton.1 hx]; exact hl) (by rw [List.length_drop]; omega)
  rw [show (done ++ [d]).length=done.length + 1 by simp] at this
  rw [this]
  simp
theorem yO {sz:Nat}:∀ (ds:List D),(∀ d ∈ ds,d.cells.length=sz)→chunk sz ds.length ((ds.map D.cells).flatten)=ds.map D.cells
 | [],_=>rfl
 | d :: ds,h=>by
  have hd:=h d List.mem_cons_self
  simp only [List.length_cons,chunk,List.map_cons,List.flatten_cons]
  rw [List.take_append_of_le_length (by omega),List.take_of_length_le (by omega),List.drop_append_of_le_length (by omega),List.drop_of_length_le (by omega),List.nil_append,yO ds (fun d hd=>h d (List.mem_cons_of_mem _ hd))]
theorem Aj {ag:Bool}:∀ (ds:List D),(∀ d ∈ ds,if ag=true then d.isAgg=true else d.isAgg=false)→fV (xN ag) (ds.map D.cells)=some ds
 | [],_=>rfl
 | d :: ds,h=>by
  have hd:=h d List.mem_cons_self
  have:xN ag d.cells=some d:=by
   unfold xN
   cases ag with
   | true =>
    simp only [if_true] at hd ⊢
    cases d <;> simp_all [D.isAgg,D.cells]
   | false =>
    simp only [Bool.false_eq_true,if_false] at hd ⊢
    cases d <;> simp_all [D.isAgg,D.cells]
  simp only [List.map_cons,fV,this,Aj ds (fun d hd=>h d (List.mem_cons_of_mem _ hd)),Option.map_some]
theorem uU.len {sz:Nat} {vs:List AV} {ds:List D} (h:uU sz vs ds):ds.length=vs.length∧∀ d ∈ ds,d.cells.length=sz:=by
 induction h with
 | nil=>exact ⟨rfl,by simp⟩
 | cons h hl k ih=>exact ⟨by simp [ih.1],fun d hd=>by rcases List.mem_cons.1 hd with rfl | hd; exact hl; exact ih.2 d hd⟩
theorem cK {n el sz:Nat} {ag:Bool} {ps:Array (Nat × Operand)} {zd:D} {vs:List AV} {ds:List D} (hr:C.rowT t=false) (he:bz C.P t=some el) (ha:eQ C.P el=some ag) (hz:zeroOf C.P el=some zd) (hs:aM C.P el=sz) (hzl:zd.cells.length=sz) (hb:n * sz ≤ 16777216∧0 < n * sz)
  (hv:uU sz vs ds) (hn:vs.length=n) (hg:∀ d ∈ ds,if ag=true then d.isAgg=true else d.isAgg=false) (hev:mZ ρ ps=some (uj 0 vs)):oper C ρ S (.buildSlice t n ps)=some (.val (.d (.sl ds true)) S):=by
 obtain ⟨k1,k2⟩:=hv.len
 subst hs
 have f1:=Fw hv [] ((List.replicate n zd.cells).flatten) (by simp) (by
  rw [List.length_flatten,List.map_replicate,List.sum_replicate_nat,hzl,hn])
 simp only [List.map_nil,List.flatten_nil,List.nil_append,List.length_nil] at f1
 have f2:=yO ds k2
 rw [k1,hn] at f2
 simp only [oper,nD,hr,Bool.false_and,cond_false,he,hev]
 rw [if_pos hb.1,if_neg (by omega)]
 simp only [hz,hzl,if_true,f1,ha,f2,Aj ds hg,Option.map_some]
end
end Go.Ev
namespace Go.Ev
end Go.Ev
namespace Go.Ev
variable {B:St}
end Go.Ev
namespace Go.Ev
def Cr (u:Option TypeDesc) (a b:D):Option Bool:=match u,a,b with
 | some .bool,.bool a,.bool b=>some (a == b)
 | some (.int _),.int k a,.int k' b=>if k=k' then some (a == b) else none
 | some .string,.str a,.str b=>some (a == b)
 | _,_,_=>none
def BQ (P:Program):List Field→List D→List D→Option Bool
 | [],_,_=>some true
 | f :: l,xs,ys=>match f.name == "_", xs[f.offset]?,ys[f.offset]? with
  | false,some a,some b=>(match eQ P f.type,Cr (P.underlying f.type) a b,BQ P l xs ys with
   | some false,some p,some q=>some (p && q)
   | _,_,_=>none)
  | _,_,_=>none
theorem Df {P:Program} {n t:Nat} {a b:D} {p:Bool} (h:Cr (P.underlying t) a b=some p):lF P (n + 1) t a b=some p:=by
 unfold Cr at h
 split at h
 ·
  rename_i hu; simp only [lF,hu]; exact h
 ·
  rename_i hu; simp only [lF,hu]; exact h
 ·
  rename_i hu; simp only [lF,hu]; exact h
 ·
  cases h
theorem xB {P:Program} {n:Nat} {xs ys:List D}:∀ (fs:List Field) {b:Bool},BQ P fs xs ys=some b→fs.foldr (fun f k=>if f.name = "_" then k else
    match jf P f.type xs f.offset,jf P f.type ys f.offset with
    | some a,some b=>match lF P (n + 1) f.type a b with
     | some true=>k
     | some false=>some false
     | none=>none
    | _,_=>none) (some true)=some b
 | [],b,h=>h
 | f :: l,b,h=>by
  simp only [BQ] at h
  split at h
  ·
   rename_i a c hn hx hy
   split at h
   ·
    rename_i p q ha hp hq
    cases h
    have hne:¬ f.name = "_" := fun e=>by rw [e] at hn; cases hn
    simp only [List.foldr_cons,if_neg hne]
    have h1:jf P f.type xs f.offset=some a:=by simp only [jf,ha,hx]
    have h2:jf P f.type ys f.offset=some c:=by simp only [jf,ha,hy]
    have ih:=xB (n:=n) l hq
    have h3:=Df (n:=n) hp
    simp only [h1,h2,h3]
    cases p with
    | true=>simp only [Bool.true_and]; exact ih
    | false=>simp only [Bool.false_and]
   ·
    cases h
  ·
   cases h
theorem Di {P:Program} {n t:Nat} {fs:Array Field} {xs ys:List D} (hu:P.underlying t=some (.struct fs)) (g2:P.stoodInHeld t=false):lF P (n + 1 + 1) t (.agg xs) (.agg ys)=fs.toList.foldr (fun f k=>if f.name = "_" then k else
    match jf P f.type xs f.offset,jf P f.type ys f.offset with
    | some a,some b=>match lF P (n + 1) f.type a b with
     | some true=>k
     | some false=>some false
     | none=>none
    | _,_=>none) (some true):=by
 generalize n + 1=m
 simp only [lF,hu,g2,Bool.false_eq_true,if_false]
 rfl
theorem Dx {P:Program} {t:Nat} {fs:Array Field} {xs ys:List D} {b:Bool} (g1:P.eqGuardType P.depth t=false) (hu:P.underlying t=some (.struct fs)) (g2:P.stoodInHeld t=false) (h:BQ P fs.toList xs ys=some b) :
  AV.eqv P t (.d (.agg xs)) (.d (.agg ys))=some b:=by
 have h1:AV.eqv P t (.d (.agg xs)) (.d (.agg ys))=lF P 20 t (.agg xs) (.agg ys):=by
  show (if P.eqGuardType P.depth t then none else lF P 20 t (.agg xs) (.agg ys))=_
  rw [g1]; rfl
 rw [h1,Di (n:=18) hu g2]
 exact xB fs.toList h
theorem EY {P:Program} {t:Nat} {x y:D} {xs ys:List D} {b:Bool} (hx:x=.agg xs) (hy:y=.agg ys) (h:AV.eqv P t (.d (.agg xs)) (.d (.agg ys))=some b):jO P t .neq (.d x) (.d y)=some (.bool (!b)):=by
 subst hx hy; simp only [jO,h,Option.map_some]
end Go.Ev

namespace Go.Ev
set_option linter.unusedVariables false
set_option linter.unusedSimpArgs false
variable {B:St}
variable {R:bO} {C:eT} {nt:Nat}
def rM (C:eT) (h:Hand) (nt:Nat) (ops:Array Oper) (I:List Nat) (K:List Nat):List (Nat × Oper)→Env→St→(Env→St→Prop)→Prop
 | [],e,S,Q=>Q e S
 | (i,o) :: rest,e,S,Q=>∃ e1 S1,fG C h nt ops o e S=some (.go e1 S1)∧JH C h nt ops I o e (K.getD i 2)∧EU I (K.getD i 2) S S1∧rM C h nt ops I K rest e1 S1 Q
def zG (ops:Array Oper):List Nat→List (Nat × Oper)
 | []=>[]
 | i :: l=>match ops[i]? with
  | some o=>(i,o) :: zG ops l
  | none=>[]
theorem CF {h:Hand} {ops:Array Oper} {I:List Nat} {K:List Nat}:∀ (l:List (Nat × Oper)) {e:Env} {S:St} {Q:Env→St→Prop},(∀ p ∈ l,ops[p.1]? = some p.2)→rM C h nt ops I K l e S Q →
  ∃ e' S',Run C h nt ops I (fun i=>K.getD i 2) (l.map (·.1)) e S e' S'∧Q e' S'
 | [],e,S,Q,_,hv=>⟨e,S,.nil _ _,hv⟩
 | (i,o) :: l,e,S,Q,hl,⟨e1,S1,h1,h2,h3,h4⟩=>by
  obtain ⟨e',S',r,q⟩:=CF l (fun p hp=>hl p (List.mem_cons_of_mem _ hp)) h4
  exact ⟨e',S',.cons i _ o _ _ _ _ _ _ (hl (i,o) List.mem_cons_self) h1 h2 h3 r,q⟩
theorem uC {ops:Array Oper}:∀ (L:List Nat),(∀ i ∈ L,i < ops.size)→(∀ p ∈ zG ops L,ops[p.1]? = some p.2)∧(zG ops L).map (·.1)=L
 | [],_=>⟨by simp [zG],rfl⟩
 | i :: L,h=>by
  have hlt:=h i List.mem_cons_self
  have hi:ops[i]? = some ops[i]:=by simp [hlt]
  obtain ⟨a,b⟩:=uC L (fun j hj=>h j (List.mem_cons_of_mem _ hj))
  simp only [zG,hi]
  refine ⟨fun p hp=>?_,by simp [b]⟩
  rcases List.mem_cons.1 hp with rfl | hp
  ·
   exact hi
  ·
   exact a p hp
section rules
variable {T:List Fact} {ops:Array Oper} {rest:List (Nat × Oper)} {I K:List Nat} {e:Env} {S S':St} {Q:Env→St→Prop} {l l':List bG} {t ty i:Nat} {p:String} {af:Array Edge} {g:Option (Nat × Bool)} {v:AV} {x y:Operand}
theorem A7 {h:Hand} {op:Op} {v:AV} (hw:bC ops e { dst:=some t,op:=op,type:=ty,pos:=p,after:=af,guard:=g }=some true) (ho:oper C (bB e) S op=some (.val v S')) (ht:Nat.blt t nt=true) :
  fG C h nt ops { dst:=some t,op:=op,type:=ty,pos:=p,after:=af,guard:=g } e S=some (.go ((t,v) :: e) S'):=by
 simp only [fG,hw,ho,Env.put,ht,cond_true]
theorem rM.read {op:Op} {v:AV} (hk:K.getD i 2=1) (hc:cls C op=1) (hi:∀ id ∈ (o8 (bB e) op).getD [],id ∈ I) (hw:bC ops e { dst:=some t,op:=op,type:=ty,pos:=p,after:=af,guard:=g }=some true) (ho:oper C (bB e) S op=some (.val v S)) (ht:Nat.blt t nt=true)
  (k:rM C (xg (gW T)) nt ops I K rest ((t,v) :: e) S Q):rM C (xg (gW T)) nt ops I K ((i,{ dst:=some t,op:=op,type:=ty,pos:=p,after:=af,guard:=g }) :: rest) e S Q:=by
 have hs:=A7 (C:=C) (nt:=nt) (h:=xg (gW T)) hw ho ht
 refine ⟨_,S,hs,⟨fun q=>(by rw [hk] at q; cases q),fun _=>⟨by rw [hc]; omega,hi⟩,fun q=>(by rw [hk] at q; cases q)⟩,fun q=>(by rw [hk] at q; cases q),k⟩
theorem rM.ret {op:Op} {f:Nat} {args:List AV} {v:AV} (hp:CP (xg (gW T))) (hk:K.getD i 2=0) (hw:bC ops e { dst:=some t,op:=op,type:=ty,pos:=p,after:=af,guard:=g }=some true) (ho:oper C (bB e) S op=some (.call f args)) (hd:xg (gW T) f args S=some (none,v,S)) (ha:(lG args).isSome=true) (hv:(yQ v).isSome=true) (ht:Nat.blt t nt=true) (hcl:cls C op=2) (hnw:EB C op=false)
  (k:rM C (xg (gW T)) nt ops I K rest ((t,v) :: e) S Q):rM C (xg (gW T)) nt ops I K ((i,{ dst:=some t,op:=op,type:=ty,pos:=p,after:=af,guard:=g }) :: rest) e S Q:=by
 have hs:fG C (xg (gW T)) nt ops { dst:=some t,op:=op,type:=ty,pos:=p,after:=af,guard:=g } e S=some (.go ((t,v) :: e) S):=by
  simp only [fG,hw,ho,hd,Env.put,ht,cond_true]
 refine ⟨_,S,hs,⟨fun _=>LH hp hs ?_,fun q=>(by rw [hk] at q; cases q),fun q=>(by rw [hk] at q; cases q)⟩,fun q=>(by rw [hk] at q; cases q),k⟩
 unfold MP
 rw [if_neg (by rw [hcl]; omega),if_neg (by rw [hnw]; simp)]
 unfold Jw
 simp only [hw,ho]
 have:zJ { dst:=some t,op:=op,type:=ty,pos:=p,after:=af,guard:=g } ((t,v) :: e) args=true:=by
  unfold zJ
  simp only [ha,AL.gm,if_true,hv,Bool.and_self]
 rw [this]; rfl
theorem rM.new {op:Op} {v:AV} (hk:K.getD i 2=3) (hn:EB C op=true) (hw:bC ops e { dst:=some t,op:=op,type:=ty,pos:=p,after:=af,guard:=g }=some true) (ho:oper C (bB e) S op=some (.val v S')) (ht:Nat.blt t nt=true)
  (k:rM C (xg (gW T)) nt ops I K rest ((t,v) :: e) S' Q):rM C (xg (gW T)) nt ops I K ((i,{ dst:=some t,op:=op,type:=ty,pos:=p,after:=af,guard:=g }) :: rest) e S Q:=by
 have hs:=A7 (C:=C) (nt:=nt) (h:=xg (gW T)) hw ho ht
 refine ⟨_,S',hs,⟨fun q=>(by rw [hk] at q; cases q),fun q=>(by rw [hk] at q; cases q),fun _=>hn⟩,fun q=>(by rw [hk] at q; cases q),k⟩
theorem rM.alloc {bt:Nat} {z:D} {cs:List AV} (H:Has B S l) (hk:K.getD i 2=3) (hw:bC ops e { dst:=some t,op:=.alloc bt,type:=ty,pos:=p,after:=af,guard:=g }=some true) (ho:C.objT bt=none) (hz:zeroOf C.P bt=some z) (hc:(AV.d z).cells=cs) (ht:Nat.blt t nt=true)
  (k:∀ b S',Has B S' (.box b cs :: l)→rM C (xg (gW T)) nt ops I K rest ((t,.ptr b 0 0) :: e) S' Q) :
  rM C (xg (gW T)) nt ops I K ((i,{ dst:=some t,op:=.alloc bt,type:=ty,pos:=p,after:=af,guard:=g }) :: rest) e S Q :=
 rM.new hk rfl hw (yX H ho hz hc) ht (k _ _ (H.box cs))
end rules
theorem fw.fact {P:Program} {f:Nat} {ds:List D} {v:AV} (h:fw R P f ds v) {args:List AV} (ha:aQ args ds):(Fact.pure f args v).ok R P:=fun S=>h args S ha
theorem aQ.isSome {args:List AV} {ds:List D} (h:aQ args ds):(lG args).isSome=true:=by
 obtain ⟨ds',h1,_⟩:=h; rw [h1]; rfl
theorem G8 {P:Program}:∀ x ∈ ([]:List Fact),x.ok R P:=fun x hx=>by cases hx
theorem zO {P:Program} {x:Fact} {T:List Fact} (h:x.ok R P) (k:∀ y ∈ T,y.ok R P):∀ y ∈ x :: T,y.ok R P:=fun y hy=>by
 rcases List.mem_cons.1 hy with rfl | hy
 ·
  exact h
 ·
  exact k y hy
def yz:List Fact→Bool
 | []=>true
 | .pure _ _ _ :: l=>yz l
 | _=>false
theorem uz:∀ {T:List Fact},yz T=true→∀ f args S v S',Fact.full f args S v S' ∈ T→False
 | [],_,_,_,_,_,_,h=>by cases h
 | .pure _ _ _ :: l,hp,f,args,S,v,S',h=>by
  rcases List.mem_cons.1 h with h | h
  ·
   cases h
  ·
   exact uz (T:=l) hp f args S v S' h
 | .full _ _ _ _ _ :: l,hp,_,_,_,_,_,_=>by cases hp
theorem MJ {P:Program} {T:List Fact} (hT:∀ x ∈ T,x.ok R P) (hp:yz T=true):CP (xg (gW T)) :=
 Ea hT (fun f args v S v' S' _ h=>uz hp f args S v' S' h)
theorem CY {f:Nat} {args:List AV} {v:AV} {S:St} {T:List Fact} (n:Nat) (hn:T[n]? = some (.pure f args v)) (hp:yz T=true) (hu:∀ args' v',Fact.pure f args' v' ∈ T→args'=args→v'=v):xg (gW T) f args S=some (none,v,S):=by
 refine yT ⟨_,List.mem_of_getElem? hn,rfl,rfl,rfl,rfl⟩ (fun x hx v' S'' hi=>?_)
 cases x with
 | pure f' a' w'=>obtain ⟨rfl,rfl,rfl,rfl⟩:=hi; exact ⟨hu _ _ hx rfl,rfl⟩
 | full f' a' S1 w' S1'=>exact (uz hp _ _ _ _ _ hx).elim
end Go.Ev
namespace Go.Ev
theorem Gr {ρ:Operand→Option AV} {op:Op} {L I:List Nat} (h:o8 ρ op=some L) (hs:∀ id ∈ L,id ∈ I):∀ id ∈ (o8 ρ op).getD [],id ∈ I:=by rw [h]; exact hs
end Go.Ev
namespace Go.Ev
theorem aQ.seq {x:AV} {d:D} (h:aQ [x] [d]) {xs:List AV} {ds:List D} (k:aQ xs ds):aQ (x :: xs) (d :: ds):=by
 obtain ⟨ds',h1,h2⟩:=h
 simp only [lG] at h1
 split at h1
 ·
  rename_i y hy
  simp only [Option.map_some,Option.some.injEq] at h1
  subst h1
  cases h2 with
  | cons h2 _=>exact aQ.jI hy h2 k
 ·
  cases h1
end Go.Ev

namespace Go.Ev
set_option linter.unusedVariables false
set_option linter.unusedSimpArgs false
variable {R:bO} {C:eT} {P:Program} {nt:Nat} {B:St}
theorem gJ.rel {ys xs:List AV} (h:gJ ys xs) {cx:Cx} {S:St} {w:World} {us:List Value} (hr:∀ (i:Nat) (x:AV) (u:Value),xs[i]? = some x→us[i]? = some u→aO cx S w x u) :
  ∀ (i:Nat) (y:AV) (u:Value),ys[i]? = some y→us[i]? = some u→aO cx S w y u:=fun i y u hy hu=>by
 have hlt:i < xs.length:=by rw [← h.len]; exact (List.getElem?_eq_some_iff.1 hy).1
 have hx:=List.getElem?_eq_getElem hlt
 exact h.get hy hx _ _ _ _ (hr i _ u hx hu)
theorem iE.Mx {f:Nat} {args args':List AV} {S:St} {Q:Out→Prop} (h:iE R P f args' S Q) (hl:gJ args' args):iE R P f args S Q :=
 ⟨h.1,fun cx w us h1 h2 h3=>h.2 cx w us h1 (by rw [h2,hl.len]) (hl.rel h3)⟩
end Go.Ev
namespace Go.Ev
theorem wG {C:eT} {ρ:Operand→Option AV} {S:St} {t el:Nat} {ag:Bool} (hr:C.rowT t=false) (he:bz C.P t=some el) (ha:eQ C.P el=some ag):oper C ρ S (.buildSlice t 0 #[])=some (.val (.d (.sl [] true)) S):=by
 simp [oper,nD,hr,he,ha,mZ,fV,jJ,chunk]
theorem jl {pl:Nat→Option (Nat × Nat)} {cells:List AV} {i off size:Nat} {v:AV} {rest:List (Nat × AV)} {cs' r:List AV} (hp:pl i=some (off,size)) (hc:nA v=some cs') (hl:cs'.length=size) (hb:Nat.ble (off + cs'.length) cells.length=true) (k:jJ nA pl (setAt cells off cs') rest=some r):jJ nA pl cells ((i,v) :: rest)=some r:=by
 simp only [jJ,hp,hc]
 rw [if_pos ⟨hl,Nat.le_of_ble_eq_true hb⟩]; exact k
theorem IA {d:D} {cs:List AV} (h:(AV.d d).cells=cs):nA (.d d)=some cs:=by subst h; rfl
theorem map_nil {α β:Type} {f:α→β} {l:List α} (h:l.map f=[]):l=[]:=List.map_eq_nil_iff.1 h
section
variable {α:Type} {enc:α→D} {C:eT} {ρ:Operand→Option AV} {S:St} {t el:Nat} {x lo hi:Operand} {l r:List α} {k k':IntKind} {a c:Int}
end
section
variable {C:eT} {ρ:Operand→Option AV} {S:St} {t:Nat} {x lo hi:Operand} {s r:Str} {k k':IntKind} {a c:Int}
end
end Go.Ev

namespace Go.Ev
noncomputable section
set_option linter.unusedVariables false
set_option linter.unusedSimpArgs false
section
variable {R:bO} {C:eT} {nt:Nat} {ops:Array Oper} {rest:List Oper} {e:Env} {B S S':St} {Q:Stp→Prop} {l l':List bG} {t ty:Nat} {p:String} {af:Array Edge} {g:Option (Nat × Bool)} {v:AV} {x y:Operand}
end
end
end Go.Ev

namespace Go.Ev
noncomputable section
set_option linter.unusedVariables false
set_option linter.unusedSimpArgs false
set_option linter.unusedSectionVars false
section
variable {κ ν:Type} [BEq κ] [LawfulBEq κ]
def FX (ek:κ→D) (ev:ν→D):Nat→List (κ × ν)→List (D × AV × Nat)
 | _,[]=>[]
 | i,(k,v) :: l=>(ek k,.d (ev v),i) :: FX ek ev (i + 1) l
def mD (ek:κ→D) (ev:ν→D) (m:List (κ × ν)):vg:={ es:=FX ek ev 0 m,clk:=m.length }
def gK (k:κ):List (κ × ν)→Nat→Option (Nat × ν)
 | [],_=>none
 | (a,b) :: l,i=>if k == a then some (i,b) else gK k l (i + 1)
def Cq (m:List (κ × ν)) (k:κ):Option ν:=(gK k m 0).map (·.2)
def iT (m:List (κ × ν)) (k:κ) (z:ν):ν:=(Cq m k).getD z
def jZ (m:List (κ × ν)) (k:κ) (v:ν):List (κ × ν):=match gK k m 0 with
 | some (i,_)=>m.set i (k,v)
 | none=>m ++ [(k,v)]
structure rE (P:Program) (t:Nat) (ek:κ→D):Prop where
 eq:∀ a b,lF P 20 t (ek a) (ek b)=some (a == b)
 same:∀ a,D.same (ek a) (ek a)=true
 ok:∀ a,nC P t (ek a)=true
omit [LawfulBEq κ] in
theorem J3 (ek:κ→D) (ev:ν→D):∀ (m:List (κ × ν)) (i:Nat),(FX ek ev i m).length=m.length
 | [],_=>rfl
 | (k,v) :: l,i=>by simp [FX,J3 ek ev l]
theorem ql (k:κ):∀ (m:List (κ × ν)) (i j:Nat) (v:ν),gK k m i=some (j,v)→i ≤ j∧j < i + m.length
 | [],i,j,v,h=>by simp [gK] at h
 | (a,b) :: l,i,j,v,h=>by
  simp only [gK] at h
  split at h
  ·
   simp only [Option.some.injEq,Prod.mk.injEq] at h; obtain ⟨rfl,_⟩:=h; simp
  ·
   have:=ql k l (i + 1) j v h; simp only [List.length_cons]; omega
theorem Aa {P:Program} {t:Nat} {ek:κ→D} {ev:ν→D} (K:rE P t ek) (k:κ):∀ (m:List (κ × ν)) (i j:Nat),kN P t (ek k) (FX ek ev i m) j=some ((gK k m j).map fun r=>(r.1,.d (ev r.2)))
 | [],i,j=>rfl
 | (a,b) :: l,i,j=>by
  simp only [FX,kN,K.eq,gK]
  cases hb:k == a with
  | true =>
   have:=eq_of_beq hb
   subst this
   simp [K.same]
  | false=>simp only [Aa K k l (i + 1) (j + 1)]; rfl
theorem Je {C:eT} {t kt et id:Nat} {S:St} {ek:κ→D} {ev:ν→D} {m:List (κ × ν)} {k:κ} {z:ν} (hk:pQ C t=some (kt,et)) (K:rE C.P kt ek) (hz:zeroOf C.P et=some (ev z)) (hm:S.H.get id=some (.map (mD ek ev m))) :
  kK C t S (.map id) (ek k) false=some (.d (ev (iT m k z))):=by
 simp only [kK,hk,mapOf,hm,K.ok,if_true,mD,Aa K]
 unfold iT Cq
 cases gK k m 0 with
 | none=>simp [hz]
 | some r=>simp
theorem zU (ek:κ→D) (ev:ν→D) (k:κ) (v:ν):∀ (m:List (κ × ν)) (i:Nat),FX ek ev i m ++ [(ek k,.d (ev v),i + m.length)]=FX ek ev i (m ++ [(k,v)])
 | [],i=>rfl
 | (a,b) :: l,i=>by
  have:=zU ek ev k v l (i + 1)
  simp only [FX,List.cons_append,List.length_cons]
  rw [show i + (l.length + 1)=i + 1 + l.length by omega,this]
theorem F6 (ek:κ→D) (ev:ν→D) (k:κ) (v:ν):∀ (m:List (κ × ν)) (i j:Nat),(FX ek ev i m).modify j (fun p=>(ek k,.d (ev v),p.2.2))=FX ek ev i (m.set j (k,v))
 | [],i,j=>by simp [FX]
 | (a,b) :: l,i,0=>by simp [FX]
 | (a,b) :: l,i,j + 1=>by
  have:=F6 ek ev k v l (i + 1) j
  simp only [FX,List.set_cons_succ,List.modify_succ_cons,this]
theorem Iy {C:eT} {t kt et id:Nat} {S:St} {ek:κ→D} {ev:ν→D} {m:List (κ × ν)} {k:κ} {v:ν} (hk:pQ C t=some (kt,et)) (K:rE C.P kt ek) (hm:S.H.get id=some (.map (mD ek ev m))) :
  oF C t S (.map id) (ek k) (.d (ev v))=some { S with H:=S.H.set id (.map (mD ek ev (jZ m k v))) }:=by
 simp only [oF,hk,hm,K.ok,AV.plain,Bool.and_self,if_true,mD,Aa K]
 unfold jZ
 cases hf:gK k m 0 with
 | none =>
  have:=zU ek ev k v m 0
  rw [Nat.zero_add] at this
  simp [this]
 | some r=>simp [F6]
theorem Has.map {B S:St} {l:List bG} (h:Has B S l) (m:vg):Has B (bH S (.map m)) (.map S.nx m :: l) :=
 h.new _ rfl (by simp [bG.ok,bH,AL.aP])
omit [BEq κ] [LawfulBEq κ] in
theorem Has.Lu {B S:St} {l:List bG} (h:Has B S l) {i id:Nat} {m m':vg} (hi:l[i]? = some (.map id m)):Has B { S with H:=S.H.set id (.map m') } (l.set i (.map id m')):=by
 have hid:=h.at hi
 refine h.set hi rfl (by simp [bG.ok,AL.aP]) (fun j hl=>?_) (fun j hj=>?_) (fun j hj=>rfl) rfl
 ·
  refine h.wf j ?_
  unfold live cur at hl ⊢
  simp only [AL.aP] at hl
  by_cases hij:id=j
  ·
   subst hij; rw [show S.H.get id=_ from hid]; simp
  ·
   rw [if_neg hij] at hl; exact hl
 ·
  simp only [bG.fp,List.mem_singleton] at hj
  simp only [AL.aP]
  rw [if_neg (fun q=>hj q.symm)]
end
theorem FK {P:Program} {t:Nat} {k:IntKind} (h:P.underlying t=some (.int k)):rE P t (D.int k) where
 eq:=fun a b=>by simp only [lF,h,if_true]
 same:=fun a=>by simp [D.same]
 ok:=fun a=>by simp only [nC,mI,l5,h,Bool.and_self]
section
variable {κ ν:Type} [BEq κ] [LawfulBEq κ] {R:bO} {C:eT} {nt:Nat} {ops:Array Oper} {rest:List Oper} {e:Env} {B S S':St} {Q:Stp→Prop} {l l':List bG} {t ty:Nat} {p:String} {af:Array Edge} {g:Option (Nat × Bool)} {x y w:Operand} {ρ:Operand→Option AV} {ek:κ→D} {ev:ν→D} {m:List (κ × ν)} {k:κ} {v z:ν}
theorem aj.makeMap {t1 kt et:Nat} (ek:κ→D) (ev:ν→D) (H:Has B S l) (hw:bC ops e { dst:=some t,op:=.makeMap t1 none,type:=ty,pos:=p,after:=af,guard:=g }=some true) (hk:pQ C t1=some (kt,et)) (ht:Nat.blt t nt=true)
  (k:∀ b S',Has B S' (.map b (mD ek ev []) :: l)→aj R C nt ops rest ((t,.map b) :: e) S' Q) :
  aj R C nt ops ({ dst:=some t,op:=.makeMap t1 none,type:=ty,pos:=p,after:=af,guard:=g } :: rest) e S Q :=
 aj.val hw (v:=.map S.nx) (S':=bH S (.map (mD ek ev []))) (by simp only [oper,hk,H.Cf,cond_false]; rfl) ht (k _ _ (H.map _))
theorem vN {t1 kt et id i:Nat} (H:Has B S l) (hi:l[i]? = some (.map id (mD ek ev m))) (hm:ρ x=some (.map id)) (hky:ρ y=some (.d (ek k))) (hk:pQ C t1=some (kt,et)) (K:rE C.P kt ek) (hz:zeroOf C.P et=some (ev z)) :
  oper C ρ S (.lookup t1 x y false)=some (.val (.d (ev (iT m k z))) S):=by
 simp only [oper,hm,hky,Je hk K hz (H.at hi),Option.map_some]
theorem aj.mapUpdate {t1 kt et id i:Nat} (H:Has B S l) (hw:bC ops e { dst:=none,op:=.mapUpdate t1 x y w,type:=ty,pos:=p,after:=af,guard:=g }=some true) (hi:l[i]? = some (.map id (mD ek ev m))) (hm:bB e x=some (.map id)) (hky:bB e y=some (.d (ek k))) (hv:bB e w=some (.d (ev v))) (hk:pQ C t1=some (kt,et)) (K:rE C.P kt ek)
  (kk:∀ S',Has B S' (l.set i (.map id (mD ek ev (jZ m k v))))→aj R C nt ops rest e S' Q) :
  aj R C nt ops ({ dst:=none,op:=.mapUpdate t1 x y w,type:=ty,pos:=p,after:=af,guard:=g } :: rest) e S Q :=
 aj.skip hw (by simp only [oper,hm,hky,hv,Iy hk K (H.at hi),Option.map_some]) (kk _ (H.Lu hi))
end
end
end Go.Ev

namespace Go.Ev
noncomputable section
set_option linter.unusedVariables false
set_option linter.unusedSimpArgs false
def Compat (ops:Array Oper) (K:Nat→Nat) (k i:Nat):Prop :=
 ((Region.before ops).getD i 0).testBit k=true∨((∀ x o,ops[k]? = some x→ops[i]? = some o→x.apart ops o=true)∧MK (K k) (K i)=true)
theorem JC {R:bO} {C:eT} (hR:kG R C) {h:Hand} (hh:Ce R C.P h) {nt:Nat} {ops:Array Oper} (hr:oD ops=true) {I:List Nat} {K:Nat→Nat} {L:List Nat} (hLn:L.Nodup) (hLm:∀ i,i ∈ L↔i < ops.size) {Q:Exit→Act→World→Prop} :
  ∀ (fuel:Nat) (listed:Array Bool) {cx:Cx} {S S':St} {w:World} {e e':Env} {a:Act},listed.size=ops.size→Closed ops listed →
  (L.filter fun i=>!listed.getD i false).Pairwise (Compat ops K)→(L.filter fun i=>!listed.getD i false).length=fuel→Run C h nt ops I K (L.filter fun i=>!listed.getD i false) e S e' S'→bg R cx S w→iG cx S w nt e a →
  (∀ cx' a' w' e'',bg R cx' S' w'→Ext cx S w cx' S' w'→iG cx' S' w' nt e'' a'→Ky e'' e'→a'.defers=a.defers→Q .normal a' w')→wpAny C.P .any ops Q fuel listed a w:=by
 intro fuel
 induction fuel with
 | zero =>
  intro listed cx S S' w e e' a hsz hcl hcp hlen hev hS he hk
  have hnil:=List.eq_nil_of_length_eq_zero hlen
  rw [hnil] at hev
  cases hev
  refine ⟨?_,hk cx a w e hS (Ext.refl w hS.wf) he (fun _=>rfl) rfl⟩
  cases hq:Region.ready .any ops listed with
  | nil=>rfl
  | cons i l =>
   have hi:i ∈ Region.ready .any ops listed:=by rw [hq]; simp
   obtain ⟨h1,o,h2,_⟩:=mem_ready.1 hi
   have hlt:i < ops.size:=(Array.getElem?_eq_some_iff.1 h2).1
   have:i ∈ L.filter fun i=>!listed.getD i false:=by
    rw [List.mem_filter]
    refine ⟨(hLm _).2 hlt,?_⟩
    have hlt':i < listed.size:=by omega
    simp [hlt'] at h1 ⊢; exact h1
   rw [hnil] at this; cases this
 | succ fuel ih =>
  intro listed cx S S' w e e' a hsz hcl hcp hlen hev hS he hk
  have step:∀ i ∈ Region.ready .any ops listed,wpOp C.P ops Q i (wpAny C.P .any ops Q fuel (listed.setIfInBounds i true)) a w:=by
   intro i hi
   obtain ⟨h1,o,h2,h3⟩:=mem_ready.1 hi
   have hlt:i < ops.size:=(Array.getElem?_eq_some_iff.1 h2).1
   have hlt':i < listed.size:=by omega
   have h1':listed.getD i false=false:=by simp [hlt'] at h1 ⊢; exact h1
   obtain ⟨r1,r2,r3⟩:=jq hr h2
   have hclo:∀ k,k < i→((Region.before ops).getD i 0).testBit k=true→listed.getD k false=true:=by
    intro k hk hb
    have hkx:∃ x,ops[k]? = some x:=⟨ops[k],by simp [show k < ops.size by omega]⟩
    obtain ⟨x,hx⟩:=hkx
    have:=r2 k x hk hx
    rw [if_pos hb] at this
    obtain ⟨ed,he,hbnd,hor⟩:=this
    rcases hor with q | q
    ·
     rw [← q]; exact h3 ed he hbnd
    ·
     by_cases hke:k < ed.on
     ·
      exact hcl ed.on (h3 ed he hbnd) k hke q
     ·
      rcases Nat.lt_or_ge ed.on k with q1 | q1
      ·
       exfalso
       have hel:ed.on < ops.size:=by have:=r1 ed he hbnd; omega
       have:=(jq hr (show ops[ed.on]? = some ops[ed.on] by simp [hel])).2.2 k (by omega)
       rw [this] at q; cases q
      ·
       have:k=ed.on:=by omega
       rw [this]; exact h3 ed he hbnd
   have hmem:i ∈ L.filter fun i=>!listed.getD i false:=by
    rw [List.mem_filter]; exact ⟨(hLm _).2 hlt,by rw [h1']; rfl⟩
   obtain ⟨l1,l2,hsp⟩:=List.append_of_mem hmem
   have hnd:(L.filter fun i=>!listed.getD i false).Nodup:=hLn.filter _
   rw [hsp] at hnd hcp
   have hne1:∀ k ∈ l1,k ≠ i:=fun k hk q=>(List.nodup_append.1 hnd).2.2 k hk i (by simp) q
   have hne2:∀ k ∈ l2,k ≠ i:=fun k hk q=>(List.nodup_cons.1 (List.nodup_append.1 hnd).2.1).1 (q ▸ hk)
   obtain ⟨c1,c2,c3⟩:=List.pairwise_append.1 hcp
   rw [hsp] at hev
   obtain ⟨e1,S1,e2,b1,_,_,b2,b3⟩:=bubble l1 l2 i h2 (fun k hk x hx=>by
    have hkl:listed.getD k false=false:=by
     have:k ∈ L.filter fun i=>!listed.getD i false:=by rw [hsp]; simp [hk]
     simpa using (List.mem_filter.1 this).2
    rcases c3 k hk i (by simp) with hb | hb
    ·
     have hki:k < i:=by
      rcases Nat.lt_or_ge k i with q | q
      ·
       exact q
      ·
       have:=r3 k q; rw [this] at hb; cases hb
     have:=hclo k hki hb
     rw [hkl] at this; cases this
    ·
     exact ⟨hb.1 x o hx h2,hb.2⟩) hev
   have hrest:L.filter (fun j=>!(listed.setIfInBounds i true).getD j false)=l1 ++ l2:=by
    have:(fun j=>!(listed.setIfInBounds i true).getD j false)=(fun j=>(!listed.getD j false) && decide (j ≠ i)):=by
     funext j
     by_cases hj:i=j
     ·
      subst hj; simp [hlt']
     ·
      rw [getD_set_ne false hj]; simp [Ne.symm hj]
    rw [this,← List.filter_filter]
    have hcomm:∀ (l:List Nat) (p q:Nat→Bool),(l.filter p).filter q=(l.filter q).filter p:=fun l p q=>by
     rw [List.filter_filter,List.filter_filter]; congr 1; funext a; exact Bool.and_comm _ _
    rw [hcomm,hsp,List.filter_append,List.filter_cons]
    simp only [ne_eq,not_true_eq_false,decide_false,Bool.false_eq_true,if_false]
    congr 1
    ·
     rw [List.filter_eq_self]; intro k hk; simpa using hne1 k hk
    ·
     rw [List.filter_eq_self]; intro k hk; simpa using hne2 k hk
   refine qP hR hh b1 hS he (fun cx1 a1 w1 s1 x1 er1 d1=>?_) h2
   refine ih (listed.setIfInBounds i true) (cx:=cx1) (S:=S1) (S':=S') (w:=w1) (e:=e1) (e':=e2) (by simpa using hsz) (fun j hj k hkj hb=>?_) (by rw [hrest]; exact List.pairwise_append.2 ⟨c1,(List.pairwise_cons.1 c2).2,fun x hx y hy=>c3 x hx y (List.mem_cons_of_mem _ hy)⟩) ?_ (by rw [hrest]; exact b2) s1 er1 (fun cx' a' w' e'' q1 q2 q3 q4 q5=>hk cx' a' w' e'' q1 (x1.trans q2) q3 (fun t=>(q4 t).trans (b3 t)) (q5.trans d1))
   ·
    by_cases hij:i=j
    ·
     subst hij
     exact getD_set_true (hclo k hkj hb)
    ·
     rw [getD_set_ne false hij] at hj
     exact getD_set_true (hcl j hj k hkj hb)
   ·
    rw [hrest]
    have:=hlen
    rw [hsp] at this
    simp at this ⊢; omega
  refine ⟨fun hnone=>?_,step⟩
  exfalso
  have hex:∃ m,m < ops.size∧listed.getD m false=false∧∀ k,k < m→listed.getD k false=true:=by
   have hne:∃ m,m < ops.size∧listed.getD m false=false:=by
    cases hq:L.filter fun i=>!listed.getD i false with
    | nil=>rw [hq] at hlen; simp at hlen
    | cons m l =>
     have hm:m ∈ L.filter fun i=>!listed.getD i false:=by rw [hq]; simp
     obtain ⟨hm1,hm2⟩:=List.mem_filter.1 hm
     exact ⟨m,(hLm _).1 hm1,by simpa using hm2⟩
   obtain ⟨m,m1,m2⟩:=hne
   induction m using Nat.strongRecOn with
   | _ m ihm =>
    by_cases hall:∀ k,k < m→listed.getD k false=true
    ·
     exact ⟨m,m1,m2,hall⟩
    ·
     have:∃ k,k < m∧listed.getD k false=false:=by
      refine Classical.byContradiction fun hc=>hall fun k hk=>?_
      cases hv:listed.getD k false with
      | true=>rfl
      | false=>exact absurd ⟨k,hk,hv⟩ hc
     obtain ⟨k,hk,hv⟩:=this
     exact ihm k hk (by omega) hv
  obtain ⟨m,hmlt,hm2,hmin⟩:=hex
  have hmo:ops[m]? = some ops[m]:=by simp [hmlt]
  have hready:m ∈ Region.ready .any ops listed:=by
   rw [mem_ready]
   refine ⟨by have:m < listed.size:=(by omega); simp [this] at hm2 ⊢; exact hm2,ops[m],hmo,fun ed he hb=>?_⟩
   have hon:=(jq hr hmo).1 ed he hb
   exact hmin ed.on hon
  rw [hnone] at hready
  cases hready
theorem Compat.lt {ops:Array Oper} {K:Nat→Nat} (hr:oD ops=true) {k i:Nat} (hi:i < ops.size) (h:((Region.before ops).getD i 0).testBit k=true):k < i:=by
 rcases Nat.lt_or_ge k i with q | q
 ·
  exact q
 ·
  have:=(jq hr (show ops[i]? = some ops[i] by simp [hi])).2.2 k q
  rw [this] at h; cases h
theorem Gf {L l1 l2:List Nat} {listed:Array Bool} {i:Nat} (hlt':i < listed.size) (hsp:(L.filter fun i=>!listed.getD i false)=l1 ++ i :: l2) (hne1:∀ k ∈ l1,k ≠ i) (hne2:∀ k ∈ l2,k ≠ i) :
  L.filter (fun j=>!(listed.setIfInBounds i true).getD j false)=l1 ++ l2:=by
 have:(fun j=>!(listed.setIfInBounds i true).getD j false)=(fun j=>(!listed.getD j false) && decide (j ≠ i)):=by
  funext j
  by_cases hj:i=j
  ·
   subst hj; simp [hlt']
  ·
   rw [getD_set_ne false hj]; simp [Ne.symm hj]
 rw [this,← List.filter_filter]
 have hcomm:∀ (l:List Nat) (p q:Nat→Bool),(l.filter p).filter q=(l.filter q).filter p:=fun l p q=>by
  rw [List.filter_filter,List.filter_filter]; congr 1; funext a; exact Bool.and_comm _ _
 rw [hcomm,hsp,List.filter_append,List.filter_cons]
 simp only [ne_eq,not_true_eq_false,decide_false,Bool.false_eq_true,if_false]
 congr 1
 ·
  rw [List.filter_eq_self]; intro k hk; simpa using hne1 k hk
 ·
  rw [List.filter_eq_self]; intro k hk; simpa using hne2 k hk
theorem front {C:eT} {h:Hand} {nt:Nat} {ops:Array Oper} (hr:oD ops=true) {I:List Nat} {K:Nat→Nat} {L:List Nat} (hLn:L.Nodup) (hLm:∀ i,i ∈ L↔i < ops.size)
  {listed:Array Bool} (hsz:listed.size=ops.size) {i:Nat} {o:Oper} (h1:listed.getD i false=false) (h2:ops[i]? = some o) (hclo:∀ k,k < i→((Region.before ops).getD i 0).testBit k=true→listed.getD k false=true)
  {X:Nat→Nat→Prop} (hcp:(L.filter fun i=>!listed.getD i false).Pairwise (fun a b=>Compat ops K a b∨X a b)) (hX:∀ k,k ≠ i→¬ X k i)
  {e e':Env} {S S':St} (hev:Run C h nt ops I K (L.filter fun i=>!listed.getD i false) e S e' S') :
  ∃ e1 S1 e2,fG C h nt ops o e S=some (.go e1 S1)∧Run C h nt ops I K (L.filter fun j=>!(listed.setIfInBounds i true).getD j false) e1 S1 e2 S'∧Ky e2 e' ∧
   (L.filter fun j=>!(listed.setIfInBounds i true).getD j false).Pairwise (fun a b=>Compat ops K a b∨X a b) ∧
   (L.filter fun j=>!(listed.setIfInBounds i true).getD j false).length + 1=(L.filter fun i=>!listed.getD i false).length:=by
 have hlt:i < ops.size:=(Array.getElem?_eq_some_iff.1 h2).1
 have hmem:i ∈ L.filter fun i=>!listed.getD i false:=by
  rw [List.mem_filter]; exact ⟨(hLm _).2 hlt,by rw [h1]; rfl⟩
 obtain ⟨l1,l2,hsp⟩:=List.append_of_mem hmem
 have hnd:(L.filter fun i=>!listed.getD i false).Nodup:=hLn.filter _
 rw [hsp] at hnd hcp hev
 have hne1:∀ k ∈ l1,k ≠ i:=fun k hk q=>(List.nodup_append.1 hnd).2.2 k hk i (by simp) q
 have hne2:∀ k ∈ l2,k ≠ i:=fun k hk q=>(List.nodup_cons.1 (List.nodup_append.1 hnd).2.1).1 (q ▸ hk)
 obtain ⟨c1,c2,c3⟩:=List.pairwise_append.1 hcp
 obtain ⟨e1,S1,e2,b1,_,_,b2,b3⟩:=bubble l1 l2 i h2 (fun k hk x hx=>by
  have hkl:listed.getD k false=false:=by
   have:k ∈ L.filter fun i=>!listed.getD i false:=by rw [hsp]; simp [hk]
   simpa using (List.mem_filter.1 this).2
  rcases c3 k hk i (by simp) with (hb | hb) | hb
  ·
   have:=hclo k (Compat.lt (K:=K) hr hlt hb) hb
   rw [hkl] at this; cases this
  ·
   exact ⟨hb.1 x o hx h2,hb.2⟩
  ·
   exact absurd hb (hX k (hne1 k hk))) hev
 have hrest:=Gf (by omega) hsp hne1 hne2
 rw [hrest,hsp]
 exact ⟨e1,S1,e2,b1,b2,b3,List.pairwise_append.2 ⟨c1,(List.pairwise_cons.1 c2).2,fun x hx y hy=>c3 x hx y (List.mem_cons_of_mem _ hy)⟩,by simp; omega⟩
theorem JD {ops:Array Oper} (hr:oD ops=true) {listed:Array Bool} (hcl:Closed ops listed) {i:Nat} {o:Oper} (h2:ops[i]? = some o) (h3:∀ e ∈ o.after,Region.binds .any e=true→listed.getD e.on false=true) :
  ∀ k,k < i→((Region.before ops).getD i 0).testBit k=true→listed.getD k false=true:=by
 intro k hk hb
 obtain ⟨r1,r2,_⟩:=jq hr h2
 have hlt:i < ops.size:=(Array.getElem?_eq_some_iff.1 h2).1
 have hkx:∃ x,ops[k]? = some x:=⟨ops[k],by simp [show k < ops.size by omega]⟩
 obtain ⟨x,hx⟩:=hkx
 have:=r2 k x hk hx
 rw [if_pos hb] at this
 obtain ⟨ed,he,hbnd,hor⟩:=this
 rcases hor with q | q
 ·
  rw [← q]; exact h3 ed he hbnd
 ·
  by_cases hke:k < ed.on
  ·
   exact hcl ed.on (h3 ed he hbnd) k hke q
  ·
   rcases Nat.lt_or_ge ed.on k with q1 | q1
   ·
    exfalso
    have hel:ed.on < ops.size:=by have:=r1 ed he hbnd; omega
    have:=(jq hr (show ops[ed.on]? = some ops[ed.on] by simp [hel])).2.2 k (by omega)
    rw [this] at q; cases q
   ·
    have:k=ed.on:=by omega
    rw [this]; exact h3 ed he hbnd
theorem qR {ops:Array Oper} {listed:Array Bool} (hcl:Closed ops listed) {i:Nat} (hclo:∀ k,k < i→((Region.before ops).getD i 0).testBit k=true→listed.getD k false=true):Closed ops (listed.setIfInBounds i true):=by
 intro j hj k hkj hb
 by_cases hij:i=j
 ·
  subst hij
  exact getD_set_true (hclo k hkj hb)
 ·
  rw [getD_set_ne false hij] at hj
  exact getD_set_true (hcl j hj k hkj hb)
theorem yY {ops:Array Oper} (hr:oD ops=true) {listed:Array Bool} (hsz:listed.size=ops.size) {m:Nat} (m1:m < ops.size) (m2:listed.getD m false=false):Region.ready .any ops listed ≠ []:=by
 have hex:∃ m,m < ops.size∧listed.getD m false=false∧∀ k,k < m→listed.getD k false=true:=by
  induction m using Nat.strongRecOn with
  | _ m ihm =>
   by_cases hall:∀ k,k < m→listed.getD k false=true
   ·
    exact ⟨m,m1,m2,hall⟩
   ·
    have:∃ k,k < m∧listed.getD k false=false:=by
     refine Classical.byContradiction fun hc=>hall fun k hk=>?_
     cases hv:listed.getD k false with
     | true=>rfl
     | false=>exact absurd ⟨k,hk,hv⟩ hc
    obtain ⟨k,hk,hv⟩:=this
    exact ihm k hk (by omega) hv
 obtain ⟨m,hmlt,hm2,hmin⟩:=hex
 have hmo:ops[m]? = some ops[m]:=by simp [hmlt]
 have hready:m ∈ Region.ready .any ops listed:=by
  rw [mem_ready]
  refine ⟨by have:m < listed.size:=(by omega); simp [this] at hm2 ⊢; exact hm2,ops[m],hmo,fun ed he hb=>?_⟩
  have hon:=(jq hr hmo).1 ed he hb
  exact hmin ed.on hon
 intro hnone
 rw [hnone] at hready
 cases hready
theorem Ij {R:bO} {C:eT} (hR:kG R C) {h:Hand} (hh:Ce R C.P h) {nt:Nat} {ops:Array Oper} (hr:oD ops=true) {I:List Nat} {K:Nat→Nat} {L1 L2:List Nat} (hn1:L1.Nodup) (hm1:∀ i,i ∈ L1↔i < ops.size) (hn2:L2.Nodup) (hm2:∀ i,i ∈ L2↔i < ops.size)
  {p q:Nat} (hpq:p ≠ q) (hp:p < ops.size) {Q:Exit→Act→World→Prop} :
  ∀ (fuel:Nat) (listed:Array Bool) {cx:Cx} {S S1' S2':St} {w:World} {e e1' e2':Env} {a:Act},listed.size=ops.size→Closed ops listed→listed.getD p false=false→listed.getD q false=false →
  (L1.filter fun i=>!listed.getD i false).Pairwise (fun k i=>Compat ops K k i∨(k=p∧i=q))→(L2.filter fun i=>!listed.getD i false).Pairwise (fun k i=>Compat ops K k i∨(k=q∧i=p)) →
  (L1.filter fun i=>!listed.getD i false).length=fuel→(L2.filter fun i=>!listed.getD i false).length=fuel →
  Run C h nt ops I K (L1.filter fun i=>!listed.getD i false) e S e1' S1'→Run C h nt ops I K (L2.filter fun i=>!listed.getD i false) e S e2' S2'→bg R cx S w→iG cx S w nt e a →
  (∀ cx' a' w' e'',bg R cx' S1' w'→Ext cx S w cx' S1' w'→iG cx' S1' w' nt e'' a'→Ky e'' e1'→a'.defers=a.defers→Q .normal a' w') →
  (∀ cx' a' w' e'',bg R cx' S2' w'→Ext cx S w cx' S2' w'→iG cx' S2' w' nt e'' a'→Ky e'' e2'→a'.defers=a.defers→Q .normal a' w')→wpAny C.P .any ops Q fuel listed a w:=by
 intro fuel
 induction fuel with
 | zero =>
  intro listed cx S S1' S2' w e e1' e2' a hsz hcl lp lq c1 c2 f1 f2 v1 v2 hS he k1 k2
  exfalso
  have:p ∈ L1.filter fun i=>!listed.getD i false:=by rw [List.mem_filter]; exact ⟨(hm1 p).2 hp,by rw [lp]; rfl⟩
  rw [List.eq_nil_of_length_eq_zero f1] at this
  cases this
 | succ fuel ih =>
  intro listed cx S S1' S2' w e e1' e2' a hsz hcl lp lq c1 c2 f1 f2 v1 v2 hS he k1 k2
  refine ⟨fun hnone=>absurd hnone (yY hr hsz hp lp),fun i hi=>?_⟩
  obtain ⟨h1,o,h2,h3⟩:=mem_ready.1 hi
  have hlt:i < ops.size:=(Array.getElem?_eq_some_iff.1 h2).1
  have hlt':i < listed.size:=by omega
  have h1':listed.getD i false=false:=by simp [hlt'] at h1 ⊢; exact h1
  have hclo:=JD hr hcl h2 h3
  have drop:∀ {L:List Nat} {x y:Nat},(x=i∨y=i)→(L.filter fun j=>!(listed.setIfInBounds i true).getD j false).Pairwise (fun a b=>Compat ops K a b∨(a=x∧b=y)) →
    (L.filter fun j=>!(listed.setIfInBounds i true).getD j false).Pairwise (Compat ops K):=fun {L x y} hxy hpw=>by
   refine List.Pairwise.imp_of_mem (fun {a b} ha hb hab=>?_) hpw
   have hno:∀ z,z ∈ (L.filter fun j=>!(listed.setIfInBounds i true).getD j false)→z ≠ i:=fun z hz hzi=>by
    have:=(List.mem_filter.1 hz).2
    subst hzi
    simp [hlt'] at this
   rcases hab with q | ⟨rfl,rfl⟩
   ·
    exact q
   ·
    rcases hxy with rfl | rfl
    ·
     exact absurd rfl (hno _ ha)
    ·
     exact absurd rfl (hno _ hb)
  by_cases hiq:i=q
  ·
   obtain ⟨e1,S1,e2,b1,b2,b3,b4,b5⟩:=front hr hn2 hm2 hsz h1' h2 hclo c2 (fun k hk hx=>hpq (hx.2.symm.trans hiq)) v2
   refine qP hR hh b1 hS he (fun cx1 a1 w1 s1 x1 er1 d1=>?_) h2
   exact JC hR hh hr hn2 hm2 fuel _ (by simpa using hsz) (qR hcl hclo) (drop (.inl hiq.symm) b4) (by omega) b2 s1 er1 (fun cx' a' w' e'' q1 q2 q3 q4 q5=>k2 cx' a' w' e'' q1 (x1.trans q2) q3 (fun t=>(q4 t).trans (b3 t)) (q5.trans d1))
  ·
   obtain ⟨e1,S1,e2,b1,b2,b3,b4,b5⟩:=front hr hn1 hm1 hsz h1' h2 hclo c1 (fun k hk hx=>hiq hx.2) v1
   by_cases hip:i=p
   ·
    refine qP hR hh b1 hS he (fun cx1 a1 w1 s1 x1 er1 d1=>?_) h2
    exact JC hR hh hr hn1 hm1 fuel _ (by simpa using hsz) (qR hcl hclo) (drop (.inl hip.symm) b4) (by omega) b2 s1 er1 (fun cx' a' w' e'' q1 q2 q3 q4 q5=>k1 cx' a' w' e'' q1 (x1.trans q2) q3 (fun t=>(q4 t).trans (b3 t)) (q5.trans d1))
   ·
    obtain ⟨e1x,S1x,e2x,d1,d2,d3,d4,d5⟩:=front hr hn2 hm2 hsz h1' h2 hclo c2 (fun k hk hx=>hip hx.2) v2
    rw [b1] at d1
    cases d1
    refine qP hR hh b1 hS he (fun cx1 a1 w1 s1 x1 er1 dd=>?_) h2
    exact ih _ (by simpa using hsz) (qR hcl hclo) (by rw [getD_set_ne false hip]; exact lp) (by rw [getD_set_ne false hiq]; exact lq) b4 d4 (by omega) (by omega) b2 d2 s1 er1
     (fun cx' a' w' e'' q1 q2 q3 q4 q5=>k1 cx' a' w' e'' q1 (x1.trans q2) q3 (fun t=>(q4 t).trans (b3 t)) (q5.trans dd))
     (fun cx' a' w' e'' q1 q2 q3 q4 q5=>k2 cx' a' w' e'' q1 (x1.trans q2) q3 (fun t=>(q4 t).trans (d3 t)) (q5.trans dd))
end
end Go.Ev

namespace Go.Ev
noncomputable section
set_option linter.unusedVariables false
set_option linter.unusedSimpArgs false
variable {R:bO} {C:eT} {nt:Nat}
def yC (ops:Array Oper) (K:List Nat) (k i:Nat):Bool :=
 ((Region.before ops).getD i 0).testBit k || ((match ops[k]?,ops[i]? with | some x,some o=>x.apart ops o | _,_=>false) && MK (K.getD k 2) (K.getD i 2))
theorem vU {ops:Array Oper} {K:List Nat} {k i:Nat} (h:yC ops K k i=true):Compat ops (fun i=>K.getD i 2) k i:=by
 unfold yC at h
 simp only [Bool.or_eq_true,Bool.and_eq_true] at h
 refine h.imp id fun q=>⟨fun x o hx ho=>?_,q.2⟩
 have:=q.1
 rw [hx,ho] at this
 exact this
def AX (r:Nat→Nat→Bool):List Nat→Bool
 | []=>true
 | k :: l=>l.all (r k) && AX r l
theorem qX {r:Nat→Nat→Bool}:∀ {l:List Nat},AX r l=true→l.Pairwise (fun a b=>r a b=true)
 | [],_=>.nil
 | k :: l,h=>by
  simp only [AX,Bool.and_eq_true] at h
  exact .cons (fun b hb=>List.all_eq_true.1 h.1 b hb) (qX h.2)
def FW (n:Nat) (L:List Nat):Bool:=AX (fun a b=>!Nat.beq a b) L && L.all (fun i=>Nat.blt i n) && (List.range n).all (fun i=>L.any fun j=>Nat.beq i j)
theorem zQ {n:Nat} {L:List Nat} (h:FW n L=true):L.Nodup∧∀ i,i ∈ L↔i < n:=by
 simp only [FW,Bool.and_eq_true] at h
 obtain ⟨⟨h1,h2⟩,h3⟩:=h
 refine ⟨(qX h1).imp (fun {a b} q hab=>by subst hab; simp at q),fun i=>⟨fun hi=>?_,fun hi=>?_⟩⟩
 ·
  have:=List.all_eq_true.1 h2 i hi
  exact Nat.le_of_ble_eq_true this
 ·
  have:=List.all_eq_true.1 h3 i (List.mem_range.2 hi)
  rw [List.any_eq_true] at this
  obtain ⟨j,hj,hq⟩:=this
  rw [Nat.eq_of_beq_eq_true hq]; exact hj
def ML (ops:Array Oper) (K:List Nat) (p q:Nat) (L1 L2:List Nat):Bool :=
 !Nat.beq p q && Nat.blt p ops.size && Nat.blt q ops.size && FW ops.size L1 && FW ops.size L2 &&
 AX (fun k i=>yC ops K k i || (Nat.beq k p && Nat.beq i q)) L1 && AX (fun k i=>yC ops K k i || (Nat.beq k q && Nat.beq i p)) L2
theorem aC.KX (hR:kG R C) (hm:C.P.follows .mixedOrders=true) {T:List Fact} (hT:∀ x ∈ T,x.ok R C.P) {id:Nat} {ops:Array Oper} (hok:oD ops=true) (I:List Nat) (K:List Nat) (p q:Nat) (L1 L2:List Nat) (h2:ML ops K p q L1 L2=true)
  {e:Env} {S:St} {Q:u6→Prop} (Q':Env→St→Prop) (w1:rM C (xg (gW T)) nt ops I K (zG ops L1) e S Q') (w2:rM C (xg (gW T)) nt ops I K (zG ops L2) e S Q')
  (k:∀ e' S',Q' e' S'→Q (.normal,e',S')):aC R C.P nt (.region id ops true) e S Q:=by
 intro cx w a Kx hS he hk
 simp only [ML,Bool.and_eq_true,Bool.not_eq_true'] at h2
 obtain ⟨⟨⟨⟨⟨⟨t1,t2⟩,t3⟩,t4⟩,t5⟩,t6⟩,t7⟩:=h2
 obtain ⟨n1,m1⟩:=zQ t4
 obtain ⟨n2,m2⟩:=zQ t5
 have hp:=Nat.le_of_ble_eq_true t2
 have hq:=Nat.le_of_ble_eq_true t3
 have hpq:p ≠ q:=fun z=>by rw [z] at t1; simp at t1
 obtain ⟨x1,y1⟩:=uC L1 (fun i hi=>(m1 i).1 hi)
 obtain ⟨x2,y2⟩:=uC L2 (fun i hi=>(m2 i).1 hi)
 obtain ⟨e1,S1,r1,q1⟩:=CF _ x1 w1
 obtain ⟨e2,S2,r2,q2⟩:=CF _ x2 w2
 rw [y1] at r1
 rw [y2] at r2
 obtain ⟨d1,d2⟩:=mi hR.toObjOk hS
 refine wp_region_any hm ?_
 have hfl:∀ L:List Nat,(L.filter fun i=>!(Array.replicate ops.size false).getD i false)=L:=fun L=>by
  rw [List.filter_eq_self]; intro i hi; rw [qp]; rfl
 have hlen:∀ {L:List Nat},L.Nodup→(∀ i,i ∈ L↔i < ops.size)→L.length=ops.size:=fun {L} hn hm=>by
  have:L.Perm (List.range ops.size):=(List.perm_ext_iff_of_nodup hn List.nodup_range).2 fun i=>by rw [hm,List.mem_range]
  simpa using this.length_eq
 refine Ij hR (Lr (GQ hT)) hok n1 m1 n2 m2 hpq hp ops.size (Array.replicate ops.size false) (cx:=cx) (S:=S) (S1':=S1) (S2':=S2) (w:=w.drew) (e:=e) (e1':=e1) (e2':=e2) (by simp) (fun j hj=>by rw [qp] at hj; cases hj) (qp _ _) (qp _ _)
  (by rw [hfl]; exact (qX t6).imp (fun {a b} z=>by
   simp only [Bool.or_eq_true,Bool.and_eq_true] at z
   exact z.imp vU (fun z=>⟨Nat.eq_of_beq_eq_true z.1,Nat.eq_of_beq_eq_true z.2⟩)))
  (by rw [hfl]; exact (qX t7).imp (fun {a b} z=>by
   simp only [Bool.or_eq_true,Bool.and_eq_true] at z
   exact z.imp vU (fun z=>⟨Nat.eq_of_beq_eq_true z.1,Nat.eq_of_beq_eq_true z.2⟩)))
  (by rw [hfl]; exact hlen n1 m1) (by rw [hfl]; exact hlen n2 m2) (by rw [hfl]; exact r1) (by rw [hfl]; exact r2) d1 (he.mono d2) (fun cx' a' w' e'' z1 z2 z3 z4 z5=>?_) (fun cx' a' w' e'' z1 z2 z3 z4 z5=>?_)
 ·
  exact hk (.normal,e1,S1) (k e1 S1 q1) cx' a' w' z1 (d2.trans z2) ⟨z3.size,fun t x hx=>z3.rel t x (by rw [z4 t]; exact hx)⟩ z5
 ·
  exact hk (.normal,e2,S2) (k e2 S2 q2) cx' a' w' z1 (d2.trans z2) ⟨z3.size,fun t x hx=>z3.rel t x (by rw [z4 t]; exact hx)⟩ z5
theorem Has.xR {B S:St} {l:List bG} (H:Has B S l) {i j:Nat} (hij:i ≠ j) {a b:Nat} {cs cs':List AV} (hi:l[i]? = some (.box a cs)) (hj:l[j]? = some (.box b cs')):a ≠ b:=by
 have key:∀ {i j:Nat} {a b:Nat} {cs cs':List AV},i < j→l[i]? = some (.box a cs)→l[j]? = some (.box b cs')→a ≠ b:=by
  intro i j a b cs cs' hlt hi hj hab
  have hp:=(List.pairwise_flatten.1 H.nd).2
  obtain ⟨i1,i2⟩:=List.getElem?_eq_some_iff.1 hi
  obtain ⟨j1,j2⟩:=List.getElem?_eq_some_iff.1 hj
  have:=List.pairwise_iff_getElem.1 hp i j (by simpa using i1) (by simpa using j1) hlt
  simp only [List.getElem_map,i2,j2] at this
  exact this a (by simp [bG.fp]) b (by simp [bG.fp]) hab
 rcases Nat.lt_or_gt_of_ne hij with q | q
 ·
  exact key q hi hj
 ·
  exact fun h=>key q hj hi h.symm
section
variable {B:St} {T:List Fact} {ops:Array Oper} {rest:List (Nat × Oper)} {I K:List Nat} {e:Env} {S S':St} {Q:Env→St→Prop} {l l':List bG} {t ty i:Nat} {p:String} {af:Array Edge} {g:Option (Nat × Bool)} {v:AV} {x y:Operand}
theorem rM.Co {bt j id off n:Nat} {cs cv cs':List AV} (H:Has B S l) (hI:∀ z ∈ I,z ≠ id) (hk:K.getD i 2=4) (hw:bC ops e { dst:=none,op:=.store bt x y,type:=ty,pos:=p,after:=af,guard:=g }=some true) (ha:bB e x=some (.ptr id 0 off)) (hy:bB e y=some v) (hi:l[j]? = some (.box id cs)) (hcv:v.cells=cv) (hn:cv.length=n) (hz:aM C.P bt=n) (hp:v.plain=true) (hag:(eQ C.P bt).isSome=true) (hb:Nat.ble (off + n) cs.length=true)
  (hs:setAt cs off cv=cs') (hl:l.set j (.box id cs')=l') (k:∀ S',Has B S' l'→rM C (xg (gW T)) nt ops I K rest e S' Q) :
  rM C (xg (gW T)) nt ops I K ((i,{ dst:=none,op:=.store bt x y,type:=ty,pos:=p,after:=af,guard:=g }) :: rest) e S Q:=by
 subst hs; subst hl
 exact ⟨e,_,by simp only [fG,hw,zH H ha hy hcv hn hz hp hag hi hb],⟨fun q=>(by rw [hk] at q; cases q),fun q=>(by rw [hk] at q; cases q),fun q=>(by rw [hk] at q; cases q)⟩,fun _ z hz=>by
  have:=hI z hz
  simp [AL.aP,Ne.symm this],k _ (H.write hi)⟩
end
end
end Go.Ev

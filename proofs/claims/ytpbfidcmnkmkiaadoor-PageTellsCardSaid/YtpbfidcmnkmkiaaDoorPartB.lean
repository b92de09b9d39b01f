import Derived.Test.YtpbfidcmnkmkiaaDoorPartA
import Derived.MapKept
import Derived.Orders
import Derived.Laws.IdiomRangeMap
import Derived.Below
import Derived.Lib.SliceRun
import Derived.Lib.SlTrimSet
import Derived.Lib.Bytealg
import Derived.Lib.Join
namespace Go.Ev
noncomputable section
set_option linter.unusedVariables false
set_option linter.unusedSimpArgs false
theorem zl {R:bT} (hR:ObjOk R) {cx:Cx} {S:St} {w w':World} (h:bf R cx S w) {id:Nat} {M M':vk} (hg:S.H.get id=some (.map M))
  (hs:w'.heap.size=w.heap.size) (ho:∀ b,b ≠ cx.bm id→w'.heap[b]? = w.heap[b]?) (h1:w'.os=w.os) (h2:w'.tape=w.tape) (h3:w'.output=w.output)
  {ms':Array MapEntry} {clk':Nat} (hb:w'.heap[cx.bm id]? = some (.map ms' clk')) (hd:ms'.size=M'.es.length∧clk'=M'.clk∧∀ (i:Nat) (p:D × AV × Nat) (m:MapEntry),M'.es[i]? = some p→ms'[i]? = some m→m.born=p.2.2)
  (hv:∀ (i:Nat) (p:D × AV × Nat) (m:MapEntry),M'.es[i]? = some p→ms'[i]? = some m→bH w cx.fr p.1 m.key∧aM cx S w p.2.1 m.val) :
  bf R cx { S with H:=S.H.set id (.map M') } w'∧Ext cx S w cx { S with H:=S.H.set id (.map M') } w':=by
 obtain ⟨c1,c2,ms0,clk0,c3,c4,c5⟩:=h.maps id M hg
 have hlive:live S id:=by simp [live,cur,hg]
 have hcur:∀ i,cur { S with H:=S.H.set id (.map M') } i=cur S i:=fun i=>by
  unfold cur
  simp only [AL.aX]
  by_cases hi:id=i
  ·
   subst hi; simp [hg]
  ·
   simp [hi]
 have e:Ext cx S w cx { S with H:=S.H.set id (.map M') } w':=by
  refine ⟨by omega,h1,h2,h3,Nat.le_refl _,fun b o v hf hc=>?_,fun b hlt hn=>?_,fun i b hl hf=>?_,fun i gi _ hi=>⟨gi,by
   unfold isIt at *
   simp only [AL.aX] at hi
   split at hi
   ·
    cases hi
   ·
    exact hi⟩,fun _ _ _ _ _ _ hf=>hf,fun i g' hi hg'=>?_⟩
  ·
   have hne:b ≠ cx.bm id:=fun q=>hf (by rw [q]; exact c2 o)
   exact ⟨mX (ho b hne) hc,hf⟩
  ·
   have hne:b ≠ cx.bm id:=fun q=>Bz hg (by simp) (hn id hlive ((c1 b).2 q))
   exact ⟨ho b hne,fun _=>Iff.rfl⟩
  ·
   have hl':live S i:=by unfold live at *; rwa [hcur i] at hl
   exact ⟨fun _=>⟨hl',.inl hf⟩,fun hge=>absurd (h.wf i hl') (by show ¬ i < S.nx; omega)⟩
  ·
   rw [hcur i] at hg'
   exact ⟨g',hg',Nat.le_refl _,fun _=>⟨rfl,rfl,rfl⟩⟩
 have hl':∀ i,live { S with H:=S.H.set id (.map M') } i→live S i:=fun i hl=>by unfold live at *; rwa [hcur i] at hl
 have hne:∀ i,live S i→i ≠ id→∀ b,cx.fp i b→b ≠ cx.bm id:=fun i hi hne b hf hq=>hne (h.sep i id b hi hlive hf ((c1 b).2 hq))
 refine ⟨⟨fun i hi=>h.wf i (hl' i hi),fun i b hi=>?_,fun i g' cs1 hi=>?_,fun i es hi=>?_,fun i k x hi=>?_,fun i en hi=>?_,fun i i' b a1 a2 f1 f2=>h.sep i i' b (hl' i a1) (hl' i' a2) f1 f2,fun b o hf=>by rw [hs]; exact h.lt b o hf,hR.stat _ _ _ _ h.stat e.prot (h.still e)⟩,e⟩
 ·
  simp only [AL.aX] at hi
  by_cases q:id=i
  ·
   subst q; exact h.pJ id _ hg
  ·
   rw [if_neg q] at hi; exact h.pJ i b hi
 ·
  simp only [AL.aX] at hi
  by_cases q:id=i
  ·
   subst q; simp at hi
  ·
   rw [if_neg q] at hi
   obtain ⟨d1,d2,arr2,el2,d3,d4,d5⟩:=h.cells i g' cs1 hi
   refine ⟨d1,d2,arr2,el2,?_,d4,fun j x hx=>by
    obtain ⟨v,v1,v2,v3⟩:=d5 j x hx
    exact ⟨v,v1,v2.mono e,v3⟩⟩
   rw [ho _ (hne i (by simp [live,cur,hi]) (Ne.symm q) _ ((d1 _).2 rfl))]; exact d3
 ·
  simp only [AL.aX] at hi
  by_cases q:id=i
  ·
   subst q
   simp only [if_true,Option.some.injEq,tZ.map.injEq] at hi
   subst hi
   exact ⟨c1,c2,ms',clk',hb,hd,fun j p m hp hm=>by
    obtain ⟨v1,v2⟩:=hv j p m hp hm
    exact ⟨v1.mono e.prot,v2.mono e⟩⟩
  ·
   rw [if_neg q] at hi
   obtain ⟨d1,d2,ms,clk,d3,d4,d5⟩:=h.maps i es hi
   refine ⟨d1,d2,ms,clk,?_,d4,fun j p m hp hm=>by
    obtain ⟨v1,v2⟩:=d5 j p m hp hm
    exact ⟨v1.mono e.prot,v2.mono e⟩⟩
   rw [ho _ (hne i (by simp [live,cur,hi]) (Ne.symm q) _ ((d1 _).2 rfl))]; exact d3
 ·
  simp only [AL.aX] at hi
  by_cases q:id=i
  ·
   subst q; simp at hi
  ·
   rw [if_neg q] at hi
   obtain ⟨d1,d2⟩:=h.objs i k x hi
   exact ⟨hR.frame k x w w' _ _ d1 (fun c hc=>ho c (hne i (by simp [live,cur,hi]) (Ne.symm q) c hc)),d2⟩
 ·
  obtain ⟨d1,d2,arr2,el2,fz,d3,d4,d5,d6⟩:=h.toks i en hi
  have q:i ≠ id:=fun q=>by subst q; have:=h.pJ i _ hg; rw [this] at hi; cases hi
  have hli:live S i:=by
   unfold live cur
   cases hH:S.H.get i with
   | some b=>have:=h.pJ i b hH; rw [this] at hi; cases hi
   | none=>simp [hi]
  refine ⟨d1,d2,arr2,el2,fz,?_,d4,d5,d6⟩
  rw [ho _ (hne i hli q _ ((d1 _).2 rfl))]; exact d3
theorem zK {R:bT} (hR:ObjOk R) {cx:Cx} {S:St} {w:World} (h:bf R cx S w) :
  ∃ cx',bf R cx' { S with H:=S.H.set S.nx (.map { es:=[],clk:=0 }),nx:=S.nx + 1 } (w.alloc (.map #[] 0))∧Ext cx S w cx' { S with H:=S.H.set S.nx (.map { es:=[],clk:=0 }),nx:=S.nx + 1 } (w.alloc (.map #[] 0)) ∧
   aM cx' { S with H:=S.H.set S.nx (.map { es:=[],clk:=0 }),nx:=S.nx + 1 } (w.alloc (.map #[] 0)) (.map S.nx) (.map (some w.heap.size)):=by
 obtain ⟨nH,nT⟩:=lq h
 generalize hS':({ S with H:=S.H.set S.nx (.map { es:=[],clk:=0 }),nx:=S.nx + 1 }:St)=S'
 have hH:∀ id,id ≠ S.nx→S'.H.get id=S.H.get id:=fun id hid=>by rw [← hS']; simp [AL.aX,Ne.symm hid]
 have hT:∀ id,id ≠ S.nx→S'.T.get id=S.T.get id:=fun id hid=>by rw [← hS']
 have hnx:S'.nx=S.nx + 1:=by rw [← hS']
 have nT':S'.T.get S.nx=none:=by rw [← hS']; exact nT
 have hc:∀ id,id ≠ S.nx→cur S' id=cur S id:=fun id hid=>by unfold cur; rw [hH id hid,hT id hid]
 have hnew:S'.H.get S.nx=some (.map { es:=[],clk:=0 }):=by rw [← hS']; simp [AL.aX]
 have e:=Ext.fresh (S':=S') h (.map #[] 0) 0 0 (fun _=>True) hnx hc hH
 refine ⟨cx.new S.nx w.heap.size 0 0 (fun _=>True),bf.fresh hR h _ 0 0 _ hnx hH hT (fun b _=>nT') (fun g cs' hg=>?_) (fun es hg=>?_) (fun k x hg=>?_) (fun en hg=>?_),e,?_⟩
 ·
  rw [hnew] at hg; cases hg
 ·
  rw [hnew] at hg
  simp only [Option.some.injEq,tZ.map.injEq] at hg
  subst hg
  exact ⟨fun c=>by simp [Cx.new],fun o=>by simp [Cx.new],#[],0,by simp only [Cx.new,if_true]; exact heap_alloc_new w _,⟨rfl,rfl,fun i p m hp=>by simp at hp⟩,fun i p m hp=>by simp at hp⟩
 ·
  rw [hnew] at hg; cases hg
 ·
  rw [nT'] at hg; cases hg
 ·
  exact .map S.nx w.heap.size ⟨by rw [hnx]; exact Nat.lt_succ_self _,fun g' _=>Nat.zero_le _⟩ (fun _=>by simp [Cx.new])
theorem kP {C:gq} {t k e:Nat} (h:qI C t=some (k,e)):C.P.underlying t=some (.map k e):=by
 unfold qI at h
 split at h
 ·
  rename_i k' e' hu
  simp only [Option.some.injEq,Prod.mk.injEq] at h
  rw [hu,h.1,h.2]
 ·
  cases h
theorem qA {R:bT} {cx:Cx} {S:St} {w:World} (hS:bf R cx S w) {id:Nat} {M:vk} (hg:S.H.get id=some (.map M)) {b:Nat} (hx:aM cx S w (.map id) (.map (some b))) :
  b=cx.bm id∧∃ ms,w.heap[cx.bm id]? = some (.map ms M.clk)∧GV w cx.fr M.es ms.toList∧(∀ (i:Nat) (p:D × AV × Nat) (m:MapEntry),M.es[i]? = some p→ms[i]? = some m→m.born=p.2.2∧bH w cx.fr p.1 m.key∧aM cx S w p.2.1 m.val)∧ms.size=M.es.length:=by
 obtain ⟨c1,c2,ms,clk,c3,⟨c4,c4',c4''⟩,c5⟩:=hS.maps id M hg
 subst c4'
 cases hx with
 | map _ _ hn hp =>
  refine ⟨hp (by simp [cur,hg]),ms,c3,⟨by simpa using c4,fun i p m hp hm=>(c5 i p m hp (by simpa using hm)).1⟩,fun i p m hp hm=>⟨c4'' i p m hp hm,(c5 i p m hp hm).1,(c5 i p m hp hm).2⟩,c4⟩
theorem qD {cx:Cx} {S:St} {w:World} {P:Program} {t:Nat} {k:D} {es:List (D × AV × Nat)} {ms:Array MapEntry} (hval:∀ (i:Nat) (p:D × AV × Nat) (m:MapEntry),es[i]? = some p→ms[i]? = some m→aM cx S w p.2.1 m.val) {i:Nat} {v:AV} {o:Option (Nat × Value)}
  (hf:kG P t k es 0=some (some (i,v))) (ho:Found ms.toList 0 (some (i,v)) o):∃ b m,es[i]? = some (k,v,b)∧ms[i]? = some m∧o=some (i,m.val)∧aM cx S w v m.val:=by
 obtain ⟨b,_,h2⟩:=wH hf
 obtain ⟨m,_,m2,m3⟩:=ho
 rw [Nat.sub_zero] at h2 m2
 have m2':ms[i]? = some m:=by simpa using m2
 exact ⟨b,m,h2,m2',m3,hval i _ m h2 m2'⟩
theorem zA {R:bT} {C:gq} {cx:Cx} {S:St} {w:World} (hS:bf R cx S w) {t:Nat} {m v:AV} {k:D} {ok:Bool} {mv kv:Value} (h:qp C t S m k ok=some v) (hm:aM cx S w m mv) (hk:bH w cx.fr k kv) :
  ∃ u,(Instr.lookup t mv kv ok).run C.P w=.ok u w∧aM cx S w v u:=by
 unfold qp at h
 split at h
 ·
  rename_i kt et M hkt hM
  have hu:=kP hkt
  split at h
  ·
   rename_i hkey
   have hchk:=qC hkey hk
   have fin:∀ (ms:Array MapEntry),GV w cx.fr M.es ms.toList→(∀ (i:Nat) (p:D × AV × Nat) (m:MapEntry),M.es[i]? = some p→ms[i]? = some m→aM cx S w p.2.1 m.val) →
     ∃ u:Value × Bool,∃ o,(Instr.findKey kt kv ms.toList).run C.P w=.ok o w∧aM cx S w v (if ok then .tuple #[u.1,.bool u.2] else u.1) ∧
      ((∃ i,o=some (i,u.1)∧u.2=true)∨(o=none∧(zeroValue et).run C.P w=.ok u.1 w∧u.2=false)):=by
    intro ms hE hval
    have two:∀ {y:AV} {x:Value} {b:Bool},aM cx S w y x→aM cx S w (if ok=true then .tup [y,.d (.bool b)] else y) (if ok=true then .tuple #[x,.bool b] else x):=by
     intro y x b hy
     cases ok
     ·
      exact hy
     ·
      refine .tup [y,.d (.bool b)] [x,.bool b] rfl (fun i a c ha hc=>?_)
      match i,ha,hc with
      | 0,ha,hc=>simp at ha hc; subst ha; subst hc; exact hy
      | 1,ha,hc=>simp at ha hc; subst ha; subst hc; exact .of_bool b
    split at h
    ·
     rename_i i y hf
     simp only [Option.some.injEq] at h; subst h
     obtain ⟨o,o1,o2⟩:=gT (P:=C.P) hkey hk hE hf
     obtain ⟨b,m',_,_,q3,q4⟩:=qD hval hf o2
     exact ⟨(m'.val,true),o,o1,two q4,.inl ⟨i,q3,rfl⟩⟩
    ·
     rename_i hf
     simp only [Option.map_eq_some_iff] at h
     obtain ⟨z,hz,rfl⟩:=h
     obtain ⟨o,o1,o2⟩:=gT (P:=C.P) hkey hk hE hf
     obtain ⟨zv,z1,z2⟩:=jN hz w cx.fr
     have:o=none:=o2
     exact ⟨(zv,false),o,o1,two (.d z zv z2),.inr ⟨this,z1,rfl⟩⟩
    ·
     cases h
   have go:∀ (ms:Array MapEntry) (u:Value × Bool) (o:Option (Nat × Value)),(Instr.findKey kt kv ms.toList).run C.P w=.ok o w→((∃ i,o=some (i,u.1)∧u.2=true)∨(o=none∧(zeroValue et).run C.P w=.ok u.1 w∧u.2=false)) →
     ((mv=.map none∧ms = #[])∨∃ r c,mv=.map (some r)∧w.heap[r]? = some (.map ms c))→(Instr.lookup t mv kv ok).run C.P w=.ok (if ok then .tuple #[u.1,.bool u.2] else u.1) w:=by
    intro ms u o ho hor hmv
    obtain ⟨u1,u2⟩:=u
    rcases hmv with ⟨rfl,rfl⟩ | ⟨r,c,rfl,hr⟩ <;> rcases hor with ⟨i,rfl,hb⟩ | ⟨rfl,hz,hb⟩ <;> simp only at hb <;> subst hb
    ·
     simp only [Instr.lookup,Sem.run_bind,aS w hu,Result.andThen_ok,Sem.run_pure,hchk,ho]
    ·
     simp only at hz
     simp only [Instr.lookup,Sem.run_bind,aS w hu,Result.andThen_ok,Sem.run_pure,hchk,ho,hz]
    ·
     simp only [Instr.lookup,Sem.run_bind,aS w hu,Result.andThen_ok,Sem.run_pure,hchk,ho,MapKept.run_getObj_map hr]
    ·
     simp only at hz
     simp only [Instr.lookup,Sem.run_bind,aS w hu,Result.andThen_ok,Sem.run_pure,hchk,ho,hz,MapKept.run_getObj_map hr]
   unfold mapOf at hM
   split at hM
   ·
    simp only [Option.some.injEq] at hM; subst hM
    have:=hm.dd.val rfl; cases this
    obtain ⟨u,o,f1,f2,f3⟩:=fin #[] ⟨rfl,by simp⟩ (by simp)
    exact ⟨_,go #[] u o f1 f3 (.inl ⟨rfl,rfl⟩),f2⟩
   ·
    rename_i id
    split at hM
    ·
     rename_i M' hg
     simp only [Option.some.injEq] at hM; subst hM
     cases hm with
     | map _ b hn hp =>
      obtain ⟨p1,ms,p2,p3,p4,p5⟩:=qA hS hg (.map id b hn hp)
      subst p1
      obtain ⟨u,o,f1,f2,f3⟩:=fin ms p3 (fun i p m hp hm=>(p4 i p m hp hm).2.2)
      exact ⟨_,go ms u o f1 f3 (.inr ⟨_,_,rfl,p2⟩),f2⟩
    ·
     cases hM
   ·
    cases hM
  ·
   cases h
 ·
  cases h
theorem iR {R:bT} (hR:ObjOk R) {P:Program} {cx:Cx} {S:St} {w:World} (h:bf R cx S w) {id:Nat} {M M':vk} (hg:S.H.get id=some (.map M)) {ms ms':Array MapEntry} {c c':Nat} (hb:w.heap[cx.bm id]? = some (.map ms c))
  (hd:ms'.size=M'.es.length∧c'=M'.clk)
  (hv:∀ (i:Nat) (p:D × AV × Nat) (m:MapEntry),M'.es[i]? = some p→ms'[i]? = some m→m.born=p.2.2∧bH w cx.fr p.1 m.key∧aM cx S w p.2.1 m.val) :
  ∃ w',(setObj (cx.bm id) (.map ms' c')).run P w=.ok () w'∧bf R cx { S with H:=S.H.set id (.map M') } w'∧Ext cx S w cx { S with H:=S.H.set id (.map M') } w':=by
 have hlt:cx.bm id < w.heap.size:=by
  rcases Nat.lt_or_ge (cx.bm id) w.heap.size with q | q
  ·
   exact q
  ·
   rw [Array.getElem?_eq_none q] at hb; cases hb
 refine ⟨_,MapKept.run_setObj_map _ hb,zl hR h hg (by simp) (fun b hne=>?_) rfl rfl rfl (ms':=ms') (clk':=c') ?_ ⟨hd.1,hd.2,fun i p m hp hm=>(hv i p m hp hm).1⟩ (fun i p m hp hm=>(hv i p m hp hm).2)⟩
 ·
  simp only [Array.getElem?_setIfInBounds]
  rw [if_neg (Ne.symm hne)]
 ·
  simp only [Array.getElem?_setIfInBounds,hlt,if_true]
theorem uS {P:Program} {w:World} {fr:Nat→Nat→Prop} {t:Nat} {k:D} {v u:Value} (hk:nC P t k=true) (h1:bH w fr k v) (h2:bH w fr k u):(Instr.keyThatStays v u).run P w=.ok u w:=by
 have:=Hq hk h1 h2; subst this
 unfold Instr.keyThatStays
 rw [if_pos (F6 hk h1 9999)]
 rfl
theorem sI {cx:Cx} {S:St} {w:World} {es:List (D × AV × Nat)} {ms:Array MapEntry} {p0:D × AV × Nat} {m0:MapEntry} (hsz:ms.size=es.length) (h:∀ (i:Nat) (p:D × AV × Nat) (m:MapEntry),es[i]? = some p→ms[i]? = some m→m.born=p.2.2∧bH w cx.fr p.1 m.key∧aM cx S w p.2.1 m.val)
  (h0:m0.born=p0.2.2∧bH w cx.fr p0.1 m0.key∧aM cx S w p0.2.1 m0.val):∀ (i:Nat) (p:D × AV × Nat) (m:MapEntry),(es ++ [p0])[i]? = some p→(ms.push m0)[i]? = some m→m.born=p.2.2∧bH w cx.fr p.1 m.key∧aM cx S w p.2.1 m.val:=by
 intro i p m hp hm
 rw [Array.getElem?_push] at hm
 rw [List.getElem?_append] at hp
 by_cases hi:i=ms.size
 ·
  rw [if_pos hi] at hm
  rw [if_neg (by omega),show i - es.length=0 by omega] at hp
  simp at hp hm; subst hp; subst hm; exact h0
 ·
  rw [if_neg hi] at hm
  have hlt:i < ms.size:=(Array.getElem?_eq_some_iff.1 hm).1
  rw [if_pos (by omega)] at hp
  exact h i p m hp hm
theorem mQ {cx:Cx} {S:St} {w:World} {es:List (D × AV × Nat)} {ms:Array MapEntry} {j:Nat} {f:D × AV × Nat→D × AV × Nat} {g:MapEntry→MapEntry} (h:∀ (i:Nat) (p:D × AV × Nat) (m:MapEntry),es[i]? = some p→ms[i]? = some m→m.born=p.2.2∧bH w cx.fr p.1 m.key∧aM cx S w p.2.1 m.val)
  (h0:∀ (p:D × AV × Nat) (m:MapEntry),es[j]? = some p→ms[j]? = some m→(g m).born=(f p).2.2∧bH w cx.fr (f p).1 (g m).key∧aM cx S w (f p).2.1 (g m).val):∀ (i:Nat) (p:D × AV × Nat) (m:MapEntry),(es.modify j f)[i]? = some p→(ms.modify j g)[i]? = some m→m.born=p.2.2∧bH w cx.fr p.1 m.key∧aM cx S w p.2.1 m.val:=by
 intro i p m hp hm
 rw [Array.getElem?_modify] at hm
 rw [List.getElem?_modify] at hp
 by_cases hi:j=i
 ·
  subst hi
  simp only [if_true,Option.map_eq_map,Option.map_eq_some_iff] at hp hm
  obtain ⟨p1,q1,q2⟩:=hp
  obtain ⟨m1,r1,r2⟩:=hm
  have q2':f p1=p:=by simpa using q2
  subst q2'; subst r2
  exact h0 p1 m1 q1 r1
 ·
  rw [if_neg hi] at hm
  simp only [Option.map_eq_map,Option.map_eq_some_iff] at hp
  obtain ⟨p1,q1,q2⟩:=hp
  have q2':p1=p:=by simpa [hi] using q2
  subst q2'
  exact h i p1 m q1 hm
theorem rT {R:bT} (hR:ObjOk R) {C:gq} {cx:Cx} {S S':St} {w:World} (hS:bf R cx S w) {t:Nat} {m v:AV} {k:D} {mv kv vv:Value} (h:pR C t S m k v=some S') (hm:aM cx S w m mv) (hk:bH w cx.fr k kv) (hv:aM cx S w v vv) :
  ∃ w',(Instr.mapUpdate t mv kv vv).run C.P w=.ok () w'∧bf R cx S' w'∧Ext cx S w cx S' w':=by
 unfold pR at h
 split at h
 ·
  rename_i kt et id hkt
  have hu:=kP hkt
  split at h
  ·
   rename_i M hg
   split at h
   ·
    rename_i hc
    simp only [Bool.and_eq_true] at hc
    obtain ⟨hkey,hpl⟩:=hc
    have hchk:=qC hkey hk false
    cases hm with
    | map _ b hn hp =>
    obtain ⟨p1,ms,p2,p3,p4,p5⟩:=qA hS hg (.map id b hn hp)
    subst p1
    split at h
    ·
     rename_i i y hf
     simp only [Option.some.injEq] at h; subst h
     obtain ⟨o,o1,o2⟩:=gT (P:=C.P) hkey hk p3 hf
     obtain ⟨bn,m',q1,q2,q3,q4⟩:=qD (fun i p m hp hm=>(p4 i p m hp hm).2.2) hf o2
     subst q3
     obtain ⟨w',k1,k2,k3⟩:=iR hR (P:=C.P) (M':={ M with es:=M.es.modify i fun p=>(k,v,p.2.2) }) (ms':=ms.modify i fun e=>{ e with key:=kv,val:=vv }) (c':=M.clk) hS hg p2 ⟨by simp [p5],rfl⟩
      (mQ p4 (fun p m hp hm=>⟨(p4 i p m hp hm).1,hk,hv⟩))
     refine ⟨w',?_,k2,k3⟩
     have hst:=uS hkey (p4 i _ m' q1 q2).2.1 hk
     simp only [Instr.mapUpdate,Sem.run_bind,aS w hu,Result.andThen_ok,MapKept.run_getObj_map p2,hchk,o1,q2,Option.map_some,Option.getD_some,hst]
     exact k1
    ·
     rename_i hf
     simp only [Option.some.injEq] at h; subst h
     obtain ⟨o,o1,o2⟩:=gT (P:=C.P) hkey hk p3 hf
     have:o=none:=o2
     subst this
     obtain ⟨w',k1,k2,k3⟩:=iR hR (P:=C.P) (M':={ es:=M.es ++ [(k,v,M.clk)],clk:=M.clk + 1 }) (ms':=ms.push { key:=kv,val:=vv,born:=M.clk }) (c':=M.clk + 1) hS hg p2 ⟨by simp [p5],rfl⟩
      (sI p5 p4 ⟨rfl,hk,hv⟩)
     refine ⟨w',?_,k2,k3⟩
     simp only [Instr.mapUpdate,Sem.run_bind,aS w hu,Result.andThen_ok,MapKept.run_getObj_map p2,hchk,o1]
     exact k1
    ·
     cases h
   ·
    cases h
  ·
   cases h
 ·
  cases h
theorem zW {R:bT} {cx:Cx} {S:St} {w w':World} {id:Nat} {b:tZ} (hg:S.H.get id=some b) (h1:bf R cx { S with H:=S.H.set id b } w') (h2:Ext cx S w cx { S with H:=S.H.set id b } w'):bf R cx S w'∧Ext cx S w cx S w':=by
 have hH:∀ i,({ S with H:=S.H.set id b }:St).H.get i=S.H.get i:=fun i=>by
  simp only [AL.aX]
  by_cases q:id=i
  ·
   subst q; simp [hg]
  ·
   simp [q]
 have hcur:∀ i,cur { S with H:=S.H.set id b } i=cur S i:=fun i=>by unfold cur; rw [hH i]
 have hl:∀ i,live { S with H:=S.H.set id b } i↔live S i:=fun i=>by unfold live; rw [hcur i]
 have e2:Ext cx { S with H:=S.H.set id b } w' cx S w':=by
  refine ⟨Nat.le_refl _,rfl,rfl,rfl,Nat.le_refl _,fun _ _ _ q1 q2=>⟨q2,q1⟩,fun _ _ _=>⟨rfl,fun _=>Iff.rfl⟩,fun i b hi hf=>⟨fun _=>⟨(hl i).2 hi,.inl hf⟩,fun hge=>absurd (h1.wf i ((hl i).2 hi)) (by show ¬ i < S.nx; exact Nat.not_lt.2 hge)⟩,fun i g _ hi=>⟨g,by unfold isIt at *; rw [hH i]; exact hi⟩,fun _ _ _ _ _ _ hf=>hf,fun i g hi hg'=>⟨g,by rw [hcur i]; exact hg',Nat.le_refl _,fun _=>⟨rfl,rfl,rfl⟩⟩⟩
 refine ⟨⟨fun i hi=>h1.wf i ((hl i).2 hi),fun i b hi=>h1.pJ i b (by rw [hH i]; exact hi),fun i g cs hi=>?_,fun i es hi=>?_,fun i k x hi=>h1.objs i k x (by rw [hH i]; exact hi),fun i n hi=>h1.toks i n hi,fun i i' b a1 a2=>h1.sep i i' b ((hl i).2 a1) ((hl i').2 a2),h1.lt,h1.stat⟩,h2.trans e2⟩
 ·
  obtain ⟨d1,d2,arr2,el2,d3,d4,d5⟩:=h1.cells i g cs (by rw [hH i]; exact hi)
  exact ⟨d1,d2,arr2,el2,d3,d4,fun j x hx=>by
   obtain ⟨v,v1,v2,v3⟩:=d5 j x hx
   exact ⟨v,v1,v2.mono e2,v3⟩⟩
 ·
  obtain ⟨d1,d2,ms,clk,d3,d4,d5⟩:=h1.maps i es (by rw [hH i]; exact hi)
  exact ⟨d1,d2,ms,clk,d3,d4,fun j p m hp hm=>by
   obtain ⟨v1,v2⟩:=d5 j p m hp hm
   exact ⟨v1,v2.mono e2⟩⟩
theorem AP {R:bT} (hR:ObjOk R) {C:gq} {cx:Cx} {S:St} {w:World} (hS:bf R cx S w) {t:Nat} {m:AV} {k:D} {r:AV × St} {mv kv:Value} (h:yT C t S m k=some r) (hm:aM cx S w m mv) (hk:bH w cx.fr k kv) :
  ∃ w' u,(Instr.mapEntry t mv kv).run C.P w=.ok u w'∧bf R cx r.2 w'∧Ext cx S w cx r.2 w'∧aM cx r.2 w' r.1 u:=by
 have two:∀ {S':St} {w':World} {y:AV} {x:Value} {n:Nat},aM cx S' w' y x→aM cx S' w' (.tup [y,.d (.int .i64 (n:Nat))]) (.tuple #[x,goInt n]):=by
  intro S' w' y x n hy
  refine .tup [y,.d (.int .i64 n)] [x,goInt n] rfl (fun i a c ha hc=>?_)
  match i,ha,hc with
  | 0,ha,hc=>simp at ha hc; subst ha; subst hc; exact hy
  | 1,ha,hc=>simp at ha hc; subst ha; subst hc; exact .of_int _ _
 unfold yT at h
 split at h
 ·
  rename_i kt et id hkt
  have hu:=kP hkt
  split at h
  ·
   rename_i M hg
   split at h
   ·
    rename_i hkey
    have hchk:=qC hkey hk false
    cases hm with
    | map _ b hn hp =>
    obtain ⟨p1,ms,p2,p3,p4,p5⟩:=qA hS hg (.map id b hn hp)
    subst p1
    split at h
    ·
     rename_i i y hf
     split at h
     ·
      rename_i p hpi
      simp only [Option.some.injEq] at h; subst h
      obtain ⟨o,o1,o2⟩:=gT (P:=C.P) hkey hk p3 hf
      obtain ⟨bn,m',q1,q2,q3,q4⟩:=qD (fun i p m hp hm=>(p4 i p m hp hm).2.2) hf o2
      subst q3
      rw [hpi] at q1
      simp only [Option.some.injEq] at q1; subst q1
      have hsame:M.es.modify i (fun p=>(k,p.2.1,p.2.2))=M.es:=by
       apply List.ext_getElem?
       intro j
       rw [List.getElem?_modify]
       by_cases hj:i=j
       ·
        subst hj; rw [hpi]; simp
       ·
        simp [hj]
      obtain ⟨w',k1,k2,k3⟩:=iR hR (P:=C.P) (M':={ M with es:=M.es.modify i fun p=>(k,p.2.1,p.2.2) }) (ms':=ms.modify i fun e=>{ e with key:=kv }) (c':=M.clk) hS hg p2 ⟨by simp [p5],rfl⟩
       (mQ p4 (fun p m hp hm=>⟨(p4 i p m hp hm).1,hk,(p4 i p m hp hm).2.2⟩))
      rw [hsame] at k2 k3
      have hback:bf R cx S w'∧Ext cx S w cx S w':=zW hg k2 k3
      have hborn:=(p4 i _ m' hpi q2).1
      refine ⟨w',.tuple #[m'.val,goInt m'.born],?_,hback.1,hback.2,?_⟩
      ·
       have hst:=uS hkey (p4 i _ m' hpi q2).2.1 hk
       simp only [Instr.mapEntry,Sem.run_bind,aS w hu,Result.andThen_ok,MapKept.run_getObj_map p2,hchk,o1,q2,Option.map_some,Option.getD_some,hst]
       rw [k1]; rfl
      ·
       rw [hborn]
       exact two (q4.mono hback.2)
     ·
      cases h
    ·
     rename_i hf
     simp only [Option.map_eq_some_iff] at h
     obtain ⟨z,hz,rfl⟩:=h
     obtain ⟨o,o1,o2⟩:=gT (P:=C.P) hkey hk p3 hf
     have:o=none:=o2
     subst this
     obtain ⟨zv,z1,z2⟩:=jN hz w cx.fr
     obtain ⟨w',k1,k2,k3⟩:=iR hR (P:=C.P) (M':={ es:=M.es ++ [(k,.d z,M.clk)],clk:=M.clk + 1 }) (ms':=ms.push { key:=kv,val:=zv,born:=M.clk }) (c':=M.clk + 1) hS hg p2 ⟨by simp [p5],rfl⟩
      (sI p5 p4 ⟨rfl,hk,.d z zv z2⟩)
     refine ⟨w',.tuple #[zv,goInt M.clk],?_,k2,k3,two ((aM.d z zv z2).mono k3)⟩
     simp only [Instr.mapEntry,Sem.run_bind,aS w hu,Result.andThen_ok,MapKept.run_getObj_map p2,hchk,o1,z1]
     rw [k1]; rfl
    ·
     cases h
   ·
    cases h
  ·
   cases h
 ·
  cases h
theorem nL {n:Nat}:∀ {es:List (D × AV × Nat)} {i0 i:Nat},mi n es i0=some i→i0 ≤ i∧(∃ p,es[i - i0]? = some p∧p.2.2=n)∧∀ j p,i0 ≤ j→j < i→es[j - i0]? = some p→p.2.2 ≠ n
 | [],i0,i,h=>by simp [mi] at h
 | (x,v,b) :: l,i0,i,h=>by
  simp only [mi] at h
  cases hb:Nat.beq b n with
  | true =>
   rw [hb] at h
   simp only [cond_true,Option.some.injEq] at h
   subst h
   exact ⟨Nat.le_refl _,⟨(x,v,b),by simp,Nat.eq_of_beq_eq_true hb⟩,fun j p h1 h2=>by omega⟩
  | false =>
   rw [hb] at h
   simp only [cond_false] at h
   obtain ⟨h1,⟨p,h2,h3⟩,h4⟩:=nL h
   refine ⟨by omega,⟨p,?_,h3⟩,fun j q hj1 hj2 hq=>?_⟩
   ·
    rw [show i - i0=(i - (i0 + 1)) + 1 by omega]; simpa using h2
   ·
    by_cases hj:j=i0
    ·
     subst hj
     simp at hq; subst hq
     intro e
     simp only at e
     rw [e] at hb
     simp at hb
    ·
     refine h4 j q (by omega) hj2 ?_
     rw [show j - i0=(j - (i0 + 1)) + 1 by omega] at hq
     simpa using hq
theorem uo {R:bT} (hR:ObjOk R) {C:gq} {cx:Cx} {S S':St} {w:World} (hS:bf R cx S w) {t:Nat} {m v:AV} {st:D} {mv sv vv:Value} (h:oH S m st v=some S') (hm:aM cx S w m mv) (hs:bH w cx.fr st sv) (hv:aM cx S w v vv) :
  ∃ w',(Instr.entryStore t mv sv vv).run C.P w=.ok () w'∧bf R cx S' w'∧Ext cx S w cx S' w':=by
 unfold oH at h
 split at h
 ·
  rename_i id n
  split at h
  ·
   rename_i M hg
   split at h
   ·
    rename_i hc
    obtain ⟨hn0,hpl⟩:=hc
    have:=hs.val rfl; cases this
    cases hm with
    | map _ b hn hp =>
    obtain ⟨p1,ms,p2,p3,p4,p5⟩:=qA hS hg (.map id b hn hp)
    subst p1
    split at h
    ·
     rename_i i hf
     simp only [Option.some.injEq] at h; subst h
     obtain ⟨_,⟨p,f2,f3⟩,f4⟩:=nL hf
     rw [Nat.sub_zero] at f2
     have hil:i < ms.size:=by rw [p5]; exact (List.getElem?_eq_some_iff.1 f2).1
     have hidx:ms.findIdx? (fun e=>(e.born:Int) == n)=some i:=by
      rw [Array.findIdx?_eq_some_iff_getElem]
      refine ⟨hil,?_,fun j hj=>?_⟩
      ·
       have:=(p4 i p ms[i] f2 (by simp [hil])).1
       rw [this,f3]
       simp [Int.toNat_of_nonneg hn0]
      ·
       have hjl:j < M.es.length:=by omega
       have hq:=List.getElem?_eq_getElem hjl
       have hb:=(p4 j M.es[j] ms[j] hq (by simp [show j < ms.size by omega])).1
       have hne:=f4 j M.es[j] (Nat.zero_le _) hj (by rw [Nat.sub_zero]; exact hq)
       simp only [beq_iff_eq]
       rw [hb]
       intro e
       apply hne
       omega
     obtain ⟨w',k1,k2,k3⟩:=iR hR (P:=C.P) (M':={ M with es:=M.es.modify i fun p=>(p.1,v,p.2.2) }) (ms':=ms.modify i fun e=>{ e with val:=vv }) (c':=M.clk) hS hg p2 ⟨by simp [p5],rfl⟩
      (mQ p4 (fun p m hp hm=>⟨(p4 i p m hp hm).1,(p4 i p m hp hm).2.1,hv⟩))
     refine ⟨w',?_,k2,k3⟩
     have hint:(asInt (.int .i64 n)).run C.P w=.ok n w:=by simp [asInt,asIntOf]
     simp only [Instr.entryStore,Sem.run_bind,Sem.run_pure,Result.andThen_ok,MapKept.run_getObj_map p2,hint,hidx]
     exact k1
    ·
     cases h
   ·
    cases h
  ·
   cases h
 ·
  cases h
theorem xG {cx:Cx} {S:St} {w:World} {es:List (D × AV × Nat)} {ms:Array MapEntry} {j:Nat} (h:∀ (i:Nat) (p:D × AV × Nat) (m:MapEntry),es[i]? = some p→ms[i]? = some m→m.born=p.2.2∧bH w cx.fr p.1 m.key∧aM cx S w p.2.1 m.val) :
  ∀ (i:Nat) (p:D × AV × Nat) (m:MapEntry),(es.eraseIdx j)[i]? = some p→(ms.eraseIdxIfInBounds j)[i]? = some m→m.born=p.2.2∧bH w cx.fr p.1 m.key∧aM cx S w p.2.1 m.val:=by
 intro i p m hp hm
 have hm':(ms.toList.eraseIdx j)[i]? = some m:=by
  rw [← Array.getElem?_toList] at hm
  simpa using hm
 rw [List.getElem?_eraseIdx] at hp hm'
 split at hp
 ·
  rename_i hlt
  rw [if_pos hlt] at hm'
  exact h i p m hp (by simpa using hm')
 ·
  rename_i hlt
  rw [if_neg hlt] at hm'
  exact h (i + 1) p m hp (by simpa using hm')
theorem zB {R:bT} (hR:ObjOk R) {C:gq} {cx:Cx} {S S':St} {w:World} (hS:bf R cx S w) {t ty:Nat} {m:AV} {k:D} {mv kv:Value} (h:xq C t S m k=some S') (hm:aM cx S w m mv) (hk:bH w cx.fr k kv) :
  ∃ w',(Builtin.delete_ #[t] ty #[mv,kv]).run C.P w=.ok (.tuple #[]) w'∧bf R cx S' w'∧Ext cx S w cx S' w':=by
 unfold xq at h
 split at h
 ·
  rename_i kt et id hkt
  have hu:=kP hkt
  split at h
  ·
   rename_i M hg
   split at h
   ·
    rename_i hkey
    cases hm with
    | map _ b hn hp =>
    obtain ⟨p1,ms,p2,p3,p4,p5⟩:=qA hS hg (.map id b hn hp)
    subst p1
    have hchk:=qC hkey hk ms.isEmpty
    split at h
    ·
     rename_i i y hf
     simp only [Option.some.injEq] at h; subst h
     obtain ⟨o,o1,o2⟩:=gT (P:=C.P) hkey hk p3 hf
     obtain ⟨bn,m',q1,q2,q3,q4⟩:=qD (fun i p m hp hm=>(p4 i p m hp hm).2.2) hf o2
     subst q3
     obtain ⟨w',k1,k2,k3⟩:=iR hR (P:=C.P) (M':={ M with es:=M.es.eraseIdx i }) (ms':=ms.eraseIdxIfInBounds i) (c':=M.clk) hS hg p2 ⟨by
       have e1:(ms.eraseIdxIfInBounds i).toList=ms.toList.eraseIdx i:=by simp
       rw [← Array.length_toList,e1,List.length_eraseIdx,List.length_eraseIdx,Array.length_toList,p5],rfl⟩ (xG p4)
     refine ⟨w',?_,k2,k3⟩
     simp only [Builtin.delete_,List.getElem?_toArray,List.getElem?_cons_zero,List.getElem?_cons_succ,Sem.run_bind,aS w hu,Result.andThen_ok,MapKept.run_getObj_map p2,hchk,o1,k1,Sem.run_pure]
    ·
     rename_i hf
     simp only [Option.some.injEq] at h; subst h
     obtain ⟨o,o1,o2⟩:=gT (P:=C.P) hkey hk p3 hf
     have:o=none:=o2
     subst this
     obtain ⟨w',k1,k2,k3⟩:=iR hR (P:=C.P) (M':=M) (ms':=ms) (c':=M.clk) hS hg p2 ⟨p5,rfl⟩ p4
     obtain ⟨k2,k3⟩:=zW hg k2 k3
     refine ⟨w',?_,k2,k3⟩
     simp only [Builtin.delete_,List.getElem?_toArray,List.getElem?_cons_zero,List.getElem?_cons_succ,Sem.run_bind,aS w hu,Result.andThen_ok,MapKept.run_getObj_map p2,hchk,o1,k1,Sem.run_pure]
    ·
     cases h
   ·
    cases h
  ·
   cases h
 ·
  cases h
end
end Go.Ev

namespace Go.Ev
noncomputable section
set_option linter.unusedVariables false
set_option linter.unusedSimpArgs false
theorem DN {R:bT} (hR:ObjOk R) {cx cx':Cx} {S S':St} {w w':World} (h:bf R cx S w) {id k0:Nat} {x0:D} (hg:S.H.get id=some (.obj k0 x0)) (hmo:∀ k x,S'.H.get id=some (.obj k x)→xz x0 ≤ xz x) (hbk:∀ g,isIt S' id g→∃ g',isIt S id g') (hdi:∀ g,isIt S id g→¬ isIt S' id g)
  (hT:S'.T=S.T) (hnx:S'.nx=S.nx) (hH:∀ i,i ≠ id→S'.H.get i=S.H.get i) (hHid:S'.H.get id=none∨∃ k x,S'.H.get id=some (.obj k x)∧R.rel k x w' (cx'.bm id) (cx'.fp id))
  (hs:w.heap.size ≤ w'.heap.size) (h1:w'.os=w.os) (h2:w'.tape=w.tape) (h3:w'.output=w.output)
  (hoth:∀ b,b < w.heap.size→¬ cx.fp id b→w'.heap[b]? = w.heap[b]?)
  (hbm:∀ i,cx'.bm i=cx.bm i) (hfp:∀ i,i ≠ id→∀ b,(cx'.fp i b↔cx.fp i b)) (htsz:∀ i,cx'.iP i=cx.iP i) (htot:∀ i,cx'.tot i=cx.tot i)
  (hfpt:∀ b,cx'.fp id b→cx.fp id b∨(w.heap.size ≤ b∧b < w'.heap.size)) (hfpf:∀ b o,cx'.fp id b→cx'.fr b o)
  (hfr1:∀ b o,¬ cx.fr b o→b < w.heap.size→¬ cx'.fr b o) (hfr2:∀ b o,cx.fr b o→cx'.fr b o) (hfr3:∀ b o,cx'.fr b o→b < w'.heap.size) :
  bf R cx' S' w'∧Ext cx S w cx' S' w':=by
 obtain ⟨t1,t2⟩:=h.objs id k0 x0 hg
 have hlive:live S id:=by simp [live,cur,hg]
 have hcur:∀ i,i ≠ id→cur S' i=cur S i:=fun i hi=>by
  unfold cur; rw [hH i hi,hT]
 have hcurt:∀ g,cur S' id=some g→xz x0 ≤ g:=fun g hc=>by
  unfold cur at hc
  rcases hHid with q | ⟨k,x,q,_⟩
  ·
   rw [q,hT,h.pJ id _ hg] at hc; cases hc
  ·
   have:=hmo k x q
   rw [q] at hc
   simp only [Option.some.injEq] at hc
   omega
 have hl':∀ i,live S' i→live S i:=fun i hl=>by
  by_cases hi:i=id
  ·
   subst hi; exact hlive
  ·
   unfold live at *; rwa [hcur i hi] at hl
 have e:Ext cx S w cx' S' w':=by
  refine ⟨hs,h1,h2,h3,by rw [hnx]; exact Nat.le_refl _,fun b o v hf hcl=>⟨?_,hfr1 b o hf (oM hcl)⟩,fun b hb hn=>?_,fun i b hl hf=>?_,fun i gi _ hi=>?_,fun i gi b _ h0 h2 hf=>?_,fun i gg hi hgg=>?_⟩
  ·
   exact mX (hoth b (oM hcl) (fun q=>hf (t2 b o q))) hcl
  ·
   exact ⟨hoth b hb (fun q=>by obtain ⟨_,g,z1,z2⟩:=hn id hlive q; exact hdi g z1 z2),fun o=>⟨fun q=>Classical.byContradiction fun q'=>hfr1 b o q' hb q,hfr2 b o⟩⟩
  ·
   refine ⟨fun _=>⟨hl' i hl,?_⟩,fun hge=>absurd (h.wf i (hl' i hl)) (by show ¬ i < S.nx; omega)⟩
   by_cases hi:i=id
   ·
    subst hi
    rcases hfpt b hf with q | q
    ·
     exact .inl q
    ·
     exact .inr q.1
   ·
    exact .inl ((hfp i hi b).1 hf)
  ·
   by_cases q:i=id
   ·
    subst q; exact hbk gi hi
   ·
    exact ⟨gi,by unfold isIt at *; rwa [hH i q] at hi⟩
  ·
   have q:i ≠ id:=fun q=>by subst q; exact hdi gi h0 h2
   exact (hfp i q b).2 hf
  ·
   by_cases hi':i=id
   ·
    subst hi'
    have:=hcurt gg hgg
    exact ⟨xz x0,by simp [cur,hg],this,fun _=>⟨hbm i,htsz i,htot i⟩⟩
   ·
    rw [hcur i hi'] at hgg
    exact ⟨gg,hgg,Nat.le_refl _,fun _=>⟨hbm i,htsz i,htot i⟩⟩
 have hne:∀ i,live S i→i ≠ id→∀ b,cx.fp i b→¬ cx.fp id b:=fun i hi hne b hf hq=>hne (h.sep i id b hi hlive hf hq)
 refine ⟨⟨fun i hi=>by rw [hnx]; exact h.wf i (hl' i hi),fun i b hi=>?_,fun i gg cs2 hi=>?_,fun i es hi=>?_,fun i k x hi=>?_,fun i n hi=>?_,fun i i' b a1 a2 f1 f2=>?_,hfr3,hR.stat _ _ _ _ h.stat e.prot (h.still e)⟩,e⟩
 ·
  rw [hT]
  by_cases q:i=id
  ·
   subst q; exact h.pJ i _ hg
  ·
   rw [hH i q] at hi; exact h.pJ i b hi
 ·
  by_cases q:i=id
  ·
   subst q
   rcases hHid with z | ⟨k,x,z,_⟩
   ·
    rw [z] at hi; cases hi
   ·
    rw [z] at hi; cases hi
  ·
   rw [hH i q] at hi
   obtain ⟨d1,d2,arr2,el2,d3,d4,d5⟩:=h.cells i gg cs2 hi
   have hb:=hne i (by simp [live,cur,hi]) q _ ((d1 _).2 rfl)
   refine ⟨fun b=>by rw [hfp i q,hbm i]; exact d1 b,fun o=>by rw [hbm i]; exact hfr2 _ _ (d2 o),arr2,el2,?_,by rw [htsz i,htot i]; exact d4,fun j x hx=>by
    obtain ⟨v,v1,v2,v3⟩:=d5 j x hx
    exact ⟨v,v1,v2.mono e,v3⟩⟩
   rw [hbm i,hoth _ (h.lt _ 0 (d2 0)) hb]; exact d3
 ·
  by_cases q:i=id
  ·
   subst q
   rcases hHid with z | ⟨k,x,z,_⟩
   ·
    rw [z] at hi; cases hi
   ·
    rw [z] at hi; cases hi
  ·
   rw [hH i q] at hi
   obtain ⟨d1,d2,ms,clk,d3,d4,d5⟩:=h.maps i es hi
   have hb:=hne i (by simp [live,cur,hi]) q _ ((d1 _).2 rfl)
   refine ⟨fun b=>by rw [hfp i q,hbm i]; exact d1 b,fun o=>by rw [hbm i]; exact hfr2 _ _ (d2 o),ms,clk,?_,d4,fun j p m hp hm=>by
    obtain ⟨v1,v2⟩:=d5 j p m hp hm
    exact ⟨v1.mono e.prot,v2.mono e⟩⟩
   rw [hbm i,hoth _ (h.lt _ 0 (d2 0)) hb]; exact d3
 ·
  by_cases q:i=id
  ·
   subst q
   rcases hHid with z | ⟨k',x',z,hr⟩
   ·
    rw [z] at hi; cases hi
   ·
    rw [z] at hi; cases hi
    exact ⟨hr,hfpf⟩
  ·
   rw [hH i q] at hi
   obtain ⟨d1,d2⟩:=h.objs i k x hi
   have hf:cx'.fp i=cx.fp i:=funext fun b=>propext (hfp i q b)
   rw [hbm i,hf]
   have hb:=hne i (by simp [live,cur,hi]) q
   exact ⟨hR.frame k x w w' _ _ d1 (fun c hc=>hoth c ((hR.lt k x w _ _ d1).1 c hc) (hb c hc)),fun b o hbf=>hfr2 b o (d2 b o hbf)⟩
 ·
  rw [hT] at hi
  have q:i ≠ id:=fun q=>by subst q; have:=h.pJ i _ hg; rw [this] at hi; cases hi
  obtain ⟨hci,hHi⟩:=A9 h hi
  obtain ⟨d1,d2,arr2,el2,fz,d3,d4,d5,d6⟩:=h.toks i n hi
  have hb:=hne i (by simp [live,hci]) q _ ((d1 _).2 rfl)
  have hlt:cx.bm i < w.heap.size:=h.lt _ _ (d2 _ (Nat.le_refl _))
  refine ⟨fun b=>by rw [hfp i q,hbm i]; exact d1 b,fun o ho=>?_,arr2,el2,fz,?_,?_,?_,?_⟩
  ·
   rw [htsz i] at ho; rw [hbm i]; exact hfr2 _ _ (d2 o ho)
  ·
   rw [hbm i,hoth _ hlt hb]; exact d3
  ·
   rw [htsz i,htot i]; exact d4
  ·
   rw [htot i]; exact d5
  ·
   rw [htsz i]; exact d6
 ·
  by_cases q:i=id <;> by_cases q':i'=id
  ·
   omega
  ·
   exfalso
   subst q
   have f2':=(hfp i' q' b).1 f2
   rcases hfpt b f1 with z | z
   ·
    exact hne i' (hl' i' a2) q' b f2' z
   ·
    have:=h.uN hR (hl' i' a2) f2'; omega
  ·
   exfalso
   subst q'
   have f1':=(hfp i q b).1 f1
   rcases hfpt b f2 with z | z
   ·
    exact hne i (hl' i a1) q b f1' z
   ·
    have:=h.uN hR (hl' i a1) f1'; omega
  ·
   exact h.sep i i' b (hl' i a1) (hl' i' a2) ((hfp i q b).1 f1) ((hfp i' q' b).1 f2)
theorem uR {R:bT} (hR:ObjOk R) {cx:Cx} {S:St} {w:World} (hS:bf R cx S w) (m:Option Nat) (since st:Nat) (seen:Array Nat) :
  ∃ cx',bf R cx' (dh S (.obj 3 (.int .i64 0))) (w.alloc (.mapIter m since seen st))∧Ext cx S w cx' (dh S (.obj 3 (.int .i64 0))) (w.alloc (.mapIter m since seen st)) ∧
   Names (dh S (.obj 3 (.int .i64 0))) S.nx 0∧(w.heap.size=cx'.bm S.nx∧cx'.fp S.nx w.heap.size∧(∀ i,cur (dh S (.obj 3 (.int .i64 0))) i ≠ none→cx'.fp i w.heap.size→i=S.nx) ∧
    (w.alloc (.mapIter m since seen st)).heap[w.heap.size]? = some (.mapIter m since seen st)):=by
 obtain ⟨cx',k1,k2,k3⟩:=sD hR hS 3 (.int .i64 0) (.mapIter m since seen st) rfl ((hR.it _ _ _ _).2 ⟨by rw [size_alloc]; omega,fun c=>Iff.rfl⟩)
 have hget:(dh S (.obj 3 (.int .i64 0))).H.get S.nx=some (.obj 3 (.int .i64 0)):=by simp [dh,AL.aX]
 have hcur:cur (dh S (.obj 3 (.int .i64 0))) S.nx=some 0:=by unfold cur; rw [hget]; rfl
 cases k3 with
 | ptr _ _ _ _ hn hp =>
 have hb:=hp hcur
 have hf:cx'.fp S.nx w.heap.size:=((((hR.it _ _ _ _).1 (k1.objs _ _ _ hget).1).2) _).2 hb
 exact ⟨cx',k1,k2,hn,hb,hf,fun i hi hfi=>k1.sep i S.nx _ hi (by simp [live,hcur]) hfi hf,heap_alloc_new w _⟩
theorem Ao {R:bT} (hR:ObjOk R) {C:gq} {cx:Cx} {S:St} {w:World} (hS:bf R cx S w) {t id:Nat} {kt:Nat × Nat} {M:vk} {v:Value} (ht:qI C t=some kt) (hg:S.H.get id=some (.map M)) (hx:aM cx S w (.map id) v) :
  ∃ cx' w' u,(Instr.range t v).run C.P w=.ok u w'∧bf R cx' (dh S (.obj 3 (.int .i64 0))) w'∧Ext cx S w cx' (dh S (.obj 3 (.int .i64 0))) w'∧aM cx' (dh S (.obj 3 (.int .i64 0))) w' (.it S.nx 0 (some id) M.clk [] M.clk) u:=by
 have hu:=kP (k:=kt.1) (e:=kt.2) ht
 cases hx with
 | map _ b hn hp =>
 obtain ⟨p1,ms,p2,p3,p4,p5⟩:=qA hS hg (.map id b hn hp)
 subst p1
 obtain ⟨cx',k1,k2,k3,k4⟩:=uR hR hS (some (cx.bm id)) M.clk M.clk #[]
 refine ⟨cx',_,.pointer (some ⟨w.heap.size,0,none⟩),?_,k1,k2,?_⟩
 ·
  simp only [Instr.range,Sem.run_bind,aS w hu,Result.andThen_ok,MapKept.run_getObj_map p2,Sem.run_pure]
  rfl
 ·
  refine .it S.nx 0 id M.clk M.clk w.heap.size (cx.bm id) [] k3 (hn.mono k2) (fun hc=>?_) (fun _=>k4)
  exact (hn.pos k2 hc).2.1.symm
theorem vo {R:bT} (hR:ObjOk R) {C:gq} {cx:Cx} {S:St} {w:World} (hS:bf R cx S w) {t:Nat} {kt:Nat × Nat} {v:Value} (ht:qI C t=some kt) (hx:aM cx S w (.d .nilm) v) :
  ∃ cx' w' u,(Instr.range t v).run C.P w=.ok u w'∧bf R cx' (dh S (.obj 3 (.int .i64 0))) w'∧Ext cx S w cx' (dh S (.obj 3 (.int .i64 0))) w'∧aM cx' (dh S (.obj 3 (.int .i64 0))) w' (.it S.nx 0 none 0 [] 0) u:=by
 have hu:=kP (k:=kt.1) (e:=kt.2) ht
 have:=hx.dd.val rfl
 cases this
 obtain ⟨cx',k1,k2,k3,k4⟩:=uR hR hS none 0 0 #[]
 refine ⟨cx',_,.pointer (some ⟨w.heap.size,0,none⟩),?_,k1,k2,.it0 S.nx 0 0 0 w.heap.size [] k3 (fun _=>k4)⟩
 simp only [Instr.range,Sem.run_bind,aS w hu,Result.andThen_ok,Sem.run_pure]
 rfl
theorem zC {R:bT} {C:gq} {cx:Cx} {S:St} {w:World} (hS:bf R cx S w) {k g id since st n i:Nat} {seen:List Nat} {M:vk} {p:D × AV × Nat} {v:Value} (hx:aM cx S w (.it k g (some id) since seen st) v)
  (hg:S.H.get id=some (.map M)) (hl:seen.getLast? = some n) (hk:isIt S k g) (hc:M.clk=st) (hf:mi n M.es 0=some i) (hp:M.es[i]? = some p) :
  ∃ u,(Instr.entry v).run C.P w=.ok u w∧aM cx S w (.tup [.d p.1,p.2.1]) u:=by
 cases hx with
 | it _ _ _ _ _ b m _ hn hni hm hpos =>
 obtain ⟨_,_,_,hb⟩:=hpos hk
 have hm:=hm (by simp [cur,hg])
 subst hm
 obtain ⟨c1,c2,ms,clk,c3,⟨c4,c4',c4''⟩,c5⟩:=hS.maps id M hg
 subst c4'
 have hlt:i < ms.size:=by rw [c4]; exact (List.getElem?_eq_some_iff.1 hp).1
 have hmi:ms[i]? = some ms[i]:=Array.getElem?_eq_getElem hlt
 obtain ⟨r1,r2⟩:=c5 i p _ hp hmi
 obtain ⟨_,⟨q,f2,f3⟩,f4⟩:=nL hf
 rw [Nat.sub_zero] at f2
 have hqp:q=p:=by rw [hp] at f2; exact (Option.some.inj f2).symm
 subst hqp
 have hfind:ms.find? (fun e=>e.born == n)=some ms[i]:=by
  rw [Array.find?_eq_some_iff_getElem]
  refine ⟨by simp [c4'' i q _ hp hmi,f3],i,hlt,rfl,fun j hj=>?_⟩
  have hjl:j < M.es.length:=by rw [← c4]; omega
  have hq:=List.getElem?_eq_getElem hjl
  have hbj:=c4'' j M.es[j] ms[j] hq (Array.getElem?_eq_getElem (by omega))
  have hne:=f4 j M.es[j] (Nat.zero_le _) hj (by rw [Nat.sub_zero]; exact hq)
  simp [hbj,hne]
 have hgo:(getObj b).run C.P w=.ok (.mapIter (some (cx.bm id)) since seen.toArray st) w:=by simp [getObj,Sem.run,hb]
 have hback:seen.toArray.back? = some n:=by simpa using hl
 refine ⟨.tuple #[ms[i].key,ms[i].val],?_,?_⟩
 ·
  simp only [Instr.entry,Sem.run_bind,Sem.run_pure,Result.andThen_ok,hgo,hback,MapKept.run_getObj_map c3,hc]
  rw [if_neg (by simp)]
  simp only [hfind,Sem.run_pure]
 ·
  refine .tup _ [ms[i].key,ms[i].val] rfl (fun j x u hx hu=>?_)
  match j,hx,hu with
  | 0,hx,hu=>simp at hx hu; subst hx; subst hu; exact .d _ _ r1
  | 1,hx,hu=>simp at hx hu; subst hx; subst hu; exact r2
end
end Go.Ev

namespace Go.Ev
noncomputable section
set_option linter.unusedVariables false
set_option linter.unusedSimpArgs false
def lD (R:bT) (C:gq) (cx:Cx) (S:St) (w:World) (σ:Operand→Value) (o:Oper):Fy→Prop
 | .val v S'=>∃ cx' w' u,(execOp σ o).run C.P w=.ok (.value u) w'∧bf R cx' S' w'∧Ext cx S w cx' S' w'∧aM cx' S' w' v u
 | .skip S'=>∃ cx' w',(execOp σ o).run C.P w=.ok .skip w'∧bf R cx' S' w'∧Ext cx S w cx' S' w'
 | .call f args=>∃ us:List Value,us.length=args.length∧(∀ (i:Nat) (x:AV) (v:Value),args[i]? = some x→us[i]? = some v→aM cx S w x v) ∧
   ∀ fn,C.P.funcs[f]? = some fn→fn.body.isSome=true→fn.name ≠ "runtime.NumGoroutine" → (execOp σ o).run C.P w=.ok (.enter f us.toArray) w
 | .panic _=>False
theorem pq {P:Program} {w w':World} {s:Sem Value} {u:Value} (h:s.run P w=.ok u w'):(do pure (.value (← s)):Sem Next).run P w=.ok (.value u) w':=by
 rw [Sem.run_bind,h]; rfl
theorem I7 {P:Program} {w w':World} {s:Sem Unit} (h:s.run P w=.ok () w'):(do s; pure .skip:Sem Next).run P w=.ok .skip w':=by
 rw [Sem.run_bind,h]; rfl
section
variable {R:bT} {C:gq} {cx:Cx} {S:St} {w:World} {σ:Operand→Value} {o:Oper}
theorem lD.pure {v:AV} {u:Value} (hS:bf R cx S w) (h:(execOp σ o).run C.P w=.ok (.value u) w) (hv:aM cx S w v u):lD R C cx S w σ o (.val v S) :=
 ⟨cx,w,u,h,hS,Ext.refl w hS.wf,hv⟩
theorem DX {x:AV} {ys:List D} {u:Value} {sz:Nat} (hd:iH x=some ys) (hx:aM cx S w x u) (hs:sizes sz ys=true) :
  (Builtin.lenOf u).run C.P w=.ok ys.length w∧∃ fs,(∀ w',w'.heap=w.heap→(Builtin.firstCells sz ys.length u).run C.P w'=.ok fs.toArray w')∧Flat w cx.fr sz ys fs:=by
 obtain ⟨tight,hr⟩:=zg hd hx
 obtain ⟨a,cap,rfl,_⟩:=zD hr
 refine ⟨rfl,?_⟩
 obtain ⟨fs,f1,f2,_⟩:=jh (P:=C.P) hr hs
 refine ⟨fs,fun w' hw=>?_,f2⟩
 have hm:bH w' cx.fr (.sl ys tight) (.slice a ys.length cap):=hr.mono (fun b o v h1 h2=>⟨by simp only [World.cell?] at h2 ⊢; rw [hw]; exact h2,h1⟩)
 obtain ⟨gs,g1,g2,g3⟩:=jh (P:=C.P) hm hs
 rw [g1]
 congr 2
 cases a with
 | none =>
  have h0:ys=[]:=by
   obtain ⟨a',cap',hv,_,_,hm⟩:=zD hr
   simp only [Value.slice.injEq] at hv
   by_cases q:ys=[]
   ·
    exact q
   ·
    obtain ⟨b,off,sz',vs,e,_⟩:=hm q
    rw [← hv.1] at e; cases e
  subst h0
  have e1:fs=[]:=by have:=f2.len; simpa using this
  have e2:gs=[]:=by have:=g2.len; simpa using this
  rw [e1,e2]
 | some ad =>
  have hrun:(loadCells ad (ys.length * sz)).run C.P w=.ok fs.toArray w:=f1
  have hrun':(loadCells ad (ys.length * sz)).run C.P w'=.ok gs.toArray w':=g1
  by_cases q:ys=[]
  ·
   subst q
   have e1:fs=[]:=by have:=f2.len; simpa using this
   have e2:gs=[]:=by have:=g2.len; simpa using this
   rw [e1,e2]
  ·
   obtain ⟨a',cap',hv,_,_,hm⟩:=zD hr
   obtain ⟨b,off,sz',vs,e,_⟩:=hm q
   simp only [Value.slice.injEq] at hv
   rw [← hv.1] at e
   simp only [Option.some.injEq] at e; subst e
   obtain ⟨fs',f1',f2',f3'⟩:=jh (P:=C.P) hr hs
   rw [f1] at f1'
   simp only [Result.ok.injEq,and_true] at f1'
   have hff:fs=fs':=by simpa using f1'
   subst hff
   apply List.ext_getElem?
   intro i
   by_cases hi:i < gs.length
   ·
    have hg:=List.getElem?_eq_getElem hi
    have hi':i < fs.length:=by rw [f2.len,← g2.len]; exact hi
    have hf:=List.getElem?_eq_getElem hi'
    have c1:=g3 b off _ _ rfl i _ hg
    have c2:=f3' b off _ _ rfl i _ hf
    simp only [World.cell?] at c1 c2
    rw [hw] at c1
    rw [c2] at c1
    rw [hg,hf]; simpa using c1.symm
   ·
    rw [List.getElem?_eq_none (by omega),List.getElem?_eq_none (by rw [f2.len,← g2.len]; omega)]
theorem sj (hR:ObjOk R) (hS:bf R cx S w) {t t2 e ty:Nat} {x r:AV} {ys:List D} {S':St} {v u:Value} (h:iK C e S x ys=some (r,S')) (he:bL C.P t=some e) (h2:kD C t2=true) (hx:aM cx S w x v)
  (hu:(Builtin.lenOf u).run C.P w=.ok ys.length w) (hsrc:sizes (aK C.P e) ys=true→∃ fs,(∀ w',w'.heap=w.heap→(Builtin.firstCells (aK C.P e) ys.length u).run C.P w'=.ok fs.toArray w')∧Flat w cx.fr (aK C.P e) ys fs)
  (h0:ys=[]→∀ sz,(Builtin.firstCells sz 0 u).run C.P w=.ok #[] w) (hi:(C.P.info? e).isSome=true) :
  ∃ cx' w' z,(Builtin.append_ #[t,t2] ty #[v,u]).run C.P w=.ok z w'∧bf R cx' S' w'∧Ext cx S w cx' S' w'∧aM cx' S' w' r z:=by
 obtain ⟨ie,hi⟩:=Option.isSome_iff_exists.1 hi
 have nothing:∀ {xs:List D} {tight:Bool},bH w cx.fr (.sl xs tight) v→ys.length=0→(Builtin.append_ #[t,t2] ty #[v,u]).run C.P w=.ok v w:=by
  intro xs tight hd hy
  obtain ⟨a,cap,rfl,hcap,_⟩:=zD hd
  have hy':ys=[]:=List.eq_nil_of_length_eq_zero hy
  subst hy'
  have:=run_append_fits (w:=w) (ty:=ty) (sLen:=xs.length) (sCap:=cap) (n:=0) (base:=a) (u:=u) (cO he) hi h2 hu (by omega) (new:=#[]) (h0 rfl _)
  rw [this]
  cases a with
  | none=>rfl
  | some ad=>simp [storeCells]
 unfold iK at h
 split at h
 ·
  by_cases hy:ys.length=0
  ·
   rw [if_pos hy,if_pos (by simp [hi])] at h
   simp only [Option.some.injEq,Prod.mk.injEq] at h
   obtain ⟨rfl,rfl⟩:=h
   exact ⟨cx,w,v,nothing (wE hx.dd) hy,hS,Ext.refl w hS.wf,hx⟩
  ·
   rw [if_neg hy] at h
   split at h
   ·
    rename_i hc
    obtain ⟨c1,c2,c3,c4,c6⟩:=hc
    simp only [Option.some.injEq,Prod.mk.injEq] at h
    obtain ⟨rfl,rfl⟩:=h
    obtain ⟨fs,s1,s2⟩:=hsrc c4
    have:=xn hR hS (ty:=ty) (xs:=[]) he h2 (wE hx.dd) hu s1 s2 hy (by simpa using c1) c2 c3 rfl c6
    simpa using this
   ·
    cases h
 ·
  rename_i xs tight
  by_cases hy:ys.length=0
  ·
   rw [if_pos hy,if_pos (by simp [hi])] at h
   simp only [Option.some.injEq,Prod.mk.injEq] at h
   obtain ⟨rfl,rfl⟩:=h
   exact ⟨cx,w,v,nothing hx.dd hy,hS,Ext.refl w hS.wf,hx⟩
  ·
   rw [if_neg hy] at h
   split at h
   ·
    rename_i hc
    obtain ⟨c1,c2,c3,c4,c5,c6⟩:=hc
    split at h
    ·
     rename_i ht
     subst ht
     simp only [Option.some.injEq,Prod.mk.injEq] at h
     obtain ⟨rfl,rfl⟩:=h
     obtain ⟨fs,s1,s2⟩:=hsrc c4
     exact xn hR hS he h2 hx.dd hu s1 s2 hy c1 c2 c3 c5 c6
    ·
     cases h
   ·
    cases h
 ·
  rename_i xs tok
  by_cases hy:ys.length=0
  ·
   rw [if_pos hy,if_pos (by simp [hi])] at h
   simp only [Option.some.injEq,Prod.mk.injEq] at h
   obtain ⟨rfl,rfl⟩:=h
   refine ⟨cx,w,v,?_,hS,Ext.refl w hS.wf,hx⟩
   cases hx with
   | tsl _ _ b off cap hn hd hp=>exact nothing hd hy
  ·
   rw [if_neg hy] at h
   split at h
   ·
    rename_i hc
    obtain ⟨c1,c2,c3,c4,c5,c6⟩:=hc
    split at h
    ·
     rename_i en hT
     split at h
     ·
      rename_i hen
      obtain ⟨rfl,hpos⟩:=hen
      simp only [Option.some.injEq,Prod.mk.injEq] at h
      obtain ⟨rfl,rfl⟩:=h
      obtain ⟨fs,s1,s2⟩:=hsrc c4
      exact Ca hR hS he h2 hx (by intro q; subst q; simp at hpos) hT hu s1 s2 hy c1 c2 c3 c5 c6
     ·
      cases h
    ·
     cases h
   ·
    cases h
 ·
  cases h
theorem uG {A:Array Nat} {V:Array Value} {t t2 ty:Nat} {v u:Value} (h1:A[0]? = some t) (h2:A[1]? = some t2) (h3:V[0]? = some v) (h4:V[1]? = some u) :
  Builtin.append_ A ty V=Builtin.append_ #[t,t2] ty #[v,u]:=by
 unfold Builtin.append_
 simp only [h1,h2,h3,h4,List.getElem?_toArray,List.getElem?_cons_zero,List.getElem?_cons_succ]
theorem EZ {A:Array Nat} {V:Array Value} {t ty:Nat} {v:Value} (h1:A[0]? = some t) (h3:V[0]? = some v):Builtin.len_ A ty V=Builtin.len_ #[t] ty #[v]:=by
 unfold Builtin.len_
 simp only [h1,h3,List.getElem?_toArray,List.getElem?_cons_zero]
theorem Bg {A:Array Nat} {V:Array Value} {t ty:Nat} {v u:Value} (h1:A[0]? = some t) (h3:V[0]? = some v) (h4:V[1]? = some u):Builtin.delete_ A ty V=Builtin.delete_ #[t] ty #[v,u]:=by
 unfold Builtin.delete_
 simp only [h1,h3,h4,List.getElem?_toArray,List.getElem?_cons_zero,List.getElem?_cons_succ]
theorem DR {A:Array Nat} {V:Array Value} {t t2 ty:Nat} {v u:Value} (h1:A[0]? = some t) (h3:V[0]? = some v) (h4:V[1]? = some u):Builtin.copy_ A ty V=Builtin.copy_ #[t,t2] ty #[v,u]:=by
 unfold Builtin.copy_
 simp only [h1,h3,h4,List.getElem?_toArray,List.getElem?_cons_zero,List.getElem?_cons_succ]
theorem Ci {A:Array Nat} {V:Array Value} {t ty:Nat} {v:Value} (h1:A[0]? = some t) (h3:V[0]? = some v):Builtin.clear_ A ty V=Builtin.clear_ #[t] ty #[v]:=by
 unfold Builtin.clear_
 simp only [h1,h3,List.getElem?_toArray,List.getElem?_cons_zero]
theorem rQ {ρ:Operand→Option AV} (hρ:uE cx S w ρ σ) {arr_:Array Operand} {args:List AV} (h:iM ρ arr_.toList=some args) :
  (arr_.map σ).toList.length=args.length∧∀ (i:Nat) (x:AV) (v:Value),args[i]? = some x→(arr_.map σ).toList[i]? = some v→aM cx S w x v:=by
 obtain ⟨h1,h2⟩:=om h
 refine ⟨by simp [h1],fun i x v hx hv=>?_⟩
 simp only [Array.toList_map,List.getElem?_map,Option.map_eq_some_iff] at hv
 obtain ⟨q,hq,rfl⟩:=hv
 exact hρ _ _ (h2 i q x hq hx)
theorem qm {e:Nat} (h:iD C e=true):(C.P.info? e).isSome=true:=by
 obtain ⟨i,z,hi,_⟩:=nE h; simp [hi]
theorem Af {e:Nat} {x:AV} {ys:List D} {r:AV × St} (h:iK C e S x ys=some r):(C.P.info? e).isSome=true:=by
 unfold iK at h
 split at h
 ·
  split at h
  ·
   split at h
   ·
    assumption
   ·
    cases h
  ·
   split at h
   ·
    rename_i hc; exact qm hc.2.2.2.2
   ·
    cases h
 ·
  split at h
  ·
   split at h
   ·
    assumption
   ·
    cases h
  ·
   split at h
   ·
    rename_i hc; exact qm hc.2.2.2.2.2
   ·
    cases h
 ·
  split at h
  ·
   split at h
   ·
    assumption
   ·
    cases h
  ·
   split at h
   ·
    rename_i hc; exact qm hc.2.2.2.2.2
   ·
    cases h
 ·
  cases h
theorem qc (hR:ObjOk R) (hS:bf R cx S w) {A:Array Nat} {V:Array Value} {t t2 e ty:Nat} {x y r:AV} {ys:List D} {S':St} {v u:Value} (h:iK C e S x ys=some (r,S')) (he:bL C.P t=some e) (hei:(C.P.info? e).isSome=true) (h2:kD C t2=true)
  (hx:aM cx S w x v) (hy:aM cx S w y u) (hk:iH y=some ys∨∃ s,y=.d (.str s)∧ys=s.map fun c=>.int .u8 c.toNat)
  (a1:A[0]? = some t) (a2:A[1]? = some t2) (a3:V[0]? = some v) (a4:V[1]? = some u) :
  ∃ cx' w' z,(Builtin.append_ A ty V).run C.P w=.ok z w'∧bf R cx' S' w'∧Ext cx S w cx' S' w'∧aM cx' S' w' r z:=by
 rw [uG a1 a2 a3 a4]
 rcases hk with hk | ⟨s,rfl,rfl⟩
 ·
  have hlen:(Builtin.lenOf u).run C.P w=.ok ys.length w:=by
   obtain ⟨tight,hr⟩:=zg hk hy
   obtain ⟨a,cap,rfl,_⟩:=zD hr
   rfl
  refine sj hR hS h he h2 hx hlen (fun hs=>(DX hk hy hs).2) (fun h0 sz=>?_) hei
  subst h0
  obtain ⟨tight,hr⟩:=zg hk hy
  obtain ⟨a,cap,rfl,_⟩:=zD hr
  cases a <;> simp [Builtin.firstCells,loadCells,loadCellsFrom]
 ·
  obtain ⟨b,rfl,rfl⟩:=hy.str
  have hbl:b.data.toList.length=b.size:=Array.length_toList
  refine sj hR hS h he h2 hx ?_ (fun hs=>?_) (fun h0 sz=>?_) hei
  ·
   simp only [Builtin.lenOf,List.length_map,Sem.run_pure]; rw [hbl]
  ·
   obtain ⟨fs,f1,f2⟩:=ym (P:=C.P) (w:=w) (fr:=cx.fr) b
   by_cases hne:b.data.toList=[]
   ·
    refine ⟨[],fun w' _=>?_,by simp [hne],by simp,by simp [hne],by simp [hne]⟩
    simp only [hne,List.map_nil,List.length_nil,Builtin.firstCells,Sem.run_pure]
    congr 1
    apply Array.ext'
    simp [ByteArray.data_extract]
   ·
    have hsz:aK C.P e=1:=by
     cases hb:b.data.toList with
     | nil=>exact absurd hb hne
     | cons c l=>rw [hb] at hs; simp only [List.map_cons,sizes,Bool.and_eq_true] at hs; have:=Nat.eq_of_beq_eq_true hs.1; simpa [D.cells] using this.symm
    rw [hsz]
    refine ⟨fs,fun w' _=>?_,f2⟩
    have:(Builtin.firstCells 1 b.size (.string b)).run C.P w'=.ok fs.toArray w':=by
     simp only [Builtin.firstCells,Sem.run_pure,Result.ok.injEq,and_true] at f1 ⊢
     exact f1
    simp only [List.length_map,hbl]
    exact this
  ·
   simp only [Builtin.firstCells,Sem.run_pure]
   congr 1
   apply Array.ext'
   simp [ByteArray.data_extract]
theorem ru {ρ:Operand→Option AV} (hρ:uE cx S w ρ σ) {x:Option Operand} {y:Option D} (h:DW ρ x=some y):ky cx w y (x.map σ):=by
 unfold DW at h
 split at h
 ·
  simp only [Option.some.injEq] at h; subst h; trivial
 ·
  rename_i o'
  split at h
  ·
   rename_i z hz
   simp only [Option.some.injEq] at h; subst h
   exact (hρ _ _ hz).dd
  ·
   cases h
theorem xC (hR:ObjOk R) (hS:bf R cx S w) {b:Builtin} {A:Array Nat} {args:List AV} {us:List Value} {ty:Nat} {cs:Array Bool} {nx:Fy} (h:jR C b A S args=some nx)
  (hl:us.length=args.length) (hr:∀ (i:Nat) (x:AV) (v:Value),args[i]? = some x→us[i]? = some v→aM cx S w x v) :
  ∃ v S' cx' w' u,nx=.val v S'∧(Go.builtin b A ty cs us.toArray).run C.P w=.ok (.value u) w'∧bf R cx' S' w'∧Ext cx S w cx' S' w'∧aM cx' S' w' v u:=by
 have hrefl:=Ext.refl (cx:=cx) w hS.wf
 unfold jR at h
 split at h
 ·
  rename_i x
  split at h
  ·
   rename_i t ht
   split at h
   ·
    rename_i hlt
    simp only [Option.map_eq_some_iff] at h
    obtain ⟨n,hn,rfl⟩:=h
    match us,hl with
    | [u],_ =>
     have:=Eb hS (ty:=ty) hlt hn (hr 0 x u rfl rfl)
     refine ⟨_,_,cx,w,.int .i64 n,rfl,?_,hS,hrefl,.of_int _ _⟩
     simp only [Go.builtin]
     rw [EZ (v:=u) ht rfl]
     exact pq this
   ·
    cases h
  ·
   cases h
 ·
  rename_i x y
  split at h
  ·
   rename_i t ht
   cases ht2:A[1]? with
   | none=>simp [ht2] at h
   | some t2 =>
    simp only [ht2] at h
    by_cases hsrc:kD C t2=true
    ·
     rw [if_pos hsrc] at h
     match us,hl with
     | [u1,u2],_ =>
      have key:∀ {e:Nat} {ys:List D} {r:AV × St},bL C.P t=some e→iK C e S x ys=some r→(iH y=some ys∨∃ s,y=.d (.str s)∧ys=s.map fun c=>.int .u8 c.toNat)→nx=.val r.1 r.2 →
        ∃ v S' cx' w' u,nx=.val v S'∧(Go.builtin .append A ty cs [u1,u2].toArray).run C.P w=.ok (.value u) w'∧bf R cx' S' w'∧Ext cx S w cx' S' w'∧aM cx' S' w' v u:=by
       intro e ys r he hop hk hnx
       by_cases hei:(C.P.info? e).isSome=true
       ·
        obtain ⟨cx',w',z,k1,k2,k3,k4⟩:=qc (ty:=ty) (A:=A) (V:=[u1,u2].toArray) hR hS (r:=r.1) (S':=r.2) hop he hei hsrc (hr 0 x u1 rfl rfl) (hr 1 y u2 rfl rfl) hk ht ht2 rfl rfl
        exact ⟨r.1,r.2,cx',w',z,hnx,pq k1,k2,k3,k4⟩
       ·
        exfalso
        exact hei (Af hop)
      have e1:Builtin.append_ A ty [u1,u2].toArray=Builtin.append_ #[t,t2] ty #[u1,u2]:=uG ht ht2 rfl rfl
      have fin:∀ {r:AV × St},nx=.val r.1 r.2→(∃ cx' w' z,(Builtin.append_ #[t,t2] ty #[u1,u2]).run C.P w=.ok z w'∧bf R cx' r.2 w'∧Ext cx S w cx' r.2 w'∧aM cx' r.2 w' r.1 z) →
        ∃ v S' cx' w' u,nx=.val v S'∧(Go.builtin .append A ty cs [u1,u2].toArray).run C.P w=.ok (.value u) w'∧bf R cx' S' w'∧Ext cx S w cx' S' w'∧aM cx' S' w' v u:=by
       intro r hnx ⟨cx',w',z,k1,k2,k3,k4⟩
       rw [← e1] at k1
       exact ⟨r.1,r.2,cx',w',z,hnx,pq k1,k2,k3,k4⟩
      split at h
      ·
       rename_i e he
       split at h
       ·
        rename_i id g off len lim sz
        simp only [Option.map_eq_some_iff] at h
        obtain ⟨r,hop,rfl⟩:=h
        exact fin rfl (u6 hR hS hop he hsrc (hr 0 _ u1 rfl rfl) (hr 1 y u2 rfl rfl))
       ·
        cases hrow:C.rowT t with
        | true =>
         simp only [hrow,cond_true] at h
         split at h
         ·
          simp only [Option.map_eq_some_iff] at h
          obtain ⟨r,hop,rfl⟩:=h
          have hn:=Aw (hr 0 _ u1 rfl rfl).dd
          subst hn
          exact fin rfl (nD hR hS (xs:=[]) (cap:=0) hop he hsrc (fun sz _=>⟨[],fun w' _=>by simp [Builtin.firstCells],⟨by simp,by simp,by simp,by simp⟩⟩) rfl (hr 0 _ _ rfl rfl) (hr 1 y u2 rfl rfl))
         ·
          rename_i xs
          simp only [Option.map_eq_some_iff] at h
          obtain ⟨r,hop,rfl⟩:=h
          have hd:=(hr 0 _ u1 rfl rfl).dd
          obtain ⟨a,cap,rfl,_,hcap,_⟩:=zD hd
          exact fin rfl (nD hR hS hop he hsrc (fun sz hs=>vN hd hs) (hcap rfl) (hr 0 _ _ rfl rfl) (hr 1 y u2 rfl rfl))
         ·
          cases h
        | false =>
         simp only [hrow,cond_false] at h
         split at h
         ·
          rename_i ys hd
          simp only [Option.map_eq_some_iff] at h
          obtain ⟨r,hop,rfl⟩:=h
          exact key he hop (.inl hd) rfl
         ·
          rename_i hd
          split at h
          ·
           simp only [Option.map_eq_some_iff] at h
           obtain ⟨r,hop,rfl⟩:=h
           exact key he hop (.inr ⟨_,rfl,rfl⟩) rfl
          ·
           cases h
      ·
       cases h
    ·
     rw [if_neg hsrc] at h; cases h
  ·
   cases h
 ·
  rename_i x y
  split at h
  ·
   rename_i t ht
   split at h
   ·
    rename_i e he
    match us,hl with
    | [u1,u2],_ =>
     obtain ⟨n,S',cx',w',rfl,k1,k2,k3⟩:=Cr (t2:=0) (ty:=ty) hR hS h he (hr 0 x u1 rfl rfl) (hr 1 y u2 rfl rfl)
     refine ⟨_,S',cx',w',.int .i64 n,rfl,?_,k2,k3,.of_int _ _⟩
     simp only [Go.builtin]
     rw [DR (t2:=0) (v:=u1) (u:=u2) ht rfl rfl]
     exact pq k1
   ·
    cases h
  ·
   cases h
 ·
  rename_i x
  split at h
  ·
   rename_i t ht
   split at h
   ·
    rename_i e he
    match us,hl with
    | [u],_ =>
     obtain ⟨S',cx',w',rfl,k1,k2,k3⟩:=Bn (ty:=ty) hR hS h he (hr 0 x u rfl rfl)
     refine ⟨_,S',cx',w',.tuple #[],rfl,?_,k2,k3,.tup [] [] rfl (by simp)⟩
     simp only [Go.builtin]
     rw [Ci (v:=u) ht rfl]
     exact pq k1
   ·
    cases h
  ·
   cases h
 ·
  rename_i m k
  split at h
  ·
   rename_i t ht
   simp only [Option.map_eq_some_iff] at h
   obtain ⟨S',hd,rfl⟩:=h
   match us,hl with
   | [u1,u2],_ =>
    obtain ⟨w',k1,k2,k3⟩:=zB (ty:=ty) hR hS hd (hr 0 m u1 rfl rfl) (hr 1 _ u2 rfl rfl).dd
    refine ⟨_,S',cx,w',.tuple #[],rfl,?_,k2,k3,.tup [] [] rfl (by simp)⟩
    simp only [Go.builtin]
    rw [Bg (v:=u1) (u:=u2) ht rfl rfl]
    exact pq k1
  ·
   cases h
 ·
  simp only [Option.map_eq_some_iff] at h
  obtain ⟨r,hm,rfl⟩:=h
  obtain ⟨v,rest,k,z,e1,e2,e3⟩:=rU (P:=C.P) (cx:=cx) (S:=S) (w:=w) (g:=Builtin.min2) (fun k a b=>by simp [Builtin.min2]) _ args r us rfl hm hl hr
  subst e1; subst e2
  refine ⟨_,_,cx,w,.int k z,rfl,?_,hS,hrefl,.of_int _ _⟩
  exact pq (by simpa [Builtin.min_] using e3)
 ·
  simp only [Option.map_eq_some_iff] at h
  obtain ⟨r,hm,rfl⟩:=h
  obtain ⟨v,rest,k,z,e1,e2,e3⟩:=rU (P:=C.P) (cx:=cx) (S:=S) (w:=w) (g:=Builtin.max2) (fun k a b=>by simp [Builtin.max2]) _ args r us rfl hm hl hr
  subst e1; subst e2
  refine ⟨_,_,cx,w,.int k z,rfl,?_,hS,hrefl,.of_int _ _⟩
  exact pq (by simpa [Builtin.max_] using e3)
 ·
  cases h
end
end
end Go.Ev

namespace Go.Ev
noncomputable section
set_option linter.unusedVariables false
set_option linter.unusedSimpArgs false
section
variable {R:bT} {C:gq} {cx:Cx} {S:St} {w:World} {σ:Operand→Value}
theorem fO (hRC:mE R C) (hS:bf R cx S w) {ρ:Operand→Option AV} (hρ:uE cx S w ρ σ) (o:Oper) {nx:Fy} (h:oper C ρ S o.op=some nx):lD R C cx S w σ o nx:=by
 have hR:=hRC.toObjOk
 obtain ⟨dst,op,type,pos,after,guard⟩:=o
 simp only at h
 cases op <;> simp only [oper] at h <;> try (cases h; done)
 case move x =>
  simp only [Option.map_eq_some_iff] at h
  obtain ⟨v,hv,rfl⟩:=h
  exact lD.pure hS rfl (hρ _ _ hv)
 case assign x =>
  simp only [Option.map_eq_some_iff] at h
  obtain ⟨v,hv,rfl⟩:=h
  exact lD.pure hS rfl (hρ _ _ hv)
 case pick c a b =>
  split at h
  ·
   rename_i t hc
   simp only [Option.map_eq_some_iff] at h
   obtain ⟨v,hv,rfl⟩:=h
   have hb:=(hρ _ _ hc).bool
   refine lD.pure (u:=σ (if t then a else b)) hS ?_ (hρ _ _ hv)
   simp only [execOp,hb,asBool,Sem.run_bind,Sem.run_pure,Result.andThen_ok]
   cases t <;> rfl
  ·
   cases h
 case alloc t =>
  cases hhas:S.H.has S.nx with
  | true=>simp [hhas] at h
  | false =>
  simp only [hhas,cond_false] at h
  split at h
  ·
   rename_i kk xx hobj
   simp only [Option.some.injEq] at h
   subst h
   obtain ⟨zv,r1,r2,r3⟩:=hRC.new t kk xx hobj
   obtain ⟨cx',k1,k2,k3⟩:=sD hR hS kk xx (.cells zv.cells t) r3 (r2 w)
   refine ⟨cx',_,_,?_,k1,k2,k3⟩
   refine pq ?_
   simp only [Instr.alloc,Sem.run_bind,r1,Result.andThen_ok,newVar,newRow,run_newObj,Sem.run_pure]
   rfl
  simp only [Option.map_eq_some_iff] at h
  obtain ⟨z,hz,rfl⟩:=h
  obtain ⟨zv,r1,r2⟩:=jN hz w cx.fr
  have hp:=jE (cx:=cx) (S:=S) (.d z zv r2) rfl
  obtain ⟨cx',k1,k2,k3⟩:=yu hR hS (AV.d z).cells zv.cells.toList t hp.1 (fun i x v hx hv=>⟨hp.2.2 i x v hx hv,hp.2.1 v (List.mem_of_getElem? hv)⟩)
  refine ⟨cx',_,_,?_,k1,k2,k3⟩
  refine pq ?_
  simp only [Instr.alloc,Sem.run_bind,r1,Result.andThen_ok,newVar,newRow,run_newObj,Sem.run_pure]
  rfl
 case box t x =>
  split at h
  ·
   rename_i v hv
   split at h
   ·
    rename_i hpl
    cases hhas:S.H.has S.nx with
    | true=>simp [hhas] at h
    | false =>
    simp only [hhas,cond_false,Option.some.injEq] at h
    subst h
    have hp:=jE (hρ _ _ hv) hpl
    obtain ⟨cx',k1,k2,k3⟩:=yu hR hS v.cells (σ x).cells.toList t hp.1 (fun i x v hx hv=>⟨hp.2.2 i x v hx hv,hp.2.1 v (List.mem_of_getElem? hv)⟩)
    refine ⟨cx',_,_,?_,k1,k2,k3⟩
    refine pq ?_
    simp only [Instr.box,Sem.run_bind,Result.andThen_ok,newVar,newRow,run_newObj,Sem.run_pure]
    rfl
   ·
    cases h
  ·
   cases h
 case build t parts =>
  split at h
  ·
   rename_i z ps hz hps
   split at h
   ·
    rename_i pl hpl
    simp only [Option.map_eq_some_iff] at h
    obtain ⟨cs,hcs,rfl⟩:=h
    obtain ⟨u,b1,b2⟩:=BF hρ hz hps hpl hcs
    exact lD.pure hS (pq b1) b2
   ·
    cases h
  ·
   cases h
 case buildSlice t len parts =>
  cases hrw:CR C t len with
  | true =>
  rw [hrw] at h
  simp only [cond_true] at h
  split at h
  ·
   rename_i ps hps
   obtain ⟨v,S',rfl,cx',u,w',b1,b2,b3,b4⟩:=vT hR hS hρ hps h
   exact ⟨cx',w',u,pq b1,b2,b3,b4⟩
  ·
   cases h
  | false =>
  rw [hrw] at h
  simp only [cond_false] at h
  split at h
  ·
   rename_i e ps he hps
   split at h
   ·
    rename_i hsm
    split at h
    ·
     rename_i z hz
     split at h
     ·
      rename_i cs hcs
      split at h
      ·
       rename_i ag hag
       simp only [Option.map_eq_some_iff] at h
       obtain ⟨xs,hxs,rfl⟩:=h
       obtain ⟨u,w',b1,b2,b3,b4⟩:=tJ hR hS hρ he hps hsm hz hcs hag hxs
       exact ⟨cx,w',u,pq b1,b2,b3,b4⟩
      ·
       cases h
     ·
      cases h
    ·
     cases h
   ·
    cases h
  ·
   cases h
 case load t a =>
  split at h
  ·
   rename_i v hv
   simp only [Option.map_eq_some_iff] at h
   obtain ⟨r,hr,rfl⟩:=h
   obtain ⟨u,b1,b2⟩:=vV (C:=C) hS hr (hρ _ _ hv)
   exact lD.pure hS (pq b1) b2
  ·
   cases h
 case store t a x =>
  split at h
  ·
   rename_i p v hp hv
   simp only [Option.map_eq_some_iff] at h
   obtain ⟨S',hst,rfl⟩:=h
   obtain ⟨w',b1,b2,b3⟩:=BC hR hS hst (hρ _ _ hp) (hρ _ _ hv)
   exact ⟨cx,w',I7 b1,b2,b3⟩
  ·
   cases h
 case nilCheck x =>
  split at h
  ·
   rename_i i g o' hx
   simp only [Option.some.injEq] at h; subst h
   have:=hρ _ _ hx
   refine lD.pure (u:=σ x) hS ?_ this
   generalize hq:σ x=v at this
   cases this
   simp [execOp,hq]
  ·
   rename_i y o' hx
   simp only [Option.some.injEq] at h; subst h
   have:=hρ _ _ hx
   refine lD.pure (u:=σ x) hS ?_ this
   generalize hq:σ x=v at this
   cases this
   simp [execOp,hq]
  ·
   rename_i g cs hx
   simp only [Option.some.injEq] at h; subst h
   have:=hρ _ _ hx
   refine lD.pure (u:=σ x) hS ?_ this
   generalize hq:σ x=v at this
   cases this
   simp [execOp,hq]
  ·
   cases h
 case binOp op t x y yt =>
  split at h
  ·
   rename_i a b ha hb
   simp only [Option.map_eq_some_iff] at h
   obtain ⟨r,hr,rfl⟩:=h
   obtain ⟨u,b1,b2⟩:=CB hr (hρ _ _ ha) (hρ _ _ hb) x y
   exact lD.pure hS (pq b1) b2
  ·
   cases h
 case unOp op t x =>
  split at h
  ·
   rename_i b hx
   simp only [Option.some.injEq] at h; subst h
   have:=(hρ _ _ hx).bool
   refine lD.pure (u:=.bool (!b)) hS ?_ (.of_bool _)
   simp [execOp,this,Op.unary]
  ·
   rename_i k n hx
   simp only [Option.some.injEq] at h; subst h
   have:=(hρ _ _ hx).int
   refine lD.pure (u:=.int k (k.wrap (0 - n))) hS ?_ (.of_int _ _)
   simp [execOp,this,Op.unary,Op.intArith]
  ·
   cases h
 case convert src dst' x =>
  split at h
  ·
   rename_i v hv
   simp only [Option.map_eq_some_iff] at h
   obtain ⟨r,hr,rfl⟩:=h
   obtain ⟨u,b1,b2⟩:=BR hr (hρ _ _ hv)
   exact lD.pure hS (pq b1) b2
  ·
   cases h
 case makeFunc fn first caps =>
  split at h
  ·
   rename_i g hf
   simp only [Option.map_eq_some_iff] at h
   obtain ⟨cs,hcs,rfl⟩:=h
   obtain ⟨h1,h2⟩:=rQ hρ hcs
   have hf0:first = #[]:=Array.toList_eq_nil_iff.1 hf
   subst hf0
   refine lD.pure (u:=.func (.func g) #[] (caps.map σ)) hS (by simp [execOp,Instr.makeFunc]) ?_
   exact aM.fn (cx:=cx) (S:=S) (w:=w) g cs (caps.map σ).toList h1 h2
  ·
   cases h
 case slice t x lo hi mx =>
  split at h
  ·
   rename_i v hv
   split at h
   ·
    rename_i l hh m hl hhi hm
    simp only [Option.map_eq_some_iff] at h
    obtain ⟨r,hr,rfl⟩:=h
    obtain ⟨u,b1,b2⟩:=Ab hr (hρ _ _ hv) (ru hρ hl) (ru hρ hhi) (ru hρ hm)
    exact lD.pure hS (pq b1) b2
   ·
    cases h
  ·
   cases h
 case fieldAddr s x fld =>
  split at h
  ·
   rename_i id g off fo ft hx hf
   split at h
   ·
    cases h
   ·
    rename_i hz
    simp only [Option.some.injEq] at h; subst h
    obtain ⟨u,b1,b2⟩:=(o9 (C:=C) hf hz (hρ _ _ hx)).1 _ _ _ rfl
    exact lD.pure hS (pq b1) b2
  ·
   rename_i y off fo ft hx hf
   split at h
   ·
    cases h
   ·
    rename_i hz
    simp only [Option.some.injEq] at h; subst h
    obtain ⟨u,b1,b2⟩:=(o9 (C:=C) hf hz (hρ _ _ hx)).2 _ _ rfl
    exact lD.pure hS (pq b1) b2
  ·
   cases h
 case field t x fld =>
  split at h
  ·
   rename_i cs fo ft hx hf
   simp only [Option.map_eq_some_iff] at h
   obtain ⟨r,hr,rfl⟩:=h
   obtain ⟨u,b1,b2⟩:=(uH (C:=C) (r:=.d r) hf).2 cs r (hρ _ _ hx) hr
   exact lD.pure hS (pq b1) b2
  ·
   rename_i cs fo ft hx hf
   simp only [Option.map_eq_some_iff] at h
   obtain ⟨r,hr,rfl⟩:=h
   obtain ⟨u,b1,b2⟩:=(uH (C:=C) (r:=r) hf).1 cs (hρ _ _ hx) hr
   exact lD.pure hS (pq b1) b2
  ·
   cases h
 case indexAddr t x i =>
  split at h
  ·
   rename_i v n hv hn
   simp only [Option.map_eq_some_iff] at h
   obtain ⟨r,hr,rfl⟩:=h
   obtain ⟨u,b1,b2⟩:=vw hr (hρ _ _ hv) (hρ _ _ hn)
   exact lD.pure hS (pq b1) b2
  ·
   cases h
 case index t x i =>
  split at h
  ·
   rename_i s k n hx hi
   split at h
   ·
    rename_i hc
    simp only [Bool.and_eq_true,decide_eq_true_eq] at hc
    simp only [Option.map_eq_some_iff] at h
    obtain ⟨c,hcc,rfl⟩:=h
    have hi':=(hρ _ _ hi).int
    have:=zY (P:=C.P) (k:=k) (hρ _ _ hx) hc.1 hc.2 hcc
    refine lD.pure hS (pq ?_) (.of_int _ _)
    rw [hi']; exact this
   ·
    cases h
  ·
   cases h
 case makeMap t r =>
  split at h
  ·
   rename_i kt hkt hr
   cases hhas:S.H.has S.nx with
   | true=>simp [hhas] at h
   | false =>
   simp only [hhas,cond_false,Option.some.injEq] at h; subst h
   obtain ⟨cx',k1,k2,k3⟩:=zK hR hS
   refine ⟨cx',_,_,pq (u:=.map (some w.heap.size)) (w':=w.alloc (.map #[] 0)) ?_,k1,k2,k3⟩
   have hu:=kP hkt
   cases r with
   | none=>rfl
   | some o' =>
    simp only at hr
    split at hr
    ·
     rename_i k n hq
     have hi:=(hρ _ _ hq).int
     simp only [Option.map_some,Instr.makeMap,Sem.run_bind,aS w hu,Result.andThen_ok,hi,asInt,asIntOf,Sem.run_pure]
     rfl
    ·
     cases hr
  ·
   cases h
 case makeSlice t l c =>
  split at h
  ·
   rename_i lv cv hl hc
   simp only [Option.map_eq_some_iff] at h
   obtain ⟨r,hr,rfl⟩:=h
   obtain ⟨cx',w',u,b1,b2,b3,b4⟩:=BZ hR hS hr (hρ _ _ hl).dd (hρ _ _ hc).dd
   exact ⟨cx',w',u,pq b1,b2,b3,b4⟩
  ·
   cases h
 case range t x =>
  split at h
  ·
   rename_i kt id ht hx
   split at h
   ·
    rename_i M hg
    cases hhas:S.H.has S.nx with
    | true=>simp [hhas] at h
    | false =>
    simp only [hhas,cond_false,Option.some.injEq] at h; subst h
    obtain ⟨cx',w',u,b1,b2,b3,b4⟩:=Ao hR hS ht hg (hρ _ _ hx)
    exact ⟨cx',w',u,pq b1,b2,b3,b4⟩
   ·
    cases h
  ·
   rename_i kt ht hx
   cases hhas:S.H.has S.nx with
   | true=>simp [hhas] at h
   | false =>
   simp only [hhas,cond_false,Option.some.injEq] at h; subst h
   obtain ⟨cx',w',u,b1,b2,b3,b4⟩:=vo hR hS ht (hρ _ _ hx)
   exact ⟨cx',w',u,pq b1,b2,b3,b4⟩
  ·
   cases h
 case entry t =>
  split at h
  ·
   rename_i k g id since seen st hx
   split at h
   ·
    rename_i M n c hg hl hk
    split at h
    ·
     rename_i hc
     split at h
     ·
      rename_i i hf
      simp only [Option.map_eq_some_iff] at h
      obtain ⟨p,hp,rfl⟩:=h
      obtain ⟨hc1,hc2⟩:=hc
      subst hc2
      obtain ⟨u,b1,b2⟩:=zC (C:=C) hS (hρ _ _ hx) hg hl hk hc1 hf hp
      exact lD.pure hS (pq b1) b2
     ·
      cases h
    ·
     cases h
   ·
    cases h
  ·
   cases h
 case lookup t m k ok =>
  split at h
  ·
   rename_i mv kd hm hk
   simp only [Option.map_eq_some_iff] at h
   obtain ⟨v,hv,rfl⟩:=h
   obtain ⟨u,b1,b2⟩:=zA hS hv (hρ _ _ hm) (hρ _ _ hk).dd
   exact lD.pure hS (pq b1) b2
  ·
   cases h
 case mapUpdate t m k x =>
  split at h
  ·
   rename_i mv kd v hm hk hx
   simp only [Option.map_eq_some_iff] at h
   obtain ⟨S',hv,rfl⟩:=h
   obtain ⟨w',b1,b2,b3⟩:=rT hR hS hv (hρ _ _ hm) (hρ _ _ hk).dd (hρ _ _ hx)
   exact ⟨cx,w',I7 b1,b2,b3⟩
  ·
   cases h
 case insert t m k x =>
  split at h
  ·
   rename_i mv kd v hm hk hx
   simp only [Option.map_eq_some_iff] at h
   obtain ⟨S',hv,rfl⟩:=h
   obtain ⟨w',b1,b2,b3⟩:=rT hR hS hv (hρ _ _ hm) (hρ _ _ hk).dd (hρ _ _ hx)
   exact ⟨cx,w',I7 b1,b2,b3⟩
  ·
   cases h
 case mapEntry t m k =>
  split at h
  ·
   rename_i mv kd hm hk
   simp only [Option.map_eq_some_iff] at h
   obtain ⟨r,hv,rfl⟩:=h
   obtain ⟨w',u,b1,b2,b3,b4⟩:=AP hR hS hv (hρ _ _ hm) (hρ _ _ hk).dd
   exact ⟨cx,w',u,pq b1,b2,b3,b4⟩
  ·
   cases h
 case entryStore t m st x =>
  split at h
  ·
   rename_i mv sd v hm hk hx
   simp only [Option.map_eq_some_iff] at h
   obtain ⟨S',hv,rfl⟩:=h
   obtain ⟨w',b1,b2,b3⟩:=uo hR (C:=C) (t:=t) hS hv (hρ _ _ hm) (hρ _ _ hk).dd (hρ _ _ hx)
   exact ⟨cx,w',I7 b1,b2,b3⟩
  ·
   cases h
 case extract t i =>
  split at h
  ·
   rename_i vs ht
   simp only [Option.map_eq_some_iff] at h
   obtain ⟨v,hv,rfl⟩:=h
   have hr:=hρ _ _ ht
   generalize hq:σ t=u at hr
   cases hr with
   | tup _ us hl hr =>
    have hlt:i < us.length:=by rw [hl]; exact (List.getElem?_eq_some_iff.1 hv).1
    have hu:=List.getElem?_eq_getElem hlt
    refine lD.pure hS (pq (u:=us[i]) ?_) (hr i v _ hv hu)
    simp [Instr.extract,hq,hlt]
  ·
   cases h
 case call c =>
  obtain ⟨callee,cargs,argTypes⟩:=c
  simp only at h
  cases callee <;> simp only at h <;> try (cases h; done)
  case value g =>
   split at h
   ·
    rename_i k caps args hg ha
    simp only [Option.some.injEq] at h; subst h
    obtain ⟨h1,h2⟩:=rQ hρ ha
    have hgr:=hρ _ _ hg
    generalize hq:σ g=gv at hgr
    cases hgr with
    | fn _ _ cv hl hr =>
     refine ⟨(cargs.map σ).toList ++ cv,by rw [List.length_append,List.length_append,h1,hl],fun i x v hx hv=>?_,fun fn hf hb hn=>?_⟩
     ·
      rw [List.getElem?_append] at hx hv
      by_cases hi:i < args.length
      ·
       rw [if_pos hi] at hx; rw [if_pos (by rw [h1]; exact hi)] at hv; exact h2 i x v hx hv
      ·
       rw [if_neg hi] at hx; rw [if_neg (by rw [h1]; exact hi),h1] at hv; exact hr _ x v hx hv
     ·
      have hb':fn.body.isNone=false:=by cases hq:fn.body <;> simp_all
      have hn':(fn.name == "runtime.NumGoroutine")=false:=by simpa using hn
      simp only [execOp,resolve,hq,Deferred.ofValue,Sem.run_bind,Sem.run_pure,Result.andThen_ok,invoke,callFunc,run_program,hf,hn',hb',Bool.false_eq_true,if_false]
      congr 2
      apply Array.ext'
      simp
   ·
    cases h
  case builtin b =>
   split at h
   ·
    rename_i args ha
    obtain ⟨h1,h2⟩:=rQ hρ ha
    obtain ⟨v,S',cx',w',u,rfl,b1,b2,b3,b4⟩:=xC (R:=R) (C:=C) (ty:=type) (cs:=cargs.map fun | .const _=>true | _=>false) hR hS h h1 h2
    refine ⟨cx',w',u,?_,b2,b3,b4⟩
    simp only [execOp,resolve,Sem.run_bind,Sem.run_pure,Result.andThen_ok,invoke]
    have hq:(cargs.map σ).toList.toArray=cargs.map σ:=rfl
    rw [hq] at b1
    exact b1
   ·
    cases h
end
end
end Go.Ev

namespace Go.Ev
noncomputable section
set_option linter.unusedVariables false
set_option linter.unusedSimpArgs false
structure gD (cx:Cx) (S:St) (w:World) (nt:Nat) (e:Env) (a:Act):Prop where
 size:nt ≤ a.tmps.size
 rel:∀ t x,AL.get e t=some x→∃ v,a.tmps[t]? = some v∧aM cx S w x v
theorem gD.mono {cx cx':Cx} {S S':St} {w w':World} {nt:Nat} {e:Env} {a:Act} (h:gD cx S w nt e a) (x:Ext cx S w cx' S' w'):gD cx' S' w' nt e a :=
 ⟨h.size,fun t y hy=>let ⟨v,h1,h2⟩:=h.rel t y hy; ⟨v,h1,h2.mono x⟩⟩
theorem gD.put {cx:Cx} {S:St} {w:World} {nt:Nat} {e e':Env} {a:Act} {dst:Option Nat} {x:AV} {v:Value} (h:gD cx S w nt e a) (hp:Env.put nt e dst x=some e') (hx:aM cx S w x v):gD cx S w nt e' (a.put dst v):=by
 unfold Env.put at hp
 split at hp
 ·
  rename_i t
  cases hb:Nat.blt t nt with
  | false=>rw [hb] at hp; cases hp
  | true =>
   rw [hb] at hp
   simp at hp; subst hp
   have hlt:t < nt:=Nat.le_of_ble_eq_true hb
   refine ⟨by simp [Act.put,h.size],fun u y hy=>?_⟩
   rw [AL.gm] at hy
   by_cases hu:t=u
   ·
    subst hu
    rw [if_pos rfl] at hy
    cases hy
    refine ⟨v,?_,hx⟩
    have:=h.size
    simp [Act.put,show t < a.tmps.size by omega]
   ·
    rw [if_neg hu] at hy
    obtain ⟨z,h1,h2⟩:=h.rel u y hy
    exact ⟨z,by simpa [Act.put,Array.getElem?_setIfInBounds_ne hu] using h1,h2⟩
 ·
  simp at hp; subst hp; exact h
theorem gD.eval {cx:Cx} {S:St} {w:World} {nt:Nat} {e:Env} {a:Act} (h:gD cx S w nt e a):uE cx S w (dX e) a.eval:=by
 intro x y hy
 cases x <;> simp only [dX] at hy
 case tmp t =>
  obtain ⟨v,h1,h2⟩:=h.rel t y hy
  simpa [Act.eval,h1] using h2
 case const v =>
  simp only [Option.map_eq_some_iff] at hy
  obtain ⟨z,hz,rfl⟩:=hy
  exact .d _ _ (nP hz w cx.fr)
 case global g=>cases hy
 case func f =>
  simp at hy; subst hy
  exact aM.fn (cx:=cx) (S:=S) (w:=w) f [] [] rfl (by simp)
theorem eH {cx:Cx} {S:St} {w:World} {nt:Nat} {e:Env} {a:Act} {ops:Array Oper} {o:Oper} {b:Bool} (h:gD cx S w nt e a) (hw:dn ops e o=some b):Region.wanted o (yielded ops a.tmps)=b:=by
 unfold dn at hw
 unfold Region.wanted
 split at hw
 ·
  rename_i hg; simp at hw; subst hw; simp [hg]
 ·
  rename_i j want hg
  split at hw
  ·
   rename_i oj hj
   split at hw
   ·
    rename_i t ht
    split at hw
    ·
     rename_i c hc
     simp at hw; subst hw
     obtain ⟨v,h1,h2⟩:=h.rel t _ hc
     have:=h2.bool; subst this
     simp only [hg,yielded,hj,Option.bind_some,ht,h1]
     cases c <;> cases want <;> rfl
    ·
     rename_i hc
     simp at hw; subst hw
     obtain ⟨v,h1,h2⟩:=h.rel t _ hc
     cases h2 with
     | tup _ vs hl _ =>
      have:vs=[]:=List.eq_nil_of_length_eq_zero hl
      subst this
      simp only [hg,yielded,hj,Option.bind_some,ht,h1]
      cases want <;> rfl
    ·
     cases hw
   ·
    cases hw
  ·
   cases hw
def Di (cx:Cx) (S:St) (w:World) (p:Option AV) (v:AV) (e:Ending):Prop :=
 match p with
 | none=>∃ u,e=.returned u∧aM cx S w v u
 | some pv=>∃ u,e=.panicked [{ v:=u,recovered:=false }]∧aM cx S w pv u
def After (R:bT) (cx:Cx) (S:St) (w:World) (nt:Nat) (a:Act) (K:Act→World→Prop) (Q:Exit→Act→World→Prop):Stp→Prop
 | .go e' S'=>∀ cx' a' w',bf R cx' S' w'→Ext cx S w cx' S' w'→gD cx' S' w' nt e' a'→a'.defers=a.defers→K a' w'
 | .stop v S'=>∀ cx' w' u,bf R cx' S' w'→Ext cx S w cx' S' w'→aM cx' S' w' v u→Q (.panic [{ v:=u,recovered:=false }]) a w'
theorem put_defers (a:Act) (d:Option Nat) (v:Value):(a.put d v).defers=a.defers:=by cases d <;> rfl
end
end Go.Ev

namespace Go.Ev
noncomputable section
set_option linter.unusedVariables false
set_option linter.unusedSimpArgs false
end
end Go.Ev

namespace Go.Ev
noncomputable section
set_option linter.unusedVariables false
set_option linter.unusedSimpArgs false
section
variable {C:gq} {h:Hand} {nt:Nat} {ops:Array Oper} {I:List Nat} {K:Nat→Nat}
end
def qK (ops:Array Oper):Bool :=
 let B:=Region.before ops
 (List.range ops.size).all fun i=>match ops[i]? with
  | none=>false
  | some o=>Nat.blt (B.getD i 0) (2 ^ i) && (o.after.all fun e=>!Region.binds .any e || Nat.blt e.on i) &&
   (List.range i).all fun k=>match ops[k]? with
    | none=>false
    | some x=>if (B.getD i 0).testBit k then (o.after.any fun e=>Region.binds .any e && (Nat.beq e.on k || (B.getD e.on 0).testBit k)) else x.apart ops o
theorem mo {ops:Array Oper} (hr:qK ops=true) {i:Nat} {o:Oper} (hi:ops[i]? = some o) :
  (∀ e ∈ o.after,Region.binds .any e=true→e.on < i) ∧
  (∀ k x,k < i→ops[k]? = some x→if ((Region.before ops).getD i 0).testBit k=true then ∃ e ∈ o.after,Region.binds .any e=true∧(e.on=k∨((Region.before ops).getD e.on 0).testBit k=true) else x.apart ops o=true)∧∀ k,i ≤ k→((Region.before ops).getD i 0).testBit k=false:=by
 have hlt:i < ops.size:=(Array.getElem?_eq_some_iff.1 hi).1
 simp only [qK,List.all_eq_true,List.mem_range] at hr
 have h1:=hr i hlt
 rw [hi] at h1
 simp only [Bool.and_eq_true] at h1
 obtain ⟨⟨h0,h1⟩,h2⟩:=h1
 refine ⟨fun e he hb=>?_,fun k x hk hx=>?_,fun k hk=>Nat.testBit_lt_two_pow (Nat.lt_of_lt_of_le (Nat.le_of_ble_eq_true h0) (Nat.pow_le_pow_right (by omega) hk))⟩
 ·
  have:=Array.all_eq_true_iff_forall_mem.1 h1 e he
  simp only [hb,Bool.not_true,Bool.false_or] at this
  exact Nat.le_of_ble_eq_true this
 ·
  rw [List.all_eq_true] at h2
  have:=h2 k (List.mem_range.2 hk)
  rw [hx] at this
  simp only at this
  split at this
  ·
   rename_i hb
   rw [if_pos hb]
   obtain ⟨e,he,hq⟩:=Array.any_eq_true'.1 this
   simp only [Bool.and_eq_true,Bool.or_eq_true] at hq
   exact ⟨e,he,hq.1,hq.2.imp (fun q=>Nat.eq_of_beq_eq_true q) id⟩
  ·
   rename_i hb
   rw [if_neg hb]; exact this
def Closed (ops:Array Oper) (listed:Array Bool):Prop:=∀ j,listed.getD j false=true→∀ k,k < j→((Region.before ops).getD j 0).testBit k=true→listed.getD k false=true
end
end Go.Ev

namespace Go.Ev
noncomputable section
set_option linter.unusedVariables false
set_option linter.unusedSimpArgs false
theorem run_next_at {P:Program} {w:World} (ty b bm since c0:Nat) (seen:Array Nat) (es:Array MapEntry) (clock:Nat) (hb:w.heap[b]? = some (.mapIter (some bm) since seen c0)) (hm:w.heap[bm]? = some (.map es clock))
  (hold:∀ x ∈ es.toList,x.born < since) (hsc:since ≤ c0) :
  ((∀ e ∈ es.toList,seen.contains e.born=true)∧(Instr.next (.pointer (some ⟨b,0,none⟩)) false ty).run P w=.ok (.tuple #[.bool false]) w) ∨
  ∃ e ∈ es.toList,seen.contains e.born=false∧∃ w1:World,w1.heap=w.heap∧w1.os=w.os∧w1.output=w.output∧w1.tape=w.tape ∧
   (Instr.next (.pointer (some ⟨b,0,none⟩)) false ty).run P w=.ok (.tuple #[.bool true,e.key,e.val]) { w1 with heap:=w1.heap.setIfInBounds b (.mapIter (some bm) since (seen.push e.born) clock) }:=by
 simp only [Instr.next,getObj,Sem.run_bind,Sem.run,hb,hm,Result.andThen,next_test_false seen es since c0 hold hsc,Bool.false_eq_true,if_false]
 have hmem:∀ x ∈ (Array.filter (fun e=>!seen.contains e.born) es).toList,x ∈ es.toList∧seen.contains x.born=false:=fun x hx=>by
  simp at hx ⊢
  exact hx
 have hemp:Array.filter (fun e=>!seen.contains e.born) es = #[]→∀ e ∈ es.toList,seen.contains e.born=true:=fun h e he=>by
  rw [Array.filter_eq_empty_iff] at h
  have:=h e (by simpa using he)
  simpa using this
 generalize Array.filter (fun e=>!seen.contains e.born) es=L at hmem hemp ⊢
 have e1:L.filter (fun x=>decide (x.born < since))=L:=Array.filter_eq_self.2 (fun x hx=>by simpa using hold x (hmem x (by simpa using hx)).1)
 have e2:L.filter (fun x=>decide (x.born ≥ since)) = #[]:=by
  rw [Array.filter_eq_empty_iff]
  intro x hx
  have:=hold x (hmem x (by simpa using hx)).1
  simp
  omega
 simp only [e1,e2,Array.append_empty]
 by_cases h0:L.size=0
 ·
  left
  have:L = #[]:=Array.eq_empty_of_size_eq_zero h0
  subst this
  refine ⟨hemp rfl,?_⟩
  simp [choose,Sem.run,Question.forced]
 ·
  right
  have hne:L.isEmpty=false:=by simp [Array.isEmpty,h0]
  simp only [hne,Bool.false_eq_true,if_false,Array.empty_append,Array.size_map]
  have hch:∃ (j:Nat) (w1:World),j < L.size∧(w1.heap=w.heap∧w1.os=w.os∧w1.output=w.output∧w1.tape=w.tape)∧(choose (Question.mapNext L.size)).run P w=.ok j w1:=by
   by_cases hf:L.size ≤ 1
   ·
    exact ⟨0,w,by omega,⟨rfl,rfl,rfl,rfl⟩,by simp [choose,Sem.run,Question.forced,hf]⟩
   ·
    exact ⟨_,w.drew,Nat.mod_lt _ (by omega),⟨rfl,rfl,rfl,rfl⟩,by
     simp only [choose,Sem.run,Question.forced,decide_eq_true_eq,hf,if_false,Question.cut]
     rfl⟩
  obtain ⟨j,w1,hj,hal,hrun⟩:=hch
  have hLj:L[j] ∈ L.toList:=by simp
  refine ⟨L[j],(hmem _ hLj).1,(hmem _ hLj).2,w1,hal.1,hal.2.1,hal.2.2.1,hal.2.2.2,?_⟩
  have hlt:b < w1.heap.size:=by rw [hal.1]; exact (Array.getElem?_eq_some_iff.1 hb).1
  have hb1:w1.heap[b]? = some (.mapIter (some bm) since seen c0):=by rw [hal.1]; exact hb
  have hset:∀ (o':Obj),(setObj b o').run P w1=.ok () { w1 with heap:=w1.heap.setIfInBounds b o' }:=fun o'=>by
   simp only [setObj,Sem.run,hb1]
   try rfl
  simp only [hrun,Array.getElem?_map,Array.getElem?_eq_getElem hj,Option.map_some,Sem.run_bind,hset,Result.andThen]
  rfl
theorem zn {P:Program} {w:World} (ty b:Nat) (hb:w.heap[b]? = some (.mapIter none 0 #[] 0)) :
  (Instr.next (.pointer (some ⟨b,0,none⟩)) false ty).run P w=.ok (.tuple #[.bool false]) w:=by
 simp only [Instr.next,getObj,Sem.run_bind,Sem.run,hb,Result.andThen]
 rfl
theorem AZ {α β:Type} {f:α→Option β}:∀ {l:List α} {rs:List β},iM f l=some rs→∀ x ∈ l,∃ r,f x=some r∧r ∈ rs
 | [],_,_,x,hx=>by cases hx
 | y :: l,rs,h,x,hx=>by
  simp only [iM] at h
  split at h
  ·
   rename_i z hz
   simp only [Option.map_eq_some_iff] at h
   obtain ⟨zs,hzs,rfl⟩:=h
   rcases List.mem_cons.1 hx with rfl | hx
   ·
    exact ⟨z,hz,by simp⟩
   ·
    obtain ⟨r,h1,h2⟩:=AZ hzs x hx
    exact ⟨r,h1,List.mem_cons_of_mem _ h2⟩
  ·
   cases h
theorem BP {R:bT} {C:gq} (hR:mE R C) {cx:Cx} {S:St} {w:World} {nt:Nat} {e:Env} {a:Act} {ops:Array Oper} {o:Oper} {t:Nat} {rs:List Stp} (hop:o.op=.next (.tmp t) false)
  (hs:FI nt o t e S=some rs) (hS:bf R cx S w) (he:gD cx S w nt e a) {K:Act→World→Prop} {Q:Exit→Act→World→Prop} (hk:∀ r ∈ rs,After R cx S w nt a K Q r) {i:Nat} (hi:ops[i]? = some o) :
  wpOp C.P ops Q i K a w:=by
 unfold FI at hs
 have hrefl:=Ext.refl (cx:=cx) w hS.wf
 have enter:o.guard=none→(∃ v w',(Instr.next (a.eval (.tmp t)) false o.type).run C.P w=.ok v w'∧K (a.put o.dst v) w')→wpOp C.P ops Q i K a w:=by
  intro hg ⟨v,w',h1,h2⟩
  unfold wpOp
  rw [hi]
  simp only
  rw [if_pos (by unfold Region.wanted; rw [hg])]
  left
  unfold Oper.wp
  have hq:(execOp a.eval o).run C.P w=.ok (.value v) w':=by
   obtain ⟨dst,op,ty,pos,after,guard⟩:=o
   simp only at hop
   subst hop
   exact pq h1
  rw [hq]
  exact h2
 split at hs
 ·
  rename_i k g since seen st hg ht
  split at hs
  ·
   rename_i c hc
   split at hs
   ·
    rename_i hcg
    subst hcg
    simp only [Option.map_eq_some_iff] at hs
    obtain ⟨e',hp,rfl⟩:=hs
    obtain ⟨u,h1,h2⟩:=he.rel t _ ht
    have hev:a.eval (.tmp t)=u:=by simp [Act.eval,h1]
    cases h2 with
    | it0 _ _ _ _ b _ hn hpos =>
    obtain ⟨_,_,_,hb⟩:=hpos hc
    refine enter hg ⟨.tuple #[.bool false],w,?_,?_⟩
    ·
     rw [hev]; exact zn _ b hb
    ·
     refine hk (.go e' S) (by simp) cx _ w hS hrefl (he.put hp ?_) (put_defers _ _ _)
     refine .tup [.d (.bool false)] [.bool false] rfl (fun j x u hx hu=>?_)
     match j,hx,hu with
     | 0,hx,hu=>simp at hx hu; subst hx; subst hu; exact .of_bool _
   ·
    cases hs
  ·
   cases hs
 ·
  rename_i k g id since seen st hg ht
  split at hs
  ·
   rename_i M c hM hc
   split at hs
   ·
    rename_i hcond
    obtain ⟨hcg,hold,hsc,hnt⟩:=hcond
    subst hcg
    obtain ⟨u,h1,h2⟩:=he.rel t _ ht
    have hev:a.eval (.tmp t)=u:=by simp [Act.eval,h1]
    have hidk:id ≠ k:=fun q=>by subst q; rw [hM] at hc; cases hc
    cases h2 with
    | it _ _ _ _ _ b m _ hn hni hm hpos =>
    have hkg:isIt S k g:=hc
    obtain ⟨hbk,hfk,honly,hb⟩:=hpos hkg
    have hm:=hm (by simp [cur,hM])
    obtain ⟨c1,c2,ms,clk,c3,⟨c4,c4',c4''⟩,c5⟩:=hS.maps id M hM
    rw [← hm] at c3
    have hborn:∀ x ∈ ms.toList,∃ (j:Nat) (p:D × AV × Nat),M.es[j]? = some p∧ms[j]? = some x∧x.born=p.2.2:=fun x hx=>by
     obtain ⟨j,hj,rfl⟩:=List.getElem_of_mem hx
     have hj':j < ms.size:=by simpa using hj
     have hjm:j < M.es.length:=by rw [← c4]; exact hj'
     have hp:=List.getElem?_eq_getElem hjm
     refine ⟨j,M.es[j],hp,by simp [hj'],?_⟩
     exact c4'' j _ _ hp (by simp [hj'])
    have holdm:∀ x ∈ ms.toList,x.born < since:=fun x hx=>by
     obtain ⟨j,p,p1,p2,p3⟩:=hborn x hx
     rw [p3]
     exact Nat.le_of_ble_eq_true (List.all_eq_true.1 hold p (List.mem_of_getElem? p1))
    rcases run_next_at (P:=C.P) o.type b m since st seen.toArray ms clk hb c3 holdm hsc with ⟨r1,r2⟩ | ⟨x,r1,r2,w1,r3,r4,r5,r6,r7⟩
    ·
     have hnil:M.es.filter (fun p=>!(seen.contains p.2.2))=[]:=by
      rw [List.filter_eq_nil_iff]
      intro p hp
      obtain ⟨j,hj,rfl⟩:=List.getElem_of_mem hp
      have hjm:j < ms.size:=by rw [c4]; exact hj
      have hb2:=c4'' j _ _ (List.getElem?_eq_getElem hj) (Array.getElem?_eq_getElem hjm)
      have:=r1 ms[j] (by simp)
      rw [hb2] at this
      simpa using this
     rw [hnil] at hs
     simp only [Option.map_eq_some_iff] at hs
     obtain ⟨e',hp,rfl⟩:=hs
     refine enter hg ⟨.tuple #[.bool false],w,by rw [hev]; exact r2,?_⟩
     refine hk (.go e' S) (by simp) cx _ w hS hrefl (he.put hp ?_) (put_defers _ _ _)
     refine .tup [.d (.bool false)] [.bool false] rfl (fun j x u hx hu=>?_)
     match j,hx,hu with
     | 0,hx,hu=>simp at hx hu; subst hx; subst hu; exact .of_bool _
    ·
     obtain ⟨j,p,p1,p2,p3⟩:=hborn x r1
     have hpm:p ∈ M.es.filter (fun p=>!(seen.contains p.2.2)):=by
      rw [List.mem_filter]
      refine ⟨List.mem_of_getElem? p1,?_⟩
      rw [p3] at r2
      simpa using r2
     have hs':iM (fun p:D × AV × Nat=>(Env.put nt ((t,.it k (g + 1) (some id) since (seen ++ [p.2.2]) M.clk) :: e) o.dst (.tup [.d (.bool true),.d p.1,p.2.1])).map fun e' =>
      Stp.go e' { S with H:=S.H.set k (.obj 3 (.int .i64 ((g + 1:Nat):Int))) }) (M.es.filter (fun p=>!(seen.contains p.2.2)))=some rs:=by
      split at hs
      ·
       rename_i hnil; rw [hnil] at hpm; cases hpm
      ·
       exact hs
     obtain ⟨rr,q1,q2⟩:=AZ hs' p hpm
     simp only [Option.map_eq_some_iff] at q1
     obtain ⟨e',hp,rfl⟩:=q1
     generalize hS':({ S with H:=S.H.set k (.obj 3 (.int .i64 ((g + 1:Nat):Int))) }:St)=S' at hp q2
     generalize hw':({ w1 with heap:=w1.heap.setIfInBounds b (.mapIter (some m) since (seen.toArray.push x.born) clk) }:World)=w' at r7
     have hget:S'.H.get k=some (.obj 3 (.int .i64 ((g + 1:Nat):Int))):=by rw [← hS']; simp [AL.aX]
     have hheap:w'.heap=w.heap.setIfInBounds b (.mapIter (some m) since (seen.toArray.push x.born) clk):=by rw [← hw',← r3]
     have hblt:b < w.heap.size:=Gj hb
     have hsz:w'.heap.size=w.heap.size:=by rw [hheap]; simp
     have hfpk:∀ c,cx.fp k c↔c=b:=by
      have:=((hR.toObjOk.it _ _ _ _).1 (hS.objs k 3 _ hc).1).2
      intro c; rw [this c,hbk]
     have hcurk:cur S' k=some (g + 1):=by simp [cur,hget,xz]
     have hnx:S'.nx=S.nx:=by rw [← hS']
     have hT:S'.T=S.T:=by rw [← hS']
     obtain ⟨k1,k2⟩:=DN hR.toObjOk (cx':=cx) (S':=S') (w':=w') hS hc
      (fun kk xx hx=>by rw [hget] at hx; simp only [Option.some.injEq,tZ.obj.injEq] at hx; obtain ⟨_,rfl⟩:=hx; simp only [xz]; omega)
      (fun g' _=>⟨g,hkg⟩)
      (fun g' h0 h2=>by
       unfold isIt at h0 h2
       rw [hc] at h0
       rw [hget] at h2
       simp only [Option.some.injEq,tZ.obj.injEq,true_and,D.int.injEq] at h0 h2
       omega)
      hT hnx (fun ii hne=>by rw [← hS']; simp only [AL.aX]; rw [if_neg (Ne.symm hne)])
      (.inr ⟨3,_,hget,(hR.toObjOk.it _ _ _ _).2 ⟨by rw [hsz,← hbk]; exact hblt,fun c=>by rw [hfpk c,hbk]⟩⟩)
      (by omega) (by rw [← hw']; exact r4) (by rw [← hw']; exact r6) (by rw [← hw']; exact r5)
      (fun c hc1 hc2=>by
       rw [hheap,Array.getElem?_setIfInBounds_ne (fun q=>hc2 ((hfpk c).2 q.symm))])
      (fun _=>rfl) (fun _ _ _=>Iff.rfl) (fun _=>rfl) (fun _=>rfl) (fun c hc1=>.inl hc1)
      (fun c oo hc1=>(hS.objs k 3 _ hc).2 c oo hc1) (fun _ _ q _=>q) (fun _ _ q=>q) (fun c oo q=>by rw [hsz]; exact hS.lt c oo q)
     have hw2:w'.heap[b]? = some (.mapIter (some m) since (seen ++ [p.2.2]).toArray M.clk):=by
      rw [hheap,Array.getElem?_setIfInBounds_self,if_pos hblt,c4',p3]
      simp
     have hlive:∀ ii,cur S' ii ≠ none→cur S ii ≠ none:=fun ii hii=>by
      by_cases q:ii=k
      ·
       subst q; rw [mU hkg]; simp
      ·
       unfold cur at hii ⊢
       have:S'.H.get ii=S.H.get ii:=by rw [← hS']; simp only [AL.aX]; rw [if_neg (Ne.symm q)]
       rw [this,hT] at hii
       exact hii
     refine enter hg ⟨.tuple #[.bool true,x.key,x.val],w',by rw [hev]; exact r7,?_⟩
     refine hk (.go e' S') q2 cx _ w' k1 k2 (gD.put (e:=(t,.it k (g + 1) (some id) since (seen ++ [p.2.2]) M.clk) :: e) ?_ hp ?_) (put_defers _ _ _)
     ·
      refine ⟨he.size,fun t' x' hx'=>?_⟩
      rw [AL.gm] at hx'
      by_cases q:t=t'
      ·
       subst q
       rw [if_pos rfl] at hx'
       cases hx'
       refine ⟨_,h1,.it k (g + 1) id since M.clk b m _ ⟨by rw [hnx]; exact hn.1,fun g' hg'=>by rw [hcurk] at hg'; cases hg'; exact Nat.le_refl _⟩ (hni.mono k2) (fun hcur=>?_) (fun _=>⟨hbk,hfk,fun ii hii hf=>honly ii (hlive ii hii) hf,hw2⟩)⟩
       exact hm
      ·
       rw [if_neg q] at hx'
       obtain ⟨v,v1,v2⟩:=he.rel t' x' hx'
       exact ⟨v,v1,v2.mono k2⟩
     ·
      obtain ⟨d1,d2⟩:=c5 j p x p1 p2
      refine .tup [.d (.bool true),.d p.1,p.2.1] [.bool true,x.key,x.val] rfl (fun j' x' u' hx' hu'=>?_)
      match j',hx',hu' with
      | 0,hx',hu'=>simp at hx' hu'; subst hx'; subst hu'; exact .of_bool _
      | 1,hx',hu'=>simp at hx' hu'; subst hx'; subst hu'; exact .d _ _ (d1.mono k2.prot)
      | 2,hx',hu'=>simp at hx' hu'; subst hx'; subst hu'; exact d2.mono k2
   ·
    cases hs
  ·
   cases hs
 ·
  cases hs
end
end Go.Ev

namespace Go.Ev
noncomputable section
set_option linter.unusedVariables false
set_option linter.unusedSimpArgs false
theorem o5 {n:Nat}:∀ {l:List AV},belows n l=true→∀ y ∈ l,y.under n=true
 | [],_,y,hy=>by cases hy
 | x :: l,h,y,hy=>by
  simp only [belows,Bool.and_eq_true] at h
  rcases List.mem_cons.1 hy with rfl | hy
  ·
   exact h.1
  ·
   exact o5 h.2 y hy
theorem AL.wT {α:Type}:∀ {l:AL α} {k:Nat},AL.has l k=true→∃ v,AL.get l k=some v
 | [],k,h=>by cases h
 | (a,x) :: l,k,h=>by
  simp only [AL.has] at h
  rw [AL.gm]
  by_cases hk:a=k
  ·
   exact ⟨x,by rw [if_pos hk]⟩
  ·
   have:Nat.beq a k=false:=by
    cases hb:Nat.beq a k
    ·
     rfl
    ·
     exact absurd (Nat.eq_of_beq_eq_true hb) hk
   rw [this] at h
   obtain ⟨v,hv⟩:=AL.wT h
   exact ⟨v,by rw [if_neg hk]; exact hv⟩
section
variable {R:bT} {cx cx0:Cx} {S S' S0:St} {w w0:World} {n0:Nat} {l:AL Nat}
end
end
end Go.Ev

namespace Go.Ev
noncomputable section
set_option linter.unusedVariables false
set_option linter.unusedSimpArgs false
end
end Go.Ev

namespace Go.Ev
noncomputable section
set_option linter.unusedVariables false
set_option linter.unusedSimpArgs false
theorem DF (n j:Nat):(Array.replicate n false).getD j false=false:=by
 unfold Array.getD; split <;> simp
def Fin (R:bT) (cx:Cx) (S:St) (w:World) (nt:Nat) (a:Act) (Q:Exit→Act→World→Prop) (r:Kl × Env × St):Prop :=
 match r.1 with
 | .normal=>∀ cx' a' w',bf R cx' r.2.2 w'→Ext cx S w cx' r.2.2 w'→gD cx' r.2.2 w' nt r.2.1 a'→a'.defers=a.defers→Q .normal a' w'
 | .exit id=>∀ cx' a' w',bf R cx' r.2.2 w'→Ext cx S w cx' r.2.2 w'→gD cx' r.2.2 w' nt r.2.1 a'→a'.defers=a.defers→Q (.exit id) a' w'
 | .ret=>∀ cx' a' w',bf R cx' r.2.2 w'→Ext cx S w cx' r.2.2 w'→gD cx' r.2.2 w' nt r.2.1 a'→a'.defers=a.defers→Q .ret a' w'
 | .panic v=>∀ cx' a' w' u,bf R cx' r.2.2 w'→Ext cx S w cx' r.2.2 w'→aM cx' r.2.2 w' v u→a'.defers=a.defers→Q (.panic [{ v:=u,recovered:=false }]) a' w'
theorem Fin.trans {R:bT} {cx cx1:Cx} {S S1:St} {w w1:World} {nt:Nat} {a a1:Act} {Q:Exit→Act→World→Prop} {r:Kl × Env × St} (x:Ext cx S w cx1 S1 w1) (d:a1.defers=a.defers) (h:Fin R cx S w nt a Q r):Fin R cx1 S1 w1 nt a1 Q r:=by
 unfold Fin at *
 split at h
 ·
  exact fun cx' a' w' q1 q2 q3 q4=>h cx' a' w' q1 (x.trans q2) q3 (q4.trans d)
 ·
  exact fun cx' a' w' q1 q2 q3 q4=>h cx' a' w' q1 (x.trans q2) q3 (q4.trans d)
 ·
  exact fun cx' a' w' q1 q2 q3 q4=>h cx' a' w' q1 (x.trans q2) q3 (q4.trans d)
 ·
  exact fun cx' a' w' u q1 q2 q3 q4=>h cx' a' w' u q1 (x.trans q2) q3 (q4.trans d)
def codeOk:Code→Bool
 | .region _ ops draw=>!draw || qK ops
 | .seq a b=>codeOk a && codeOk b
 | .cond _ a b=>codeOk a && codeOk b
 | .block _ a=>codeOk a
 | .loop a=>codeOk a
 | _=>true
end
end Go.Ev

namespace Go.Ev
noncomputable section
set_option linter.unusedVariables false
set_option linter.unusedSimpArgs false
theorem rM:∀ (l:List AV) (k t:Nat),AL.get (mR k l) t=if k ≤ t then l[t - k]? else none
 | [],k,t=>by simp [mR,AL.get]
 | v :: l,k,t=>by
  simp only [mR]
  rw [AL.gm,rM l (k + 1) t]
  by_cases h:k=t
  ·
   subst h; simp
  ·
   by_cases h2:k ≤ t
   ·
    rw [if_neg h,if_pos (by omega),if_pos h2,show t - k=(t - (k + 1)) + 1 by omega]; simp
   ·
    rw [if_neg h,if_neg (by omega),if_neg h2]
def uw (tmps:Array Value):ResultVar→Sem Value
 | .tmp t=>pure (tmps.getD t undef)
 | .cell b t=>do loadVar t (← asAddr (tmps.getD b undef))
theorem Ed {R:bT} {C:gq} {cx:Cx} {S:St} {w:World} (hS:bf R cx S w) {nt:Nat} {e:Env} {a:Act} (he:gD cx S w nt e a) {rv:ResultVar} {v:AV} (h:uX C e S rv=some v) :
  ∃ u,(uw a.tmps rv).run C.P w=.ok u w∧aM cx S w v u:=by
 cases rv with
 | tmp t =>
  simp only [uX] at h
  obtain ⟨u,h1,h2⟩:=he.rel t v h
  exact ⟨u,by simp [uw,h1],h2⟩
 | cell b t =>
  simp only [uX] at h
  split at h
  ·
   rename_i p hp
   obtain ⟨u,h1,h2⟩:=he.rel b p hp
   obtain ⟨z,z1,z2⟩:=vV (C:=C) hS h h2
   refine ⟨z,?_,z2⟩
   have hu:a.tmps.getD b undef=u:=by simp [h1]
   simp only [uw,hu]
   unfold mg at h
   cases h2 with
   | ptr id g off bb hn hq=>simp only [asAddr,Sem.run_bind,Sem.run_pure,Result.andThen_ok]; rw [oP] at z1; exact z1
   | eptr x off bb o vs hc hm=>simp only [asAddr,Sem.run_bind,Sem.run_pure,Result.andThen_ok]; rw [oP] at z1; exact z1
   | _=>simp at h
  ·
   cases h
theorem kW {R:bT} {C:gq} {cx:Cx} {S:St} {w:World} (hS:bf R cx S w) {nt:Nat} {e:Env} {a:Act} (he:gD cx S w nt e a) {fn:Func} {v:AV} (h:jD C fn e S=some v) :
  ∃ u,(results fn a.tmps).run C.P w=.ok u w∧aM cx S w v u:=by
 unfold jD at h
 have key:∀ {l:List ResultVar} {vs:List AV},iM (uX C e S) l=some vs→∃ us:List Value,us.length=vs.length∧(l.mapM (uw a.tmps)).run C.P w=.ok us w∧∀ (i:Nat) (x:AV) (u:Value),vs[i]? = some x→us[i]? = some u→aM cx S w x u:=by
  intro l
  induction l with
  | nil=>intro vs h; simp [iM] at h; subst h; exact ⟨[],rfl,by simp,by simp⟩
  | cons rv l ih =>
   intro vs h
   simp only [iM] at h
   split at h
   ·
    rename_i y hy
    simp only [Option.map_eq_some_iff] at h
    obtain ⟨ys,hys,rfl⟩:=h
    obtain ⟨us,u1,u2,u3⟩:=ih hys
    obtain ⟨u,r1,r2⟩:=Ed hS he hy
    refine ⟨u :: us,by simp [u1],?_,fun i x z hx hz=>?_⟩
    ·
     rw [List.mapM_cons]
     simp only [Sem.run_bind]
     rw [r1]
     simp only [Result.andThen_ok]
     rw [u2]
     rfl
    ·
     cases i with
     | zero=>simp at hx hz; subst hx; subst hz; exact r2
     | succ i=>exact u3 i x z (by simpa using hx) (by simpa using hz)
   ·
    cases h
 have run:∀ {us:List Value},(fn.results.toList.mapM (uw a.tmps)).run C.P w=.ok us w→(results fn a.tmps).run C.P w=.ok (if h:us.toArray.size=1 then us.toArray[0] else .tuple us.toArray) w:=by
  intro us hu
  have hres:results fn a.tmps=(do let vs ← fn.results.mapM (uw a.tmps); pure (if h:vs.size=1 then vs[0] else .tuple vs)):=rfl
  rw [hres,Array.mapM_eq_mapM_toList]
  simp only [Sem.run_bind,Sem.run_map,hu,Result.andThen_ok]
  rfl
 split at h
 ·
  rename_i x hx
  simp only [Option.some.injEq] at h; subst h
  obtain ⟨us,u1,u2,u3⟩:=key hx
  match us,u1 with
  | [u],_=>exact ⟨u,by rw [run u2]; rfl,u3 0 x u rfl rfl⟩
 ·
  rename_i vs hne hx
  simp only [Option.some.injEq] at h; subst h
  obtain ⟨us,u1,u2,u3⟩:=key hx
  refine ⟨.tuple us.toArray,?_,.tup vs us u1 u3⟩
  rw [run u2,dif_neg]
  intro q
  simp at q
  rw [u1] at q
  match vs,q with
  | [x],_=>exact hne x rfl
 ·
  cases h
theorem Fe {R:bT} {cx:Cx} {S:St} {w:World} (h:bf R cx S w):bf R cx aI w where
 wf:=fun id hl=>absurd rfl hl
 pJ:=fun id b hb=>by simp [aI,AL.get] at hb
 cells:=fun id g cs hb=>by simp [aI,AL.get] at hb
 maps:=fun id es hb=>by simp [aI,AL.get] at hb
 objs:=fun id k x hb=>by simp [aI,AL.get] at hb
 toks:=fun id en hb=>by simp [aI,AL.get] at hb
 sep:=fun id id' b hl=>absurd rfl hl
 stat:=h.stat
 lt:=h.lt
theorem yL {R:bT} (hR:ObjOk R) {cx cx1:Cx} {S S1:St} {w w1:World} (h:bf R cx S w) (e:Ext cx aI w cx1 S1 w1) :
  bf R cx S w1∧Ext cx S w cx S w1∧∀ x v,bH w1 cx1.fr x v→bH w1 cx.fr x v:=by
 have hb:∀ b,b < w.heap.size→w1.heap[b]? = w.heap[b]?∧∀ o,(cx1.fr b o↔cx.fr b o):=fun b hb=>e.other b hb (fun id hl=>absurd rfl hl)
 have ex:Ext cx S w cx S w1:=Ext.old h e.size (fun b q=>(hb b q).1) e.os e.tape e.output
 refine ⟨bf.old hR h e.size (fun b q=>(hb b q).1) ex,ex,fun x v hd=>hd.mono (fun b o v hf hc=>⟨hc,fun q=>?_⟩)⟩
 have hlt:=h.lt b o q
 exact hf (((hb b hlt).2 o).2 q)
theorem wB {cx cx':Cx} {S S':St} {w w':World} {v v':AV} {u:Value} (hv:xJ v=some v') (h:aM cx S w v u) (hd:∀ x z,bH w cx.fr x z→bH w' cx'.fr x z):aM cx' S' w' v' u:=by
 unfold xJ at hv
 split at hv
 ·
  rename_i vs
  simp only [Option.map_eq_some_iff] at hv
  obtain ⟨xs,hxs,rfl⟩:=hv
  obtain ⟨x1,x2⟩:=tO hxs
  cases h with
  | tup _ us' hl' hr' =>
   refine .tup _ us' (by simp [hl',x1]) (fun i x z hx hz=>?_)
   simp only [List.getElem?_map,Option.map_eq_some_iff] at hx
   obtain ⟨y,hy,rfl⟩:=hx
   have hlt:i < vs.length:=by rw [← x1]; exact (List.getElem?_eq_some_iff.1 hy).1
   have ha:=List.getElem?_eq_getElem hlt
   exact .d y z (hd _ _ (kQ (x2 i _ y ha hy) (hr' i _ z ha hz)))
 ·
  simp only [Option.map_eq_some_iff] at hv
  obtain ⟨x,hx,rfl⟩:=hv
  exact .d x u (hd _ _ (kQ hx h))
end
end Go.Ev

namespace Go.Ev
noncomputable section
set_option linter.unusedVariables false
set_option linter.unusedSimpArgs false
variable {R:bT} {C:gq}
def fT (R:bT) (P:Program) (f:Nat) (args:List AV) (S:St) (Q:Out→Prop):Prop :=
 (∃ fn,P.funcs[f]? = some fn∧fn.body.isSome=true∧fn.name ≠ "runtime.NumGoroutine") ∧
 ∀ cx w (us:List Value),bf R cx S w→us.length=args.length→(∀ (i:Nat) (x:AV) (u:Value),args[i]? = some x→us[i]? = some u→aM cx S w x u) →
  Calls P f us.toArray w (fun e w'=>∃ r,Q r∧∃ cx',bf R cx' r.2.2 w'∧Ext cx S w cx' r.2.2 w'∧Di cx' r.2.2 w' r.1 r.2.1 e)
theorem fT.mono {P:Program} {f:Nat} {args:List AV} {S:St} {Q Q':Out→Prop} (h:fT R P f args S Q) (hq:∀ r,Q r→Q' r):fT R P f args S Q' :=
 ⟨h.1,fun cx w us h1 h2 h3=>(h.2 cx w us h1 h2 h3).mono fun e w' ⟨r,q,k⟩=>⟨r,hq r q,k⟩⟩
def ax (R:bT) (P:Program) (nt:Nat) (c:Code) (e:Env) (S:St) (Q:rq→Prop):Prop :=
 ∀ (cx:Cx) (w:World) (a:Act) (K:Exit→Act→World→Prop),bf R cx S w→gD cx S w nt e a→(∀ r,Q r→Fin R cx S w nt a K r)→c.wp P K a w
def lV (R:bT) (P:Program) (nt:Nat) (c:Code) (e:Env) (S:St) (Q:rq→Prop):Prop :=
 ∀ (cx:Cx) (w:World) (a:Act) (K:Exit→Act→World→Prop),bf R cx S w→gD cx S w nt e a→(∀ r,Q r→Fin R cx S w nt a K r) →
  ∀ (b:Frame) (k:List Go.Item) (cs:List Frame),∃ x a' w',K x a' w'∧Arrives P (lone (b.at a (.code c :: .inLoop c :: k)) cs w) b k cs x a' w'
variable {P:Program} {nt:Nat}
theorem ax.mono {c:Code} {e:Env} {S:St} {Q Q':rq→Prop} (h:ax R P nt c e S Q) (hq:∀ r,Q r→Q' r):ax R P nt c e S Q' :=
 fun cx w a K h1 h2 h3=>h cx w a K h1 h2 (fun r q=>h3 r (hq r q))
def Sub (e2 e:Env):Prop:=∀ t x,AL.get e2 t=some x→AL.get e t=some x
theorem Sub.nil {e:Env}:Sub [] e:=fun _ _ h=>by simp [AL.get] at h
theorem Sub.cons {t:Nat} {x:AV} {e2 e:Env} (h:AL.get e t=some x) (k:Sub e2 e):Sub ((t,x) :: e2) e:=by
 intro u y hy
 rw [AL.gm] at hy
 by_cases hu:t=u
 ·
  subst hu; rw [if_pos rfl] at hy; cases hy; exact h
 ·
  rw [if_neg hu] at hy; exact k u y hy
theorem gD.sub {cx:Cx} {S:St} {w:World} {e2 e:Env} {a:Act} (h:gD cx S w nt e a) (s:Sub e2 e):gD cx S w nt e2 a :=
 ⟨h.size,fun t x hx=>h.rel t x (s t x hx)⟩
theorem ax.sub {c:Code} {e2 e:Env} {S:St} {Q:rq→Prop} (s:Sub e2 e) (h:ax R P nt c e2 S Q):ax R P nt c e S Q :=
 fun cx w a K h1 h2 h3=>h cx w a K h1 (h2.sub s) h3
theorem ax.skip {e:Env} {S:St} {Q:rq→Prop} (h:Q (.normal,e,S)):ax R P nt .skip e S Q :=
 fun cx w a K h1 h2 h3=>wp_skip (h3 _ h cx a w h1 (Ext.refl w h1.wf) h2 rfl)
theorem ax.exit {id:Nat} {e:Env} {S:St} {Q:rq→Prop} (h:Q (.exit id,e,S)):ax R P nt (.exit id) e S Q :=
 fun cx w a K h1 h2 h3=>wp_exit (h3 _ h cx a w h1 (Ext.refl w h1.wf) h2 rfl)
theorem ax.ret {e:Env} {S:St} {Q:rq→Prop} (h:Q (.ret,e,S)):ax R P nt .ret e S Q :=
 fun cx w a K h1 h2 h3=>wp_ret (h3 _ h cx a w h1 (Ext.refl w h1.wf) h2 rfl)
def Bl (k:Env→St→Prop) (Q:rq→Prop):rq→Prop
 | (.normal,e,S)=>k e S
 | r=>Q r
theorem ax.seq {x y:Code} {e:Env} {S:St} {Q:rq→Prop} (h:ax R P nt x e S (Bl (fun e' S'=>ax R P nt y e' S' Q) Q)):ax R P nt (.seq x y) e S Q:=by
 intro cx w a K h1 h2 h3
 refine wp_seq (h cx w a _ h1 h2 (fun r hr=>?_))
 obtain ⟨x1,e',S'⟩:=r
 cases x1 with
 | normal =>
  intro cx' a' w' q1 q2 q3 q4
  exact hr cx' w' a' K q1 q3 (fun r q=>(h3 r q).trans q2 q4)
 | exit id=>exact h3 _ hr
 | ret=>exact h3 _ hr
 | panic v=>exact h3 _ hr
theorem ax.cond {c:Operand} {x y:Code} {e:Env} {S:St} {Q:rq→Prop} {b:Bool} (hc:dX e c=some (.d (.bool b))) (h1:b=true→ax R P nt x e S Q) (h2:b=false→ax R P nt y e S Q):ax R P nt (.cond c x y) e S Q:=by
 intro cx w a K hS he hk
 cases b with
 | true=>exact wp_cond_true ((he.eval c _ hc).bool) (h1 rfl cx w a K hS he hk)
 | false=>exact wp_cond_false ((he.eval c _ hc).bool) (h2 rfl cx w a K hS he hk)
def FM (id:Nat) (Q:rq→Prop):rq→Prop
 | (.exit j,e,S)=>bif Nat.beq j id then Q (.normal,e,S) else Q (.exit j,e,S)
 | r=>Q r
theorem ax.block {id:Nat} {c:Code} {e:Env} {S:St} {Q:rq→Prop} (h:ax R P nt c e S (FM id Q)):ax R P nt (.block id c) e S Q:=by
 intro cx w a K h1 h2 h3
 refine wp_block (h cx w a _ h1 h2 (fun r hr=>?_))
 obtain ⟨x1,e',S'⟩:=r
 cases x1 with
 | normal=>exact h3 _ hr
 | exit j =>
  simp only [FM] at hr
  by_cases hj:j=id
  ·
   have hb:Nat.beq j id=true:=by rw [hj]; exact Nat.beq_refl id
   rw [hb] at hr
   intro cx' a' w' q1 q2 q3 q4
   simp only [Exit.inBlock,if_pos hj]
   exact h3 _ hr cx' a' w' q1 q2 q3 q4
  ·
   have hb:Nat.beq j id=false:=by
    cases hb:Nat.beq j id
    ·
     rfl
    ·
     exact absurd (Nat.eq_of_beq_eq_true hb) hj
   rw [hb] at hr
   intro cx' a' w' q1 q2 q3 q4
   simp only [Exit.inBlock,if_neg hj]
   exact h3 _ hr cx' a' w' q1 q2 q3 q4
 | ret=>exact h3 _ hr
 | panic v=>exact h3 _ hr
theorem ax.loop {c:Code} {e:Env} {S:St} {Q:rq→Prop} (h:lV R P nt c e S Q):ax R P nt (.loop c) e S Q:=by
 intro cx w a K h1 h2 h3 b k cs
 obtain ⟨x,a',w',q,harr⟩:=h cx w a K h1 h2 h3 b k cs
 exact ⟨x,a',w',q,.of_steps (.one step_loop) harr⟩
theorem lV.round {c:Code} {e:Env} {S:St} {Q:rq→Prop} (h:ax R P nt c e S (Bl (fun e' S'=>lV R P nt c e' S' Q) Q)):lV R P nt c e S Q:=by
 intro cx w a K hS he hk b k cs
 let K':Exit→Act→World→Prop:=fun x a' w'=>match x with
  | .normal=>∃ cx1 e1 S1,bf R cx1 S1 w'∧gD cx1 S1 w' nt e1 a'∧Ext cx S w cx1 S1 w'∧a'.defers=a.defers∧lV R P nt c e1 S1 Q
  | x=>K x a' w'
 have hround:c.wp P K' a w:=by
  refine h cx w a K' hS he (fun r hr=>?_)
  obtain ⟨x,e',S'⟩:=r
  cases x with
  | normal=>exact fun cx' a' w' q1 q2 q3 q4=>⟨cx',e',S',q1,q3,q2,q4,hr⟩
  | exit id=>exact hk _ hr
  | ret=>exact hk _ hr
  | panic v=>exact hk _ hr
 obtain ⟨x,a₁,w₁,hq,harr⟩:=hround b (.inLoop c :: k) cs
 cases x with
 | normal =>
  obtain ⟨cx1,e1,S1,s1,er1,x1,d1,hl⟩:=hq
  obtain ⟨x2,a₂,w₂,hq₂,harr₂⟩:=hl cx1 w₁ a₁ K s1 er1 (fun r hr=>(hk r hr).trans x1 d1) b k cs
  exact ⟨x2,a₂,w₂,hq₂,.of_steps (Steps.trans harr (.one step_inLoop)) harr₂⟩
 | exit id=>exact ⟨_,a₁,w₁,hq,.pass (x:=.inLoop c) rfl (fun _ _=>.inl (by simp)) harr⟩
 | goto l=>exact ⟨_,a₁,w₁,hq,.pass (x:=.inLoop c) rfl (fun _ _=>.inl (by simp)) harr⟩
 | ret=>exact ⟨_,a₁,w₁,hq,.pass (x:=.inLoop c) rfl (fun _ _=>.inl (by simp)) harr⟩
 | panic ch=>exact ⟨_,a₁,w₁,hq,.pass (x:=.inLoop c) rfl (fun _ _=>.inl (by simp)) harr⟩
 | outgrown=>exact ⟨_,a₁,w₁,hq,.pass (x:=.inLoop c) rfl (fun _ _=>.inl (by simp)) harr⟩
def Less (y x:AV):Prop:=∀ (cx:Cx) (S:St) (w:World) (v:Value),aM cx S w x v→aM cx S w y v
theorem Less.refl (x:AV):Less x x:=fun _ _ _ _ h=>h
theorem Less.trans {x y z:AV} (a:Less z y) (b:Less y x):Less z x:=fun cx S w v h=>a cx S w v (b cx S w v h)
def aa (e2 e:Env):Prop:=∀ t x,AL.get e2 t=some x→∃ y,AL.get e t=some y∧Less x y
theorem aa.refl (e:Env):aa e e:=fun _ x h=>⟨x,h,.refl x⟩
theorem aa.trans {e1 e2 e3:Env} (a:aa e1 e2) (b:aa e2 e3):aa e1 e3:=fun t x h=>by
 obtain ⟨y,h1,h2⟩:=a t x h
 obtain ⟨z,h3,h4⟩:=b t y h1
 exact ⟨z,h3,h2.trans h4⟩
theorem aa.top {e:Env} {t:Nat} {x y:AV} (h:Less y x):aa ((t,y) :: e) ((t,x) :: e):=fun u z hz=>by
 rw [AL.gm] at hz ⊢
 by_cases hu:t=u
 ·
  rw [if_pos hu] at hz ⊢; cases hz; exact ⟨x,rfl,h⟩
 ·
  rw [if_neg hu] at hz ⊢; exact ⟨z,hz,.refl z⟩
theorem aa.nil {e:Env}:aa [] e:=fun _ _ h=>by simp [AL.get] at h
theorem aa.cons {t:Nat} {x y:AV} {e2 e:Env} (h:AL.get e t=some y) (hl:Less x y) (k:aa e2 e):aa ((t,x) :: e2) e:=fun u z hz=>by
 rw [AL.gm] at hz
 by_cases hu:t=u
 ·
  subst hu; rw [if_pos rfl] at hz; cases hz; exact ⟨y,h,hl⟩
 ·
  rw [if_neg hu] at hz; exact k u z hz
theorem gD.weak {cx:Cx} {S:St} {w:World} {e2 e:Env} {a:Act} (h:gD cx S w nt e a) (s:aa e2 e):gD cx S w nt e2 a :=
 ⟨h.size,fun t x hx=>by
  obtain ⟨y,h1,h2⟩:=s t x hx
  obtain ⟨v,v1,v2⟩:=h.rel t y h1
  exact ⟨v,v1,h2 _ _ _ _ v2⟩⟩
theorem ax.weak {c:Code} {e2 e:Env} {S:St} {Q:rq→Prop} (s:aa e2 e) (h:ax R P nt c e2 S Q):ax R P nt c e S Q :=
 fun cx w a K h1 h2 h3=>h cx w a K h1 (h2.weak s) h3
theorem lV.weak {c:Code} {e2 e:Env} {S:St} {Q:rq→Prop} (s:aa e2 e) (h:lV R P nt c e2 S Q):lV R P nt c e S Q :=
 fun cx w a K h1 h2 h3=>h cx w a K h1 (h2.weak s) h3
def Bt (R:bT) (C:gq) (nt:Nat) (dst:Option Nat) (op:Op) (e:Env) (S:St) (Q:Stp→Prop):Prop :=
 (∃ v S' e',oper C (dX e) S op=some (.val v S')∧e.put nt dst v=some e'∧Q (.go e' S')) ∨
 (∃ S',oper C (dX e) S op=some (.skip S')∧dst=none∧Q (.go e S')) ∨
 (∃ f args,oper C (dX e) S op=some (.call f args)∧fT R C.P f args S (fun r=>match r with
  | (none,v,S')=>∃ e',e.put nt dst v=some e'∧Q (.go e' S')
  | (some p,_,S')=>Q (.stop p S'))) ∨
 (∃ t x y ty xs b el,op=.binOp .eql t x y ty∧dX e x=some (.d (.sl xs b))∧dX e y=some (.d .aY)∧C.P.underlying t=some (.slice el) ∧
  ∀ bb:Bool,(bb=true→xs=[])→∃ e',e.put nt dst (.d (.bool bb))=some e'∧Q (.go e' S))
theorem Bt.mono {dst:Option Nat} {op:Op} {e:Env} {S:St} {Q Q':Stp→Prop} (h:Bt R C nt dst op e S Q) (hq:∀ r,Q r→Q' r):Bt R C nt dst op e S Q':=by
 rcases h with ⟨v,S',e',h1,h2,h3⟩ | ⟨S',h1,h2,h3⟩ | ⟨f,args,h1,h2⟩ | ⟨t,x,y,ty,xs,b,el,h1,h2,h3,h4,h5⟩
 ·
  exact .inl ⟨v,S',e',h1,h2,hq _ h3⟩
 ·
  exact .inr (.inl ⟨S',h1,h2,hq _ h3⟩)
 ·
  exact .inr (.inr (.inl ⟨f,args,h1,h2.mono fun r hr=>by
   obtain ⟨p,v,S'⟩:=r
   cases p with
   | none=>obtain ⟨e',a,b⟩:=hr; exact ⟨e',a,hq _ b⟩
   | some p=>exact hq _ hr⟩))
 ·
  exact .inr (.inr (.inr ⟨t,x,y,ty,xs,b,el,h1,h2,h3,h4,fun bb hb=>let ⟨e',a,c⟩:=h5 bb hb; ⟨e',a,hq _ c⟩⟩))
theorem Bf {w:World} {fr:Nat→Nat→Prop} {xs:List D} {b:Bool} {v:Value} (h:bH w fr (.sl xs b) v):∃ a n c,v=.slice a n c∧(a=none→xs=[]):=by
 have h1:=h.val rfl
 cases h1 with
 | sl0 a cap _ _=>exact ⟨a,0,cap,rfl,fun _=>rfl⟩
 | sl _ _ b off cap sz vs hne hcap ht hsz hlen hx hc=>exact ⟨_,_,_,rfl,fun h=>by cases h⟩
def GU (R:bT) (C:gq) (nt:Nat) (ops:Array Oper) (o:Oper) (e:Env) (S:St) (Q:Stp→Prop):Prop :=
 dn ops e o=some true∧∀ cx w a,bf R cx S w→gD cx S w nt e a →
  (∃ cx' w' u v S' e',(execOp a.eval o).run C.P w=.ok (.value u) w'∧bf R cx' S' w'∧Ext cx S w cx' S' w'∧aM cx' S' w' v u∧e.put nt o.dst v=some e'∧Q (.go e' S')) ∨
  (∃ u v,(execOp a.eval o).run C.P w=.halt (.panic u) w∧aM cx S w v u∧Q (.stop v S))
def tV (R:bT) (C:gq) (nt:Nat) (ops:Array Oper) (o:Oper) (e:Env) (S:St) (Q:Stp→Prop):Prop :=
 (∃ t rs,o.op=.next (.tmp t) false∧FI nt o t e S=some rs∧∀ r ∈ rs,Q r) ∨
 (∃ e2,aa e2 e∧dn ops e o=some true∧Bt R C nt o.dst o.op e2 S Q) ∨
 (∃ e2 e',aa e2 e∧dn ops e o=some false∧(match o.dst with | none=>e'=e2 | some t=>e2.put nt (some t) (.tup [])=some e')∧Q (.go e' S)) ∨
 (∃ e2,aa e2 e∧GU R C nt ops o e2 S Q)
theorem tV.mono {ops:Array Oper} {o:Oper} {e:Env} {S:St} {Q Q':Stp→Prop} (h:tV R C nt ops o e S Q) (hq:∀ r,Q r→Q' r):tV R C nt ops o e S Q':=by
 rcases h with ⟨t,rs,h1,h2,h3⟩ | ⟨e2,h1,h2,h3⟩ | ⟨e2,e',h1,h2,h3,h4⟩ | ⟨e2,h1,h2,h3⟩
 ·
  exact .inl ⟨t,rs,h1,h2,fun r hr=>hq r (h3 r hr)⟩
 ·
  exact .inr (.inl ⟨e2,h1,h2,h3.mono hq⟩)
 ·
  exact .inr (.inr (.inl ⟨e2,e',h1,h2,h3,hq _ h4⟩))
 ·
  refine .inr (.inr (.inr ⟨e2,h1,h2,fun cx w a k1 k2=>?_⟩))
  rcases h3 cx w a k1 k2 with ⟨cx',w',u,v,S',e',q1,q2,q3,q4,q5,q6⟩ | ⟨u,v,q1,q2,q3⟩
  ·
   exact .inl ⟨cx',w',u,v,S',e',q1,q2,q3,q4,q5,hq _ q6⟩
  ·
   exact .inr ⟨u,v,q1,q2,hq _ q3⟩
theorem zS (hR:mE R C) {ops:Array Oper} {o:Oper} {e:Env} {S:St} {Q:Stp→Prop} (h:tV R C nt ops o e S Q) {cx:Cx} {w:World} {a:Act} (hS:bf R cx S w) (he:gD cx S w nt e a)
  {K:Act→World→Prop} {Kx:Exit→Act→World→Prop} (hk:∀ r,Q r→After R cx S w nt a K Kx r) {i:Nat} (hi:ops[i]? = some o):wpOp C.P ops Kx i K a w:=by
 have hrefl:=Ext.refl (cx:=cx) w hS.wf
 rcases h with ⟨t,rs,h1,h2,h3⟩ | ⟨e2,hw,h1,h2⟩ | ⟨e2,e',hw,h1,h2,h3⟩ | ⟨e2,hw,h1,h2⟩
 ·
  exact BP hR h1 h2 hS he (fun r hr=>hk r (h3 r hr)) hi
 rotate_left 2
 ·
  have he2:=he.weak hw
  unfold wpOp
  rw [hi]
  simp only
  rw [if_pos (eH he2 h1)]
  left
  unfold Oper.wp
  rcases h2 cx w a hS he2 with ⟨cx',w',u,v,S',e',q1,q2,q3,q4,q5,q6⟩ | ⟨u,v,q1,q2,q3⟩
  ·
   rw [q1]
   exact hk _ q6 cx' _ w' q2 q3 ((he2.mono q3).put q5 q4) (put_defers _ _ _)
  ·
   rw [q1]
   exact hk _ q3 cx w u hS hrefl q2
 ·
  have he2:=he.weak hw
  unfold wpOp
  rw [hi]
  simp only
  rw [if_pos (eH he h1)]
  left
  rcases h2 with ⟨v,S',e',h1,h2,h3⟩ | ⟨S',h1,h2,h3⟩ | ⟨f,args,h1,h2⟩ | ⟨t,x,y,ty,xs,b,el,hop,hx,hy,hu,hq⟩
  rotate_left 3
  ·
   have rx:=he2.eval x _ hx
   have ry:=he2.eval y _ hy
   obtain ⟨a0,n,c,ex,hnil⟩:=Bf rx.dd
   have ey:a.eval y=.slice none 0 0:=by
    have:=ry.dd.val rfl
    generalize a.eval y=z at this
    cases this
    rfl
   have hrun:(execOp a.eval o).run C.P w=.ok (.value (.bool a0.isNone)) w:=by
    obtain ⟨dst,op,ty',pos,after,guard⟩:=o
    simp only at hop
    subst hop
    exact pq (by
     rw [ex,ey]
     have hg:(eqGuard .eql t x y (.slice a0 n c) (.slice none 0 0)).run C.P w=.ok () w:=gy rfl
     simp only [Sem.run_bind,hg,Result.andThen_ok]
     exact Lib.run_eql_slice_nil w t el a0 n c 0 0 hu)
   obtain ⟨e',hp,hk'⟩:=hq a0.isNone (fun h=>hnil (by cases a0 with | none=>rfl | some a=>cases h))
   unfold Oper.wp
   rw [hrun]
   exact hk _ hk' cx _ w hS hrefl (he2.put hp (.of_bool _)) (put_defers _ _ _)
  ·
   obtain ⟨cx',w',u,k1,k2,k3,k4⟩:=fO hR hS he2.eval o h1
   unfold Oper.wp
   rw [k1]
   exact hk _ h3 cx' _ w' k2 k3 ((he2.mono k3).put h2 k4) (put_defers _ _ _)
  ·
   obtain ⟨cx',w',k1,k2,k3⟩:=fO hR hS he2.eval o h1
   unfold Oper.wp
   rw [k1]
   show K (a.put o.dst undef) w'
   rw [h2]
   exact hk _ h3 cx' _ w' k2 k3 (he2.mono k3) rfl
  ·
   obtain ⟨us,k1,k2,k3⟩:=fO hR hS he2.eval o h1
   obtain ⟨⟨fn,f1,f2,f3⟩,hcalls⟩:=h2
   unfold Oper.wp
   rw [k3 fn f1 f2 f3]
   refine (hcalls cx w us hS k1 k2).mono (fun en w' hen=>?_)
   obtain ⟨⟨p,v,S'⟩,hq,cx',m1,m2,m3⟩:=hen
   cases p with
   | none =>
    obtain ⟨u,rfl,m3⟩:=m3
    obtain ⟨e',hp,hq⟩:=hq
    exact hk _ hq cx' _ w' m1 m2 ((he2.mono m2).put hp m3) (put_defers _ _ _)
   | some p =>
    obtain ⟨u,rfl,m3⟩:=m3
    exact hk _ hq cx' w' u m1 m2 m3
 ·
  have he2:=he.weak hw
  unfold wpOp
  rw [hi]
  simp only
  rw [if_neg (by rw [eH he h1]; simp)]
  split at h2
  ·
   rename_i hd
   subst h2
   rw [hd]
   exact hk _ h3 cx _ w hS hrefl he2 rfl
  ·
   rename_i t hd
   rw [hd]
   exact hk _ h3 cx _ w hS hrefl (he2.put h2 (.tup [] [] rfl (fun i x v hx=>by simp at hx))) (put_defers _ _ _)
def mO (R:bT) (nt:Nat) (e:Env) (S:St) (e2:Env) (S2:St):Prop :=
 ∀ cx w a,bf R cx S w→gD cx S w nt e a→∃ cx2,bf R cx2 S2 w∧Ext cx S w cx2 S2 w∧gD cx2 S2 w nt e2 a
theorem mO.refl (e:Env) (S:St):mO R nt e S e S:=fun cx w a h1 h2=>⟨cx,h1,Ext.refl w h1.wf,h2⟩
theorem mO.weak {e2 e:Env} (S:St) (s:aa e2 e):mO R nt e S e2 S:=fun cx w a h1 h2=>⟨cx,h1,Ext.refl w h1.wf,h2.weak s⟩
theorem mO.trans {e1 e2 e3:Env} {S1 S2 S3:St} (a:mO R nt e1 S1 e2 S2) (b:mO R nt e2 S2 e3 S3):mO R nt e1 S1 e3 S3:=fun cx w ac h1 h2=>by
 obtain ⟨c2,q1,q2,q3⟩:=a cx w ac h1 h2
 obtain ⟨c3,r1,r2,r3⟩:=b c2 w ac q1 q3
 exact ⟨c3,r1,q2.trans r2,r3⟩
def ah (R:bT) (C:gq) (nt:Nat) (ops:Array Oper):List Oper→Env→St→(Stp→Prop)→Prop
 | [],e,S,Q=>∃ e2,aa e2 e∧Q (.go e2 S)
 | o :: rest,e,S,Q=>∃ e2 S2,mO R nt e S e2 S2∧tV R C nt ops o e2 S2 (fun r=>match r with
  | .go e' S'=>ah R C nt ops rest e' S' Q
  | .stop v S'=>Q (.stop v S'))
theorem ah.weak {ops:Array Oper} {l:List Oper} {e2 e:Env} {S:St} {Q:Stp→Prop} (s:aa e2 e) (h:ah R C nt ops l e2 S Q):ah R C nt ops l e S Q:=by
 cases l with
 | nil=>obtain ⟨e3,h1,h2⟩:=h; exact ⟨e3,h1.trans s,h2⟩
 | cons o l=>obtain ⟨e3,S3,h1,h2⟩:=h; exact ⟨e3,S3,(mO.weak S s).trans h1,h2⟩
theorem yM (hR:mE R C) {ops:Array Oper} {Kx:Exit→Act→World→Prop}:∀ (l:List Oper) (k:Nat) {cx:Cx} {S:St} {w:World} {e:Env} {a:Act} {Q:Stp→Prop},
  (∀ j,l[j]? = ops[k + j]?)→ah R C nt ops l e S Q→bf R cx S w→gD cx S w nt e a →
  (∀ r,Q r→match r with
   | .go e' S'=>∀ cx' a' w',bf R cx' S' w'→Ext cx S w cx' S' w'→gD cx' S' w' nt e' a'→a'.defers=a.defers→Kx .normal a' w'
   | .stop v S'=>∀ cx' a' w' u,bf R cx' S' w'→Ext cx S w cx' S' w'→aM cx' S' w' v u→a'.defers=a.defers→Kx (.panic [{ v:=u,recovered:=false }]) a' w') →
  wpOps C.P ops Kx ((List.range l.length).map (k + ·)) a w
 | [],k,cx,S,w,e,a,Q,hl,⟨e2,hs,hev⟩,hS,he,hk=>hk (.go e2 S) hev cx a w hS (Ext.refl w hS.wf) (he.weak hs) rfl
 | o :: l,k,cx,S,w,e,a,Q,hl,⟨e2,S2,hs,hev⟩,hS,he,hk=>by
  obtain ⟨c2,hS,x0,he⟩:=hs cx w a hS he
  replace hk:∀ r,Q r→match r with
   | .go e' S'=>∀ cx' a' w',bf R cx' S' w'→Ext c2 S2 w cx' S' w'→gD cx' S' w' nt e' a'→a'.defers=a.defers→Kx .normal a' w'
   | .stop v S'=>∀ cx' a' w' u,bf R cx' S' w'→Ext c2 S2 w cx' S' w'→aM cx' S' w' v u→a'.defers=a.defers→Kx (.panic [{ v:=u,recovered:=false }]) a' w':=fun r hr=>by
   have hk:=hk r hr
   cases r with
   | go e' S'=>exact fun cx' a' w' q1 q2 q3 q4=>hk cx' a' w' q1 (x0.trans q2) q3 q4
   | stop v S'=>exact fun cx' a' w' u q1 q2 q3 q4=>hk cx' a' w' u q1 (x0.trans q2) q3 q4
  have h0:ops[k]? = some o:=by simpa using (hl 0).symm
  rw [List.length_cons,List.range_succ_eq_map,List.map_cons,wpOps_cons,Nat.add_zero]
  refine zS hR hev hS he (fun r hr=>?_) h0
  cases r with
  | go e' S' =>
   intro cx1 a1 w1 s1 x1 er1 d1
   have ih:=yM hR (Kx:=Kx) l (k + 1) (cx:=cx1) (S:=S') (w:=w1) (e:=e') (a:=a1) (Q:=Q) (fun j=>by have:=hl (j + 1); simpa [Nat.add_assoc,Nat.add_comm 1 j] using this) hr s1 er1 (fun r hr=>by
    have hk':=hk r hr
    cases r with
    | go e2 S2=>exact fun cx' a' w' q1 q2 q3 q4=>hk' cx' a' w' q1 (x1.trans q2) q3 (q4.trans d1)
    | stop v S2=>exact fun cx' a' w' u q1 q2 q3 q4=>hk' cx' a' w' u q1 (x1.trans q2) q3 (q4.trans d1))
   rw [List.map_map]
   have:((fun x=>k + x) ∘ Nat.succ)=(fun x=>k + 1 + x):=by funext x; simp; omega
   rw [this]; exact ih
  | stop v S'=>exact fun cx1 w1 u s1 x1 r1=>hk (.stop v S') hr cx1 a w1 u s1 x1 r1 rfl
theorem ax.region (hR:mE R C) {id:Nat} {ops:Array Oper} {l:List Oper} (hl:ops.toList=l) {e:Env} {S:St} {Q:rq→Prop} (h:ah R C nt ops l e S (fun r=>Q (IB e r))):ax R C.P nt (.region id ops false) e S Q:=by
 intro cx w a K h1 h2 h3
 refine wp_region ?_
 have:=yM hR (Kx:=K) ops.toList 0 (by simp) (hl ▸ h) h1 h2 (fun r hr=>by
  have hk':=h3 _ hr
  cases r with
  | go e' S'=>exact fun cx' a' w' q1 q2 q3 q4=>hk' cx' a' w' q1 q2 q3 q4
  | stop v S'=>exact fun cx' a' w' u q1 q2 q3 q4=>hk' cx' a' w' u q1 q2 q3 q4)
 simpa using this
inductive Fact where
 | pure (f:Nat) (args:List AV) (v:AV)
 | full (f:Nat) (args:List AV) (S:St) (v:AV) (S':St)
open Classical in
def EX (C:gq) (fn:Func) (Q:Out→Prop):rq→Prop
 | (.normal,e,S)=>∃ v,jD C fn e S=some v∧Q (none,v,S)
 | (.ret,e,S)=>∃ v,jD C fn e S=some v∧Q (none,v,S)
 | (.panic v,_,S)=>Q (some v,.d (.bool false),S)
 | _=>False
theorem fT.of_wp {f:Nat} {fn:Func} {c:Code} (hf:C.P.funcs[f]? = some fn) (hc:fn.body=some c) (hn:(fn.name == "runtime.NumGoroutine")=false) {args:List AV} (hle:args.length ≤ fn.ntmps) {S:St} {Q:Out→Prop}
  (h:ax R C.P fn.ntmps c (mR 0 args) S (EX C fn Q)):fT R C.P f args S Q:=by
 refine ⟨⟨fn,hf,by simp [hc],by simpa using hn⟩,fun cx w us hS hl hr=>?_⟩
 refine calls_of_wp hf hc ?_
 have he:gD cx S w fn.ntmps (mR 0 args) { tmps:=us.toArray ++ Array.replicate (fn.ntmps - us.toArray.size) undef,defers:=[] }:=by
  refine ⟨by simp; omega,fun t x hx=>?_⟩
  rw [rM] at hx
  simp only [Nat.zero_le,if_true,Nat.sub_zero] at hx
  have hlt:t < us.length:=by rw [hl]; exact (List.getElem?_eq_some_iff.1 hx).1
  have hu:=List.getElem?_eq_getElem hlt
  exact ⟨us[t],by rw [Array.getElem?_append_left (by simpa using hlt)]; simp,hr t x _ hx hu⟩
 refine h cx w _ _ hS he (fun r hr=>?_)
 obtain ⟨x,e,S1⟩:=r
 cases x with
 | normal =>
  obtain ⟨rv,hrv,hq⟩:=hr
  intro cx' a' w' q1 q2 q3 q4
  obtain ⟨u,r1,r2⟩:=kW q1 q3 hrv
  exact ⟨q4,u,r1,_,hq,cx',q1,q2,u,rfl,r2⟩
 | ret =>
  obtain ⟨rv,hrv,hq⟩:=hr
  intro cx' a' w' q1 q2 q3 q4
  obtain ⟨u,r1,r2⟩:=kW q1 q3 hrv
  exact ⟨q4,u,r1,_,hq,cx',q1,q2,u,rfl,r2⟩
 | panic pv =>
  intro cx' a' w' u q1 q2 q3 q4
  exact ⟨q4,_,hr,cx',q1,q2,u,rfl,q3⟩
 | exit id=>exact hr.elim
end
end Go.Ev

namespace Go.Ev
noncomputable section
set_option linter.unusedVariables false
set_option linter.unusedSimpArgs false
variable {R:bT} {C:gq} {P:Program} {nt:Nat}
def tZ.under (n:Nat):tZ→Prop
 | .cells _ cs=>∀ x ∈ cs,x.under n=true
 | .map m=>∀ p ∈ m.es,p.2.1.under n=true
 | .obj _ _=>True
structure wL (S0 S S2:St):Prop where
 nx:S2.nx=S0.nx
 H:∀ id b,S2.H.get id=some b→S.H.get id=some b∧live S0 id∧b.under S0.nx
 T:∀ id n,S2.T.get id=some n→S.T.get id=some n∧live S0 id
theorem wm {n:Nat}:∀ {l:List AV},(∀ x ∈ l,x.under n=true)→belows n l=true
 | [],_=>rfl
 | x :: l,h=>by simp only [belows,h x List.mem_cons_self,wm (fun y hy=>h y (List.mem_cons_of_mem _ hy)),Bool.and_self]
theorem qZ {n:Nat} {xs:List AV} {vs:List Value} (hl:vs.length=xs.length) (h:∀ (i:Nat) (x:AV) (v:Value),xs[i]? = some x→vs[i]? = some v→x.under n=true):belows n xs=true :=
 wm fun x hx=>by
  obtain ⟨i,hi,rfl⟩:=List.getElem_of_mem hx
  exact h i xs[i] vs[i] (List.getElem?_eq_getElem hi) (List.getElem?_eq_getElem (by omega))
theorem aM.under {cx:Cx} {S:St} {w:World} {x:AV} {v:Value} (h:aM cx S w x v):x.under S.nx=true:=by
 have bl:∀ {a b:Nat},a < b→Nat.blt a b=true:=fun h=>Nat.ble_eq_true_of_le h
 induction h with
 | d x v h=>rfl
 | tsl xs tok b off cap hn h hp=>exact bl hn.1
 | ptr id g off b hn hp=>exact bl hn.1
 | msl id g off len lim sz b cap hn hl hcap h63 hp=>exact bl hn.1
 | asl id g off len sz b hn h63 hp=>exact bl hn.1
 | eptr x off b o vs h hc=>rfl
 | map id b hn hp=>exact bl hn.1
 | fn f cs vs hl h ih=>simp only [AV.under]; exact qZ hl ih
 | agg xs vs hl ho h ih=>simp only [AV.under]; exact qZ hl ih
 | tup xs vs hl h ih=>simp only [AV.under]; exact qZ hl ih
 | any v=>rfl
 | it0 k g since st b seen hn hp=>exact bl hn.1
 | it k g id since st b m seen hn hni hm hp=>simp only [AV.under,bl hn.1,bl hni.1,Bool.and_self]
theorem bf.under {cx:Cx} {S:St} {w:World} (h:bf R cx S w) {id:Nat} {b:tZ} (hb:S.H.get id=some b):b.under S.nx:=by
 cases b with
 | cells g cs =>
  obtain ⟨_,_,arr,el,_,_,h3⟩:=h.cells id g cs hb
  intro x hx
  obtain ⟨i,hi,rfl⟩:=List.getElem_of_mem hx
  obtain ⟨v,_,h4,_⟩:=h3 i cs[i] (List.getElem?_eq_getElem hi)
  exact h4.under
 | map m =>
  obtain ⟨_,_,ms,clk,_,⟨h2,_,_⟩,h3⟩:=h.maps id m hb
  intro p hp
  obtain ⟨i,hi,rfl⟩:=List.getElem_of_mem hp
  exact (h3 i m.es[i] ms[i] (List.getElem?_eq_getElem hi) (Array.getElem?_eq_getElem (by omega))).2.under
 | obj k x=>trivial
theorem l8 {cx:Cx} {S0 S S2:St} {w:World} (h:bf R cx S w) (s:wL S0 S S2) {id g:Nat} (hc:cur S2 id=some g):cur S id=some g:=by
 unfold cur at hc ⊢
 cases hH:AL.get S2.H id with
 | some b =>
  rw [hH] at hc
  rw [(s.H id b hH).1]
  cases b <;> exact hc
 | none =>
  rw [hH] at hc
  simp only at hc
  have hT:=(s.T _ _ hc).1
  cases hS:S.H.get id with
  | some b=>have:=h.pJ id b hS; rw [this] at hT; cases hT
  | none=>exact hT
theorem F3 {S0 S S2:St} (s:wL S0 S S2) {id:Nat} (hl:live S2 id):live S0 id:=by
 cases hH:AL.get S2.H id with
 | some b=>exact (s.H id b hH).2.1
 | none =>
  cases hT:AL.get S2.T id with
  | none=>exact absurd (by unfold cur; rw [hH]; exact hT) hl
  | some en=>exact (s.T id en hT).2
theorem pU {S0 S S2:St} (s:wL S0 S S2) {k g:Nat} (h:isIt S2 k g):isIt S k g:=(s.H _ _ h).1
theorem uy {cx:Cx} {S0 S S2:St} {w:World} (h:bf R cx S w) (s:wL S0 S S2) {i:Nat} (hi:cur S2 i ≠ none):cur S i ≠ none:=by
 cases hc:cur S2 i with
 | none=>exact absurd hc hi
 | some g=>rw [l8 h s hc]; simp
theorem aM.sub {cx:Cx} {S0 S S2:St} {w:World} (h:bf R cx S w) (s:wL S0 S S2) {x:AV} {v:Value} (hx:aM cx S w x v) (hu:x.under S0.nx=true):aM cx S2 w x v:=by
 have nm:∀ {id g:Nat},Names S id g→id < S0.nx→Names S2 id g:=fun hn hlt=>⟨by rw [s.nx]; exact hlt,fun g' hg=>hn.2 g' (l8 h s hg)⟩
 induction hx with
 | d x v hd=>exact .d x v hd
 | tsl xs tok b off cap hn hd hp =>
  simp only [AV.under] at hu
  exact .tsl xs tok b off cap (nm hn (Nat.le_of_ble_eq_true hu)) hd (fun hc=>hp (l8 h s hc))
 | ptr id g off b hn hp =>
  simp only [AV.under] at hu
  exact .ptr id g off b (nm hn (Nat.le_of_ble_eq_true hu)) (fun hc=>hp (l8 h s hc))
 | msl id g off len lim sz b cap hn hl hcap h63 hp =>
  simp only [AV.under] at hu
  exact .msl id g off len lim sz b cap (nm hn (Nat.le_of_ble_eq_true hu)) hl hcap h63 (fun hc=>hp (l8 h s hc))
 | any v=>exact .any v
 | eptr x off b o vs hd hc=>exact .eptr x off b o vs hd hc
 | map id b hn hp =>
  simp only [AV.under] at hu
  exact .map id b (nm hn (Nat.le_of_ble_eq_true hu)) (fun hc=>hp (l8 h s hc))
 | asl id g off len sz b hn h63 hp =>
  simp only [AV.under] at hu
  exact .asl id g off len sz b (nm hn (Nat.le_of_ble_eq_true hu)) h63 (fun hc=>hp (l8 h s hc))
 | fn f cs vs hl hr ih=>exact .fn f cs vs hl (fun i x v hx hv=>ih i x v hx hv (by simp only [AV.under] at hu; exact o5 hu x (List.mem_of_getElem? hx)))
 | agg xs vs hl ho hr ih=>exact .agg xs vs hl ho (fun i x v hx hv=>ih i x v hx hv (by simp only [AV.under] at hu; exact o5 hu x (List.mem_of_getElem? hx)))
 | tup xs vs hl hr ih=>exact .tup xs vs hl (fun i x v hx hv=>ih i x v hx hv (by simp only [AV.under] at hu; exact o5 hu x (List.mem_of_getElem? hx)))
 | it0 k g since st b seen hn hp =>
  simp only [AV.under] at hu
  refine .it0 k g since st b seen (nm hn (Nat.le_of_ble_eq_true hu)) (fun hk=>?_)
  obtain ⟨p1,p2,p3,p4⟩:=hp (pU s hk)
  exact ⟨p1,p2,fun i hi hf=>p3 i (uy h s hi) hf,p4⟩
 | it k g id since st b m seen hn hni hm hp =>
  simp only [AV.under,Bool.and_eq_true] at hu
  refine .it k g id since st b m seen (nm hn (Nat.le_of_ble_eq_true hu.1)) (nm hni (Nat.le_of_ble_eq_true hu.2)) (fun hc=>hm (l8 h s hc)) (fun hk=>?_)
  obtain ⟨p1,p2,p3,p4⟩:=hp (pU s hk)
  exact ⟨p1,p2,fun i hi hf=>p3 i (uy h s hi) hf,p4⟩
theorem DV {cx0 cx:Cx} {S0 S S2:St} {w0 w:World} (wf0:∀ id,live S0 id→id < S0.nx) (h:bf R cx S w) (e:Ext cx0 S0 w0 cx S w) (s:wL S0 S S2) :
  bf R cx S2 w∧Ext cx0 S0 w0 cx S2 w:=by
 have hlS:∀ id,live S2 id→live S id:=fun id hl=>uy h s hl
 refine ⟨⟨fun id hl=>by rw [s.nx]; exact wf0 id (F3 s hl),fun id b hi=>?_,fun id g cs hi=>?_,fun id es hi=>?_,fun id k x hi=>?_,fun id en hi=>?_,fun id id' b a1 a2=>h.sep id id' b (hlS id a1) (hlS id' a2),h.lt,h.stat⟩,?_⟩
 ·
  have hS:=(s.H _ _ hi).1
  cases hT:S2.T.get id with
  | none=>rfl
  | some en=>have:=(s.T _ _ hT).1; rw [h.pJ id b hS] at this; cases this
 ·
  obtain ⟨hS,_,hbl⟩:=s.H _ _ hi
  obtain ⟨c1,c2,arr,el,c3,c4,c5⟩:=h.cells id g cs hS
  refine ⟨c1,c2,arr,el,c3,c4,fun i x hx=>?_⟩
  obtain ⟨v,v1,v2,v3⟩:=c5 i x hx
  exact ⟨v,v1,v2.sub h s (hbl x (List.mem_of_getElem? hx)),v3⟩
 ·
  obtain ⟨hS,_,hbl⟩:=s.H _ _ hi
  obtain ⟨c1,c2,ms,clk,c3,c4,c5⟩:=h.maps id es hS
  refine ⟨c1,c2,ms,clk,c3,c4,fun i p m hp hm=>?_⟩
  obtain ⟨v1,v2⟩:=c5 i p m hp hm
  exact ⟨v1,v2.sub h s (hbl p (List.mem_of_getElem? hp))⟩
 ·
  exact h.objs id k x (s.H _ _ hi).1
 ·
  exact h.toks id en (s.T _ _ hi).1
 ·
  refine ⟨e.size,e.os,e.tape,e.output,by rw [s.nx]; exact Nat.le_refl _,e.prot,fun b hb hn=>e.other b hb (fun id hl hf=>by
   obtain ⟨q1,g,q2,q3⟩:=hn id hl hf
   exact ⟨q1,g,q2,pU s q3⟩),fun id b hl hf=>?_,fun id g hid hi=>e.back id g hid (pU s hi),fun id g b hid h0 hi hf=>e.keep id g b hid h0 (pU s hi) hf,fun id g hid hg=>e.curs id g hid (l8 h s hg)⟩
  exact e.own id b (hlS id hl) hf
structure o8 (S S':St):Prop where
 nx:S.nx ≤ S'.nx
 H:∀ id b,S.H.get id=some b→S'.H.get id=some b
 T:∀ id n,S.T.get id=some n→S'.T.get id=some n
theorem o8.refl (S:St):o8 S S:=⟨Nat.le_refl _,fun _ _ h=>h,fun _ _ h=>h⟩
theorem o8.trans {S S' S'':St} (a:o8 S S') (b:o8 S' S''):o8 S S'':=⟨Nat.le_trans a.nx b.nx,fun _ _ h=>b.H _ _ (a.H _ _ h),fun _ _ h=>b.T _ _ (a.T _ _ h)⟩
theorem o8.sub {cx:Cx} {S S':St} {w:World} (h:bf R cx S w) (k:o8 S S'):wL S S' S where
 nx:=rfl
 H:=fun id b hb=>⟨k.H id b hb,by unfold live cur; rw [hb]; cases b <;> simp,h.under hb⟩
 T:=fun id n hn=>⟨k.T id n hn,by
  unfold live cur
  cases hH:S.H.get id with
  | none=>simp only [hn]; simp
  | some b=>cases b <;> simp⟩
def St.Wf (S:St):Prop:=∀ id,live S id→id < S.nx
theorem St.Wf.H {S:St} (h:S.Wf) {id:Nat} {b:tZ} (hb:S.H.get id=some b):id < S.nx:=h id (by unfold live cur; rw [hb]; cases b <;> simp)
theorem St.Wf.fresh {S:St} (h:S.Wf) {id:Nat} (hi:S.nx ≤ id):S.H.get id=none:=by
 cases hb:S.H.get id with
 | none=>rfl
 | some b=>have:=h.H hb; omega
theorem ah.nil {ops:Array Oper} {e:Env} {S:St} {Q:Stp→Prop} (h:Q (.go e S)):ah R C nt ops [] e S Q:=⟨e,.refl e,h⟩
end
end Go.Ev

namespace Go.Ev
noncomputable section
set_option linter.unusedVariables false
set_option linter.unusedSimpArgs false
variable {R:bT} {C:gq} {P:Program} {nt:Nat}
mutual
def D.cn:D→D
 | .aY=>.sl [] false
 | .sl xs _=>.sl (D.zT xs) false
 | .agg xs=>.agg (D.zT xs)
 | .iface t x=>.iface t (D.cn x)
 | x=>x
def D.zT:List D→List D
 | []=>[]
 | x :: xs=>D.cn x :: D.zT xs
end
theorem D.Dn:∀ (l:List D),D.zT l=l.map D.cn
 | []=>rfl
 | x :: l=>by rw [D.zT,D.Dn l]; rfl
def lH (y x:D):Prop:=∀ (w:World) (fr:Nat→Nat→Prop) (v:Value),bH w fr x v→bH w fr y v
theorem lH.refl (x:D):lH x x:=fun _ _ _ h=>h
theorem lH.less {x y:D} (h:lH y x):Less (.d y) (.d x):=fun cx S w v hr=>.d _ _ (h _ _ _ hr.dd)
inductive jO:List D→List D→Prop
 | nil:jO [] []
 | cons {y x:D} {ys xs:List D} (h:lH y x) (k:jO ys xs):jO (y :: ys) (x :: xs)
theorem jO.len {ys xs:List D} (h:jO ys xs):ys.length=xs.length:=by
 induction h with
 | nil=>rfl
 | cons _ _ ih=>simp [ih]
theorem jO.get {ys xs:List D} (h:jO ys xs):∀ {i:Nat} {y x:D},ys[i]? = some y→xs[i]? = some x→lH y x:=by
 induction h with
 | nil=>intro i y x h; simp at h
 | cons h k ih =>
  intro i y x h1 h2
  cases i with
  | zero=>simp at h1 h2; subst h1; subst h2; exact h
  | succ i=>exact ih (by simpa using h1) (by simpa using h2)
theorem jO.refl:∀ (l:List D),jO l l
 | []=>.nil
 | x :: l=>.cons (.refl x) (.refl l)
def aF (args:List AV) (ds:List D):Prop:=∃ ds',lK args=some ds'∧jO ds ds'
def di (R:bT) (P:Program) (f:Nat) (ds:List D) (v:AV):Prop:=∀ args S,aF args ds→fT R P f args S (fun r=>r=(none,v,S))
inductive Bj:AV→AV→Prop
 | one {y x:D} (h:lH y x):Bj (.d y) (.d x)
 | tup {ys xs:List D} (h:jO ys xs):Bj (.tup (ys.map .d)) (.tup (xs.map .d))
theorem Bj.rel {y x:AV} (h:Bj y x) {cx:Cx} {S:St} {w:World} {v:Value} (hr:aM cx S w x v):aM cx S w y v:=by
 cases h with
 | one h=>exact h.less cx S w v hr
 | tup h =>
  cases hr with
  | tup _ us hl hr =>
   refine .tup _ us (by rw [hl]; simp [h.len]) (fun i x z hx hz=>?_)
   simp only [List.getElem?_map,Option.map_eq_some_iff] at hx
   obtain ⟨y,hy,rfl⟩:=hx
   rename_i xs
   have hlt:i < xs.length:=by rw [← h.len]; exact (List.getElem?_eq_some_iff.1 hy).1
   have hx':=List.getElem?_eq_getElem hlt
   exact .d _ _ (h.get hy hx' _ _ _ (hr i (.d xs[i]) z (by simp [hx']) hz).dd)
theorem di.of_wp (hR:ObjOk R) {f:Nat} {fn:Func} {c:Code} (hf:C.P.funcs[f]? = some fn) (hc:fn.body=some c) (hn:(fn.name == "runtime.NumGoroutine")=false) {ds:List D} (hle:Nat.ble ds.length fn.ntmps=true) {v:AV}
  (h:ax R C.P fn.ntmps c (mR 0 (ds.map .d)) aI (EX C fn (fun r=>r.1=none∧∃ v',xJ r.2.1=some v'∧Bj v v'))):di R C.P f ds v:=by
 intro args S ⟨ds',ha,hds⟩
 obtain ⟨d1,d2⟩:=tO ha
 have hlen:ds.length=args.length:=by rw [hds.len,d1]
 have hs:=fT.of_wp hf hc hn (args:=ds.map .d) (by simpa using Nat.le_of_ble_eq_true hle) h
 refine ⟨hs.1,fun cx w us hS hl hr=>?_⟩
 refine (hs.2 cx w us (Fe hS) (by simp [hl,hlen]) (fun i x u hx hu=>?_)).mono (fun e w' he=>?_)
 ·
  simp only [List.getElem?_map,Option.map_eq_some_iff] at hx
  obtain ⟨y,hy,rfl⟩:=hx
  have hlt:i < args.length:=by rw [← hlen]; exact (List.getElem?_eq_some_iff.1 hy).1
  have ha:=List.getElem?_eq_getElem hlt
  have hz:=List.getElem?_eq_getElem (show i < ds'.length by rw [← hds.len,hlen]; exact hlt)
  exact .d _ u (hds.get hy hz _ _ _ (kQ (d2 i _ _ ha hz) (hr i _ u ha hu)))
 ·
  obtain ⟨⟨p,v1,S1⟩,⟨hp,v',hv,hcn⟩,cx1,k1,k2,k3⟩:=he
  simp only at hp hv
  subst hp
  obtain ⟨m1,m2,m3⟩:=yL hR hS k2
  obtain ⟨u,rfl,k3⟩:=k3
  exact ⟨_,rfl,cx,m1,m2,u,rfl,hcn.rel (wB hv k3 (cx':=cx) (S':=S) (w':=w') m3)⟩
inductive dZ:List AV→List AV→Prop
 | nil:dZ [] []
 | cons {y x:AV} {ys xs:List AV} (h:Less y x) (k:dZ ys xs):dZ (y :: ys) (x :: xs)
theorem dZ.len {ys xs:List AV} (h:dZ ys xs):ys.length=xs.length:=by
 induction h with
 | nil=>rfl
 | cons _ _ ih=>simp [ih]
theorem dZ.get {ys xs:List AV} (h:dZ ys xs):∀ {i:Nat} {y x:AV},ys[i]? = some y→xs[i]? = some x→Less y x:=by
 induction h with
 | nil=>intro i y x h; simp at h
 | cons h k ih =>
  intro i y x h1 h2
  cases i with
  | zero=>simp at h1 h2; subst h1; subst h2; exact h
  | succ i=>exact ih (by simpa using h1) (by simpa using h2)
theorem dZ.refl:∀ (l:List AV),dZ l l
 | []=>.nil
 | x :: l=>.cons (.refl x) (.refl l)
inductive bU where
 | box (id:Nat) (cs:List AV)
 | grow (v:AV) (xs:List D)
 | obj (id k:Nat) (x:D)
 | map (id:Nat) (m:vk)
 | row (sz:Nat) (v:AV) (xs:List D)
 | abs (ids:List Nat) (p:St→Prop)
def lF:List D→Bool
 | []=>true
 | x :: l=>!x.isAgg && lF l
def bU.fp:bU→List Nat
 | .box id _=>[id]
 | .grow (.tsl _ tok) _=>[tok]
 | .grow _ _=>[]
 | .obj id _ _=>[id]
 | .map id _=>[id]
 | .row _ (.msl id _ _ _ _ _) _=>[id]
 | .row _ _ _=>[]
 | .abs ids _=>ids
def bU.ok (S:St):bU→Prop
 | .box id cs=>S.H.get id=some (.cells 0 cs)
 | .grow v xs=>match v with
  | .d .aY=>xs=[]
  | .d (.sl ys true)=>ys=xs
  | .tsl ys tok=>ys=xs∧xs ≠ []∧S.T.get tok=some xs.length∧S.H.get tok=none
  | _=>False
 | .obj id k x=>S.H.get id=some (.obj k x)
 | .map id m=>S.H.get id=some (.map m)
 | .row sz v xs=>match v with
  | .d .aY=>xs=[]
  | .d (.sl [] true)=>xs=[]
  | .msl id g off len lim sz'=>off=0∧len=xs.length∧lim=xs.length∧sz'=sz∧0 < sz∧(∀ x ∈ xs,x.cells.length=sz∧lF x.cells=true)∧∃ cs,dZ ((xs.map D.cells).flatten.map .d) cs∧S.H.get id=some (.cells g cs)
  | _=>False
 | .abs ids p=>(∀ id ∈ ids,∃ b,S.H.get id=some b)∧∀ S',(∀ id ∈ ids,S'.H.get id=S.H.get id)→p S'
structure Has (B S:St) (l:List bU):Prop where
 wf:S.Wf
 ok:∀ a ∈ l,a.ok S
 nd:(l.map bU.fp).flatten.Nodup
 bwf:B.Wf
 keeps:o8 B S
 out:∀ a ∈ l,∀ id ∈ a.fp,B.H.get id=none∧B.T.get id=none
theorem wD {S:St} {id n:Nat} (h:S.T.get id=some n):live S id:=by
 unfold live cur
 cases hH:S.H.get id with
 | none=>simp only [h]; simp
 | some b=>cases b <;> simp
theorem mG {S:St} {id:Nat} {b:tZ} (h:S.H.get id=some b):live S id:=by
 unfold live cur; rw [h]; cases b <;> simp
theorem bU.lt {S:St} (wf:S.Wf) {a:bU} (h:a.ok S):∀ id ∈ a.fp,id < S.nx:=by
 intro id hid
 cases a with
 | box i cs=>simp only [bU.fp,List.mem_singleton] at hid; subst hid; exact wf _ (mG h)
 | grow v xs =>
  cases v <;> simp only [bU.fp,List.not_mem_nil,List.mem_singleton] at hid
  subst hid
  exact wf _ (wD h.2.2.1)
 | obj i k x=>simp only [bU.fp,List.mem_singleton] at hid; subst hid; exact wf _ (mG h)
 | map i m=>simp only [bU.fp,List.mem_singleton] at hid; subst hid; exact wf _ (mG h)
 | row sz v xs =>
  cases v <;> simp only [bU.fp,List.not_mem_nil,List.mem_singleton] at hid
  subst hid
  obtain ⟨_,_,hc⟩:=h.2.2.2.2.2.2; exact wf _ (mG hc)
 | abs ids p =>
  obtain ⟨b,hb⟩:=h.1 id hid
  exact wf _ (mG hb)
theorem bU.keep {S S':St} {a:bU} (h:a.ok S) (hH:∀ id ∈ a.fp,S'.H.get id=S.H.get id) (hT:∀ id ∈ a.fp,S'.T.get id=S.T.get id):a.ok S':=by
 cases a with
 | box i cs=>simp only [bU.ok] at h ⊢; rw [hH i (by simp [bU.fp])]; exact h
 | grow v xs =>
  cases v with
  | tsl ys tok=>simp only [bU.ok] at h ⊢; rw [hH tok (by simp [bU.fp]),hT tok (by simp [bU.fp])]; exact h
  | d x=>cases x with
   | sl ys t=>cases t <;> exact h
   | _=>exact h
  | _=>exact h
 | obj i k x=>simp only [bU.ok] at h ⊢; rw [hH i (by simp [bU.fp])]; exact h
 | map i m=>simp only [bU.ok] at h ⊢; rw [hH i (by simp [bU.fp])]; exact h
 | row sz v xs =>
  cases v with
  | msl id g off len lim sz=>simp only [bU.ok] at h ⊢; rw [hH id (by simp [bU.fp])]; exact h
  | d x=>cases x with
   | sl ys t=>cases ys <;> cases t <;> exact h
   | _=>exact h
  | _=>exact h
 | abs ids p=>exact ⟨fun id hid=>by rw [hH id hid]; exact h.1 id hid,fun S2 h2=>h.2 S2 (fun id hid=>(h2 id hid).trans (hH id hid))⟩
theorem bU.Jg {S S':St} {ids:List Nat} {p:St→Prop} (h:(bU.abs ids p).ok S) (k:∀ id b,id ∈ ids→S.H.get id=some b→S'.H.get id=some b):(bU.abs ids p).ok S' :=
 have e:∀ id ∈ ids,S'.H.get id=S.H.get id:=fun id hid=>by obtain ⟨b,hb⟩:=h.1 id hid; rw [k id b hid hb,hb]
 ⟨fun id hid=>by rw [e id hid]; exact h.1 id hid,fun S2 h2=>h.2 S2 (fun id hid=>(h2 id hid).trans (e id hid))⟩
theorem Has.start {S:St} (wf:S.Wf):Has S S []:=⟨wf,(fun a h=>by cases h),by simp,wf,.refl S,(fun a h=>by cases h)⟩
theorem Has.pure:Has aI aI []:=.start fun id h=>absurd rfl h
theorem zV {α β:Type} (f:α→List β) {l' l:List α} (s:l'.Sublist l):(l'.map f).flatten.Sublist (l.map f).flatten:=by
 induction s with
 | slnil=>exact List.Sublist.refl _
 | cons a _ ih=>exact ih.trans (by simp)
 | cons_cons a _ ih=>simpa using ih.append_left (f a)
theorem Has.weaken {B S:St} {l l':List bU} (h:Has B S l) (s:l'.Sublist l):Has B S l' :=
 ⟨h.wf,fun a ha=>h.ok a (s.subset ha),h.nd.sublist (zV bU.fp s),h.bwf,h.keeps,fun a ha=>h.out a (s.subset ha)⟩
theorem Has.new {B S:St} {l:List bU} (h:Has B S l) (b:tZ) {a:bU} (hf:a.fp=[S.nx]) (ha:a.ok (dh S b)):Has B (dh S b) (a :: l):=by
 have hlt:∀ x ∈ l,∀ id ∈ x.fp,id < S.nx:=fun x hx=>bU.lt h.wf (h.ok x hx)
 refine ⟨fun id hl=>?_,fun x hx=>?_,?_,h.bwf,⟨Nat.le_trans h.keeps.nx (Nat.le_succ _),fun id b' hb'=>?_,fun id n hn=>h.keeps.T id n hn⟩,fun x hx id hid=>?_⟩
 rotate_left 3
 ·
  have:=h.bwf.H hb'
  have:=h.keeps.nx
  simp only [dh,AL.aX]
  rw [if_neg (by omega)]; exact h.keeps.H id b' hb'
 ·
  rcases List.mem_cons.1 hx with rfl | hx
  ·
   rw [hf,List.mem_singleton] at hid
   subst hid
   have hnl:¬ live B S.nx:=fun hl=>by have:=h.bwf _ hl; have:=h.keeps.nx; omega
   refine ⟨?_,?_⟩
   ·
    cases hB:B.H.get S.nx with
    | none=>rfl
    | some b'=>exact (hnl (mG hB)).elim
   ·
    cases hB:B.T.get S.nx with
    | none=>rfl
    | some b'=>exact (hnl (wD hB)).elim
  ·
   exact h.out x hx id hid
 ·
  show id < S.nx + 1
  unfold live cur at hl
  simp only [dh,AL.aX] at hl
  by_cases hi:S.nx=id
  ·
   omega
  ·
   rw [if_neg hi] at hl
   have:=h.wf id hl
   omega
 ·
  rcases List.mem_cons.1 hx with rfl | hx
  ·
   exact ha
  ·
   refine bU.keep (h.ok x hx) (fun id hid=>?_) (fun id hid=>rfl)
   have:=hlt x hx id hid
   simp only [dh,AL.aX]
   rw [if_neg (by omega)]
 ·
  rw [List.map_cons,List.flatten_cons,hf,List.singleton_append,List.nodup_cons]
  refine ⟨fun hm=>?_,h.nd⟩
  obtain ⟨GR,hfps,hid⟩:=List.mem_flatten.1 hm
  obtain ⟨x,hx,rfl⟩:=List.mem_map.1 hfps
  have:=hlt x hx _ hid
  omega
theorem Has.box {B S:St} {l:List bU} (h:Has B S l) (cs:List AV):Has B (dh S (.cells 0 cs)) (.box S.nx cs :: l) :=
 h.new _ rfl (by simp [bU.ok,dh,AL.aX])
theorem Has.BH {B S:St} {l:List bU} (h:Has B S l):AL.has S.H S.nx=false:=by
 cases hb:AL.has S.H S.nx with
 | false=>rfl
 | true =>
  obtain ⟨b,hb⟩:=AL.wT hb
  have:=h.wf _ (mG hb)
  omega
theorem xk {l:List bU} (hn:(l.map bU.fp).flatten.Nodup) {i j:Nat} {a b:bU} (ha:l[i]? = some a) (hb:l[j]? = some b) (hij:i ≠ j) {id:Nat} (h1:id ∈ a.fp) (h2:id ∈ b.fp):False:=by
 induction l generalizing i j with
 | nil=>simp at ha
 | cons x l ih =>
  rw [List.map_cons,List.flatten_cons,List.nodup_append] at hn
  obtain ⟨n1,n2,n3⟩:=hn
  cases i with
  | zero =>
   cases j with
   | zero=>exact hij rfl
   | succ j =>
    simp only [List.getElem?_cons_zero,Option.some.injEq] at ha
    subst ha
    simp only [List.getElem?_cons_succ] at hb
    exact n3 id h1 id (List.mem_flatten.2 ⟨_,List.mem_map.2 ⟨b,List.mem_of_getElem? hb,rfl⟩,h2⟩) rfl
  | succ i =>
   simp only [List.getElem?_cons_succ] at ha
   cases j with
   | zero =>
    simp only [List.getElem?_cons_zero,Option.some.injEq] at hb
    subst hb
    exact n3 id h2 id (List.mem_flatten.2 ⟨_,List.mem_map.2 ⟨a,List.mem_of_getElem? ha,rfl⟩,h1⟩) rfl
   | succ j =>
    simp only [List.getElem?_cons_succ] at hb
    exact ih n2 ha hb (by omega)
theorem Has.set {B S S':St} {l:List bU} (h:Has B S l) {i:Nat} {a a':bU} (hi:l[i]? = some a) (hf:a'.fp=a.fp) (ha:a'.ok S') (wf:S'.Wf)
  (hH:∀ id,id ∉ a.fp→S'.H.get id=S.H.get id) (hT:∀ id,id ∉ a.fp→S'.T.get id=S.T.get id) (hnx:S'.nx=S.nx):Has B S' (l.set i a'):=by
 have hil:i < l.length:=(List.getElem?_eq_some_iff.1 hi).1
 have hma:=List.mem_of_getElem? hi
 refine ⟨wf,fun x hx=>?_,?_,h.bwf,⟨by rw [hnx]; exact h.keeps.nx,fun id b hb=>?_,fun id n hn=>?_⟩,fun x hx id hid=>?_⟩
 rotate_left 2
 ·
  rw [hH id (fun q=>by rw [(h.out a hma id q).1] at hb; cases hb)]; exact h.keeps.H id b hb
 ·
  rw [hT id (fun q=>by rw [(h.out a hma id q).2] at hn; cases hn)]; exact h.keeps.T id n hn
 ·
  rcases List.mem_or_eq_of_mem_set hx with hx | rfl
  ·
   exact h.out x hx id hid
  ·
   rw [hf] at hid; exact h.out a hma id hid
 ·
  obtain ⟨j,hj,rfl⟩:=List.getElem_of_mem hx
  rw [List.length_set] at hj
  by_cases hij:i=j
  ·
   subst hij; rw [List.getElem_set_self]; exact ha
  ·
   rw [List.getElem_set_ne hij]
   have hlj:l[j]? = some l[j]:=List.getElem?_eq_getElem hj
   refine bU.keep (h.ok l[j] (List.getElem_mem hj)) (fun id hid=>hH id (fun q=>xk h.nd hi hlj hij q hid)) (fun id hid=>hT id (fun q=>xk h.nd hi hlj hij q hid))
 ·
  have:(l.set i a').map bU.fp=l.map bU.fp:=by
   apply List.ext_getElem?
   intro j
   rw [List.getElem?_map,List.getElem?_map,List.getElem?_set]
   by_cases hij:i=j
   ·
    subst hij; have:=(List.getElem?_eq_some_iff.1 hi).2; simp [hil,hf,this]
   ·
    simp [hij]
  rw [this]; exact h.nd
theorem Has.at {B S:St} {l:List bU} (h:Has B S l) {i:Nat} {a:bU} (hi:l[i]? = some a):a.ok S:=h.ok a (List.mem_of_getElem? hi)
theorem Has.write {B S:St} {l:List bU} (h:Has B S l) {i id:Nat} {cs cs':List AV} (hi:l[i]? = some (.box id cs)):Has B { S with H:=S.H.set id (.cells 0 cs') } (l.set i (.box id cs')):=by
 have hid:=h.at hi
 refine h.set hi rfl (by simp [bU.ok,AL.aX]) (fun j hl=>?_) (fun j hj=>?_) (fun j hj=>rfl) rfl
 ·
  refine h.wf j ?_
  unfold live cur at hl ⊢
  simp only [AL.aX] at hl
  by_cases hij:id=j
  ·
   subst hij; rw [show S.H.get id=_ from hid]; simp
  ·
   rw [if_neg hij] at hl; exact hl
 ·
  simp only [bU.fp,List.mem_singleton] at hj
  simp only [AL.aX]
  rw [if_neg (fun q=>hj q.symm)]
end
end Go.Ev

namespace Go.Ev
noncomputable section
set_option linter.unusedVariables false
set_option linter.unusedSimpArgs false
variable {R:bT} {C:gq} {P:Program} {nt:Nat}
def kT:Option tZ→Option tZ→Prop
 | some (.cells g' cs'),some (.cells g cs)=>g'=g∧dZ cs' cs
 | a,b=>a=b
theorem kT.refl (a:Option tZ):kT a a:=by
 cases a with
 | none=>rfl
 | some b=>cases b with
  | cells g cs=>exact ⟨rfl,.refl _⟩
  | map m=>rfl
  | obj k x=>rfl
structure jg (S2 S:St):Prop where
 nx:S2.nx=S.nx
 T:∀ id,S2.T.get id=S.T.get id
 H:∀ id,kT (S2.H.get id) (S.H.get id)
theorem kT.cases {a b:Option tZ} (h:kT a b):a=b∨∃ g cs' cs,a=some (.cells g cs')∧b=some (.cells g cs)∧dZ cs' cs:=by
 unfold kT at h
 split at h
 ·
  obtain ⟨rfl,h⟩:=h; exact .inr ⟨_,_,_,rfl,rfl,h⟩
 ·
  exact .inl h
theorem jg.cur {S2 S:St} (k:jg S2 S) (id:Nat):cur S2 id=cur S id:=by
 unfold Ev.cur
 rcases (k.H id).cases with h | ⟨g,cs',cs,h1,h2,_⟩
 ·
  rw [h,k.T]
 ·
  rw [h1,h2]
theorem jg.isIt {S2 S:St} (k:jg S2 S) {id g:Nat}:isIt S2 id g↔isIt S id g:=by
 unfold Ev.isIt
 rcases (k.H id).cases with h | ⟨g,cs',cs,h1,h2,_⟩
 ·
  rw [h]
 ·
  rw [h1,h2]; simp
theorem jg.live {S2 S:St} (k:jg S2 S) {id:Nat}:live S2 id↔live S id:=by unfold Ev.live; rw [k.cur]
theorem jg.refl (S:St):jg S S:=⟨rfl,fun _=>rfl,fun _=>kT.refl _⟩
theorem aM.gK {cx:Cx} {S2 S:St} {w:World} (k:jg S2 S) {x:AV} {v:Value} (h:aM cx S w x v):aM cx S2 w x v:=by
 have nm:∀ {id g:Nat},Names S id g→Names S2 id g:=fun h=>⟨by rw [k.nx]; exact h.1,fun g' hg=>h.2 g' (by rw [← k.cur]; exact hg)⟩
 have cr:∀ {id:Nat} {o:Option Nat},cur S2 id=o→cur S id=o:=fun h=>by rw [← k.cur]; exact h
 induction h with
 | d x v hd=>exact .d x v hd
 | tsl xs tok b off cap hn hd hp=>exact .tsl xs tok b off cap (nm hn) hd (fun hc=>hp (cr hc))
 | ptr id g off b hn hp=>exact .ptr id g off b (nm hn) (fun hc=>hp (cr hc))
 | msl id g off len lim sz b cap hn hl hcap h63 hp=>exact .msl id g off len lim sz b cap (nm hn) hl hcap h63 (fun hc=>hp (cr hc))
 | any v=>exact .any v
 | eptr x off b o vs hd hc=>exact .eptr x off b o vs hd hc
 | map id b hn hp=>exact .map id b (nm hn) (fun hc=>hp (cr hc))
 | asl id g off len sz b hn h63 hp=>exact .asl id g off len sz b (nm hn) h63 (fun hc=>hp (cr hc))
 | fn f cs vs hl hr ih=>exact .fn f cs vs hl ih
 | agg xs vs hl ho hr ih=>exact .agg xs vs hl ho ih
 | tup xs vs hl hr ih=>exact .tup xs vs hl ih
 | it0 k' g since st b seen hn hp =>
  exact .it0 k' g since st b seen (nm hn) (fun hk=>by
   obtain ⟨p1,p2,p3,p4⟩:=hp (k.isIt.1 hk)
   exact ⟨p1,p2,fun i hi hf=>p3 i (by rw [← k.cur]; exact hi) hf,p4⟩)
 | it k' g id since st b m seen hn hni hm hp =>
  exact .it k' g id since st b m seen (nm hn) (nm hni) (fun hc=>hm (cr hc)) (fun hk=>by
   obtain ⟨p1,p2,p3,p4⟩:=hp (k.isIt.1 hk)
   exact ⟨p1,p2,fun i hi hf=>p3 i (by rw [← k.cur]; exact hi) hf,p4⟩)
theorem bf.gK {cx:Cx} {S2 S:St} {w:World} (h:bf R cx S w) (k:jg S2 S):bf R cx S2 w where
 wf:=fun id hl=>by rw [k.nx]; exact h.wf id (k.live.1 hl)
 pJ:=fun id b hb=>by
  rw [k.T]
  rcases (k.H id).cases with q | ⟨g,cs',cs,h1,h2,_⟩
  ·
   rw [q] at hb; exact h.pJ id b hb
  ·
   exact h.pJ id _ h2
 cells:=fun id g cs hb=>by
  rcases (k.H id).cases with q | ⟨g',cs',ds,h1,h2,h3⟩
  ·
   rw [q] at hb
   obtain ⟨c1,c2,arr,el,c3,c4,c5⟩:=h.cells id g cs hb
   refine ⟨c1,c2,arr,el,c3,c4,fun i x hx=>?_⟩
   obtain ⟨v,v1,v2,v3⟩:=c5 i x hx
   exact ⟨v,v1,v2.gK k,v3⟩
  ·
   rw [h1] at hb; cases hb
   obtain ⟨c1,c2,arr,el,c3,c4,c5⟩:=h.cells id _ ds h2
   refine ⟨c1,c2,arr,el,c3,by rw [h3.len]; exact c4,fun i x hx=>?_⟩
   have hlt:i < ds.length:=by rw [← h3.len]; exact (List.getElem?_eq_some_iff.1 hx).1
   have hy:=List.getElem?_eq_getElem hlt
   obtain ⟨v,v1,v2,v3⟩:=c5 i _ hy
   exact ⟨v,v1,(h3.get hx hy _ _ _ _ v2).gK k,v3⟩
 maps:=fun id es hb=>by
  rcases (k.H id).cases with q | ⟨g',cs',ds,h1,h2,h3⟩
  ·
   rw [q] at hb
   obtain ⟨c1,c2,ms,clk,c3,c4,c5⟩:=h.maps id es hb
   refine ⟨c1,c2,ms,clk,c3,c4,fun i p m hp hm=>?_⟩
   obtain ⟨v1,v2⟩:=c5 i p m hp hm
   exact ⟨v1,v2.gK k⟩
  ·
   rw [h1] at hb; cases hb
 objs:=fun id kd x hb=>by
  rcases (k.H id).cases with q | ⟨g',cs',ds,h1,h2,h3⟩
  ·
   rw [q] at hb; exact h.objs id kd x hb
  ·
   rw [h1] at hb; cases hb
 toks:=fun id en hb=>h.toks id en (by rw [← k.T]; exact hb)
 sep:=fun id id' b a1 a2=>h.sep id id' b (k.live.1 a1) (k.live.1 a2)
 lt:=h.lt
 stat:=h.stat
theorem Ext.gK {cx cx':Cx} {S2 S S':St} {w w':World} (k:jg S2 S) (e:Ext cx S2 w cx' S' w'):Ext cx S w cx' S' w' where
 size:=e.size
 os:=e.os
 tape:=e.tape
 output:=e.output
 nx:=by rw [← k.nx]; exact e.nx
 prot:=e.prot
 other:=fun b hb hn=>e.other b hb (fun id hl hf=>by
  obtain ⟨q1,g,q2,q3⟩:=hn id (k.live.1 hl) hf
  exact ⟨by rw [k.nx]; exact q1,g,k.isIt.2 q2,q3⟩)
 own:=fun id b hl hf=>by
  obtain ⟨q1,q2⟩:=e.own id b hl hf
  rw [k.nx] at q1 q2
  exact ⟨fun h=>⟨k.live.1 (q1 h).1,(q1 h).2⟩,q2⟩
 back:=fun id g hid hi=>by
  obtain ⟨g',h⟩:=e.back id g (by rw [k.nx]; exact hid) hi
  exact ⟨g',k.isIt.1 h⟩
 keep:=fun id g b hid h0 hi hf=>e.keep id g b (by rw [k.nx]; exact hid) (k.isIt.2 h0) hi hf
 curs:=fun id g hid hg=>by
  obtain ⟨g0,h0,h1⟩:=e.curs id g (by rw [k.nx]; exact hid) hg
  exact ⟨g0,by rw [← k.cur]; exact h0,h1⟩
theorem Fin.gK {cx:Cx} {S2 S:St} {w:World} {a:Act} {K:Exit→Act→World→Prop} (k:jg S2 S) {r:rq} (h:Fin R cx S w nt a K r):Fin R cx S2 w nt a K r:=by
 obtain ⟨x,e,S'⟩:=r
 cases x with
 | normal=>exact fun cx' a' w' q1 q2 q3 q4=>h cx' a' w' q1 (q2.gK k) q3 q4
 | exit id=>exact fun cx' a' w' q1 q2 q3 q4=>h cx' a' w' q1 (q2.gK k) q3 q4
 | ret=>exact fun cx' a' w' q1 q2 q3 q4=>h cx' a' w' q1 (q2.gK k) q3 q4
 | panic v=>exact fun cx' a' w' u q1 q2 q3 q4=>h cx' a' w' u q1 (q2.gK k) q3 q4
theorem gD.gK {cx:Cx} {S2 S:St} {w:World} {e:Env} {a:Act} (k:jg S2 S) (h:gD cx S w nt e a):gD cx S2 w nt e a :=
 ⟨h.size,fun t x hx=>let ⟨v,v1,v2⟩:=h.rel t x hx; ⟨v,v1,v2.gK k⟩⟩
theorem ax.gK {c:Code} {e:Env} {S2 S:St} {Q:rq→Prop} (k:jg S2 S) (h:ax R P nt c e S2 Q):ax R P nt c e S Q :=
 fun cx w a K h1 h2 h3=>h cx w a K (h1.gK k) (h2.gK k) (fun r q=>(h3 r q).gK k)
theorem lV.gK {c:Code} {e:Env} {S2 S:St} {Q:rq→Prop} (k:jg S2 S) (h:lV R P nt c e S2 Q):lV R P nt c e S Q :=
 fun cx w a K h1 h2 h3=>h cx w a K (h1.gK k) (h2.gK k) (fun r q=>(h3 r q).gK k)
theorem Has.Dp {B S:St} {l:List bU} (h:Has B S l) {i id:Nat} {cs cs':List AV} (hi:l[i]? = some (.box id cs)) (hl:dZ cs' cs):∃ S2,jg S2 S∧Has B S2 (l.set i (.box id cs')):=by
 refine ⟨{ S with H:=S.H.set id (.cells 0 cs') },⟨rfl,fun _=>rfl,fun j=>?_⟩,h.write hi⟩
 simp only [AL.aX]
 by_cases hj:id=j
 ·
  subst hj
  have:S.H.get id=some (.cells 0 cs):=h.at hi
  rw [if_pos rfl,this]; exact ⟨rfl,hl⟩
 ·
  rw [if_neg hj]; exact kT.refl _
theorem ax.ghost {c:Code} {e e2:Env} {S S2:St} {Q:rq→Prop} (g:mO R nt e S e2 S2) (h:ax R P nt c e2 S2 Q):ax R P nt c e S Q:=fun cx w a K h1 h2 h3=>by
 obtain ⟨c2,q1,q2,q3⟩:=g cx w a h1 h2
 exact h c2 w a K q1 q3 (fun r q=>(h3 r q).trans q2 rfl)
theorem lV.ghost {c:Code} {e e2:Env} {S S2:St} {Q:rq→Prop} (g:mO R nt e S e2 S2) (h:lV R P nt c e2 S2 Q):lV R P nt c e S Q:=fun cx w a K h1 h2 h3=>by
 obtain ⟨c2,q1,q2,q3⟩:=g cx w a h1 h2
 exact h c2 w a K q1 q3 (fun r q=>(h3 r q).trans q2 rfl)
end
end Go.Ev

namespace Go.Ev
noncomputable section
set_option linter.unusedVariables false
set_option linter.unusedSimpArgs false
variable {B:St}
section steps
variable {R:bT} {C:gq} {nt:Nat} {ops:Array Oper} {rest:List Oper} {e:Env} {S S':St} {Q:Stp→Prop} {l l':List bU} {t ty:Nat} {p:String} {af:Array Edge} {g:Option (Nat × Bool)}
theorem ah.one {o:Oper} (hw:dn ops e o=some true) (h:Bt R C nt o.dst o.op e S (fun r=>match r with
  | .go e' S'=>ah R C nt ops rest e' S' Q
  | .stop v S'=>Q (.stop v S'))):ah R C nt ops (o :: rest) e S Q:=⟨e,S,.refl e S,.inr (.inl ⟨e,.refl e,hw,h⟩)⟩
theorem ah.val {op:Op} {v:AV} (hw:dn ops e { dst:=some t,op:=op,type:=ty,pos:=p,after:=af,guard:=g }=some true) (ho:oper C (dX e) S op=some (.val v S')) (ht:Nat.blt t nt=true) (k:ah R C nt ops rest ((t,v) :: e) S' Q) :
  ah R C nt ops ({ dst:=some t,op:=op,type:=ty,pos:=p,after:=af,guard:=g } :: rest) e S Q :=
 ah.one hw (.inl ⟨v,S',_,ho,by simp only [Env.put,ht,cond_true],k⟩)
theorem ah.skip {op:Op} (hw:dn ops e { dst:=none,op:=op,type:=ty,pos:=p,after:=af,guard:=g }=some true) (ho:oper C (dX e) S op=some (.skip S')) (k:ah R C nt ops rest e S' Q) :
  ah R C nt ops ({ dst:=none,op:=op,type:=ty,pos:=p,after:=af,guard:=g } :: rest) e S Q :=
 ah.one hw (.inr (.inl ⟨S',ho,rfl,k⟩))
theorem ah.ret {op:Op} {f:Nat} {args:List AV} {v:AV} (hw:dn ops e { dst:=some t,op:=op,type:=ty,pos:=p,after:=af,guard:=g }=some true) (ho:oper C (dX e) S op=some (.call f args)) (hs:fT R C.P f args S (fun r=>r=(none,v,S'))) (ht:Nat.blt t nt=true) (k:ah R C nt ops rest ((t,v) :: e) S' Q) :
  ah R C nt ops ({ dst:=some t,op:=op,type:=ty,pos:=p,after:=af,guard:=g } :: rest) e S Q :=
 ah.one hw (.inr (.inr (.inl ⟨f,args,ho,hs.mono fun r hr=>by subst hr; exact ⟨_,by simp only [Env.put,ht,cond_true],k⟩⟩)))
theorem ah.no {op:Op} (hw:dn ops e { dst:=some t,op:=op,type:=ty,pos:=p,after:=af,guard:=g }=some false) (ht:Nat.blt t nt=true)
  (k:ah R C nt ops rest ((t,.tup []) :: e) S Q) :
  ah R C nt ops ({ dst:=some t,op:=op,type:=ty,pos:=p,after:=af,guard:=g } :: rest) e S Q :=
 ⟨e,S,.refl e S,.inr (.inr (.inl ⟨e,_,.refl e,hw,(by simp only [Env.put,ht,cond_true]),k⟩))⟩
theorem ah.app:∀ (l1:List Oper) {l2:List Oper} {e:Env} {S:St} {Q:Stp→Prop},ah R C nt ops l1 e S (fun r=>match r with | .go e' S'=>ah R C nt ops l2 e' S' Q | .stop v S'=>Q (.stop v S'))→ah R C nt ops (l1 ++ l2) e S Q
 | [],l2,e,S,Q,⟨e2,hs,h⟩=>ah.weak hs h
 | o :: l1,l2,e,S,Q,⟨e2,S2,hs,h⟩=>⟨e2,S2,hs,h.mono fun r hr=>by
   cases r with
   | go e' S'=>exact ah.app l1 hr
   | stop v S'=>exact hr⟩
theorem ah.mono:∀ {L:List Oper} {e:Env} {S:St} {Q Q':Stp→Prop},ah R C nt ops L e S Q→(∀ r,Q r→Q' r)→ah R C nt ops L e S Q'
 | [],e,S,Q,Q',⟨e2,hs,h⟩,hq=>⟨e2,hs,hq _ h⟩
 | o :: l1,e,S,Q,Q',⟨e2,S2,hs,h⟩,hq=>⟨e2,S2,hs,h.mono fun r hr=>by
   cases r with
   | go e' S'=>exact ah.mono hr hq
   | stop v S'=>exact hq _ hr⟩
end steps
section opers
variable {C:gq} {e:Env} {ρ:Operand→Option AV} {S:St} {l l':List bU} {v:AV} {x y:Operand} {t:Nat}
theorem ai (h:ρ x=some v):oper C ρ S (.assign x)=some (.val v S):=by simp only [oper,h,Option.map_some]
theorem ae (h:ρ x=some v):oper C ρ S (.move x)=some (.val v S):=by simp only [oper,h,Option.map_some]
theorem ay {c:Operand} {b:Bool} (hc:ρ c=some (.d (.bool b))) (h:ρ (if b then x else y)=some v):oper C ρ S (.pick c x y)=some (.val v S):=by simp only [oper,hc,h,Option.map_some]
theorem EK (H:Has B S l) {cs:List AV} (h:ρ x=some v) (hp:v.plain=true) (hc:v.cells=cs):oper C ρ S (.box t x)=some (.val (.ptr S.nx 0 0) (dh S (.cells 0 cs))):=by
 subst hc
 simp only [oper,h,hp,if_true,H.BH,cond_false]; rfl
theorem Ce (H:Has B S l) {z:D} {cs:List AV} (ho:C.objT t=none) (hz:zeroOf C.P t=some z) (hc:(AV.d z).cells=cs):oper C ρ S (.alloc t)=some (.val (.ptr S.nx 0 0) (dh S (.cells 0 cs))):=by
 subst hc
 simp only [oper,ho,hz,Option.map_some,H.BH,cond_false]; rfl
theorem aj {s fld id g off fo ft o':Nat} (h:ρ x=some (.ptr id g off)) (hf:dU C.P s fld=some (fo,ft)) (hz:Nat.beq (aK C.P ft) 0=false) (ho:off + fo=o'):oper C ρ S (.fieldAddr s x fld)=some (.val (.ptr id g o') S):=by
 subst ho
 simp only [oper,h,hf]
 rw [if_neg (fun q=>by rw [q] at hz; simp at hz)]
theorem lN {s fld off fo ft o':Nat} {d:D} (h:ρ x=some (.eptr d off)) (hf:dU C.P s fld=some (fo,ft)) (hz:Nat.beq (aK C.P ft) 0=false) (ho:off + fo=o'):oper C ρ S (.fieldAddr s x fld)=some (.val (.eptr d o') S):=by
 subst ho
 simp only [oper,h,hf]
 rw [if_neg (fun q=>by rw [q] at hz; simp at hz)]
theorem aA {P:Program} {cs:List AV} {off:Nat} (ha:eZ P t=some false) (h:cs[off]? = some v):part P t cs off=some v:=by simp only [part,ha,h]
theorem aW {P:Program} {cs:List AV} {off n:Nat} (ha:eZ P t=some true) (hz:aK P t=n) (hl:Nat.ble (off + n) cs.length=true):part P t cs off=some (jW ((cs.drop off).take n)):=by
 subst hz
 simp only [part,ha]; rw [if_pos (Nat.le_of_ble_eq_true hl)]
theorem fQ {P:Program} {cs:List D} {off:Nat} {d:D} (ha:eZ P t=some false) (h:cs[off]? = some d):iF P t cs off=some d:=by simp only [iF,ha,h]
theorem oz {P:Program} {cs:List D} {off n:Nat} (ha:eZ P t=some true) (hz:aK P t=n) (hl:Nat.ble (off + n) cs.length=true):iF P t cs off=some (.agg ((cs.drop off).take n)):=by
 subst hz
 simp only [iF,ha]; rw [if_pos (Nat.le_of_ble_eq_true hl)]
theorem av (H:Has B S l) {i id off:Nat} {cs:List AV} (h:ρ x=some (.ptr id 0 off)) (hi:l[i]? = some (.box id cs)) (hp:part C.P t cs off=some v):oper C ρ S (.load t x)=some (.val v S):=by
 have hb:S.H.get id=some (.cells 0 cs):=H.at hi
 simp only [oper,h,mg,St.look,hb,Nat.beq_refl,cond_true,hp,Option.map_some]
theorem aV {off:Nat} {d r:D} (h:ρ x=some (.eptr d off)) (hp:iF C.P t d.cells off=some r):oper C ρ S (.load t x)=some (.val (.d r) S):=by
 simp only [oper,h,mg,hp,Option.map_some]
theorem Ch (H:Has B S l) {i id off n:Nat} {cs cv:List AV} (ha:ρ x=some (.ptr id 0 off)) (hy:ρ y=some v) (hcv:v.cells=cv) (hn:cv.length=n) (hz:aK C.P t=n) (hp:v.plain=true) (hag:(eZ C.P t).isSome=true) (hi:l[i]? = some (.box id cs)) (hb:Nat.ble (off + n) cs.length=true) :
  oper C ρ S (.store t x y)=some (.skip { S with H:=S.H.set id (.cells 0 (setAt cs off cv)) }):=by
 subst hcv
 subst hn
 have hg:S.H.get id=some (.cells 0 cs):=H.at hi
 simp only [oper,ha,hy,sV,hg]
 rw [if_pos ⟨hz.symm,hp,hag⟩,if_pos trivial,if_pos (Nat.le_of_ble_eq_true hb)]
 rfl
theorem gJ {tt:Nat} {n:Nat} (h:ρ x=some v) (ht:nK C tt v=true) (hn:mF v S=some n):oper C ρ S (.call { callee:=.builtin .len,args:=#[x],argTypes:=#[tt] })=some (.val (.d (.int .i64 (n:Int))) S):=by
 have:iM ρ [x]=some [v]:=by simp only [iM,h,Option.map_some]
 simp only [oper,this,jR,List.getElem?_toArray,List.getElem?_cons_zero,ht,if_true,hn,Option.map_some]
theorem au {op:BinOp} {ty:Nat} {a b:AV} {r:D} (hx:ρ x=some a) (hy:ρ y=some b) (hb:iQ C.P t op a b=some r):oper C ρ S (.binOp op t x y ty)=some (.val (.d r) S):=by
 simp only [oper,hx,hy,hb,Option.map_some]
theorem dW {b:Bool} (hx:ρ x=some (.d (.bool b))):oper C ρ S (.unOp .not t x)=some (.val (.d (.bool (!b))) S):=by simp only [oper,hx]
theorem Fj {k:IntKind} {n:Int} (hx:ρ x=some (.d (.int k n))):oper C ρ S (.unOp .neg t x)=some (.val (.d (.int k (k.wrap (0 - n)))) S):=by simp only [oper,hx]
theorem qP {src dst:Nat} {k k':IntKind} {n:Int} (hx:ρ x=some (.d (.int k n))) (hs:(C.P.underlying src).isSome=true) (hk:Ct C.P dst=some k'):oper C ρ S (.convert src dst x)=some (.val (.d (.int k' (k'.wrap n))) S):=by
 simp only [oper,hx,wP,hs,if_true,hk,Option.map_some]
theorem aN {i:Nat} {vs:List AV} (hx:ρ x=some (.tup vs)) (hi:vs[i]? = some v):oper C ρ S (.extract x i)=some (.val v S):=by simp only [oper,hx,hi,Option.map_some]
theorem aC {f:Nat} {arr_:Array Operand} {ts:Array Nat} {args:List AV} (ha:iM ρ arr_.toList=some args) (hf:ρ (.func f)=some (.fn f [])):oper C ρ S (.call { callee:=.value (.func f),args:=arr_,argTypes:=ts })=some (.call f args):=by
 simp only [oper,hf,ha,List.append_nil]
theorem bA {n:Int} {k:IntKind} {r:AV} (hx:ρ x=some v) (hy:ρ y=some (.d (.int k n))) (hi:gQ C t v (.d (.int k n))=some r):oper C ρ S (.indexAddr t x y)=some (.val r S):=by simp only [oper,hx,hy,hi,Option.map_some]
theorem nA {n:Int} {k:IntKind} {s:List UInt8} {c:UInt8} (hx:ρ x=some (.d (.str s))) (hy:ρ y=some (.d (.int k n))) (hn:0 ≤ n) (ht:qY C.P t=true) (hc:s[n.toNat]? = some c):oper C ρ S (.index t x y)=some (.val (.d (.int .u8 c.toNat)) S):=by
 simp only [oper,hx,hy,hn,ht,decide_true,Bool.and_self,if_true,hc,Option.map_some]
theorem bq {P:Program} {k:IntKind} {a b:Int}:iQ P t .add (.d (.int k a)) (.d (.int k b))=some (.int k (k.wrap (a + b))):=by simp only [iQ,if_true,kC]
theorem mV {P:Program} {k:IntKind} {a b:Int}:iQ P t .sub (.d (.int k a)) (.d (.int k b))=some (.int k (k.wrap (a - b))):=by simp only [iQ,if_true,kC]
theorem F5 {P:Program} {k:IntKind} {a b:Int} (h:b ≠ 0):iQ P t .quo (.d (.int k a)) (.d (.int k b))=some (.int k (k.wrap (a.tdiv b))):=by simp only [iQ,if_true,kC,if_neg h]
theorem Fh {P:Program} {k:IntKind} {a b:Int} (h:b ≠ 0):iQ P t .rem (.d (.int k a)) (.d (.int k b))=some (.int k (a.tmod b)):=by simp only [iQ,if_true,kC,if_neg h]
def Hz (k:IntKind) (a b:Int):Int:=k.wrap (BitVec.ofInt k.bits a &&& BitVec.ofInt k.bits b).toNat
theorem E8 {P:Program} {k:IntKind} {a b:Int}:iQ P t .and (.d (.int k a)) (.d (.int k b))=some (.int k (Hz k a b)):=by simp only [iQ,if_true,kC]; rfl
theorem aU {P:Program} {k:IntKind} {a b:Int}:iQ P t .eql (.d (.int k a)) (.d (.int k b))=some (.bool (a == b)):=by simp only [iQ,if_true,kC]
theorem jl {P:Program} {k:IntKind} {a b:Int}:iQ P t .neq (.d (.int k a)) (.d (.int k b))=some (.bool (a != b)):=by simp only [iQ,if_true,kC]
theorem bJ {P:Program} {k:IntKind} {a b:Int}:iQ P t .lss (.d (.int k a)) (.d (.int k b))=some (.bool (decide (a < b))):=by simp only [iQ,if_true,kC]
theorem iG {P:Program} {k:IntKind} {a b:Int}:iQ P t .leq (.d (.int k a)) (.d (.int k b))=some (.bool (decide (a ≤ b))):=by simp only [iQ,if_true,kC]
theorem fJ {P:Program} {k:IntKind} {a b:Int}:iQ P t .gtr (.d (.int k a)) (.d (.int k b))=some (.bool (decide (b < a))):=by simp only [iQ,if_true,kC]
theorem kz {P:Program} {k:IntKind} {a b:Int}:iQ P t .geq (.d (.int k a)) (.d (.int k b))=some (.bool (decide (b ≤ a))):=by simp only [iQ,if_true,kC]
theorem FR {P:Program} {a b:List UInt8} (h:a.length + b.length ≤ 4611686018427387904):iQ P t .add (.d (.str a)) (.d (.str b))=some (.str (a ++ b)):=by simp only [iQ,tY,if_pos h]
theorem gG {P:Program} {a b:List UInt8}:iQ P t .eql (.d (.str a)) (.d (.str b))=some (.bool (a == b)):=by simp only [iQ,tY]
theorem jc {P:Program} {a b:List UInt8}:iQ P t .neq (.d (.str a)) (.d (.str b))=some (.bool (!(a == b))):=by simp only [iQ,tY]
theorem gV {s:List UInt8} (h:qY C.P t=true):nK C t (.d (.str s))=true:=by
 unfold qY at h
 unfold nK
 split at h
 ·
  rename_i hu; simp only [hu]
 ·
  cases h
theorem ET {xs:List D} {b:Bool} (h:(bL C.P t).isSome=true):nK C t (.d (.sl xs b))=true:=by
 unfold bL at h
 unfold nK
 split at h
 ·
  rename_i hu; simp only [hu]
 ·
  cases h
def idx {α:Type} (l:List α) (n:Int):Option α:=if 0 ≤ n then l[n.toNat]? else none
theorem iJ {α:Type} {l:List α} {n:Int} {x:α} (h:idx l n=some x):0 ≤ n∧l[n.toNat]? = some x:=by
 unfold idx at h
 split at h
 ·
  rename_i hn; exact ⟨hn,h⟩
 ·
  cases h
theorem cZ {α:Type} {enc:α→D} {l:List α} {n:Int} {k:IntKind} {z:α} {el:Nat} {b:Bool} (h:idx l n=some z) (he:bL C.P t=some el) (ha:(eZ C.P el).isSome=true) (hz:(enc z).cells.length=aK C.P el) :
  gQ C t (.d (.sl (l.map enc) b)) (.d (.int k n))=some (.eptr (enc z) 0):=by
 obtain ⟨h0,h1⟩:=iJ h
 have:(l.map enc)[n.toNat]? = some (enc z):=by rw [List.getElem?_map,h1]; rfl
 simp only [gQ,he,h0,ha,decide_true,Bool.and_self,if_true,this,hz]
end opers
theorem aF.nil:aF [] []:=⟨[],rfl,.nil⟩
theorem aF.dV {x:AV} {d d':D} {xs:List AV} {ds:List D} (h:yE x=some d') (hc:lH d d') (k:aF xs ds):aF (x :: xs) (d :: ds):=by
 obtain ⟨ds',k1,k2⟩:=k
 exact ⟨d' :: ds',by simp only [lK,h,k1,Option.map_some],.cons hc k2⟩
theorem aF.eq {d:D} {xs:List AV} {ds:List D} (k:aF xs ds):aF (.d d :: xs) (d :: ds):=.dV rfl (.refl d) k
theorem bO {α:Type} {c:Bool} {x y:α} {r:α} (hb:c=true) (h:(if c=true then x else y)=r):x=r:=by rw [if_pos hb] at h; exact h
theorem bQ {α:Type} {c:Bool} {x y:α} {r:α} (hb:c=false) (h:(if c=true then x else y)=r):y=r:=by rw [if_neg (by rw [hb]; simp)] at h; exact h
theorem bind_some {α β:Type} {o:Option α} {f:α→Option β} {r:β} (h:o.bind f=some r):∃ z,o=some z∧f z=some r:=Option.bind_eq_some_iff.1 h
section code
variable {R:bT} {P:Program} {nt:Nat}
def At (R:bT) (nt:Nat) (B:St) {α:Type} (sem:α→Prop) (env:α→Env) (shape:α→List bU) (e:Env) (S:St):Prop:=∃ a e1 S1 S2,mO R nt e S e1 S1∧jg S2 S1∧aa (env a) e1∧Has B S2 (shape a)∧sem a
theorem ax.join {α:Type} (sem:α→Prop) (env:α→Env) (shape:α→List bU) {x y:Code} {e:Env} {S:St} {Q:rq→Prop}
  (hj:∀ a S',Has B S' (shape a)→sem a→ax R P nt y (env a) S' Q)
  (hx:ax R P nt x e S (Bl (At R nt B sem env shape) Q)):ax R P nt (.seq x y) e S Q :=
 ax.seq (hx.mono fun r hr=>by
  obtain ⟨q,e',S'⟩:=r
  cases q with
  | normal=>obtain ⟨a,e1,S1,S2,hg,h0,h1,h2,h3⟩:=hr; exact (((hj a S2 h2 h3).weak h1).gK h0).ghost hg
  | exit id=>exact hr
  | ret=>exact hr
  | panic v=>exact hr)
theorem lV.ind {α:Type} (sem:Nat→α→Prop) (env:α→Env) (shape:α→List bU) {c:Code} {Q:rq→Prop} (h0:∀ a,¬ sem 0 a)
  (step:∀ k a S,Has B S (shape a)→sem (k + 1) a→ax R P nt c (env a) S (Bl (At R nt B (sem k) env shape) Q)) :
  ∀ k a S,Has B S (shape a)→sem k a→lV R P nt c (env a) S Q
 | 0,a,S,_,h=>(h0 a h).elim
 | k + 1,a,S,hH,h=>lV.round ((step k a S hH h).mono fun r hr=>by
   obtain ⟨q,e',S'⟩:=r
   cases q with
   | normal=>obtain ⟨a',e1,S1,S2,hg,h4,h1,h2,h3⟩:=hr; exact (((lV.ind sem env shape h0 step k a' S2 h2 h3).weak h1).gK h4).ghost hg
   | exit id=>exact hr
   | ret=>exact hr
   | panic v=>exact hr)
theorem lV.start {α:Type} (sem:Nat→α→Prop) (env:α→Env) (shape:α→List bU) {c:Code} {e:Env} {S:St} {Q:rq→Prop} (h0:∀ a,¬ sem 0 a)
  (step:∀ k a S,Has B S (shape a)→sem (k + 1) a→ax R P nt c (env a) S (Bl (At R nt B (sem k) env shape) Q))
  (k:Nat) (hat:At R nt B (sem k) env shape e S):ax R P nt (.loop c) e S Q:=by
 obtain ⟨a,e1,S1,S2,hg,h4,hs,hH,h⟩:=hat
 exact ax.loop ((((lV.ind sem env shape h0 step k a S2 hH h).weak hs).gK h4).ghost hg)
end code
theorem Has.K7 {S:St} {l:List bU} (h:Has B S l) (is:List Nat) (hn:is.Nodup) {l':List bU} (hl:is.map (fun i=>l[i]?)=l'.map some):Has B S l':=by
 have hget:∀ (j:Nat) (a:bU),l'[j]? = some a→∃ i,is[j]? = some i∧l[i]? = some a:=fun j a hj=>by
  have:(is.map (fun i=>l[i]?))[j]? = some (some a):=by rw [hl,List.getElem?_map,hj]; rfl
  rw [List.getElem?_map,Option.map_eq_some_iff] at this
  exact this
 refine ⟨h.wf,fun a ha=>?_,?_,h.bwf,h.keeps,fun a ha=>?_⟩
 rotate_left 2
 ·
  obtain ⟨j,hj,rfl⟩:=List.getElem_of_mem ha
  obtain ⟨i,_,hi⟩:=hget j _ (List.getElem?_eq_getElem hj)
  exact h.out _ (List.mem_of_getElem? hi)
 ·
  obtain ⟨j,hj,rfl⟩:=List.getElem_of_mem ha
  obtain ⟨i,_,hi⟩:=hget j _ (List.getElem?_eq_getElem hj)
  exact h.at hi
 ·
  clear hl
  induction l' generalizing is with
  | nil=>simp
  | cons a l' ih =>
   cases is with
   | nil=>obtain ⟨i,hi,_⟩:=hget 0 a rfl; simp at hi
   | cons i is =>
    have hn':=List.nodup_cons.1 hn
    have hi:l[i]? = some a:=by
     obtain ⟨i',h1,h2⟩:=hget 0 a rfl
     simp at h1; subst h1; exact h2
    rw [List.map_cons,List.flatten_cons,List.nodup_append]
    have own:a.fp.Nodup:=by
     cases a with
     | grow v xs=>cases v <;> simp [bU.fp]
     | row sz v xs=>cases v <;> simp [bU.fp]
     | abs ids p=>exact h.nd.sublist (List.sublist_flatten_of_mem (List.mem_map.2 ⟨_,List.mem_of_getElem? hi,rfl⟩))
     | _=>simp [bU.fp]
    refine ⟨own,ih is hn'.2 (fun j b hj=>?_),fun x hx y hy hxy=>?_⟩
    ·
     obtain ⟨i',h1,h2⟩:=hget (j + 1) b (by simpa using hj)
     exact ⟨i',by simpa using h1,h2⟩
    ·
     subst hxy
     obtain ⟨GR,hfps,hid⟩:=List.mem_flatten.1 hy
     obtain ⟨b,hb,rfl⟩:=List.mem_map.1 hfps
     obtain ⟨j,hj,rfl⟩:=List.getElem_of_mem hb
     obtain ⟨i',h1,h2⟩:=hget (j + 1) l'[j] (by simp)
     refine xk h.nd hi h2 (fun q=>?_) hx hid
     subst q
     exact hn'.1 (List.mem_of_getElem? (by simpa using h1))
end
end Go.Ev

namespace Go.Ev
noncomputable section
set_option linter.unusedVariables false
set_option linter.unusedSimpArgs false
variable {B:St}
theorem wU {S:St} {v:AV} {xs:List D} (h:(bU.grow v xs).ok S):(∃ d,yE v=some d∧d.cn=.sl (D.zT xs) false)∧iH v=some xs∧mF v S=some xs.length∧v.plain=true∧v.cells=[v]:=by
 simp only [bU.ok] at h
 split at h
 ·
  subst h; exact ⟨⟨_,rfl,rfl⟩,rfl,rfl,rfl,rfl⟩
 ·
  subst h; exact ⟨⟨_,rfl,rfl⟩,rfl,rfl,rfl,rfl⟩
 ·
  obtain ⟨rfl,_,_⟩:=h; exact ⟨⟨_,rfl,rfl⟩,rfl,rfl,rfl,rfl⟩
 ·
  exact h.elim
theorem lH.kr (xs:List D) (t:Bool):lH (.sl xs false) (.sl xs t):=fun w fr v h=>by
 refine ⟨?_,h.2⟩
 have h1:=h.1
 generalize hcs:v.cells.toList=cs at h1 ⊢
 cases h1 with
 | sl0 a cap _ _=>exact .sl0 a cap false (fun h=>by cases h)
 | sl _ _ b off cap sz vs hne hcap ht hsz hlen hx hc=>exact .sl xs false b off cap sz vs hne hcap (fun h=>by cases h) hsz hlen hx hc
theorem lH.aY (b:Bool):lH (.sl [] b) .aY:=fun w fr v h=>by
 refine ⟨?_,h.2⟩
 have h1:=h.1
 generalize hcs:v.cells.toList=cs at h1 ⊢
 cases h1
 exact .sl0 none 0 b (fun _=>rfl)
theorem FV {S:St} {v:AV} {xs:List D} (h:(bU.grow v xs).ok S):∃ d,yE v=some d∧lH (.sl xs false) d:=by
 simp only [bU.ok] at h
 split at h
 ·
  subst h; exact ⟨_,rfl,.aY false⟩
 ·
  subst h; exact ⟨_,rfl,.kr _ _⟩
 ·
  obtain ⟨rfl,_,_⟩:=h; exact ⟨_,rfl,.refl _⟩
 ·
  exact h.elim
theorem Cy {C:gq} {S:St} {l:List bU} (H:Has B S l) {i t:Nat} {v:AV} {xs:List D} (hi:l[i]? = some (.grow v xs)) (h:(bL C.P t).isSome=true):nK C t v=true:=by
 have hg:=H.at hi
 unfold bL at h
 unfold nK
 split at h
 ·
  rename_i hu
  simp only [hu]
  simp only [bU.ok] at hg
  split at hg
  ·
   rfl
  ·
   rfl
  ·
   rfl
  ·
   exact hg.elim
 ·
  cases h
theorem BI {S S':St} {l:List bU} (H:Has B S l) {i:Nat} {v:AV} {xs:List D} (hi:l[i]? = some (.grow v xs)):mF v S'=some xs.length:=by
 have hg:=H.at hi
 simp only [bU.ok] at hg
 split at hg
 ·
  subst hg; rfl
 ·
  subst hg; rfl
 ·
  obtain ⟨rfl,_⟩:=hg; rfl
 ·
  exact hg.elim
theorem y8 {C:gq} {α:Type} {enc:α→D} {S:St} {l:List bU} (H:Has B S l) {i t:Nat} {v:AV} {xs:List α} (hi:l[i]? = some (.grow v (xs.map enc))) {n:Int} {k:IntKind} {z:α} {el:Nat} (h:idx xs n=some z) (he:bL C.P t=some el) (ha:(eZ C.P el).isSome=true) (hz:(enc z).cells.length=aK C.P el) :
  gQ C t v (.d (.int k n))=some (.eptr (enc z) 0):=by
 obtain ⟨h0,h1⟩:=iJ h
 have hm:(xs.map enc)[n.toNat]? = some (enc z):=by rw [List.getElem?_map,h1]; rfl
 have hg:=H.at hi
 simp only [bU.ok] at hg
 split at hg
 ·
  rw [hg] at hm; simp at hm
 ·
  rw [hg]
  simp only [gQ,he,h0,ha,decide_true,Bool.and_self,if_true,hm,hz]
 ·
  rw [hg.1]
  simp only [gQ,he,h0,ha,decide_true,Bool.and_self,if_true,hm,hz]
 ·
  exact hg.elim
theorem Has.G8 {S:St} {l:List bU} (H:Has B S l) {a:bU} (hf:a.fp=[]) (ha:a.ok S):Has B S (a :: l) where
 wf:=H.wf
 ok:=fun x hx=>by
  rcases List.mem_cons.1 hx with rfl | hx
  ·
   exact ha
  ·
   exact H.ok x hx
 nd:=by rw [List.map_cons,List.flatten_cons,hf,List.nil_append]; exact H.nd
 bwf:=H.bwf
 keeps:=H.keeps
 out:=fun x hx id hid=>by
  rcases List.mem_cons.1 hx with rfl | hx
  ·
   rw [hf] at hid; cases hid
  ·
   exact H.out x hx id hid
theorem Has.Cn {S:St} {l:List bU} (H:Has B S l):Has B S (.grow (.d .aY) [] :: l):=H.G8 rfl rfl
theorem Has.zk {S:St} {l:List bU} (H:Has B S l) (xs:List D):Has B S (.grow (.d (.sl xs true)) xs :: l):=H.G8 rfl rfl
theorem Has.Ib {S S':St} {l:List bU} (h:Has B S l) {i:Nat} {a a':bU} (hi:l[i]? = some a) (hf0:a.fp=[]) (hf:a'.fp=[S.nx]) (ha:a'.ok S') (wf:S'.Wf)
  (hH:∀ id,id < S.nx→S'.H.get id=S.H.get id) (hT:∀ id,id < S.nx→S'.T.get id=S.T.get id) (hnx:S.nx ≤ S'.nx):Has B S' (l.set i a'):=by
 have hil:i < l.length:=(List.getElem?_eq_some_iff.1 hi).1
 have hlt:∀ x ∈ l,∀ id ∈ x.fp,id < S.nx:=fun x hx=>bU.lt h.wf (h.ok x hx)
 have hBlt:∀ id b,B.H.get id=some b→id < S.nx:=fun id b hb=>Nat.lt_of_lt_of_le (h.bwf.H hb) h.keeps.nx
 have hBltT:∀ id n,B.T.get id=some n→id < S.nx:=fun id b hb=>Nat.lt_of_lt_of_le (h.bwf _ (wD hb)) h.keeps.nx
 refine ⟨wf,fun x hx=>?_,?_,h.bwf,⟨Nat.le_trans h.keeps.nx hnx,fun id b hb=>?_,fun id n hn=>?_⟩,fun x hx id hid=>?_⟩
 rotate_left 2
 ·
  rw [hH id (hBlt id b hb)]; exact h.keeps.H id b hb
 ·
  rw [hT id (hBltT id n hn)]; exact h.keeps.T id n hn
 ·
  rcases List.mem_or_eq_of_mem_set hx with hx | rfl
  ·
   exact h.out x hx id hid
  ·
   rw [hf,List.mem_singleton] at hid
   subst hid
   refine ⟨?_,?_⟩
   ·
    cases hB:B.H.get S.nx with
    | none=>rfl
    | some b'=>have:=hBlt _ _ hB; omega
   ·
    cases hB:B.T.get S.nx with
    | none=>rfl
    | some b'=>have:=hBltT _ _ hB; omega
 ·
  obtain ⟨j,hj,rfl⟩:=List.getElem_of_mem hx
  rw [List.length_set] at hj
  by_cases hij:i=j
  ·
   subst hij; rw [List.getElem_set_self]; exact ha
  ·
   rw [List.getElem_set_ne hij]
   exact bU.keep (h.ok l[j] (List.getElem_mem hj)) (fun id hid=>hH id (hlt _ (List.getElem_mem hj) id hid)) (fun id hid=>hT id (hlt _ (List.getElem_mem hj) id hid))
 ·
  have hperm:∀ (l:List bU) (i:Nat),l[i]? = some a→(∀ x ∈ l,∀ id ∈ x.fp,id < S.nx)→(l.map bU.fp).flatten.Nodup→((l.set i a').map bU.fp).flatten.Nodup∧∀ id ∈ ((l.set i a').map bU.fp).flatten,id=S.nx∨id ∈ (l.map bU.fp).flatten:=by
   intro l
   induction l with
   | nil=>intro i hi; simp at hi
   | cons x l ih =>
    intro i hi hlt hnd
    rw [List.map_cons,List.flatten_cons,List.nodup_append] at hnd
    obtain ⟨n1,n2,n3⟩:=hnd
    cases i with
    | zero =>
     simp only [List.getElem?_cons_zero,Option.some.injEq] at hi
     subst hi
     simp only [List.set_cons_zero,List.map_cons,List.flatten_cons,hf,hf0,List.nil_append,List.singleton_append,List.nodup_cons]
     refine ⟨⟨fun hm=>?_,n2⟩,fun id hid=>?_⟩
     ·
      obtain ⟨GR,hfps,hid⟩:=List.mem_flatten.1 hm
      obtain ⟨y,hy,rfl⟩:=List.mem_map.1 hfps
      have:=hlt y (List.mem_cons_of_mem _ hy) _ hid
      omega
     ·
      rcases List.mem_cons.1 hid with rfl | hid
      ·
       exact .inl rfl
      ·
       exact .inr hid
    | succ i =>
     simp only [List.getElem?_cons_succ] at hi
     obtain ⟨m1,m2⟩:=ih i hi (fun y hy=>hlt y (List.mem_cons_of_mem _ hy)) n2
     simp only [List.set_cons_succ,List.map_cons,List.flatten_cons]
     refine ⟨List.nodup_append.2 ⟨n1,m1,fun u hu v hv huv=>?_⟩,fun id hid=>?_⟩
     ·
      subst huv
      rcases m2 u hv with rfl | hv
      ·
       have:=hlt x List.mem_cons_self _ hu; omega
      ·
       exact n3 u hu u hv rfl
     ·
      rcases List.mem_append.1 hid with hid | hid
      ·
       exact .inr (List.mem_append.2 (.inl hid))
      ·
       rcases m2 id hid with rfl | hid
       ·
        exact .inl rfl
       ·
        exact .inr (List.mem_append.2 (.inr hid))
  exact (hperm l i hi hlt h.nd).1
def app {α:Type} (nb:Nat) (l ys:List α):Option (List α):=if (l.length + ys.length) * nb ≤ bound then some (l ++ ys) else none
theorem Ar {α:Type} {nb:Nat} {l ys r:List α} (h:app nb l ys=some r):(l.length + ys.length) * nb ≤ bound∧r=l ++ ys:=by
 unfold app at h
 split at h
 ·
  rename_i hb; exact ⟨hb,(Option.some.inj h).symm⟩
 ·
  cases h
theorem dK {α:Type} {enc:α→D} {n:Nat} (h:∀ z,(enc z).cells.length=n):∀ (l:List α),sizes n (l.map enc)=true
 | []=>rfl
 | x :: l=>by simp only [List.map_cons,sizes,h,Nat.beq_refl,dK h l,Bool.and_self]
theorem Ba {C:gq} {S:St} {l:List bU} (H:Has B S l) {i:Nat} {v:AV} {xs ys:List D} (hi:l[i]? = some (.grow v xs)) {el nb:Nat} (hb:(xs.length + ys.length) * nb ≤ bound) (hnb:bytesOf C.P el=nb) (h0:(Nat.blt 0 nb && Nat.ble nb 65536)=true)
  (hx:sizes (aK C.P el) xs=true) (hy:sizes (aK C.P el) ys=true) (hz:iD C el=true):∃ v' S',iK C el S v ys=some (v',S')∧Has B S' (l.set i (.grow v' (xs ++ ys))):=by
 subst hnb
 simp only [Bool.and_eq_true] at h0
 have h1:=Nat.le_of_ble_eq_true h0.1
 have h2:=Nat.le_of_ble_eq_true h0.2
 have h1:0 < bytesOf C.P el:=h1
 have hinfo:(C.P.info? el).isSome=true:=by
  unfold iD at hz
  cases hq:C.P.info? el with
  | none=>rw [hq] at hz; cases hz
  | some x=>rfl
 have hil:i < l.length:=(List.getElem?_eq_some_iff.1 hi).1
 have hg:=H.at hi
 by_cases hne:ys.length=0
 ·
  have:ys=[]:=List.eq_nil_of_length_eq_zero hne
  subst this
  refine ⟨v,S,?_,?_⟩
  ·
   simp only [bU.ok] at hg
   split at hg <;> simp_all [iK]
  ·
   rw [List.append_nil]
   have:l.set i (.grow v xs)=l:=by
    apply List.ext_getElem?
    intro j
    rw [List.getElem?_set]
    by_cases hij:i=j
    ·
     subst hij; simp [hil]; exact (List.getElem?_eq_some_iff.1 hi).2.symm
    ·
     simp [hij]
   rw [this]; exact H
 ·
  have fresh:S.H.get S.nx=none:=H.wf.fresh (Nat.le_refl _)
  have new:∀ zs:List D,zs ≠ []→(bU.grow v xs).fp=[]→Has B { S with T:=S.T.set S.nx zs.length,nx:=S.nx + 1 } (l.set i (.grow (.tsl zs S.nx) zs)):=fun zs hzs hfp=>by
   refine H.Ib hi hfp rfl ⟨rfl,hzs,by simp [AL.aX],fresh⟩ (fun id hl=>?_) (fun id hid=>rfl) (fun id hid=>by simp only [AL.aX]; rw [if_neg (by omega)]) (Nat.le_succ _)
   show id < S.nx + 1
   unfold live cur at hl
   cases hH:S.H.get id with
   | some b=>have:=H.wf.H hH; omega
   | none =>
    simp only [hH,AL.aX] at hl
    by_cases hq:S.nx=id
    ·
     omega
    ·
     rw [if_neg hq] at hl
     cases hT:S.T.get id with
     | none=>exact absurd hT hl
     | some n=>have:=H.wf id (wD hT); omega
  simp only [bU.ok] at hg
  split at hg
  ·
   subst hg
   refine ⟨_,_,?_,new ys (fun q=>hne (by rw [q]; rfl)) rfl⟩
   simp only [List.length_nil,Nat.zero_add] at hb
   simp only [iK,if_neg hne,if_pos (show ys.length * bytesOf C.P el ≤ bound∧0 < bytesOf C.P el∧bytesOf C.P el ≤ 65536∧sizes (aK C.P el) ys=true∧iD C el=true from ⟨hb,h1,h2,hy,hz⟩)]
  ·
   rename_i zs
   subst hg
   refine ⟨_,_,?_,new (zs ++ ys) (fun q=>hne (by simp at q; simp [q.2])) rfl⟩
   simp only [iK,if_neg hne,if_pos (show (zs.length + ys.length) * bytesOf C.P el ≤ bound∧0 < bytesOf C.P el∧bytesOf C.P el ≤ 65536∧sizes (aK C.P el) ys=true∧sizes (aK C.P el) zs=true∧iD C el=true from ⟨hb,h1,h2,hy,hx,hz⟩),if_true,List.length_append]
  ·
   rename_i zs tok
   obtain ⟨rfl,hne2,hT,hHt⟩:=hg
   have hpos:0 < zs.length:=List.length_pos_iff.2 hne2
   refine ⟨.tsl (zs ++ ys) tok,{ S with T:=S.T.set tok (zs.length + ys.length) },?_,?_⟩
   ·
    simp only [iK,if_neg hne,if_pos (show (zs.length + ys.length) * bytesOf C.P el ≤ bound∧0 < bytesOf C.P el∧bytesOf C.P el ≤ 65536∧sizes (aK C.P el) ys=true∧sizes (aK C.P el) zs=true∧iD C el=true from ⟨hb,h1,h2,hy,hx,hz⟩),hT]
    rw [if_pos ⟨trivial,hpos⟩]
   ·
    refine H.set hi rfl ⟨rfl,by simp [hne2],by simp [AL.aX],hHt⟩ (fun id hl=>?_) (fun id hid=>rfl) (fun id hid=>?_) rfl
    ·
     show id < S.nx
     refine H.wf id ?_
     unfold live cur at hl ⊢
     cases hH:S.H.get id with
     | some b=>cases b <;> simp
     | none =>
      simp only [hH,AL.aX] at hl ⊢
      by_cases hq:tok=id
      ·
       subst hq; rw [hT]; simp
      ·
       rw [if_neg hq] at hl; exact hl
    ·
     simp only [bU.fp,List.mem_singleton] at hid
     simp only [AL.aX]; rw [if_neg (fun q=>hid q.symm)]
  ·
   exact hg.elim
theorem Ac {C:gq} {ρ:Operand→Option AV} {x y:Operand} {S:St} {l:List bU} (H:Has B S l) {i t u:Nat} {v vy:AV} {xs ys:List D} (hx:ρ x=some v) (hy:ρ y=some vy) (hi:l[i]? = some (.grow v xs)) (hd:iH vy=some ys) (hnr:C.rowT t=false) (hu:kD C u=true) {el nb:Nat} (he:bL C.P t=some el)
  (hb:(xs.length + ys.length) * nb ≤ bound) (hnb:bytesOf C.P el=nb) (h0:(Nat.blt 0 nb && Nat.ble nb 65536)=true) (hsx:sizes (aK C.P el) xs=true) (hsy:sizes (aK C.P el) ys=true) (hz:iD C el=true) :
  ∃ v' S',oper C ρ S (.call { callee:=.builtin .append,args:=#[x,y],argTypes:=#[t,u] })=some (.val v' S')∧Has B S' (l.set i (.grow v' (xs ++ ys))):=by
 obtain ⟨v',S',h1,h2⟩:=Ba (C:=C) H hi hb hnb h0 hsx hsy hz
 refine ⟨v',S',?_,h2⟩
 have hm:iM ρ [x,y]=some [v,vy]:=by simp only [iM,hx,hy,Option.map_some]
 have hg:=H.at hi
 simp only [oper,hm,jR,List.getElem?_toArray,List.getElem?_cons_zero,List.getElem?_cons_succ,hu,if_true,he]
 simp only [bU.ok] at hg
 split at hg
 ·
  simp only [hnr,cond_false,hd,h1,Option.map_some]
 ·
  simp only [hnr,cond_false,hd,h1,Option.map_some]
 ·
  simp only [hnr,cond_false,hd,h1,Option.map_some]
 ·
  exact hg.elim
def cut {α:Type} (l:List α) (lo hi:Int):Option (List α):=if 0 ≤ lo∧lo ≤ hi∧hi ≤ l.length then some ((l.take hi.toNat).drop lo.toNat) else none
theorem zZ {α:Type} {l r:List α} {lo hi:Int} (h:cut l lo hi=some r):(0 ≤ lo∧lo ≤ hi∧hi ≤ l.length)∧r=(l.take hi.toNat).drop lo.toNat:=by
 unfold cut at h
 split at h
 ·
  rename_i hb; exact ⟨hb,(Option.some.inj h).symm⟩
 ·
  cases h
end
end Go.Ev

namespace Go.Ev
noncomputable section
set_option linter.unusedVariables false
set_option linter.unusedSimpArgs false
variable {B:St}
section steps
variable {R:bT} {C:gq} {nt:Nat} {ops:Array Oper} {rest:List Oper} {e:Env} {S S':St} {Q:Stp→Prop} {l l':List bU} {t ty:Nat} {p:String} {af:Array Edge} {g:Option (Nat × Bool)} {v:AV} {x y:Operand}
theorem ah.box {bt:Nat} {cs:List AV} (H:Has B S l) (hw:dn ops e { dst:=some t,op:=.box bt x,type:=ty,pos:=p,after:=af,guard:=g }=some true) (hx:dX e x=some v) (hp:v.plain=true) (hc:v.cells=cs) (ht:Nat.blt t nt=true)
  (k:∀ b S',Has B S' (.box b cs :: l)→ah R C nt ops rest ((t,.ptr b 0 0) :: e) S' Q) :
  ah R C nt ops ({ dst:=some t,op:=.box bt x,type:=ty,pos:=p,after:=af,guard:=g } :: rest) e S Q :=
 ah.val hw (EK H hx hp hc) ht (k _ _ (H.box cs))
theorem ah.alloc {bt:Nat} {z:D} {cs:List AV} (H:Has B S l) (hw:dn ops e { dst:=some t,op:=.alloc bt,type:=ty,pos:=p,after:=af,guard:=g }=some true) (ho:C.objT bt=none) (hz:zeroOf C.P bt=some z) (hc:(AV.d z).cells=cs) (ht:Nat.blt t nt=true)
  (k:∀ b S',Has B S' (.box b cs :: l)→ah R C nt ops rest ((t,.ptr b 0 0) :: e) S' Q) :
  ah R C nt ops ({ dst:=some t,op:=.alloc bt,type:=ty,pos:=p,after:=af,guard:=g } :: rest) e S Q :=
 ah.val hw (Ce H ho hz hc) ht (k _ _ (H.box cs))
theorem ah.store {bt i id off n:Nat} {cs cv cs':List AV} (H:Has B S l) (hw:dn ops e { dst:=none,op:=.store bt x y,type:=ty,pos:=p,after:=af,guard:=g }=some true) (ha:dX e x=some (.ptr id 0 off)) (hy:dX e y=some v) (hi:l[i]? = some (.box id cs)) (hcv:v.cells=cv) (hn:cv.length=n) (hz:aK C.P bt=n) (hp:v.plain=true) (hag:(eZ C.P bt).isSome=true) (hb:Nat.ble (off + n) cs.length=true)
  (hs:setAt cs off cv=cs') (hl:l.set i (.box id cs')=l') (k:∀ S',Has B S' l'→ah R C nt ops rest e S' Q) :
  ah R C nt ops ({ dst:=none,op:=.store bt x y,type:=ty,pos:=p,after:=af,guard:=g } :: rest) e S Q:=by
 subst hs
 subst hl
 exact ah.skip hw (Ch H ha hy hcv hn hz hp hag hi hb) (k _ (H.write hi))
theorem ah.append {t1 u i:Nat} {vy:AV} {xs ys zs:List D} {el nb:Nat} (H:Has B S l) (hw:dn ops e { dst:=some t,op:=.call { callee:=.builtin .append,args:=#[x,y],argTypes:=#[t1,u] },type:=ty,pos:=p,after:=af,guard:=g }=some true)
  (hx:dX e x=some v) (hy:dX e y=some vy) (hi:l[i]? = some (.grow v xs)) (hd:iH vy=some ys) (hnr:C.rowT t1=false) (hu:kD C u=true) (he:bL C.P t1=some el) (hb:(xs.length + ys.length) * nb ≤ bound) (hnb:bytesOf C.P el=nb) (h0:(Nat.blt 0 nb && Nat.ble nb 65536)=true)
  (hsx:sizes (aK C.P el) xs=true) (hsy:sizes (aK C.P el) ys=true) (hz:iD C el=true) (ht:Nat.blt t nt=true) (hzs:xs ++ ys=zs)
  (k:∀ v' S',Has B S' (l.set i (.grow v' zs))→ah R C nt ops rest ((t,v') :: e) S' Q) :
  ah R C nt ops ({ dst:=some t,op:=.call { callee:=.builtin .append,args:=#[x,y],argTypes:=#[t1,u] },type:=ty,pos:=p,after:=af,guard:=g } :: rest) e S Q:=by
 subst hzs
 obtain ⟨v',S',h1,h2⟩:=Ac (ρ:=dX e) H hx hy hi hd hnr hu he hb hnb h0 hsx hsy hz
 exact ah.val hw h1 ht (k v' S' h2)
theorem aa.put {t:Nat} {x y:AV} {e2 e:Env} (h:aa e2 e) (hl:Less y x):aa ((t,y) :: e2) ((t,x) :: e):=fun u z hz=>by
 rw [AL.gm] at hz ⊢
 by_cases hu:t=u
 ·
  rw [if_pos hu] at hz ⊢; cases hz; exact ⟨x,rfl,hl⟩
 ·
  rw [if_neg hu] at hz ⊢; exact h u z hz
def CO (t:Nat):Env→Bool
 | []=>true
 | (k,_) :: l=>!(Nat.beq k t) && CO t l
theorem yG {t:Nat}:∀ {e:Env},CO t e=true→AL.get e t=none
 | [],_=>rfl
 | (k,v) :: l,h=>by
  simp only [CO,Bool.and_eq_true,Bool.not_eq_true'] at h
  rw [AL.gm,if_neg (fun q=>by subst q; rw [Nat.beq_refl] at h; cases h.1)]
  exact yG h.2
theorem aa.push {t:Nat} {x:AV} {e2 e:Env} (hk:CO t e2=true) (h:aa e2 e):aa e2 ((t,x) :: e):=fun u z hz=>by
 have:t ≠ u:=fun q=>by subst q; rw [yG hk] at hz; cases hz
 rw [AL.gm,if_neg this]
 exact h u z hz
theorem ah.aZ {L:List Oper} (n t:Nat) (v:AV) (h:ah R C nt ops (L.take n) e S (fun r=>∃ e',r=.go e' S∧aa ((t,v) :: e) e')) (k:ah R C nt ops (L.drop n) ((t,v) :: e) S Q):ah R C nt ops L e S Q:=by
 have:=ah.app (R:=R) (C:=C) (nt:=nt) (ops:=ops) (L.take n) (l2:=L.drop n) (e:=e) (S:=S) (Q:=Q) (h.mono fun r hr=>by obtain ⟨e',rfl,hw⟩:=hr; exact ah.weak hw k)
 rwa [List.take_append_drop] at this
theorem ah.bool {b c:Bool} (hb:b=c) (k:ah R C nt ops rest ((t,.d (.bool c)) :: e) S Q):ah R C nt ops rest ((t,.d (.bool b)) :: e) S Q:=by subst hb; exact k
theorem ah.less {y':AV} (h:Less y' v) (k:ah R C nt ops rest ((t,y') :: e) S Q):ah R C nt ops rest ((t,v) :: e) S Q:=ah.weak (aa.top h) k
end steps
theorem Less.eq {x y:AV} (h:x=y):Less x y:=by subst h; exact .refl x
theorem Cq:∀ (l:List D),lK (l.map .d)=some l
 | []=>rfl
 | x :: l=>by simp [lK,yE,Cq l]
theorem yn:∀ {cs:List AV} {xs:List D},xE cs=some xs→lK cs=some xs
 | [],xs,h=>by simp only [xE,Option.some.injEq] at h; subst h; rfl
 | .d x :: l,xs,h=>by
  simp only [xE,Option.map_eq_some_iff] at h
  obtain ⟨ys,h1,rfl⟩:=h
  simp [lK,yE,yn h1]
theorem EF {ys xs:List D} (h:jO ys xs) (hy:∀ y ∈ ys,y.isAgg=false) (hx:∀ x ∈ xs,x.isAgg=false):lH (.agg ys) (.agg xs):=fun w fr v hr=>by
 refine ⟨?_,hr.2⟩
 have h1:=hr.1
 generalize hcs:v.cells.toList=cs at h1 ⊢
 cases h1 with
 | agg _ _ hl ho hn hh =>
  refine .agg ys cs (by rw [hl,h.len]) ho hy (fun i y u hi hu=>?_)
  have hlt:i < xs.length:=by rw [← h.len]; exact (List.getElem?_eq_some_iff.1 hi).1
  have hx':=List.getElem?_eq_getElem hlt
  have ho':=ho u (List.mem_of_getElem? hu)
  have:=hh i _ u hx' hu
  have hcell:u.cells = #[u]∧rF u=false:=by
   cases u <;> simp_all [Value.oneCell',Value.cells,rF]
  have hd:bH w fr xs[i] u:=⟨by rw [hcell.1]; exact this,by rw [hcell.2]; exact hx _ (List.mem_of_getElem? hx')⟩
  have:=(h.get hi hx' w fr u hd).1
  rw [hcell.1] at this
  exact this
theorem jO.agg {ys xs:List D} (h:jO ys xs) (hy:∀ y ∈ ys,y.isAgg=false):∀ x ∈ xs,True:=fun _ _=>trivial
def ak (cs:List AV) (ds:List D):Prop:=∃ ds',lK cs=some ds'∧jO ds ds'∧(∀ d ∈ ds,d.isAgg=false)∧∀ d ∈ ds',d.isAgg=false
theorem ak.nil:ak [] []:=⟨[],rfl,.nil,by simp,by simp⟩
theorem ak.dV {x:AV} {d d':D} {xs:List AV} {ds:List D} (h:yE x=some d') (hc:lH d d') (h1:d.isAgg=false) (h2:d'.isAgg=false) (k:ak xs ds):ak (x :: xs) (d :: ds):=by
 obtain ⟨ds',k1,k2,k3,k4⟩:=k
 exact ⟨d' :: ds',by simp only [lK,h,k1,Option.map_some],.cons hc k2,fun y hy=>by rcases List.mem_cons.1 hy with rfl | hy; exact h1; exact k3 y hy,fun y hy=>by rcases List.mem_cons.1 hy with rfl | hy; exact h2; exact k4 y hy⟩
theorem ak.eq {d:D} {xs:List AV} {ds:List D} (h:d.isAgg=false) (k:ak xs ds):ak (.d d :: xs) (d :: ds):=.dV rfl (.refl d) h h k
theorem ak.pack {cs:List AV} {ds:List D} (h:ak cs ds):aF [jW cs] [.agg ds]:=by
 obtain ⟨ds',h1,h2,h3,h4⟩:=h
 refine ⟨[.agg ds'],?_,.cons (EF h2 h3 h4) .nil⟩
 have:yE (jW cs)=some (.agg ds'):=by
  unfold jW
  split
  ·
   rename_i xs hx
   have:=yn hx
   rw [h1] at this
   cases this
   rfl
  ·
   show (lK cs).map D.agg=_
   rw [h1]; rfl
 simp only [lK,this,Option.map_some]
theorem aF.less {x:AV} {d:D} (h:aF [x] [d]):Less (.d d) x:=by
 obtain ⟨ds',h1,h2⟩:=h
 simp only [lK] at h1
 split at h1
 ·
  rename_i y hy
  simp only [Option.map_some,Option.some.injEq] at h1
  subst h1
  cases h2 with
  | cons h _=>exact fun cx S w v hr=>.d _ _ (h _ _ _ (kQ hy hr))
 ·
  cases h1
theorem Less.jW {cs:List AV} {ds:List D} (h:ak cs ds):Less (.d (.agg ds)) (jW cs):=h.pack.less
theorem GZ {α:Type} {enc:α→D} (h:∀ x,(enc x).cn=enc x) (l:List α) (b:Bool):(D.sl (l.map enc) b).cn=.sl (l.map enc) false:=by
 simp only [D.cn,D.Dn,List.map_map]
 congr 1
 exact List.map_congr_left (fun x _=>h x)
theorem aF.grow {α:Type} {enc:α→D} {S:St} {l:List bU} (H:Has B S l) {i:Nat} {v:AV} {xs:List α} (hi:l[i]? = some (.grow v (xs.map enc))) {vs:List AV} {ds:List D} (k:aF vs ds):aF (v :: vs) (.sl (xs.map enc) false :: ds):=by
 obtain ⟨d,h1,h2⟩:=FV (H.at hi)
 exact aF.dV h1 h2 k
theorem ak.grow {α:Type} {enc:α→D} {S:St} {l:List bU} (H:Has B S l) {i:Nat} {v:AV} {xs:List α} (hi:l[i]? = some (.grow v (xs.map enc))) {vs:List AV} {ds:List D} (k:ak vs ds):ak (v :: vs) (.sl (xs.map enc) false :: ds):=by
 obtain ⟨d,h1,h2⟩:=FV (H.at hi)
 refine ak.dV h1 h2 rfl ?_ k
 have hg:=H.at hi
 simp only [bU.ok] at hg
 split at hg
 ·
  cases h1; rfl
 ·
  cases h1; rfl
 ·
  cases h1; rfl
 ·
  exact hg.elim
theorem gL {v:AV} {d:D} (h:aF [v] [d]):∃ v',xJ v=some v'∧Bj (.d d) v':=by
 obtain ⟨ds',h1,h2⟩:=h
 simp only [lK] at h1
 split at h1
 ·
  rename_i y hy
  simp only [Option.map_some,Option.some.injEq] at h1
  subst h1
  cases h2 with
  | cons h2 _ =>
  refine ⟨.d y,?_,.one h2⟩
  unfold xJ
  split
  ·
   simp [yE] at hy
  ·
   rw [hy]; rfl
 ·
  cases h1
theorem vg {vs:List AV} {ds:List D} (h:aF vs ds):∃ v',xJ (.tup vs)=some v'∧Bj (.tup (ds.map .d)) v':=by
 obtain ⟨ds',h1,h2⟩:=h
 exact ⟨.tup (ds'.map .d),by simp only [xJ,h1,Option.map_some],.tup h2⟩
theorem qU {C:gq} {fn:Func} {e:Env} {S:St} {l:List bU} (H:Has B S l) {a t i id:Nat} {cs:List AV} {v:AV} (hf:fn.results = #[.cell a t]) (ha:AL.get e a=some (.ptr id 0 0)) (hi:l[i]? = some (.box id cs)) (hp:part C.P t cs 0=some v):jD C fn e S=some v:=by
 have hb:S.H.get id=some (.cells 0 cs):=H.at hi
 simp only [jD,hf,iM,uX,ha,mg,St.look,hb,Nat.beq_refl,cond_true,hp,Option.map_some]
end
end Go.Ev

namespace Go.Ev
set_option linter.unusedVariables false
set_option linter.unusedSimpArgs false
variable {B:St}
abbrev Str:=List UInt8
abbrev KC {α:Type} (enc:α→D) (l:List α):D:=.sl (l.map enc) false
theorem AA:∀ {l:List D},(∀ d ∈ l,d.cn=d)→D.zT l=l
 | [],_=>rfl
 | x :: l,h=>by rw [D.zT,h x List.mem_cons_self,AA (fun d hd=>h d (List.mem_cons_of_mem _ hd))]
theorem Co {l:List D} (h:∀ d ∈ l,d.cn=d):(D.agg l).cn=.agg l:=by rw [D.cn,AA h]
theorem Less.agg' {cs:List AV} {ds:List D} {d:D} (h:ak cs ds) (hd:d=.agg ds):Less (.d d) (Ev.jW cs):=by subst hd; exact Less.jW h
theorem aF.mr {cs:List AV} {ds:List D} {d:D} (h:ak cs ds) (hd:d=.agg ds):aF [Ev.jW cs] [d]:=by subst hd; exact h.pack
theorem CK {α:Type} {enc:α→D} {S:St} {l:List bU} (H:Has B S l) {i:Nat} {v:AV} {xs:List α} (hi:l[i]? = some (.grow v (xs.map enc))):Less (.d (.sl (xs.map enc) false)) v:=(aF.grow H hi .nil).less
theorem uZ {xs:List D} {b:Bool}:Less (.d (.sl xs false)) (.d (.sl xs b)):=(lH.kr xs b).less
theorem vQ {b:Bool}:Less (.d (.sl [] b)) (.d .aY):=(lH.aY b).less
theorem iL {α:Type} {enc:α→D} {nb:Nat} {l ys r:List α} (h:app nb l ys=some r):((l.map enc).length + (ys.map enc).length) * nb ≤ bound:=by
 have:=(Ar h).1
 simpa using this
theorem mM {α:Type} {enc:α→D} {nb:Nat} {l ys r:List α} (h:app nb l ys=some r):l.map enc ++ ys.map enc=r.map enc:=by
 rw [(Ar h).2,List.map_append]
def zM (k:IntKind) (a b:Int):Option Int:=if b=0 then none else some (a.tmod b)
def Am (k:IntKind) (a b:Int):Option Int:=if b=0 then none else some (k.wrap (a.tdiv b))
theorem uj {P:Program} {t:Nat} {k:IntKind} {a b z:Int} (h:zM k a b=some z):iQ P t .rem (.d (.int k a)) (.d (.int k b))=some (.int k z):=by
 unfold zM at h
 split at h
 ·
  cases h
 ·
  rename_i hb; rw [Fh hb]; cases h; rfl
theorem yD {P:Program} {t:Nat} {k:IntKind} {a b z:Int} (h:Am k a b=some z):iQ P t .quo (.d (.int k a)) (.d (.int k b))=some (.int k z):=by
 unfold Am at h
 split at h
 ·
  cases h
 ·
  rename_i hb; rw [F5 hb]; cases h; rfl
def cat (a b:Str):Option Str:=if a.length + b.length ≤ 4611686018427387904 then some (a ++ b) else none
theorem yC {P:Program} {t:Nat} {a b z:Str} (h:cat a b=some z):iQ P t .add (.d (.str a)) (.d (.str b))=some (.str z):=by
 unfold cat at h
 split at h
 ·
  rename_i hb; rw [FR hb]; cases h; rfl
 ·
  cases h
def Eh (a b:Int):Int:=if b < a then b else a
def lQ (a b:Int):Int:=if b > a then b else a
section
variable {C:gq} {ρ:Operand→Option AV} {S:St} {x y z:Operand} {t:Nat}
theorem Br {k:IntKind} {a b:Int} {ts:Array Nat} (hx:ρ x=some (.d (.int k a))) (hy:ρ y=some (.d (.int k b))):oper C ρ S (.call { callee:=.builtin .min,args:=#[x,y],argTypes:=ts })=some (.val (.d (.int k (Eh a b))) S):=by
 have:iM ρ [x,y]=some [.d (.int k a),.d (.int k b)]:=by simp only [iM,hx,hy,Option.map_some]
 simp only [oper,this,jR,qx,if_true,Option.map_some]; rfl
theorem p9 {k:IntKind} {a b:Int} {ts:Array Nat} (hx:ρ x=some (.d (.int k a))) (hy:ρ y=some (.d (.int k b))):oper C ρ S (.call { callee:=.builtin .max,args:=#[x,y],argTypes:=ts })=some (.val (.d (.int k (lQ a b))) S):=by
 have:iM ρ [x,y]=some [.d (.int k a),.d (.int k b)]:=by simp only [iM,hx,hy,Option.map_some]
 simp only [oper,this,jR,qx,if_true,Option.map_some]; rfl
theorem aO {α:Type} {enc:α→D} {l:List α} {b:Bool} {tt:Nat} (h:ρ x=some (.d (.sl (l.map enc) b))) (ht:(bL C.P tt).isSome=true):oper C ρ S (.call { callee:=.builtin .len,args:=#[x],argTypes:=#[tt] })=some (.val (.d (.int .i64 (l.length:Int))) S) :=
 gJ h (ET ht) (by simp [mF])
theorem uh {α:Type} {enc:α→D} {xs:List α} {tt:Nat} {S0:St} {l:List bU} (H:Has B S0 l) {i:Nat} {v:AV} (hi:l[i]? = some (.grow v (xs.map enc))) (h:ρ x=some v) (ht:(bL C.P tt).isSome=true):oper C ρ S (.call { callee:=.builtin .len,args:=#[x],argTypes:=#[tt] })=some (.val (.d (.int .i64 (xs.length:Int))) S) :=
 gJ h (Cy H hi ht) (by rw [BI H hi]; simp)
theorem sw:∀ (l:List Int),kg (l.map (D.int .u8))=some (l.map fun n=>UInt8.ofNat n.toNat)
 | []=>rfl
 | n :: l=>by simp only [List.map_cons,kg,sw l,Option.map_some]
theorem vC {src dst:Nat} {l:List Int} {b:Bool} (h:ρ x=some (.d (.sl (l.map (D.int .u8)) b))) (hd:qY C.P dst=true) (hs:qf C src=true):oper C ρ S (.convert src dst x)=some (.val (.d (.str (l.map fun n=>UInt8.ofNat n.toNat))) S):=by
 simp only [oper,h,wP,hd,hs,Bool.and_self,if_true,sw,Option.map_some]
def rA (l:List (Nat × Nat)):Nat→Option (Nat × Nat):=fun i=>l[i]?
def placesOf (P:Program) (t:Nat):Option (List (Nat × Nat)):=match P.underlying t with
 | some (.struct fs)=>if fs.all fun f=>(P.underlying f.type).isSome then some (fs.toList.map fun x=>(x.offset,aK P x.type)) else none
 | _=>none
theorem oC {l:List (Nat × Nat)} (h:placesOf C.P t=some l):oper.P_place C t=some (rA l):=by
 unfold placesOf at h
 unfold oper.P_place
 split at h
 ·
  rename_i fs hu
  simp only [hu]
  split at h
  ·
   rename_i ha
   rw [if_pos ha]
   simp only [Option.some.injEq] at h
   subst h
   congr 1
   funext i
   simp [rA]
  ·
   cases h
 ·
  cases h
theorem bW {ps:Array (Nat × Operand)} {z:D} {pv:List (Nat × AV)} {pl:Nat→Option (Nat × Nat)} {cs:List AV} (hz:zeroOf C.P t=some z) (he:qV ρ ps=some pv) (hp:oper.P_place C t=some pl) (hf:jU mI pl (AV.d z).cells pv=some cs):oper C ρ S (.build t ps)=some (.val (jW cs) S):=by
 simp only [oper,hz,he,hp,hf,Option.map_some]
inductive rC (sz:Nat):List AV→List D→Prop
 | nil:rC sz [] []
 | cons {v:AV} {d:D} {vs:List AV} {ds:List D} (h:yE v=some d) (hl:d.cells.length=sz) (k:rC sz vs ds):rC sz (v :: vs) (d :: ds)
def Au (n:Nat):List AV→List (Nat × AV)
 | []=>[]
 | v :: l=>(n,v) :: Au (n + 1) l
theorem yl {α:Type}:∀ (l cs:List α) (off:Nat),(setAt cs off l).length=cs.length
 | [],cs,off=>rfl
 | v :: l,cs,off=>by rw [setAt,yl l,List.length_set]
theorem tT {α:Type}:∀ (l a b c:List α),l.length=b.length→setAt (a ++ b ++ c) a.length l=a ++ l ++ c
 | [],a,b,c,h=>by
  have:b=[]:=List.eq_nil_of_length_eq_zero h.symm
  subst this; simp [setAt]
 | v :: l,a,b,c,h=>by
  cases b with
  | nil=>simp at h
  | cons w b =>
   simp only [List.length_cons,Nat.add_right_cancel_iff] at h
   have:=tT l (a ++ [v]) b c h
   simp only [setAt]
   have e:(a ++ w :: b ++ c).set a.length v=a ++ [v] ++ b ++ c:=by
    simp [List.set_append]
   rw [e,show a.length + 1=(a ++ [v]).length by simp,this]
   simp
theorem Cw {sz:Nat} {vs:List AV} {ds:List D} (h:rC sz vs ds):∀ (done:List D) (todo:List D),(∀ d ∈ done,d.cells.length=sz)→todo.length=vs.length * sz →
  jU cellsD (fun i=>some (i * sz,sz)) ((done.map D.cells).flatten ++ todo) (Au done.length vs)=some (((done ++ ds).map D.cells).flatten):=by
 induction h with
 | nil =>
  intro done todo _ ht
  have:todo=[]:=List.eq_nil_of_length_eq_zero (by simpa using ht)
  subst this
  simp [Au,jU]
 | @cons v d vs ds h hl k ih =>
  intro done todo hd ht
  have hlen:((done.map D.cells).flatten).length=done.length * sz:=by
   clear ih ht
   induction done with
   | nil=>simp
   | cons x l ihl =>
    simp only [List.map_cons,List.flatten_cons,List.length_append,hd x List.mem_cons_self,List.length_cons,ihl (fun d h=>hd d (List.mem_cons_of_mem _ h))]
    rw [Nat.add_mul]; omega
  simp only [List.length_cons] at ht
  rw [Nat.add_mul,Nat.one_mul] at ht
  have hc:cellsD v=some d.cells:=by simp only [cellsD,h]
  simp only [Au,jU,hc]
  rw [if_pos ⟨hl,by rw [List.length_append,hlen,hl]; omega⟩]
  have e1:todo=todo.take sz ++ todo.drop sz:=(List.take_append_drop sz todo).symm
  have e2:setAt ((done.map D.cells).flatten ++ todo) (done.length * sz) d.cells=((done ++ [d]).map D.cells).flatten ++ todo.drop sz:=by
   rw [e1,← List.append_assoc,← hlen,tT _ _ _ _ (by rw [hl,List.length_take]; omega)]
   simp
  rw [e2]
  have:=ih (done ++ [d]) (todo.drop sz) (fun x hx=>by
   rcases List.mem_append.1 hx with hx | hx
   ·
    exact hd x hx
   ·
    rw [List.mem_singleton.1 hx]; exact hl) (by rw [List.length_drop]; omega)
  rw [show (done ++ [d]).length=done.length + 1 by simp] at this
  rw [this]
  simp
theorem xc {sz:Nat}:∀ (ds:List D),(∀ d ∈ ds,d.cells.length=sz)→chunk sz ds.length ((ds.map D.cells).flatten)=ds.map D.cells
 | [],_=>rfl
 | d :: ds,h=>by
  have hd:=h d List.mem_cons_self
  simp only [List.length_cons,chunk,List.map_cons,List.flatten_cons]
  rw [List.take_append_of_le_length (by omega),List.take_of_length_le (by omega),List.drop_append_of_le_length (by omega),List.drop_of_length_le (by omega),List.nil_append,xc ds (fun d hd=>h d (List.mem_cons_of_mem _ hd))]
theorem wo {ag:Bool}:∀ (ds:List D),(∀ d ∈ ds,if ag=true then d.isAgg=true else d.isAgg=false)→iM (uP ag) (ds.map D.cells)=some ds
 | [],_=>rfl
 | d :: ds,h=>by
  have hd:=h d List.mem_cons_self
  have:uP ag d.cells=some d:=by
   unfold uP
   cases ag with
   | true =>
    simp only [if_true] at hd ⊢
    cases d <;> simp_all [D.isAgg,D.cells]
   | false =>
    simp only [Bool.false_eq_true,if_false] at hd ⊢
    cases d <;> simp_all [D.isAgg,D.cells]
  simp only [List.map_cons,iM,this,wo ds (fun d hd=>h d (List.mem_cons_of_mem _ hd)),Option.map_some]
theorem rC.len {sz:Nat} {vs:List AV} {ds:List D} (h:rC sz vs ds):ds.length=vs.length∧∀ d ∈ ds,d.cells.length=sz:=by
 induction h with
 | nil=>exact ⟨rfl,by simp⟩
 | cons h hl k ih=>exact ⟨by simp [ih.1],fun d hd=>by rcases List.mem_cons.1 hd with rfl | hd; exact hl; exact ih.2 d hd⟩
theorem aR {n el sz:Nat} {ag:Bool} {ps:Array (Nat × Operand)} {zd:D} {vs:List AV} {ds:List D} (hr:C.rowT t=false) (he:bL C.P t=some el) (ha:eZ C.P el=some ag) (hz:zeroOf C.P el=some zd) (hs:aK C.P el=sz) (hzl:zd.cells.length=sz) (hb:n * sz ≤ 16777216∧0 < n * sz)
  (hv:rC sz vs ds) (hn:vs.length=n) (hg:∀ d ∈ ds,if ag=true then d.isAgg=true else d.isAgg=false) (hev:qV ρ ps=some (Au 0 vs)):oper C ρ S (.buildSlice t n ps)=some (.val (.d (.sl ds true)) S):=by
 obtain ⟨k1,k2⟩:=hv.len
 subst hs
 have f1:=Cw hv [] ((List.replicate n zd.cells).flatten) (by simp) (by
  rw [List.length_flatten,List.map_replicate,List.sum_replicate_nat,hzl,hn])
 simp only [List.map_nil,List.flatten_nil,List.nil_append,List.length_nil] at f1
 have f2:=xc ds k2
 rw [k1,hn] at f2
 simp only [oper,CR,hr,Bool.false_and,cond_false,he,hev]
 rw [if_pos hb.1,if_neg (by omega)]
 simp only [hz,hzl,if_true,f1,ha,f2,wo ds hg,Option.map_some]
end
end Go.Ev
namespace Go.Ev
end Go.Ev
namespace Go.Ev
variable {B:St}
theorem BK {S:St} {l:List bU} (H:Has B S l) {i:Nat} {v:AV} {xs:List D} (hi:l[i]? = some (.grow v xs)):mI v=some [v]:=by
 obtain ⟨_,_,_,h1,h2⟩:=wU (H.at hi)
 simp only [mI,h1,h2,cond_true]
end Go.Ev
namespace Go.Ev
def yX (u:Option TypeDesc) (a b:D):Option Bool:=match u,a,b with
 | some .bool,.bool a,.bool b=>some (a == b)
 | some (.int _),.int k a,.int k' b=>if k=k' then some (a == b) else none
 | some .string,.str a,.str b=>some (a == b)
 | _,_,_=>none
def zN (P:Program):List Field→List D→List D→Option Bool
 | [],_,_=>some true
 | f :: l,xs,ys=>match f.name == "_", xs[f.offset]?,ys[f.offset]? with
  | false,some a,some b=>(match eZ P f.type,yX (P.underlying f.type) a b,zN P l xs ys with
   | some false,some p,some q=>some (p && q)
   | _,_,_=>none)
  | _,_,_=>none
theorem Aj {P:Program} {n t:Nat} {a b:D} {p:Bool} (h:yX (P.underlying t) a b=some p):kH P (n + 1) t a b=some p:=by
 unfold yX at h
 split at h
 ·
  rename_i hu; simp only [kH,hu]; exact h
 ·
  rename_i hu; simp only [kH,hu]; exact h
 ·
  rename_i hu; simp only [kH,hu]; exact h
 ·
  cases h
theorem uF {P:Program} {n:Nat} {xs ys:List D}:∀ (fs:List Field) {b:Bool},zN P fs xs ys=some b→fs.foldr (fun f k=>if f.name = "_" then k else
    match iF P f.type xs f.offset,iF P f.type ys f.offset with
    | some a,some b=>match kH P (n + 1) f.type a b with
     | some true=>k
     | some false=>some false
     | none=>none
    | _,_=>none) (some true)=some b
 | [],b,h=>h
 | f :: l,b,h=>by
  simp only [zN] at h
  split at h
  ·
   rename_i a c hn hx hy
   split at h
   ·
    rename_i p q ha hp hq
    cases h
    have hne:¬ f.name = "_" := fun e=>by rw [e] at hn; cases hn
    simp only [List.foldr_cons,if_neg hne]
    have h1:iF P f.type xs f.offset=some a:=by simp only [iF,ha,hx]
    have h2:iF P f.type ys f.offset=some c:=by simp only [iF,ha,hy]
    have ih:=uF (n:=n) l hq
    have h3:=Aj (n:=n) hp
    simp only [h1,h2,h3]
    cases p with
    | true=>simp only [Bool.true_and]; exact ih
    | false=>simp only [Bool.false_and]
   ·
    cases h
  ·
   cases h
theorem AO {P:Program} {n t:Nat} {fs:Array Field} {xs ys:List D} (hu:P.underlying t=some (.struct fs)) (g2:P.stoodInHeld t=false):kH P (n + 1 + 1) t (.agg xs) (.agg ys)=fs.toList.foldr (fun f k=>if f.name = "_" then k else
    match iF P f.type xs f.offset,iF P f.type ys f.offset with
    | some a,some b=>match kH P (n + 1) f.type a b with
     | some true=>k
     | some false=>some false
     | none=>none
    | _,_=>none) (some true):=by
 generalize n + 1=m
 simp only [kH,hu,g2,Bool.false_eq_true,if_false]
 rfl
theorem EA {P:Program} {t:Nat} {fs:Array Field} {xs ys:List D} {b:Bool} (g1:P.eqGuardType P.depth t=false) (hu:P.underlying t=some (.struct fs)) (g2:P.stoodInHeld t=false) (h:zN P fs.toList xs ys=some b) :
  AV.eqv P t (.d (.agg xs)) (.d (.agg ys))=some b:=by
 have h1:AV.eqv P t (.d (.agg xs)) (.d (.agg ys))=kH P 20 t (.agg xs) (.agg ys):=by
  show (if P.eqGuardType P.depth t then none else kH P 20 t (.agg xs) (.agg ys))=_
  rw [g1]; rfl
 rw [h1,AO (n:=18) hu g2]
 exact uF fs.toList h
theorem BQ {P:Program} {t:Nat} {x y:D} {xs ys:List D} {b:Bool} (hx:x=.agg xs) (hy:y=.agg ys) (h:AV.eqv P t (.d (.agg xs)) (.d (.agg ys))=some b):iQ P t .neq (.d x) (.d y)=some (.bool (!b)):=by
 subst hx hy; simp only [iQ,h,Option.map_some]
end Go.Ev

namespace Go.Ev
set_option linter.unusedVariables false
set_option linter.unusedSimpArgs false
variable {B:St}
variable {R:bT} {C:gq} {nt:Nat}
section rules
variable {T:List Fact} {ops:Array Oper} {rest:List (Nat × Oper)} {I K:List Nat} {e:Env} {S S':St} {Q:Env→St→Prop} {l l':List bU} {t ty i:Nat} {p:String} {af:Array Edge} {g:Option (Nat × Bool)} {v:AV} {x y:Operand}
end rules
end Go.Ev
namespace Go.Ev
end Go.Ev
namespace Go.Ev
theorem aF.seq {x:AV} {d:D} (h:aF [x] [d]) {xs:List AV} {ds:List D} (k:aF xs ds):aF (x :: xs) (d :: ds):=by
 obtain ⟨ds',h1,h2⟩:=h
 simp only [lK] at h1
 split at h1
 ·
  rename_i y hy
  simp only [Option.map_some,Option.some.injEq] at h1
  subst h1
  cases h2 with
  | cons h2 _=>exact aF.dV hy h2 k
 ·
  cases h1
end Go.Ev

namespace Go.Ev
set_option linter.unusedVariables false
set_option linter.unusedSimpArgs false
variable {R:bT} {C:gq} {P:Program} {nt:Nat} {B:St}
theorem dZ.rel {ys xs:List AV} (h:dZ ys xs) {cx:Cx} {S:St} {w:World} {us:List Value} (hr:∀ (i:Nat) (x:AV) (u:Value),xs[i]? = some x→us[i]? = some u→aM cx S w x u) :
  ∀ (i:Nat) (y:AV) (u:Value),ys[i]? = some y→us[i]? = some u→aM cx S w y u:=fun i y u hy hu=>by
 have hlt:i < xs.length:=by rw [← h.len]; exact (List.getElem?_eq_some_iff.1 hy).1
 have hx:=List.getElem?_eq_getElem hlt
 exact h.get hy hx _ _ _ _ (hr i _ u hx hu)
theorem fT.xZ {f:Nat} {args args':List AV} {S:St} {Q:Out→Prop} (h:fT R P f args' S Q) (hl:dZ args' args):fT R P f args S Q :=
 ⟨h.1,fun cx w us h1 h2 h3=>h.2 cx w us h1 (by rw [h2,hl.len]) (hl.rel h3)⟩
theorem SpecS.of_wp {f:Nat} {fn:Func} {c:Code} (hf:C.P.funcs[f]? = some fn) (hc:fn.body=some c) (hn:(fn.name == "runtime.NumGoroutine")=false) {args:List AV} (hle:Nat.ble args.length fn.ntmps=true) {S:St} {v:AV}
  (h:S.Wf→ax R C.P fn.ntmps c (mR 0 args) S (EX C fn (fun r=>r.1=none∧o8 S r.2.2∧∃ v',xJ r.2.1=some v'∧Bj v v'))):fT R C.P f args S (fun r=>r=(none,v,S)):=by
 refine ⟨⟨fn,hf,by simp [hc],by simpa using hn⟩,fun cx w us hS hl hr=>?_⟩
 have hs:=fT.of_wp hf hc hn (args:=args) (Nat.le_of_ble_eq_true hle) (h hS.wf)
 refine (hs.2 cx w us hS hl hr).mono (fun e w' he=>?_)
 obtain ⟨⟨p,v1,S1⟩,⟨hp,hk,v',hv,ha⟩,cx1,k1,k2,k3⟩:=he
 simp only at hp hv hk
 subst hp
 obtain ⟨d1,d2⟩:=DV hS.wf k1 k2 (hk.sub hS)
 obtain ⟨u,rfl,k3⟩:=k3
 exact ⟨_,rfl,cx1,d1,d2,u,rfl,ha.rel (wB hv k3 (fun _ _ q=>q))⟩
theorem wF {ρ:Operand→Option AV} {S:St} {x:Operand} {g:Nat} {caps:List AV} {arr_:Array Operand} {ts:Array Nat} {args:List AV} (hx:ρ x=some (.fn g caps)) (ha:iM ρ arr_.toList=some args):oper C ρ S (.call { callee:=.value x,args:=arr_,argTypes:=ts })=some (.call g (args ++ caps)):=by
 simp only [oper,hx,ha]
theorem nM {ρ:Operand→Option AV} {S:St} {g:Nat} {caps:Array Operand} {cs:List AV} (h:iM ρ caps.toList=some cs):oper C ρ S (.makeFunc (.func g) #[] caps)=some (.val (.fn g cs) S):=by
 simp only [oper,h,Option.map_some]
theorem BM {ρ:Operand→Option AV} {S:St} {l:List bU} {x:Operand} {t id off:Nat} {cs:List AV} {v:AV} (H:Has B S l) (hb:B.H.get id=some (.cells 0 cs)) (h:ρ x=some (.ptr id 0 off)) (hp:part C.P t cs off=some v):oper C ρ S (.load t x)=some (.val v S):=by
 have hb:=H.keeps.H _ _ hb
 simp only [oper,h,mg,St.look,hb,Nat.beq_refl,cond_true,hp,Option.map_some]
end Go.Ev
namespace Go.Ev
theorem nY {C:gq} {ρ:Operand→Option AV} {S:St} {t el:Nat} {ag:Bool} (hr:C.rowT t=false) (he:bL C.P t=some el) (ha:eZ C.P el=some ag):oper C ρ S (.buildSlice t 0 #[])=some (.val (.d (.sl [] true)) S):=by
 simp [oper,CR,hr,he,ha,qV,iM,jU,chunk]
theorem eG {pl:Nat→Option (Nat × Nat)} {cells:List AV} {i off size:Nat} {v:AV} {rest:List (Nat × AV)} {cs' r:List AV} (hp:pl i=some (off,size)) (hc:mI v=some cs') (hl:cs'.length=size) (hb:Nat.ble (off + cs'.length) cells.length=true) (k:jU mI pl (setAt cells off cs') rest=some r):jU mI pl cells ((i,v) :: rest)=some r:=by
 simp only [jU,hp,hc]
 rw [if_pos ⟨hl,Nat.le_of_ble_eq_true hb⟩]; exact k
theorem yN {P:Program} {t:Nat} {a b:Bool} (h:P.underlying t=some .bool):iQ P t .eql (.d (.bool a)) (.d (.bool b))=some (.bool (a == b)):=by
 simp only [iQ,AV.eqv,kH,h,Option.map_some]
theorem map_nil {α β:Type} {f:α→β} {l:List α} (h:l.map f=[]):l=[]:=List.map_eq_nil_iff.1 h
theorem EI {α:Type} {enc:α→D} {C:gq} {t el:Nat} {l r:List α} {b:Bool} {lo hi:Option D} {x y:Int} (he:bL C.P t=some el) (hu:(C.P.underlying el).isSome=true) (hlen:∀ z,(enc z).cells.length=aK C.P el)
  (hlo:jC lo 0=some x.toNat∧0 ≤ x) (hhi:jC hi (l.map enc).length=some y.toNat∧0 ≤ y) (h:cut l x y=some r):∃ b',sU C t (l.map enc) b lo hi none=some (.sl (r.map enc) b')∧(b=false→b'=false):=by
 obtain ⟨⟨h1,h2,h3⟩,rfl⟩:=zZ h
 have hh:wy (aK C.P el) (l.map enc)=true:=by
  cases l with
  | nil=>rfl
  | cons z l=>simp [wy,hlen]
 refine ⟨b && Nat.beq y.toNat (l.map enc).length,?_,fun h=>by rw [h]; rfl⟩
 have e1:decide (x.toNat ≤ y.toNat)=true:=decide_eq_true (by omega)
 have e2:decide (y.toNat ≤ (l.map enc).length)=true:=decide_eq_true (by simp; omega)
 simp only [sU,he,hh,hu,Bool.and_self,if_true,hlo.1,hhi.1,e1,e2]
 simp [List.map_take,List.map_drop]
section
variable {α:Type} {enc:α→D} {C:gq} {ρ:Operand→Option AV} {S:St} {t el:Nat} {x lo hi:Operand} {l r:List α} {k k':IntKind} {a c:Int}
theorem Ec {k:IntKind} {a:Int} (h:0 ≤ a):asNat (.int k a)=some a.toNat:=by simp only [asNat,if_pos h]
theorem kR (hx:ρ x=some (.d (.sl (l.map enc) false))) (hh:ρ hi=some (.d (.int k' c))) (he:bL C.P t=some el) (hu:(C.P.underlying el).isSome=true) (hlen:∀ z,(enc z).cells.length=aK C.P el) (h:cut l 0 c=some r) :
  oper C ρ S (.slice t x none (some hi) none)=some (.val (.d (.sl (r.map enc) false)) S):=by
 have hb:=(zZ h).1
 obtain ⟨b',h1,h2⟩:=EI (C:=C) (b:=false) (lo:=none) (hi:=some (.int k' c)) he hu hlen ⟨rfl,by omega⟩ ⟨Ec (k:=k') (by omega),by omega⟩ h
 rw [h2 rfl] at h1
 simp only [oper,hx,DW,hh,vF,h1,Option.map_some]
end
section
variable {C:gq} {ρ:Operand→Option AV} {S:St} {t:Nat} {x lo hi:Operand} {s r:Str} {k k':IntKind} {a c:Int}
end
end Go.Ev

namespace Go.Ev
noncomputable section
set_option linter.unusedVariables false
set_option linter.unusedSimpArgs false
theorem Has.obj {B S:St} {l:List bU} (h:Has B S l) (k:Nat) (x:D):Has B (dh S (.obj k x)) (.obj S.nx k x :: l) :=
 h.new _ rfl (by simp [bU.ok,dh,AL.aX])
section
variable {R:bT} {C:gq} {nt:Nat} {ops:Array Oper} {rest:List Oper} {e:Env} {B S S':St} {Q:Stp→Prop} {l l':List bU} {t ty:Nat} {p:String} {af:Array Edge} {g:Option (Nat × Bool)} {v:AV} {x y:Operand}
end
def iU (n:Nat) (s c:Str):Option Str:=if s.length ≤ bound∧c.length ≤ 1000∧(c.all fun b=>decide (b.toNat < 128))=true then some (Lib.trimS s c) else none
end
end Go.Ev

namespace Go.Ev
noncomputable section
set_option linter.unusedVariables false
set_option linter.unusedSimpArgs false
set_option linter.unusedSectionVars false
section
variable {κ ν:Type} [BEq κ] [LawfulBEq κ]
def Ex (ek:κ→D) (ev:ν→D):Nat→List (κ × ν)→List (D × AV × Nat)
 | _,[]=>[]
 | i,(k,v) :: l=>(ek k,.d (ev v),i) :: Ex ek ev (i + 1) l
def mD (ek:κ→D) (ev:ν→D) (m:List (κ × ν)):vk:={ es:=Ex ek ev 0 m,clk:=m.length }
def lX (k:κ):List (κ × ν)→Nat→Option (Nat × ν)
 | [],_=>none
 | (a,b) :: l,i=>if k == a then some (i,b) else lX k l (i + 1)
def BL (m:List (κ × ν)) (k:κ):Option ν:=(lX k m 0).map (·.2)
def r9 (m:List (κ × ν)) (k:κ) (z:ν):ν:=(BL m k).getD z
def wM (m:List (κ × ν)) (k:κ) (v:ν):List (κ × ν):=match lX k m 0 with
 | some (i,_)=>m.set i (k,v)
 | none=>m ++ [(k,v)]
structure yf (P:Program) (t:Nat) (ek:κ→D):Prop where
 eq:∀ a b,kH P 20 t (ek a) (ek b)=some (a == b)
 same:∀ a,D.same (ek a) (ek a)=true
 ok:∀ a,nC P t (ek a)=true
theorem xe {P:Program} {t:Nat} {ek:κ→D} {ev:ν→D} (K:yf P t ek) (k:κ):∀ (m:List (κ × ν)) (i j:Nat),kG P t (ek k) (Ex ek ev i m) j=some ((lX k m j).map fun r=>(r.1,.d (ev r.2)))
 | [],i,j=>rfl
 | (a,b) :: l,i,j=>by
  simp only [Ex,kG,K.eq,lX]
  cases hb:k == a with
  | true =>
   have:=eq_of_beq hb
   subst this
   simp [K.same]
  | false=>simp only [xe K k l (i + 1) (j + 1)]; rfl
theorem Fg {C:gq} {t kt et id:Nat} {S:St} {ek:κ→D} {ev:ν→D} {m:List (κ × ν)} {k:κ} {z:ν} (hk:qI C t=some (kt,et)) (K:yf C.P kt ek) (hz:zeroOf C.P et=some (ev z)) (hm:S.H.get id=some (.map (mD ek ev m))) :
  qp C t S (.map id) (ek k) false=some (.d (ev (r9 m k z))):=by
 simp only [qp,hk,mapOf,hm,K.ok,if_true,mD,xe K]
 unfold r9 BL
 cases lX k m 0 with
 | none=>simp [hz]
 | some r=>simp
theorem wz (ek:κ→D) (ev:ν→D) (k:κ) (v:ν):∀ (m:List (κ × ν)) (i:Nat),Ex ek ev i m ++ [(ek k,.d (ev v),i + m.length)]=Ex ek ev i (m ++ [(k,v)])
 | [],i=>rfl
 | (a,b) :: l,i=>by
  have:=wz ek ev k v l (i + 1)
  simp only [Ex,List.cons_append,List.length_cons]
  rw [show i + (l.length + 1)=i + 1 + l.length by omega,this]
theorem DD (ek:κ→D) (ev:ν→D) (k:κ) (v:ν):∀ (m:List (κ × ν)) (i j:Nat),(Ex ek ev i m).modify j (fun p=>(ek k,.d (ev v),p.2.2))=Ex ek ev i (m.set j (k,v))
 | [],i,j=>by simp [Ex]
 | (a,b) :: l,i,0=>by simp [Ex]
 | (a,b) :: l,i,j + 1=>by
  have:=DD ek ev k v l (i + 1) j
  simp only [Ex,List.set_cons_succ,List.modify_succ_cons,this]
theorem Fb {C:gq} {t kt et id:Nat} {S:St} {ek:κ→D} {ev:ν→D} {m:List (κ × ν)} {k:κ} {v:ν} (hk:qI C t=some (kt,et)) (K:yf C.P kt ek) (hm:S.H.get id=some (.map (mD ek ev m))) :
  pR C t S (.map id) (ek k) (.d (ev v))=some { S with H:=S.H.set id (.map (mD ek ev (wM m k v))) }:=by
 simp only [pR,hk,hm,K.ok,AV.plain,Bool.and_self,if_true,mD,xe K]
 unfold wM
 cases hf:lX k m 0 with
 | none =>
  have:=wz ek ev k v m 0
  rw [Nat.zero_add] at this
  simp [this]
 | some r=>simp [DD]
theorem Has.map {B S:St} {l:List bU} (h:Has B S l) (m:vk):Has B (dh S (.map m)) (.map S.nx m :: l) :=
 h.new _ rfl (by simp [bU.ok,dh,AL.aX])
omit [BEq κ] [LawfulBEq κ] in
theorem Has.Ie {B S:St} {l:List bU} (h:Has B S l) {i id:Nat} {m m':vk} (hi:l[i]? = some (.map id m)):Has B { S with H:=S.H.set id (.map m') } (l.set i (.map id m')):=by
 have hid:=h.at hi
 refine h.set hi rfl (by simp [bU.ok,AL.aX]) (fun j hl=>?_) (fun j hj=>?_) (fun j hj=>rfl) rfl
 ·
  refine h.wf j ?_
  unfold live cur at hl ⊢
  simp only [AL.aX] at hl
  by_cases hij:id=j
  ·
   subst hij; rw [show S.H.get id=_ from hid]; simp
  ·
   rw [if_neg hij] at hl; exact hl
 ·
  simp only [bU.fp,List.mem_singleton] at hj
  simp only [AL.aX]
  rw [if_neg (fun q=>hj q.symm)]
end
theorem F7 {P:Program} {t:Nat} (h:P.underlying t=some .string):yf P t D.str where
 eq:=fun a b=>by simp only [kH,h]
 same:=fun a=>by simp [D.same]
 ok:=fun a=>by simp only [nC,lZ,kS,h,Bool.and_self]
section
variable {κ ν:Type} [BEq κ] [LawfulBEq κ] {R:bT} {C:gq} {nt:Nat} {ops:Array Oper} {rest:List Oper} {e:Env} {B S S':St} {Q:Stp→Prop} {l l':List bU} {t ty:Nat} {p:String} {af:Array Edge} {g:Option (Nat × Bool)} {x y w:Operand} {ρ:Operand→Option AV} {ek:κ→D} {ev:ν→D} {m:List (κ × ν)} {k:κ} {v z:ν}
theorem ah.makeMap {t1 kt et:Nat} (ek:κ→D) (ev:ν→D) (H:Has B S l) (hw:dn ops e { dst:=some t,op:=.makeMap t1 none,type:=ty,pos:=p,after:=af,guard:=g }=some true) (hk:qI C t1=some (kt,et)) (ht:Nat.blt t nt=true)
  (k:∀ b S',Has B S' (.map b (mD ek ev []) :: l)→ah R C nt ops rest ((t,.map b) :: e) S' Q) :
  ah R C nt ops ({ dst:=some t,op:=.makeMap t1 none,type:=ty,pos:=p,after:=af,guard:=g } :: rest) e S Q :=
 ah.val hw (v:=.map S.nx) (S':=dh S (.map (mD ek ev []))) (by simp only [oper,hk,H.BH,cond_false]; rfl) ht (k _ _ (H.map _))
theorem zP {t1 kt et id i:Nat} (H:Has B S l) (hi:l[i]? = some (.map id (mD ek ev m))) (hm:ρ x=some (.map id)) (hky:ρ y=some (.d (ek k))) (hk:qI C t1=some (kt,et)) (K:yf C.P kt ek) (hz:zeroOf C.P et=some (ev z)) :
  oper C ρ S (.lookup t1 x y false)=some (.val (.d (ev (r9 m k z))) S):=by
 simp only [oper,hm,hky,Fg hk K hz (H.at hi),Option.map_some]
theorem ah.mapUpdate {t1 kt et id i:Nat} (H:Has B S l) (hw:dn ops e { dst:=none,op:=.mapUpdate t1 x y w,type:=ty,pos:=p,after:=af,guard:=g }=some true) (hi:l[i]? = some (.map id (mD ek ev m))) (hm:dX e x=some (.map id)) (hky:dX e y=some (.d (ek k))) (hv:dX e w=some (.d (ev v))) (hk:qI C t1=some (kt,et)) (K:yf C.P kt ek)
  (kk:∀ S',Has B S' (l.set i (.map id (mD ek ev (wM m k v))))→ah R C nt ops rest e S' Q) :
  ah R C nt ops ({ dst:=none,op:=.mapUpdate t1 x y w,type:=ty,pos:=p,after:=af,guard:=g } :: rest) e S Q :=
 ah.skip hw (by simp only [oper,hm,hky,hv,Fb hk K (H.at hi),Option.map_some]) (kk _ (H.Ie hi))
end
end
end Go.Ev

namespace Go.Ev
noncomputable section
set_option linter.unusedVariables false
set_option linter.unusedSimpArgs false
theorem Gn {L l1 l2:List Nat} {listed:Array Bool} {i:Nat} (hlt':i < listed.size) (hsp:(L.filter fun i=>!listed.getD i false)=l1 ++ i :: l2) (hne1:∀ k ∈ l1,k ≠ i) (hne2:∀ k ∈ l2,k ≠ i) :
  L.filter (fun j=>!(listed.setIfInBounds i true).getD j false)=l1 ++ l2:=by
 have:(fun j=>!(listed.setIfInBounds i true).getD j false)=(fun j=>(!listed.getD j false) && decide (j ≠ i)):=by
  funext j
  by_cases hj:i=j
  ·
   subst hj; simp [hlt']
  ·
   rw [getD_set_ne false hj]; simp [Ne.symm hj]
 rw [this,← List.filter_filter]
 have hcomm:∀ (l:List Nat) (p q:Nat→Bool),(l.filter p).filter q=(l.filter q).filter p:=fun l p q=>by
  rw [List.filter_filter,List.filter_filter]; congr 1; funext a; exact Bool.and_comm _ _
 rw [hcomm,hsp,List.filter_append,List.filter_cons]
 simp only [ne_eq,not_true_eq_false,decide_false,Bool.false_eq_true,if_false]
 congr 1
 ·
  rw [List.filter_eq_self]; intro k hk; simpa using hne1 k hk
 ·
  rw [List.filter_eq_self]; intro k hk; simpa using hne2 k hk
theorem Ig {ops:Array Oper} (hr:qK ops=true) {listed:Array Bool} (hcl:Closed ops listed) {i:Nat} {o:Oper} (h2:ops[i]? = some o) (h3:∀ e ∈ o.after,Region.binds .any e=true→listed.getD e.on false=true) :
  ∀ k,k < i→((Region.before ops).getD i 0).testBit k=true→listed.getD k false=true:=by
 intro k hk hb
 obtain ⟨r1,r2,_⟩:=mo hr h2
 have hlt:i < ops.size:=(Array.getElem?_eq_some_iff.1 h2).1
 have hkx:∃ x,ops[k]? = some x:=⟨ops[k],by simp [show k < ops.size by omega]⟩
 obtain ⟨x,hx⟩:=hkx
 have:=r2 k x hk hx
 rw [if_pos hb] at this
 obtain ⟨ed,he,hbnd,hor⟩:=this
 rcases hor with q | q
 ·
  rw [← q]; exact h3 ed he hbnd
 ·
  by_cases hke:k < ed.on
  ·
   exact hcl ed.on (h3 ed he hbnd) k hke q
  ·
   rcases Nat.lt_or_ge ed.on k with q1 | q1
   ·
    exfalso
    have hel:ed.on < ops.size:=by have:=r1 ed he hbnd; omega
    have:=(mo hr (show ops[ed.on]? = some ops[ed.on] by simp [hel])).2.2 k (by omega)
    rw [this] at q; cases q
   ·
    have:k=ed.on:=by omega
    rw [this]; exact h3 ed he hbnd
theorem Cz {ops:Array Oper} {listed:Array Bool} (hcl:Closed ops listed) {i:Nat} (hclo:∀ k,k < i→((Region.before ops).getD i 0).testBit k=true→listed.getD k false=true):Closed ops (listed.setIfInBounds i true):=by
 intro j hj k hkj hb
 by_cases hij:i=j
 ·
  subst hij
  exact getD_set_true (hclo k hkj hb)
 ·
  rw [getD_set_ne false hij] at hj
  exact getD_set_true (hcl j hj k hkj hb)
theorem Ck {ops:Array Oper} (hr:qK ops=true) {listed:Array Bool} (hsz:listed.size=ops.size) {m:Nat} (m1:m < ops.size) (m2:listed.getD m false=false):Region.ready .any ops listed ≠ []:=by
 have hex:∃ m,m < ops.size∧listed.getD m false=false∧∀ k,k < m→listed.getD k false=true:=by
  induction m using Nat.strongRecOn with
  | _ m ihm =>
   by_cases hall:∀ k,k < m→listed.getD k false=true
   ·
    exact ⟨m,m1,m2,hall⟩
   ·
    have:∃ k,k < m∧listed.getD k false=false:=by
     refine Classical.byContradiction fun hc=>hall fun k hk=>?_
     cases hv:listed.getD k false with
     | true=>rfl
     | false=>exact absurd ⟨k,hk,hv⟩ hc
    obtain ⟨k,hk,hv⟩:=this
    exact ihm k hk (by omega) hv
 obtain ⟨m,hmlt,hm2,hmin⟩:=hex
 have hmo:ops[m]? = some ops[m]:=by simp [hmlt]
 have hready:m ∈ Region.ready .any ops listed:=by
  rw [mem_ready]
  refine ⟨by have:m < listed.size:=(by omega); simp [this] at hm2 ⊢; exact hm2,ops[m],hmo,fun ed he hb=>?_⟩
  have hon:=(mo hr hmo).1 ed he hb
  exact hmin ed.on hon
 intro hnone
 rw [hnone] at hready
 cases hready
end
end Go.Ev

namespace Go.Ev
noncomputable section
set_option linter.unusedVariables false
set_option linter.unusedSimpArgs false
variable {R:bT} {C:gq} {nt:Nat}
section
variable {B:St} {T:List Fact} {ops:Array Oper} {rest:List (Nat × Oper)} {I K:List Nat} {e:Env} {S S':St} {Q:Env→St→Prop} {l l':List bU} {t ty i:Nat} {p:String} {af:Array Edge} {g:Option (Nat × Bool)} {v:AV} {x y:Operand}
end
end
end Go.Ev

namespace Go.Ev
noncomputable section
set_option linter.unusedVariables false
set_option linter.unusedSimpArgs false
variable {R:bT} {C:gq} {P:Program} {nt:Nat} {B:St}
inductive GG (v:AV) (d:D):AV→AV→Prop
 | same (x:AV):GG v d x x
 | it:GG v d v (.d d)
inductive rO (v:AV) (d:D):List AV→List AV→Prop
 | nil:rO v d [] []
 | cons {x y:AV} {xs ys:List AV} (h:GG v d x y) (k:rO v d xs ys):rO v d (x :: xs) (y :: ys)
theorem rO.len {v:AV} {d:D} {xs ys:List AV} (h:rO v d xs ys):ys.length=xs.length:=by
 induction h with
 | nil=>rfl
 | cons _ _ ih=>simp [ih]
theorem rO.get {v:AV} {d:D} {xs ys:List AV} (h:rO v d xs ys):∀ {i:Nat} {y:AV},ys[i]? = some y→∃ x,xs[i]? = some x∧GG v d x y:=by
 induction h with
 | nil=>intro i y h; simp at h
 | cons h k ih =>
  intro i y hy
  cases i with
  | zero=>simp at hy; subst hy; exact ⟨_,rfl,h⟩
  | succ i=>simpa using ih (by simpa using hy)
theorem rO.refl (v:AV) (d:D):∀ (l:List AV),rO v d l l
 | []=>.nil
 | x :: l=>.cons (.same x) (.refl v d l)
def IK (v:AV) (d:D) (b b':tZ):Prop:=b'=b∨∃ g cs cs',b=.cells g cs∧b'=.cells g cs'∧rO v d cs cs'
theorem xy {v:Value} (h:v.oneCell'=true):v.cells.toList=[v]∧rF v=false:=by
 cases v <;> simp_all [Value.oneCell',Value.cells,rF]
theorem gX.of_cells {w:World} {fr:Nat→Nat→Prop} {x:D} {vs:List Value} (hf:lF x.cells=true) (hl:vs.length=x.cells.length) (ho:∀ v ∈ vs,v.oneCell'=true)
  (h:∀ (i:Nat) (c:D) (v:Value),x.cells[i]? = some c→vs[i]? = some v→gX w fr c [v]):gX w fr x vs:=by
 have one:∀ (x:D),x.cells=[x]→(vs.length=x.cells.length)→(∀ (i:Nat) (c:D) (v:Value),x.cells[i]? = some c→vs[i]? = some v→gX w fr c [v])→gX w fr x vs:=fun x hx hl h=>by
  rw [hx] at hl h
  match vs,hl with
  | [v],_=>exact h 0 x v rfl rfl
 cases x with
 | agg ys =>
  simp only [D.cells] at hl h hf
  refine .agg ys vs hl ho (fun y hy=>?_) h
  clear hl h
  induction ys with
  | nil=>cases hy
  | cons z ys ih =>
   simp only [lF,Bool.and_eq_true,Bool.not_eq_true'] at hf
   rcases List.mem_cons.1 hy with rfl | hy
   ·
    exact hf.1
   ·
    exact ih hf.2 hy
 | _=>exact one _ rfl hl h
theorem flat_get {xs:List D} {sz:Nat} (hsz:∀ x ∈ xs,x.cells.length=sz):∀ {i j:Nat} {x c:D},xs[i]? = some x→x.cells[j]? = some c→((xs.map D.cells).flatten)[i * sz + j]? = some c:=by
 induction xs with
 | nil=>intro i j x c hx; simp at hx
 | cons y xs ih =>
  intro i j x c hx hc
  have hy:=hsz y List.mem_cons_self
  rw [List.map_cons,List.flatten_cons]
  cases i with
  | zero =>
   simp at hx; subst hx
   rw [Nat.zero_mul,Nat.zero_add,List.getElem?_append_left (List.getElem?_eq_some_iff.1 hc).1]; exact hc
  | succ i =>
   have:=ih (fun x hx=>hsz x (List.mem_cons_of_mem _ hx)) (i:=i) (by simpa using hx) hc
   rw [Nat.add_mul,Nat.one_mul,List.getElem?_append_right (by omega)]
   rw [show i * sz + sz + j - y.cells.length=i * sz + j by omega]; exact this
theorem vO {xs:List D} {sz:Nat} (hsz:∀ x ∈ xs,x.cells.length=sz):((xs.map D.cells).flatten).length=xs.length * sz:=by
 induction xs with
 | nil=>simp
 | cons y xs ih =>
  rw [List.map_cons,List.flatten_cons,List.length_append,ih (fun x hx=>hsz x (List.mem_cons_of_mem _ hx)),hsz y List.mem_cons_self,List.length_cons,Nat.add_mul,Nat.one_mul]; omega
theorem FO {cx:Cx} {S:St} {w:World} (h:bf R cx S w) {id g sz:Nat} {xs:List D} {cs0:List AV} (hcs0:dZ ((xs.map D.cells).flatten.map .d) cs0) (hid:S.H.get id=some (.cells g cs0)) (hpos:0 < sz) (hsz:∀ x ∈ xs,x.cells.length=sz∧lF x.cells=true)
  {fr':Nat→Nat→Prop} (hp:∀ (b o:Nat) (v:Value),¬ cx.fr b o→w.cell? ⟨b,o,none⟩=some v→w.cell? ⟨b,o,none⟩=some v∧¬ fr' b o) (hfr:∀ o,¬ fr' (cx.bm id) o) {u:Value} (hu:aM cx S w (.msl id g 0 xs.length xs.length sz) u):bH w fr' (.sl xs false) u:=by
 cases hu with
 | msl _ _ _ _ _ _ b cap hn hl hcap h63 hq =>
  obtain ⟨hb,_,_⟩:=hq (by unfold cur; rw [hid])
  subst hb
  obtain ⟨c1,c2,arr,el,c3,⟨c4,c5,c6⟩,c7⟩:=h.cells id g _ hid
  refine ⟨?_,rfl⟩
  by_cases hne:xs=[]
  ·
   subst hne; exact .sl0 _ cap false (fun q=>by cases q)
  have hflat:=vO (fun x hx=>(hsz x hx).1)
  let vs:Nat→List Value:=fun i=>(List.range sz).map fun j=>(arr[i * sz + j]?).getD default
  have hcell:∀ (i j:Nat) (x:D),xs[i]? = some x→j < sz→∃ c v,x.cells[j]? = some c∧arr[i * sz + j]? = some v∧aM cx S w (.d c) v∧v.oneCell'=true:=fun i j x hx hj=>by
   have hxl:=(hsz x (List.mem_of_getElem? hx)).1
   have hc:x.cells[j]? = some x.cells[j]:=List.getElem?_eq_getElem (by omega)
   have hfg:=flat_get (fun x hx=>(hsz x hx).1) hx hc
   have hlt:i * sz + j < cs0.length:=by
    have:=(List.getElem?_eq_some_iff.1 hfg).1
    have h2:=hcs0.len
    rw [List.length_map] at h2; omega
   obtain ⟨v,v1,v2,v3⟩:=c7 (i * sz + j) _ (List.getElem?_eq_getElem hlt)
   exact ⟨_,v,hc,v1,hcs0.get (by rw [List.getElem?_map,hfg]; rfl) (List.getElem?_eq_getElem hlt) _ _ _ _ v2,v3⟩
  have hvs:∀ (i j:Nat) (v:Value),(vs i)[j]? = some v→j < sz∧(arr[i * sz + j]?).getD default=v:=fun i j v hv=>by
   simp only [vs,List.getElem?_map,Option.map_eq_some_iff] at hv
   obtain ⟨k,hk,rfl⟩:=hv
   rw [List.getElem?_eq_some_iff] at hk
   obtain ⟨hlt,hk⟩:=hk
   simp at hlt hk
   subst hk
   exact ⟨hlt,rfl⟩
  refine .sl xs false (cx.bm id) 0 cap sz vs hne hcap (fun q=>by cases q) (fun i x hx=>(hsz x (List.mem_of_getElem? hx)).1) (fun i hi=>by simp [vs]) (fun i x hx=>?_) (fun i j v hi hv=>?_)
  ·
   have hm:=hsz x (List.mem_of_getElem? hx)
   refine gX.of_cells hm.2 (by simp [vs,hm.1]) (fun v hv=>?_) (fun j c v hc hv=>?_)
   ·
    obtain ⟨j,hj,rfl⟩:=List.getElem_of_mem hv
    have hj':=List.getElem?_eq_getElem hj
    obtain ⟨k1,k2⟩:=hvs i j _ hj'
    obtain ⟨c,v,_,v1,_,v3⟩:=hcell i j x hx k1
    rw [v1] at k2
    rw [← k2]; exact v3
   ·
    obtain ⟨k1,k2⟩:=hvs i j v hv
    obtain ⟨c',v',h1,v1,v2,v3⟩:=hcell i j x hx k1
    rw [v1] at k2
    simp at k2
    subst k2
    rw [hc] at h1; cases h1
    have:=(v2.dd.mono hp).1
    rw [(xy v3).1] at this
    exact this
  ·
   obtain ⟨k1,k2⟩:=hvs i j v hv
   obtain ⟨c',v',h1,v1,v2,v3⟩:=hcell i j xs[i] (List.getElem?_eq_getElem hi) k1
   rw [v1] at k2
   simp at k2
   subst k2
   refine ⟨?_,hfr _⟩
   simp only [World.cell?,c3,Nat.zero_add]
   simp [v1]
theorem zO (hR:ObjOk R) {cx:Cx} {S S':St} {w:World} (h:bf R cx S w) {id g sz:Nat} {xs:List D} {cs0:List AV} (hcs0:dZ ((xs.map D.cells).flatten.map .d) cs0) (hid:S.H.get id=some (.cells g cs0)) (hpos:0 < sz) (hsz:∀ x ∈ xs,x.cells.length=sz∧lF x.cells=true)
  (nx:S'.nx=S.nx) (hT:S'.T=S.T) (hH:∀ k b',S'.H.get k=some b'→k ≠ id∧∃ b,S.H.get k=some b∧IK (.msl id g 0 xs.length xs.length sz) (.sl xs false) b b') :
  ∃ cx',bf R cx' S' w∧Ext cx S w cx' S' w∧∀ u,aM cx S w (.msl id g 0 xs.length xs.length sz) u→aM cx' S' w (.d (.sl xs false)) u:=by
 have hl:live S id:=mG hid
 have ownId:∀ k b,live S k→cx.fp k b→b=cx.bm id→k=id:=fun k b hk hf hb=>by
  subst hb
  exact h.sep k id _ hk hl hf ((h.cells id g _ hid).fp _ |>.2 rfl)
 have hcur:∀ k g',cur S' k=some g'→cur S k=some g':=fun k g' hc=>by
  unfold cur at hc ⊢
  cases hk:S'.H.get k with
  | none =>
   rw [hk] at hc
   simp only [hT] at hc
   cases hS:S.H.get k with
   | none=>exact hc
   | some b=>rw [h.pJ k b hS] at hc; cases hc
  | some b' =>
   rw [hk] at hc
   obtain ⟨_,b,hb,hz⟩:=hH k b' hk
   rw [hb]
   rcases hz with rfl | ⟨g1,cs,cs',rfl,rfl,_⟩
   ·
    cases b' <;> exact hc
   ·
    exact hc
 have hlive:∀ k,live S' k→live S k:=fun k hk=>by
  cases hc:cur S' k with
  | none=>exact absurd hc hk
  | some g'=>unfold live; rw [hcur k g' hc]; simp
 have hno:¬ live S' id:=fun q=>by
  cases hc:S'.H.get id with
  | some b'=>exact (hH id b' hc).1 rfl
  | none =>
   unfold live cur at q
   rw [hc,hT,h.pJ id _ hid] at q
   exact q rfl
 have hit:∀ k g',isIt S' k g'→isIt S k g':=fun k g' q=>by
  obtain ⟨_,b,hb,hz⟩:=hH k _ q
  rcases hz with hz | ⟨g1,cs,cs',_,hz,_⟩
  ·
   rw [← hz] at hb; exact hb
  ·
   cases hz
 let cx':Cx:={ cx with fr:=fun b o=>cx.fr b o∧b ≠ cx.bm id }
 have prot:∀ (b o:Nat) (v:Value),¬ cx.fr b o→w.cell? ⟨b,o,none⟩=some v→w.cell? ⟨b,o,none⟩=some v∧¬ cx'.fr b o:=fun b o v h1 h2=>⟨h2,fun q=>h1 q.1⟩
 have ext:Ext cx S w cx' S' w:=by
  refine ⟨Nat.le_refl _,rfl,rfl,rfl,by rw [nx]; exact Nat.le_refl _,prot,fun b hb hn=>⟨rfl,fun o=>⟨fun q=>q.1,fun q=>⟨q,fun hq=>?_⟩⟩⟩,fun k b hk hf=>⟨fun _=>⟨hlive k hk,.inl hf⟩,fun hge=>?_⟩,fun k g' _ q=>⟨g',hit k g' q⟩,fun k g' b _ _ _ hf=>hf,fun k g' _ hc=>⟨g',hcur k g' hc,Nat.le_refl _,fun _=>⟨rfl,rfl,rfl⟩⟩⟩
  ·
   subst hq
   exact Bz hid (by intro x; simp) (hn id hl ((h.cells id g _ hid).fp _ |>.2 rfl))
  ·
   exact absurd (h.wf k (hlive k hk)) (by omega)
 have key:∀ u,aM cx S w (.msl id g 0 xs.length xs.length sz) u→aM cx' S' w (.d (.sl xs false)) u:=fun u hu =>
  .d _ _ (FO h hcs0 hid hpos hsz prot (fun o q=>q.2 rfl) hu)
 refine ⟨cx',⟨fun k hk=>by rw [nx]; exact h.wf k (hlive k hk),fun k b' hk=>?_,fun k g' cs' hk=>?_,fun k es hk=>?_,fun k q x hk=>?_,fun k en hk=>?_,fun k k' b a1 a2=>h.sep k k' b (hlive k a1) (hlive k' a2),fun b o q=>h.lt b o q.1,hR.stat _ _ _ _ h.stat prot (h.still ext)⟩,ext,key⟩
 ·
  obtain ⟨_,b,hb,_⟩:=hH k b' hk
  rw [hT]; exact h.pJ k b hb
 ·
  obtain ⟨hne',b,hb,hz⟩:=hH k _ hk
  have hex:∃ cs,b=.cells g' cs∧rO (.msl id g 0 xs.length xs.length sz) (.sl xs false) cs cs':=by
   rcases hz with hz | ⟨g1,cs,cs2,h1,h2,h3⟩
   ·
    exact ⟨cs',hz.symm,.refl _ _ _⟩
   ·
    cases h2; exact ⟨cs,h1,h3⟩
  obtain ⟨cs,rfl,hfz⟩:=hex
  obtain ⟨c1,c2,arr,el,c3,⟨c4,c5,c6⟩,c7⟩:=h.cells k g' cs hb
  have hlk:live S k:=mG hb
  refine ⟨c1,fun o=>⟨c2 o,fun hq=>hne' (ownId k _ hlk ((c1 _).2 rfl) hq)⟩,arr,el,c3,⟨c4,by rw [hfz.len]; exact c5,by rw [hfz.len]; exact c6⟩,fun i x hx=>?_⟩
  obtain ⟨y,hy,hfa⟩:=hfz.get hx
  obtain ⟨v,v1,v2,v3⟩:=c7 i y hy
  refine ⟨v,v1,?_,v3⟩
  cases hfa with
  | same=>exact v2.mono ext
  | it=>exact key v v2
 ·
  obtain ⟨hne',b,hb,hz⟩:=hH k _ hk
  have hb':b=.map es:=by
   rcases hz with hz | ⟨g1,cs,cs2,h1,h2,h3⟩
   ·
    exact hz.symm
   ·
    cases h2
  subst hb'
  obtain ⟨c1,c2,ms,clk,c3,c4,c5⟩:=h.maps k es hb
  refine ⟨c1,fun o=>⟨c2 o,fun hq=>hne' (ownId k _ (mG hb) ((c1 _).2 rfl) hq)⟩,ms,clk,c3,c4,fun i p m hp hm=>?_⟩
  obtain ⟨v1,v2⟩:=c5 i p m hp hm
  exact ⟨v1.mono prot,v2.mono ext⟩
 ·
  obtain ⟨hne',b,hb,hz⟩:=hH k _ hk
  have hb':b=.obj q x:=by
   rcases hz with hz | ⟨g1,cs,cs2,h1,h2,h3⟩
   ·
    exact hz.symm
   ·
    cases h2
  subst hb'
  obtain ⟨c1,c2⟩:=h.objs k q x hb
  exact ⟨c1,fun b o hf=>⟨c2 b o hf,fun hq=>hne' (ownId k b (mG hb) hf hq)⟩⟩
 ·
  rw [hT] at hk
  obtain ⟨c1,c2,c3⟩:=h.toks k en hk
  have hkid:k ≠ id:=fun q=>by subst q; rw [h.pJ _ _ hid] at hk; cases hk
  exact ⟨c1,fun o ho=>⟨c2 o ho,fun hq=>hkid (ownId k _ (wD hk) ((c1 _).2 rfl) hq)⟩,c3⟩
inductive tQ (v:AV) (d:D):List bU→List bU→Prop
 | nil:tQ v d [] []
 | same {a:bU} {l l':List bU} (k:tQ v d l l'):tQ v d (a :: l) (a :: l')
 | box {id:Nat} {cs cs':List AV} {l l':List bU} (h:rO v d cs cs') (k:tQ v d l l'):tQ v d (.box id cs :: l) (.box id cs' :: l')
theorem tQ.GR {v:AV} {d:D} {l l':List bU} (h:tQ v d l l'):l'.map bU.fp=l.map bU.fp:=by
 induction h with
 | nil=>rfl
 | same _ ih=>simp [ih]
 | box _ _ ih=>simp [ih,bU.fp]
theorem tQ.mem {v:AV} {d:D} {l l':List bU} (h:tQ v d l l') {a':bU} (ha:a' ∈ l'):a' ∈ l∨∃ id cs cs',a'=.box id cs'∧.box id cs ∈ l∧rO v d cs cs':=by
 induction h with
 | nil=>cases ha
 | same _ ih =>
  rcases List.mem_cons.1 ha with rfl | ha
  ·
   exact .inl List.mem_cons_self
  ·
   rcases ih ha with h | ⟨id,cs,cs',h1,h2,h3⟩
   ·
    exact .inl (List.mem_cons_of_mem _ h)
   ·
    exact .inr ⟨id,cs,cs',h1,List.mem_cons_of_mem _ h2,h3⟩
 | box hz _ ih =>
  rcases List.mem_cons.1 ha with rfl | ha
  ·
   exact .inr ⟨_,_,_,rfl,List.mem_cons_self,hz⟩
  ·
   rcases ih ha with h | ⟨id,cs,cs',h1,h2,h3⟩
   ·
    exact .inl (List.mem_cons_of_mem _ h)
   ·
    exact .inr ⟨id,cs,cs',h1,List.mem_cons_of_mem _ h2,h3⟩
theorem tQ.Cs {v:AV} {d:D} {l l':List bU} (h:tQ v d l l') {id:Nat} {cs':List AV} (ha:bU.box id cs' ∈ l'):∃ cs,.box id cs ∈ l∧rO v d cs cs':=by
 rcases h.mem ha with h | ⟨id2,cs,cs2,h1,h2,h3⟩
 ·
  exact ⟨cs',h,.refl _ _ _⟩
 ·
  cases h1; exact ⟨cs,h2,h3⟩
open Classical in
def yY (l:List bU) (k:Nat) (b:tZ):tZ:=if h:∃ cs,bU.box k cs ∈ l then .cells 0 (Classical.choose h) else b
def AL.BJ {α:Type} (f:Nat→α→α):AL α→AL α
 | []=>[]
 | (k,v) :: l=>(k,f k v) :: AL.BJ f l
theorem AL.wG {α:Type} (f:Nat→α→α):∀ (l:AL α) (k:Nat),AL.get (AL.BJ f l) k=(AL.get l k).map (f k)
 | [],k=>by simp [AL.BJ,AL.get]
 | (a,v) :: l,k=>by
  simp only [AL.BJ,AL.gm,AL.wG f l k]
  by_cases h:a=k
  ·
   subst h; simp
  ·
   simp [h]
theorem Dw {l:List bU} (hn:(l.map bU.fp).flatten.Nodup) {a b:bU} (ha:a ∈ l) (hb:b ∈ l) {id:Nat} (h1:id ∈ a.fp) (h2:id ∈ b.fp):a=b:=by
 obtain ⟨i,hi,rfl⟩:=List.getElem_of_mem ha
 obtain ⟨j,hj,rfl⟩:=List.getElem_of_mem hb
 by_cases hij:i=j
 ·
  subst hij; rfl
 ·
  exact (xk hn (List.getElem?_eq_getElem hi) (List.getElem?_eq_getElem hj) hij h1 h2).elim
theorem xm {l:List bU} (hn:(l.map bU.fp).flatten.Nodup) {k:Nat} {cs:List AV} (h:bU.box k cs ∈ l) (b:tZ):yY l k b=.cells 0 cs:=by
 have hex:∃ cs,bU.box k cs ∈ l:=⟨cs,h⟩
 unfold yY
 rw [dif_pos hex]
 have:=Dw hn (Classical.choose_spec hex) h (id:=k) (by simp [bU.fp]) (by simp [bU.fp])
 simp only [bU.box.injEq,true_and] at this
 rw [this]
theorem sS {l:List bU} {k:Nat} (h:∀ cs,bU.box k cs ∉ l) (b:tZ):yY l k b=b:=by
 unfold yY
 rw [dif_neg (fun ⟨cs,q⟩=>h cs q)]
def xA (v:AV) (d:D) (e2 e:Env):Prop:=∀ t x,AL.get e2 t=some x→∃ y,AL.get e t=some y∧(Less x y∨(y=v∧x=.d d))
theorem xA.nil {v:AV} {d:D} {e:Env}:xA v d [] e:=fun _ _ h=>by simp [AL.get] at h
theorem xA.cons {v:AV} {d:D} {t:Nat} {x y:AV} {e2 e:Env} (h:AL.get e t=some y) (hl:Less x y) (k:xA v d e2 e):xA v d ((t,x) :: e2) e:=fun u z hz=>by
 rw [AL.gm] at hz
 by_cases hu:t=u
 ·
  subst hu; rw [if_pos rfl] at hz; cases hz; exact ⟨y,h,.inl hl⟩
 ·
  rw [if_neg hu] at hz; exact k u z hz
theorem xA.it {v:AV} {d:D} {t:Nat} {e2 e:Env} (h:AL.get e t=some v) (k:xA v d e2 e):xA v d ((t,.d d) :: e2) e:=fun u z hz=>by
 rw [AL.gm] at hz
 by_cases hu:t=u
 ·
  subst hu; rw [if_pos rfl] at hz; cases hz; exact ⟨v,h,.inr ⟨rfl,rfl⟩⟩
 ·
  rw [if_neg hu] at hz; exact k u z hz
theorem bU.FP {S S':St} {v:AV} {d:D} {l l':List bU} (hz:tQ v d l l') (nd':(l'.map bU.fp).flatten.Nodup) (hok:∀ a ∈ l,a.ok S)
  (hH:∀ a ∈ l',∀ k ∈ a.fp,S'.H.get k=(S.H.get k).map (yY l' k)) (hT:S'.T=S.T):∀ a ∈ l',a.ok S':=by
 intro a' ha'
 cases a' with
 | box k cs' =>
  obtain ⟨cs,h1,h2⟩:=hz.Cs ha'
  have:=hok _ h1
  simp only [bU.ok] at this ⊢
  rw [hH _ ha' k (by simp [bU.fp]),this,Option.map_some,xm nd' ha']
 | _ =>
  have hm:_ ∈ l:=(hz.mem ha').resolve_right (fun ⟨_,_,_,q,_⟩=>by cases q)
  refine bU.keep (hok _ hm) (fun k hk=>?_) (fun k hk=>by rw [hT])
  rw [hH _ ha' k hk]
  cases hb:S.H.get k with
  | none=>rfl
  | some b =>
   rw [Option.map_some,sS (fun cs q=>?_)]
   have:=Dw nd' ha' q (id:=k) hk (by simp [bU.fp])
   cases this
theorem Has.freeze (hR:ObjOk R) {S:St} {l l':List bU} (H:Has B S l) {i sz:Nat} {v:AV} {xs:List D} (hi:l[i]? = some (.row sz v xs)) (hz:tQ v (.sl xs false) (l.eraseIdx i) l') :
  ∃ S',Has B S' l'∧∀ nt e e2,xA v (.sl xs false) e2 e→mO R nt e S e2 S':=by
 have hg:=H.at hi
 have hil:i < l.length:=(List.getElem?_eq_some_iff.1 hi).1
 have hsub:(l.eraseIdx i).Sublist l:=List.eraseIdx_sublist ..
 have nd':(l'.map bU.fp).flatten.Nodup:=by rw [hz.GR]; exact H.nd.sublist (zV bU.fp hsub)
 have hfp':∀ a' ∈ l',∃ a ∈ l.eraseIdx i,a.fp=a'.fp:=fun a' ha'=>by
  rcases hz.mem ha' with h | ⟨id,cs,cs',rfl,h2,_⟩
  ·
   exact ⟨a',h,rfl⟩
  ·
   exact ⟨_,h2,rfl⟩
 have hfpl:∀ a' ∈ l',∃ a ∈ l,a.fp=a'.fp:=fun a' ha'=>let ⟨a,h1,h2⟩:=hfp' a' ha'; ⟨a,hsub.subset h1,h2⟩
 have hout:∀ a ∈ l',∀ id ∈ a.fp,B.H.get id=none∧B.T.get id=none:=fun a' ha' id hid=>by
  obtain ⟨a,h1,h2⟩:=hfpl a' ha'
  exact H.out a h1 id (by rw [h2]; exact hid)
 simp only [bU.ok] at hg
 have plain:xs=[]→(∃ b,(v=.d .aY∧b=true)∨(v=.d (.sl [] true)∧b=true))→∃ S',Has B S' l'∧∀ nt e e2,xA v (.sl xs false) e2 e→mO R nt e S e2 S':=fun hx hv=>by
  subst hx
  have hless:Less (.d (.sl [] false)) v:=by
   obtain ⟨b,⟨rfl,_⟩ | ⟨rfl,_⟩⟩:=hv
   ·
    exact vQ
   ·
    exact uZ
  have hF:∀ {cs cs':List AV},rO v (.sl [] false) cs cs'→dZ cs' cs:=fun h=>by
   induction h with
   | nil=>exact .nil
   | cons h k ih =>
    refine .cons ?_ ih
    cases h with
    | same=>exact .refl _
    | it=>exact hless
  let S':St:={ S with H:=AL.BJ (yY l') S.H }
  have hget:∀ k,S'.H.get k=(S.H.get k).map (yY l' k):=fun k=>AL.wG _ _ _
  have ws:jg S' S:=by
   refine ⟨rfl,fun _=>rfl,fun k=>?_⟩
   rw [hget]
   cases hb:S.H.get k with
   | none=>exact kT.refl _
   | some b =>
    rw [Option.map_some]
    by_cases hk:∃ cs',bU.box k cs' ∈ l'
    ·
     obtain ⟨cs',hk⟩:=hk
     obtain ⟨cs,h1,h2⟩:=hz.Cs hk
     have:=H.ok _ (hsub.subset h1)
     simp only [bU.ok] at this
     rw [hb] at this; cases this
     rw [xm nd' hk]
     exact ⟨rfl,hF h2⟩
    ·
     rw [sS (fun cs q=>hk ⟨cs,q⟩)]; exact kT.refl _
  refine ⟨S',⟨fun k hk=>H.wf k (ws.live.1 hk),bU.FP hz nd' (fun a ha=>H.ok a (hsub.subset ha)) (fun a ha k hk=>hget k) rfl,nd',H.bwf,⟨H.keeps.nx,fun k b hb=>?_,H.keeps.T⟩,hout⟩,fun nt e e2 he cx w a h1 h2=>?_⟩
  ·
   rw [hget,H.keeps.H k b hb,Option.map_some,sS (fun cs q=>?_)]
   have:=(hout _ q k (by simp [bU.fp])).1
   rw [this] at hb; cases hb
  ·
   refine ⟨cx,h1.gK ws,Ext.gK ws (Ext.refl w (h1.gK ws).wf),⟨h2.size,fun t x hx=>?_⟩⟩
   obtain ⟨y,hy,hq⟩:=he t x hx
   obtain ⟨u,u1,u2⟩:=h2.rel t y hy
   refine ⟨u,u1,aM.gK ws ?_⟩
   rcases hq with hq | ⟨rfl,rfl⟩
   ·
    exact hq _ _ _ _ u2
   ·
    exact hless _ _ _ _ u2
 split at hg
 ·
  exact plain hg ⟨true,.inl ⟨rfl,rfl⟩⟩
 ·
  exact plain hg ⟨true,.inr ⟨rfl,rfl⟩⟩
 ·
  rename_i id g off len lim sz'
  obtain ⟨rfl,rfl,rfl,hszz,hpos,hsz,cs0,hcs0,hid⟩:=hg
  subst hszz
  let S':St:={ S with H:=AL.BJ (yY l') (AL.del S.H id) }
  have hget:∀ k,S'.H.get k=if id=k then none else (S.H.get k).map (yY l' k):=fun k=>by
   show AL.get (AL.BJ _ _) k=_
   rw [AL.wG,AL.vH]
   by_cases hk:id=k <;> simp [hk]
  have hnot:∀ a ∈ l',∀ k ∈ a.fp,id ≠ k:=fun a' ha' k hk hq=>by
   subst hq
   obtain ⟨a,h1,h2⟩:=hfp' a' ha'
   rw [← h2] at hk
   obtain ⟨j,hj,hja⟩:=List.mem_eraseIdx_iff_getElem?.1 h1
   exact xk H.nd hi hja (fun q=>hj q.symm) (id:=id) (by simp [bU.fp]) hk
  have hB:B.H.get id=none:=(H.out _ (List.mem_of_getElem? hi) id (by simp [bU.fp])).1
  have hlive:∀ k,live S' k→live S k:=fun k hk=>by
   unfold live cur at hk ⊢
   rw [hget] at hk
   by_cases hq:id=k
   ·
    subst hq; rw [hid]; simp
   ·
    rw [if_neg hq] at hk
    cases hb:S.H.get k with
    | none=>rw [hb] at hk; exact hk
    | some b=>cases b <;> simp
  refine ⟨S',⟨fun k hk=>H.wf k (hlive k hk),bU.FP hz nd' (fun a ha=>H.ok a (hsub.subset ha)) (fun a ha k hk=>by rw [hget,if_neg (hnot a ha k hk)]) rfl,nd',H.bwf,⟨H.keeps.nx,fun k b hb=>?_,H.keeps.T⟩,hout⟩,fun nt e e2 he cx w a h1 h2=>?_⟩
  ·
   rw [hget,if_neg (fun q=>by subst q; rw [hB] at hb; cases hb),H.keeps.H k b hb,Option.map_some,sS (fun cs q=>?_)]
   have:=(hout _ q k (by simp [bU.fp])).1
   rw [this] at hb; cases hb
  ·
   have hA:∀ k b',S'.H.get k=some b'→k ≠ id∧∃ b,S.H.get k=some b∧IK (.msl id g 0 xs.length xs.length sz') (.sl xs false) b b':=fun k b' hb'=>by
    rw [hget] at hb'
    by_cases hq:id=k
    ·
     rw [if_pos hq] at hb'; cases hb'
    ·
     rw [if_neg hq] at hb'
     obtain ⟨b,hb,rfl⟩:=Option.map_eq_some_iff.1 hb'
     refine ⟨fun q=>hq q.symm,b,hb,?_⟩
     by_cases hk:∃ cs',bU.box k cs' ∈ l'
     ·
      obtain ⟨cs',hk⟩:=hk
      obtain ⟨cs,h3,h4⟩:=hz.Cs hk
      have:=H.ok _ (hsub.subset h3)
      simp only [bU.ok] at this
      rw [hb] at this; cases this
      rw [xm nd' hk]
      exact .inr ⟨0,cs,cs',rfl,rfl,h4⟩
     ·
      rw [sS (fun cs q=>hk ⟨cs,q⟩)]; exact .inl rfl
   obtain ⟨cx',k1,k2,k3⟩:=zO hR h1 hcs0 hid hpos hsz (S':=S') rfl rfl hA
   refine ⟨cx',k1,k2,⟨h2.size,fun t x hx=>?_⟩⟩
   obtain ⟨y,hy,hq⟩:=he t x hx
   obtain ⟨u,u1,u2⟩:=h2.rel t y hy
   refine ⟨u,u1,?_⟩
   rcases hq with hq | ⟨rfl,rfl⟩
   ·
    exact (hq _ _ _ _ u2).mono k2
   ·
    exact k3 u u2
 ·
  exact hg.elim
end
end Go.Ev

namespace Go.Ev
noncomputable section
set_option linter.unusedVariables false
set_option linter.unusedSimpArgs false
variable {R:bT} {P:Program} {B:St}
theorem dZ.drop {ys xs:List AV} (h:dZ ys xs):∀ n,dZ (ys.drop n) (xs.drop n):=by
 induction h with
 | nil=>intro n; rw [List.drop_nil]; exact .nil
 | cons h k ih=>intro n; cases n with
  | zero=>exact .cons h k
  | succ n=>exact ih n
theorem dZ.append {a b c d:List AV} (h:dZ a b) (k:dZ c d):dZ (a ++ c) (b ++ d):=by
 induction h with
 | nil=>exact k
 | cons h _ ih=>exact .cons h ih
theorem dZ.set {ys xs:List AV} (h:dZ ys xs) {y x:AV} (hl:Less y x):∀ n,dZ (ys.set n y) (xs.set n x):=by
 induction h with
 | nil=>intro n; exact .nil
 | cons h k ih=>intro n; cases n with
  | zero=>exact .cons hl k
  | succ n=>exact .cons h (ih n)
theorem dZ.setAt {cy cx:List AV} (hc:dZ cy cx):∀ {ys xs:List AV} (h:dZ ys xs) (n:Nat),dZ (setAt ys n cy) (setAt xs n cx):=by
 induction hc with
 | nil=>intro ys xs h n; exact h
 | cons h k ih=>intro ys xs hh n; exact ih (hh.set h n) (n + 1)
theorem xS {α β:Type} (f:α→β):∀ (l cs:List α) (n:Nat),(setAt cs n l).map f=setAt (cs.map f) n (l.map f)
 | [],cs,n=>rfl
 | x :: l,cs,n=>by rw [setAt,xS f l,List.map_set]; rfl
def uO (v p:AV) (n off:Nat):Prop:=∃ id g len lim sz,v=.msl id g 0 len lim sz∧p=.ptr id g (n * sz + off)
theorem vK {S:St} {sz:Nat} {v:AV} {xs:List D} (h:(bU.row sz v xs).ok S) {n:Nat} {d:D} (hn:xs[n]? = some d) :
  ∃ id g cs,v=.msl id g 0 xs.length xs.length sz∧0 < sz∧(∀ x ∈ xs,x.cells.length=sz∧lF x.cells=true)∧dZ ((xs.map D.cells).flatten.map .d) cs∧S.H.get id=some (.cells g cs):=by
 simp only [bU.ok] at h
 split at h
 ·
  subst h; simp at hn
 ·
  subst h; simp at hn
 ·
  rename_i id g off len lim sz'
  obtain ⟨rfl,rfl,rfl,rfl,h1,h2,cs,h3,h4⟩:=h
  exact ⟨id,g,cs,rfl,h1,h2,h3,h4⟩
 ·
  exact h.elim
section
variable {C:gq} {ρ:Operand→Option AV} {S:St} {l:List bU} {x y:Operand} {t:Nat} {v:AV}
theorem BA {α:Type} {enc:α→D} {xs:List α} {i sz:Nat} (H:Has B S l) (hi:l[i]? = some (.row sz v (xs.map enc))) {n:Int} {k:IntKind} {z:α} {el:Nat} (hx:ρ x=some v) (hy:ρ y=some (.d (.int k n)))
  (h:idx xs n=some z) (he:bL C.P t=some el) (ha:(eZ C.P el).isSome=true) (hz:(enc z).cells.length=aK C.P el) :
  ∃ p,oper C ρ S (.indexAddr t x y)=some (.val p S)∧uO v p n.toNat 0:=by
 obtain ⟨h0,h1⟩:=iJ h
 have hm:(xs.map enc)[n.toNat]? = some (enc z):=by rw [List.getElem?_map,h1]; rfl
 obtain ⟨id,g,cs,rfl,hpos,hsz,hcs,hid⟩:=vK (H.at hi) hm
 have hszel:sz=aK C.P el:=by rw [← hz]; exact ((hsz _ (List.mem_of_getElem? hm)).1).symm
 have hlt:n.toNat < (xs.map enc).length:=(List.getElem?_eq_some_iff.1 hm).1
 refine ⟨_,bA hx hy (r:=.ptr id g (0 + n.toNat * aK C.P el)) ?_,id,g,_,_,sz,rfl,by rw [hszel]; simp⟩
 simp only [gQ,he,h0,ha,decide_true,Bool.and_self,if_true]
 rw [if_pos ⟨hlt,hszel⟩]
theorem EN {xs:List D} {sz:Nat} (hsz:∀ x ∈ xs,x.cells.length=sz):∀ {n:Nat} {d:D},xs[n]? = some d→∃ a b,(xs.map D.cells).flatten=a ++ d.cells ++ b∧a.length=n * sz∧∀ d',((xs.set n d').map D.cells).flatten=a ++ d'.cells ++ b:=by
 induction xs with
 | nil=>intro n d h; simp at h
 | cons y xs ih =>
  intro n d h
  cases n with
  | zero =>
   simp at h; subst h
   exact ⟨[],(xs.map D.cells).flatten,by simp,by simp,fun d'=>by simp⟩
  | succ n =>
   obtain ⟨a,b,h1,h2,h3⟩:=ih (fun x hx=>hsz x (List.mem_cons_of_mem _ hx)) (n:=n) (by simpa using h)
   refine ⟨y.cells ++ a,b,by rw [List.map_cons,List.flatten_cons,h1]; simp,?_,fun d'=>by rw [List.set_cons_succ,List.map_cons,List.flatten_cons,h3]; simp⟩
   rw [List.length_append,h2,hsz y List.mem_cons_self,Nat.add_mul,Nat.one_mul]; omega
theorem FZ {α:Type} {a b cs cv:List α} {off:Nat} (h:off + cv.length ≤ cs.length):setAt (a ++ cs ++ b) (a.length + off) cv=a ++ setAt cs off cv ++ b:=by
 induction cv generalizing cs off with
 | nil=>rfl
 | cons c cv ih =>
  simp only [List.length_cons] at h
  rw [setAt,setAt]
  have e:(a ++ cs ++ b).set (a.length + off) c=a ++ cs.set off c ++ b:=by
   rw [List.append_assoc,List.set_append_right _ _ (by omega),show a.length + off - a.length=off by omega,List.set_append_left _ _ (by omega),← List.append_assoc]
  rw [e,Nat.add_assoc]
  exact ih (by rw [List.length_set]; omega)
theorem xK {xs:List D} {i n off sz:Nat} {d d':D} {p vy:AV} {cv:List D} (H:Has B S l) (hi:l[i]? = some (.row sz v xs)) (hp:uO v p n off) (hd:xs[n]? = some d) (h:ρ x=some p) (hy:ρ y=some vy)
  (hcv:dZ (cv.map .d) vy.cells) (hn:cv.length=aK C.P t) (hpl:vy.plain=true) (hag:(eZ C.P t).isSome=true) (hb:Nat.ble (off + cv.length) d.cells.length=true) (hs:setAt d.cells off cv=d'.cells) (hf:lF d'.cells=true) :
  ∃ S',oper C ρ S (.store t x y)=some (.skip S')∧Has B S' (l.set i (.row sz v (xs.set n d'))):=by
 obtain ⟨id,g,cs,rfl,hpos,hsz,hcs,hid⟩:=vK (H.at hi) hd
 obtain ⟨id',g',len,lim,sz',he,rfl⟩:=hp
 cases he
 have hdl:=hsz d (List.mem_of_getElem? hd)
 obtain ⟨a,b,h1,h2,h3⟩:=EN (fun x hx=>(hsz x hx).1) hd
 have hlen:cs.length=((xs.map D.cells).flatten).length:=by have:=hcs.len; rw [List.length_map] at this; exact this.symm
 have hb:=Nat.le_of_ble_eq_true hb
 have hvl:vy.cells.length=cv.length:=by have:=hcv.len; rw [List.length_map] at this; exact this.symm
 rw [h1] at hlen
 simp only [List.length_append,h2,hdl.1] at hlen
 rw [hdl.1] at hb
 refine ⟨{ S with H:=S.H.set id (.cells g (setAt cs (n * sz + off) vy.cells)) },?_,?_⟩
 ·
  simp only [oper,h,hy,sV,hid]
  rw [if_pos ⟨hvl.trans hn,hpl,hag⟩,if_pos trivial,if_pos (by omega)]
  rfl
 ·
  refine H.set hi rfl ?_ (fun j hl=>?_) (fun j hj=>?_) (fun j hj=>rfl) rfl
  ·
   refine ⟨rfl,by simp,by simp,rfl,hpos,fun z hz=>?_,_,?_,by simp [AL.aX]; rfl⟩
   ·
    rcases List.mem_or_eq_of_mem_set hz with hz | rfl
    ·
     exact hsz z hz
    ·
     exact ⟨by rw [← hs,yl]; exact hdl.1,hf⟩
   ·
    rw [h3,← hs,← FZ (by rw [hdl.1]; exact hb),h2,xS,← h1]
    exact dZ.setAt hcv hcs _
  ·
   refine H.wf j ?_
   unfold live cur at hl ⊢
   simp only [AL.aX] at hl
   by_cases hij:id=j
   ·
    subst hij; rw [hid]; simp
   ·
    rw [if_neg hij] at hl; exact hl
  ·
   simp only [bU.fp,List.mem_singleton] at hj
   simp only [AL.aX]
   rw [if_neg (fun q=>hj q.symm)]
theorem Ew {xs:List D} {i tt sz:Nat} (H:Has B S l) (hi:l[i]? = some (.row sz v xs)) (h:(bL C.P tt).isSome=true):nK C tt v=true∧mF v S=some xs.length:=by
 have hg:=H.at hi
 have hu:∃ e,C.P.underlying tt=some (.slice e):=by
  unfold bL at h
  split at h
  ·
   rename_i hu; exact ⟨_,hu⟩
  ·
   cases h
 obtain ⟨e,hu⟩:=hu
 simp only [bU.ok] at hg
 split at hg
 ·
  subst hg; exact ⟨by simp [nK,hu],rfl⟩
 ·
  subst hg; exact ⟨by simp [nK,hu],rfl⟩
 ·
  obtain ⟨rfl,rfl,rfl,_⟩:=hg; exact ⟨by simp [nK,hu],rfl⟩
 ·
  exact hg.elim
theorem DZ {α:Type} {enc:α→D} {xs:List α} {tt i sz:Nat} (H:Has B S l) (hi:l[i]? = some (.row sz v (xs.map enc))) (h:ρ x=some v) (ht:(bL C.P tt).isSome=true):oper C ρ S (.call { callee:=.builtin .len,args:=#[x],argTypes:=#[tt] })=some (.val (.d (.int .i64 (xs.length:Int))) S):=by
 obtain ⟨h1,h2⟩:=Ew (C:=C) H hi ht
 exact gJ h h1 (by rw [h2]; simp)
end
end
end Go.Ev

namespace Go.Ev
noncomputable section
set_option linter.unusedVariables false
set_option linter.unusedSimpArgs false
variable {R:bT} {P:Program} {B:St}
theorem Cm {C:gq} {S:St} {y:AV} {ys:List D} {sz:Nat} (h:iH y=some ys) (hs:sizes sz ys=true):lg S sz y=some ((ys.map D.cells).flatten.map .d,ys.length):=by
 cases y with
 | d x=>cases x <;> simp only [iH] at h <;> first | (cases h; done) | (cases h; simp [lg,nk,iH,hs,sizes]; try simpa [sizes] using hs)
 | tsl zs tok=>simp only [iH] at h; cases h; simp [lg,nk,iH,hs]
 | _=>simp only [iH] at h; cases h
section
variable {C:gq} {ρ:Operand→Option AV} {S:St} {l:List bU} {x y:Operand} {t:Nat} {v:AV}
def xQ {α:Type} (sz nb:Nat) (n:Int) (z:α):Option (List α):=if 0 ≤ n∧n.toNat * sz ≤ 16777216∧(nb:Int) * n ≤ 281474976710656∧n ≤ 16777216 then some (List.replicate n.toNat z) else none
theorem Bw {a b:List AV} (h:dZ a b):∀ n,dZ (List.replicate n a).flatten (List.replicate n b).flatten
 | 0=>.nil
 | n + 1=>by rw [List.replicate_succ,List.replicate_succ,List.flatten_cons,List.flatten_cons]; exact h.append (Bw h n)
theorem yU {α β:Type} (f:α→β) (l:List α):∀ n,(List.replicate n l).flatten.map f=(List.replicate n (l.map f)).flatten
 | 0=>rfl
 | n + 1=>by rw [List.replicate_succ,List.replicate_succ,List.flatten_cons,List.flatten_cons,List.map_append,yU f l n]
theorem zu {α:Type} {enc:α→D} {el nb:Nat} {n:Int} {z:α} {z0:D} {r:List α} {k k':IntKind} (H:Has B S l) (hx:ρ x=some (.d (.int k n))) (hy:ρ y=some (.d (.int k' n))) (he:bL C.P t=some el) (hz:zeroOf C.P el=some z0) (hnb:bytesOf C.P el=nb) (hlen:z0.cells.length=aK C.P el) (hpos:Nat.blt 0 (aK C.P el)=true) (hr:C.rowT t=true)
  (hless:dZ ((enc z).cells.map .d) (z0.cells.map .d)) (hf:lF (enc z).cells=true) (h:xQ (aK C.P el) nb n z=some r) :
  ∃ v S',oper C ρ S (.makeSlice t x y)=some (.val v S')∧Has B S' (.row (aK C.P el) v (r.map enc) :: l):=by
 have hpos:0 < aK C.P el:=Nat.le_of_ble_eq_true hpos
 unfold xQ at h
 split at h
 ·
  rename_i hc
  obtain ⟨c1,c2,c3,c4⟩:=hc
  cases h
  refine ⟨.msl S.nx 0 0 n.toNat n.toNat (aK C.P el),dh S (.cells 0 ((List.replicate n.toNat z0.cells).flatten.map .d)),?_,H.new (.cells 0 ((List.replicate n.toNat z0.cells).flatten.map .d)) (a:=.row (aK C.P el) (.msl S.nx 0 0 n.toNat n.toNat (aK C.P el)) ((List.replicate n.toNat z).map enc)) rfl ⟨rfl,by simp,by simp,rfl,hpos,fun w hw=>?_,(List.replicate n.toNat z0.cells).flatten.map .d,?_,by simp only [dh,AL.aX,if_true]⟩⟩
  ·
   simp only [oper,hx,hy,yV,he,hz]
   subst hnb
   rw [if_pos ⟨c1,Int.le_refl _,hlen,hpos,c2,c3,c4,hr⟩]
   rfl
  ·
   simp only [List.map_replicate,List.mem_replicate] at hw
   obtain ⟨_,rfl⟩:=hw
   have:=hless.len
   simp only [List.length_map] at this
   exact ⟨by rw [this]; exact hlen,hf⟩
  ·
   simp only [List.map_replicate]
   rw [yU,yU]
   exact Bw hless _
 ·
  cases h
end
theorem fT.pJ {f:Nat} {args:List AV} {S:St} {Q:Out→Prop} (h:fT R P f args S Q):fT R P f args S (fun o=>Q o∧∀ id b,o.2.2.H.get id=some b→o.2.2.T.get id=none) :=
 ⟨h.1,fun cx w us h1 h2 h3=>(h.2 cx w us h1 h2 h3).mono fun e w' ⟨r,q,cx',k,k2⟩=>⟨r,⟨q,k.pJ⟩,cx',k,k2⟩⟩
theorem aF.G5:∀ {args:List AV} {ds:List D},aF args ds→dZ (ds.map .d) args
 | [],ds,⟨ds',h1,h2⟩=>by simp [lK] at h1; subst h1; cases h2; exact .nil
 | x :: xs,ds,⟨ds',h1,h2⟩=>by
  simp only [lK] at h1
  split at h1
  ·
   rename_i d hd
   obtain ⟨ds2,h3,rfl⟩:=Option.map_eq_some_iff.1 h1
   cases h2 with
   | cons h k=>exact .cons (fun cx S w v hr=>.d _ _ (h _ _ _ (kQ hd hr))) (aF.G5 ⟨ds2,h3,k⟩)
  ·
   cases h1
section
variable {C:gq} {nt:Nat}
section steps
variable {ops:Array Oper} {rest:List Oper} {e:Env} {S S':St} {Q:Stp→Prop} {l l':List bU} {t ty:Nat} {p:String} {af:Array Edge} {g:Option (Nat × Bool)} {x y:Operand} {v:AV}
theorem ah.HY {α:Type} {enc:α→D} {xs:List α} {i sz tt:Nat} {n:Int} {k:IntKind} {z:α} {el:Nat} (H:Has B S l) (hw:dn ops e { dst:=some t,op:=.indexAddr tt x y,type:=ty,pos:=p,after:=af,guard:=g }=some true) (hi:l[i]? = some (.row sz v (xs.map enc))) (hx:dX e x=some v) (hy:dX e y=some (.d (.int k n)))
  (h:idx xs n=some z) (he:bL C.P tt=some el) (ha:(eZ C.P el).isSome=true) (hz:(enc z).cells.length=aK C.P el) (ht:Nat.blt t nt=true)
  (k:∀ p,uO v p n.toNat 0→ah R C nt ops rest ((t,p) :: e) S Q) :
  ah R C nt ops ({ dst:=some t,op:=.indexAddr tt x y,type:=ty,pos:=p,after:=af,guard:=g } :: rest) e S Q:=by
 obtain ⟨p,h1,h2⟩:=BA (C:=C) (ρ:=dX e) H hi hx hy h he ha hz
 exact ah.val hw h1 ht (k p h2)
theorem ah.F8 {xs:List D} {i n off sz tt:Nat} {d d':D} {q vy:AV} {cv:List D} (H:Has B S l) (hw:dn ops e { dst:=none,op:=.store tt x y,type:=ty,pos:=p,after:=af,guard:=g }=some true) (hi:l[i]? = some (.row sz v xs)) (hp:uO v q n off) (hd:xs[n]? = some d) (h:dX e x=some q) (hy:dX e y=some vy)
  (hcv:dZ (cv.map .d) vy.cells) (hn:cv.length=aK C.P tt) (hpl:vy.plain=true) (hag:(eZ C.P tt).isSome=true) (hb:Nat.ble (off + cv.length) d.cells.length=true) (hs:setAt d.cells off cv=d'.cells) (hf:lF d'.cells=true)
  (hl:l.set i (.row sz v (xs.set n d'))=l') (k:∀ S',Has B S' l'→ah R C nt ops rest e S' Q) :
  ah R C nt ops ({ dst:=none,op:=.store tt x y,type:=ty,pos:=p,after:=af,guard:=g } :: rest) e S Q:=by
 subst hl
 obtain ⟨S',h1,h2⟩:=xK (C:=C) (ρ:=dX e) H hi hp hd h hy hcv hn hpl hag hb hs hf
 exact ah.skip hw h1 (k S' h2)
theorem ah.Gv {α:Type} {enc:α→D} {el nb sz tt:Nat} {n:Int} {z:α} {z0:D} {r:List α} {k k':IntKind} (H:Has B S l) (hw:dn ops e { dst:=some t,op:=.makeSlice tt x y,type:=ty,pos:=p,after:=af,guard:=g }=some true) (hx:dX e x=some (.d (.int k n))) (hy:dX e y=some (.d (.int k' n))) (he:bL C.P tt=some el) (hz:zeroOf C.P el=some z0) (hnb:bytesOf C.P el=nb) (hlen:z0.cells.length=sz) (hsz:aK C.P el=sz) (hpos:Nat.blt 0 sz=true) (hr:C.rowT tt=true)
  (hless:dZ ((enc z).cells.map .d) (z0.cells.map .d)) (hf:lF (enc z).cells=true) (h:xQ sz nb n z=some r) (ht:Nat.blt t nt=true)
  (k:∀ v S',Has B S' (.row sz v (r.map enc) :: l)→ah R C nt ops rest ((t,v) :: e) S' Q) :
  ah R C nt ops ({ dst:=some t,op:=.makeSlice tt x y,type:=ty,pos:=p,after:=af,guard:=g } :: rest) e S Q:=by
 subst hsz
 obtain ⟨v',S',h1,h2⟩:=zu (C:=C) (ρ:=dX e) H hx hy he hz hnb hlen hpos hr hless hf h
 exact ah.val hw h1 ht (k v' S' h2)
end steps
end
end
end Go.Ev

namespace Go.Ev
noncomputable section
set_option linter.unusedVariables false
set_option linter.unusedSimpArgs false
variable {R:bT} {P:Program} {B:St}
def CF {α:Type} (l:List α) (n:Int) (z:α):List α:=l.set n.toNat z
theorem Fp {α:Type} {enc:α→D} (h:∀ x,lF (enc x).cells=true) (l:List α):∀ z ∈ l.map enc,lF z.cells=true:=fun z hz=>by
 obtain ⟨x,_,rfl⟩:=List.mem_map.1 hz
 exact h x
section
variable {C:gq} {nt:Nat} {ops:Array Oper} {rest:List Oper} {e:Env} {S S':St} {Q:Stp→Prop} {l l':List bU} {t ty:Nat} {p:String} {af:Array Edge} {g:Option (Nat × Bool)} {x y:Operand} {v:AV}
theorem ah.D7 {α:Type} {enc:α→D} {xs:List α} {i off sz tt:Nat} {n:Int} {z z':α} {q vy:AV} {cv:List D} {cw:List AV} (H:Has B S l) (hw:dn ops e { dst:=none,op:=.store tt x y,type:=ty,pos:=p,after:=af,guard:=g }=some true) (hi:l[i]? = some (.row sz v (xs.map enc))) (hp:uO v q n.toNat off) (hz:idx xs n=some z) (h:dX e x=some q) (hy:dX e y=some vy)
  (hcw:vy.cells=cw) (hcv:dZ (cv.map .d) cw) (hn:aK C.P tt=cv.length) (hpl:vy.plain=true) (hag:(eZ C.P tt).isSome=true) (hb:Nat.ble (off + cv.length) (enc z).cells.length=true) (hs:setAt (enc z).cells off cv=(enc z').cells) (hf:lF (enc z').cells=true)
  (k:∀ S',Has B S' (l.set i (.row sz v ((CF xs n z').map enc)))→ah R C nt ops rest e S' Q) :
  ah R C nt ops ({ dst:=none,op:=.store tt x y,type:=ty,pos:=p,after:=af,guard:=g } :: rest) e S Q:=by
 subst hcw
 have hd:(xs.map enc)[n.toNat]? = some (enc z):=by rw [List.getElem?_map,(iJ hz).2]; rfl
 refine ah.F8 H hw hi hp hd h hy hcv hn.symm hpl hag hb hs hf rfl (fun S' hS=>k S' ?_)
 rw [CF,List.map_set]; exact hS
end
end
end Go.Ev
namespace Go.Ev
end Go.Ev
namespace Go.Ev
noncomputable section
set_option linter.unusedVariables false
def ze (v:AV) (n off:Nat):AV:=match v with
 | .msl id g _ _ _ sz=>.ptr id g (n * sz + off)
 | _=>.any
theorem D5 {S:St} {B:St} {l:List bU} (H:Has B S l) {i sz:Nat} {v:AV} {xs:List D} (hi:l[i]? = some (.row sz v xs)) {n:Nat} {d:D} (hd:xs[n]? = some d) (off:Nat):uO v (ze v n off) n off:=by
 obtain ⟨id,g,cs,rfl,_⟩:=vK (H.at hi) hd
 exact ⟨id,g,_,_,sz,rfl,rfl⟩
theorem uO.eq {v p:AV} {n off:Nat} (h:uO v p n off):p=ze v n off:=by
 obtain ⟨id,g,len,lim,sz,rfl,rfl⟩:=h
 rfl
section
variable {R:bT} {C:gq} {nt:Nat} {B:St} {ops:Array Oper} {rest:List Oper} {e:Env} {S S':St} {Q:Stp→Prop} {l l':List bU} {t ty:Nat} {p:String} {af:Array Edge} {g:Option (Nat × Bool)} {x y:Operand} {v:AV}
theorem ah.GD {α:Type} {enc:α→D} {xs:List α} {i sz tt:Nat} {n:Int} {k:IntKind} {z:α} {el:Nat} (H:Has B S l) (hw:dn ops e { dst:=some t,op:=.indexAddr tt x y,type:=ty,pos:=p,after:=af,guard:=g }=some true) (hi:l[i]? = some (.row sz v (xs.map enc))) (hx:dX e x=some v) (hy:dX e y=some (.d (.int k n)))
  (h:idx xs n=some z) (he:bL C.P tt=some el) (ha:(eZ C.P el).isSome=true) (hz:(enc z).cells.length=aK C.P el) (ht:Nat.blt t nt=true)
  (k:ah R C nt ops rest ((t,ze v n.toNat 0) :: e) S Q) :
  ah R C nt ops ({ dst:=some t,op:=.indexAddr tt x y,type:=ty,pos:=p,after:=af,guard:=g } :: rest) e S Q :=
 ah.HY H hw hi hx hy h he ha hz ht (fun p hp=>by rw [hp.eq]; exact k)
theorem ah.DY {α:Type} {enc:α→D} {xs:List α} {i off sz tt:Nat} {n:Int} {z z':α} {vy:AV} {cv:List D} {cw:List AV} (H:Has B S l) (hw:dn ops e { dst:=none,op:=.store tt x y,type:=ty,pos:=p,after:=af,guard:=g }=some true) (hi:l[i]? = some (.row sz v (xs.map enc))) (hz:idx xs n=some z) (h:dX e x=some (ze v n.toNat off)) (hy:dX e y=some vy)
  (hcw:vy.cells=cw) (hcv:dZ (cv.map .d) cw) (hn:aK C.P tt=cv.length) (hpl:vy.plain=true) (hag:(eZ C.P tt).isSome=true) (hb:Nat.ble (off + cv.length) (enc z).cells.length=true) (hs:setAt (enc z).cells off cv=(enc z').cells) (hf:lF (enc z').cells=true)
  (k:∀ S',Has B S' (l.set i (.row sz v ((CF xs n z').map enc)))→ah R C nt ops rest e S' Q) :
  ah R C nt ops ({ dst:=none,op:=.store tt x y,type:=ty,pos:=p,after:=af,guard:=g } :: rest) e S Q:=by
 have hd:(xs.map enc)[n.toNat]? = some (enc z):=by rw [List.getElem?_map,(iJ hz).2]; rfl
 exact ah.D7 H hw hi (D5 H hi hd off) hz h hy hcw hcv hn hpl hag hb hs hf k
end
end
end Go.Ev

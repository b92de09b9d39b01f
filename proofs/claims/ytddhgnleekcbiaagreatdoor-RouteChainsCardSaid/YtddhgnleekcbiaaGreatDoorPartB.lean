import Derived.Test.YtddhgnleekcbiaaGreatDoorPartA
import Derived.MapKept
import Derived.Orders
import Derived.Laws.IdiomRangeMap
import Derived.Below
import Derived.Lib.SliceRun
namespace Go.Ev
noncomputable section
set_option linter.unusedVariables false
set_option linter.unusedSimpArgs false
theorem vg {R:aM} (hR:ObjOk R) {cx:Cx} {S:St} {w w':World} (h:aB R cx S w) {id:Nat} {M M':sN} (hg:S.H.get id=some (.map M))
  (hs:w'.heap.size=w.heap.size) (ho:∀ b,b ≠ cx.bm id→w'.heap[b]? = w.heap[b]?) (h1:w'.os=w.os) (h2:w'.tape=w.tape) (h3:w'.output=w.output)
  {ms':Array MapEntry} {clk':Nat} (hb:w'.heap[cx.bm id]? = some (.map ms' clk')) (hd:ms'.size=M'.es.length∧clk'=M'.clk∧∀ (i:Nat) (p:D × AV × Nat) (m:MapEntry),M'.es[i]? = some p→ms'[i]? = some m→m.born=p.2.2)
  (hv:∀ (i:Nat) (p:D × AV × Nat) (m:MapEntry),M'.es[i]? = some p→ms'[i]? = some m→aJ w cx.fr p.1 m.key∧av cx S w p.2.1 m.val) :
  aB R cx { S with H:=S.H.set id (.map M') } w'∧Ext cx S w cx { S with H:=S.H.set id (.map M') } w':=by
 obtain ⟨c1,c2,ms0,clk0,c3,c4,c5⟩:=h.maps id M hg
 have hlive:live S id:=by simp [live,cur,hg]
 have hcur:∀ i,cur { S with H:=S.H.set id (.map M') } i=cur S i:=fun i=>by
  unfold cur
  simp only [AL.aF]
  by_cases hi:id=i
  ·
   subst hi; simp [hg]
  ·
   simp [hi]
 have e:Ext cx S w cx { S with H:=S.H.set id (.map M') } w':=by
  refine ⟨by omega,h1,h2,h3,Nat.le_refl _,fun b o v hf hc=>?_,fun b hlt hn=>?_,fun i b hl hf=>?_,fun i gi _ hi=>⟨gi,by
   unfold isIt at *
   simp only [AL.aF] at hi
   split at hi
   ·
    cases hi
   ·
    exact hi⟩,fun _ _ _ _ _ _ hf=>hf,fun i g' hi hg'=>?_⟩
  ·
   have hne:b ≠ cx.bm id:=fun q=>hf (by rw [q]; exact c2 o)
   exact ⟨iV (ho b hne) hc,hf⟩
  ·
   have hne:b ≠ cx.bm id:=fun q=>vV hg (by simp) (hn id hlive ((c1 b).2 q))
   exact ⟨ho b hne,fun _=>Iff.rfl⟩
  ·
   have hl':live S i:=by unfold live at *; rwa [hcur i] at hl
   exact ⟨fun _=>⟨hl',.inl hf⟩,fun hge=>absurd (h.wf i hl') (by show ¬ i < S.nx; omega)⟩
  ·
   rw [hcur i] at hg'
   exact ⟨g',hg',Nat.le_refl _,fun _=>⟨rfl,rfl,rfl⟩⟩
 have hl':∀ i,live { S with H:=S.H.set id (.map M') } i→live S i:=fun i hl=>by unfold live at *; rwa [hcur i] at hl
 have hne:∀ i,live S i→i ≠ id→∀ b,cx.fp i b→b ≠ cx.bm id:=fun i hi hne b hf hq=>hne (h.sep i id b hi hlive hf ((c1 b).2 hq))
 refine ⟨⟨fun i hi=>h.wf i (hl' i hi),fun i b hi=>?_,fun i g' cs1 hi=>?_,fun i es hi=>?_,fun i k x hi=>?_,fun i en hi=>?_,fun i i' b a1 a2 f1 f2=>h.sep i i' b (hl' i a1) (hl' i' a2) f1 f2,fun b o hf=>by rw [hs]; exact h.lt b o hf,hR.stat _ _ _ _ h.stat e.prot⟩,e⟩
 ·
  simp only [AL.aF] at hi
  by_cases q:id=i
  ·
   subst q; exact h.kC id _ hg
  ·
   rw [if_neg q] at hi; exact h.kC i b hi
 ·
  simp only [AL.aF] at hi
  by_cases q:id=i
  ·
   subst q; simp at hi
  ·
   rw [if_neg q] at hi
   obtain ⟨d1,d2,arr2,el2,d3,d4,d5⟩:=h.cells i g' cs1 hi
   refine ⟨d1,d2,arr2,el2,?_,d4,fun j x hx=>by
    obtain ⟨v,v1,v2,v3⟩:=d5 j x hx
    exact ⟨v,v1,v2.mono e,v3⟩⟩
   rw [ho _ (hne i (by simp [live,cur,hi]) (Ne.symm q) _ ((d1 _).2 rfl))]; exact d3
 ·
  simp only [AL.aF] at hi
  by_cases q:id=i
  ·
   subst q
   simp only [if_true,Option.some.injEq,iU.map.injEq] at hi
   subst hi
   exact ⟨c1,c2,ms',clk',hb,hd,fun j p m hp hm=>by
    obtain ⟨v1,v2⟩:=hv j p m hp hm
    exact ⟨v1.mono e.prot,v2.mono e⟩⟩
  ·
   rw [if_neg q] at hi
   obtain ⟨d1,d2,ms,clk,d3,d4,d5⟩:=h.maps i es hi
   refine ⟨d1,d2,ms,clk,?_,d4,fun j p m hp hm=>by
    obtain ⟨v1,v2⟩:=d5 j p m hp hm
    exact ⟨v1.mono e.prot,v2.mono e⟩⟩
   rw [ho _ (hne i (by simp [live,cur,hi]) (Ne.symm q) _ ((d1 _).2 rfl))]; exact d3
 ·
  simp only [AL.aF] at hi
  by_cases q:id=i
  ·
   subst q; simp at hi
  ·
   rw [if_neg q] at hi
   obtain ⟨d1,d2⟩:=h.objs i k x hi
   exact ⟨hR.frame k x w w' _ _ d1 (fun c hc=>ho c (hne i (by simp [live,cur,hi]) (Ne.symm q) c hc)),d2⟩
 ·
  obtain ⟨d1,d2,arr2,el2,fz,d3,d4,d5,d6⟩:=h.toks i en hi
  have q:i ≠ id:=fun q=>by subst q; have:=h.kC i _ hg; rw [this] at hi; cases hi
  have hli:live S i:=by
   unfold live cur
   cases hH:S.H.get i with
   | some b=>have:=h.kC i b hH; rw [this] at hi; cases hi
   | none=>simp [hi]
  refine ⟨d1,d2,arr2,el2,fz,?_,d4,d5,d6⟩
  rw [ho _ (hne i hli q _ ((d1 _).2 rfl))]; exact d3
theorem vB {R:aM} (hR:ObjOk R) {cx:Cx} {S:St} {w:World} (h:aB R cx S w) :
  ∃ cx',aB R cx' { S with H:=S.H.set S.nx (.map { es:=[],clk:=0 }),nx:=S.nx + 1 } (w.alloc (.map #[] 0))∧Ext cx S w cx' { S with H:=S.H.set S.nx (.map { es:=[],clk:=0 }),nx:=S.nx + 1 } (w.alloc (.map #[] 0)) ∧
   av cx' { S with H:=S.H.set S.nx (.map { es:=[],clk:=0 }),nx:=S.nx + 1 } (w.alloc (.map #[] 0)) (.map S.nx) (.map (some w.heap.size)):=by
 obtain ⟨nH,nT⟩:=gT h
 generalize hS':({ S with H:=S.H.set S.nx (.map { es:=[],clk:=0 }),nx:=S.nx + 1 }:St)=S'
 have hH:∀ id,id ≠ S.nx→S'.H.get id=S.H.get id:=fun id hid=>by rw [← hS']; simp [AL.aF,Ne.symm hid]
 have hT:∀ id,id ≠ S.nx→S'.T.get id=S.T.get id:=fun id hid=>by rw [← hS']
 have hnx:S'.nx=S.nx + 1:=by rw [← hS']
 have nT':S'.T.get S.nx=none:=by rw [← hS']; exact nT
 have hc:∀ id,id ≠ S.nx→cur S' id=cur S id:=fun id hid=>by unfold cur; rw [hH id hid,hT id hid]
 have hnew:S'.H.get S.nx=some (.map { es:=[],clk:=0 }):=by rw [← hS']; simp [AL.aF]
 have e:=Ext.fresh (S':=S') h (.map #[] 0) 0 0 (fun _=>True) hnx hc hH
 refine ⟨cx.new S.nx w.heap.size 0 0 (fun _=>True),aB.fresh hR h _ 0 0 _ hnx hH hT (fun b _=>nT') (fun g cs' hg=>?_) (fun es hg=>?_) (fun k x hg=>?_) (fun en hg=>?_),e,?_⟩
 ·
  rw [hnew] at hg; cases hg
 ·
  rw [hnew] at hg
  simp only [Option.some.injEq,iU.map.injEq] at hg
  subst hg
  exact ⟨fun c=>by simp [Cx.new],fun o=>by simp [Cx.new],#[],0,by simp only [Cx.new,if_true]; exact heap_alloc_new w _,⟨rfl,rfl,fun i p m hp=>by simp at hp⟩,fun i p m hp=>by simp at hp⟩
 ·
  rw [hnew] at hg; cases hg
 ·
  rw [nT'] at hg; cases hg
 ·
  exact .map S.nx w.heap.size ⟨by rw [hnx]; exact Nat.lt_succ_self _,fun g' _=>Nat.zero_le _⟩ (fun _=>by simp [Cx.new])
theorem gM {C:bN} {t k e:Nat} (h:sQ C t=some (k,e)):C.P.underlying t=some (.map k e):=by
 unfold sQ at h
 split at h
 ·
  rename_i k' e' hu
  simp only [Option.some.injEq,Prod.mk.injEq] at h
  rw [hu,h.1,h.2]
 ·
  cases h
theorem lh {R:aM} {cx:Cx} {S:St} {w:World} (hS:aB R cx S w) {id:Nat} {M:sN} (hg:S.H.get id=some (.map M)) {b:Nat} (hx:av cx S w (.map id) (.map (some b))) :
  b=cx.bm id∧∃ ms,w.heap[cx.bm id]? = some (.map ms M.clk)∧Cg w cx.fr M.es ms.toList∧(∀ (i:Nat) (p:D × AV × Nat) (m:MapEntry),M.es[i]? = some p→ms[i]? = some m→m.born=p.2.2∧aJ w cx.fr p.1 m.key∧av cx S w p.2.1 m.val)∧ms.size=M.es.length:=by
 obtain ⟨c1,c2,ms,clk,c3,⟨c4,c4',c4''⟩,c5⟩:=hS.maps id M hg
 subst c4'
 cases hx with
 | map _ _ hn hp =>
  refine ⟨hp (by simp [cur,hg]),ms,c3,⟨by simpa using c4,fun i p m hp hm=>(c5 i p m hp (by simpa using hm)).1⟩,fun i p m hp hm=>⟨c4'' i p m hp hm,(c5 i p m hp hm).1,(c5 i p m hp hm).2⟩,c4⟩
theorem lJ {cx:Cx} {S:St} {w:World} {P:Program} {t:Nat} {k:D} {es:List (D × AV × Nat)} {ms:Array MapEntry} (hval:∀ (i:Nat) (p:D × AV × Nat) (m:MapEntry),es[i]? = some p→ms[i]? = some m→av cx S w p.2.1 m.val) {i:Nat} {v:AV} {o:Option (Nat × Value)}
  (hf:gZ P t k es 0=some (some (i,v))) (ho:Found ms.toList 0 (some (i,v)) o):∃ b m,es[i]? = some (k,v,b)∧ms[i]? = some m∧o=some (i,m.val)∧av cx S w v m.val:=by
 obtain ⟨b,_,h2⟩:=qQ hf
 obtain ⟨m,_,m2,m3⟩:=ho
 rw [Nat.sub_zero] at h2 m2
 have m2':ms[i]? = some m:=by simpa using m2
 exact ⟨b,m,h2,m2',m3,hval i _ m h2 m2'⟩
theorem uC {R:aM} {C:bN} {cx:Cx} {S:St} {w:World} (hS:aB R cx S w) {t:Nat} {m v:AV} {k:D} {ok:Bool} {mv kv:Value} (h:jJ C t S m k ok=some v) (hm:av cx S w m mv) (hk:aJ w cx.fr k kv) :
  ∃ u,(Instr.lookup t mv kv ok).run C.P w=.ok u w∧av cx S w v u:=by
 unfold jJ at h
 split at h
 ·
  rename_i kt et M hkt hM
  have hu:=gM hkt
  split at h
  ·
   rename_i hkey
   have hchk:=lG hkey hk
   have fin:∀ (ms:Array MapEntry),Cg w cx.fr M.es ms.toList→(∀ (i:Nat) (p:D × AV × Nat) (m:MapEntry),M.es[i]? = some p→ms[i]? = some m→av cx S w p.2.1 m.val) →
     ∃ u:Value × Bool,∃ o,(Instr.findKey kt kv ms.toList).run C.P w=.ok o w∧av cx S w v (if ok then .tuple #[u.1,.bool u.2] else u.1) ∧
      ((∃ i,o=some (i,u.1)∧u.2=true)∨(o=none∧(zeroValue et).run C.P w=.ok u.1 w∧u.2=false)):=by
    intro ms hE hval
    have two:∀ {y:AV} {x:Value} {b:Bool},av cx S w y x→av cx S w (if ok=true then .tup [y,.d (.bool b)] else y) (if ok=true then .tuple #[x,.bool b] else x):=by
     intro y x b hy
     cases ok
     ·
      exact hy
     ·
      refine .tup [y,.d (.bool b)] [x,.bool b] rfl (fun i a c ha hc=>?_)
      match i,ha,hc with
      | 0,ha,hc=>simp at ha hc; subst ha; subst hc; exact hy
      | 1,ha,hc=>simp at ha hc; subst ha; subst hc; exact .of_bool b
    split at h
    ·
     rename_i i y hf
     simp only [Option.some.injEq] at h; subst h
     obtain ⟨o,o1,o2⟩:=dz (P:=C.P) hkey hk hE hf
     obtain ⟨b,m',_,_,q3,q4⟩:=lJ hval hf o2
     exact ⟨(m'.val,true),o,o1,two q4,.inl ⟨i,q3,rfl⟩⟩
    ·
     rename_i hf
     simp only [Option.map_eq_some_iff] at h
     obtain ⟨z,hz,rfl⟩:=h
     obtain ⟨o,o1,o2⟩:=dz (P:=C.P) hkey hk hE hf
     obtain ⟨zv,z1,z2⟩:=fI hz w cx.fr
     have:o=none:=o2
     exact ⟨(zv,false),o,o1,two (.d z zv z2),.inr ⟨this,z1,rfl⟩⟩
    ·
     cases h
   have go:∀ (ms:Array MapEntry) (u:Value × Bool) (o:Option (Nat × Value)),(Instr.findKey kt kv ms.toList).run C.P w=.ok o w→((∃ i,o=some (i,u.1)∧u.2=true)∨(o=none∧(zeroValue et).run C.P w=.ok u.1 w∧u.2=false)) →
     ((mv=.map none∧ms = #[])∨∃ r c,mv=.map (some r)∧w.heap[r]? = some (.map ms c))→(Instr.lookup t mv kv ok).run C.P w=.ok (if ok then .tuple #[u.1,.bool u.2] else u.1) w:=by
    intro ms u o ho hor hmv
    obtain ⟨u1,u2⟩:=u
    rcases hmv with ⟨rfl,rfl⟩ | ⟨r,c,rfl,hr⟩ <;> rcases hor with ⟨i,rfl,hb⟩ | ⟨rfl,hz,hb⟩ <;> simp only at hb <;> subst hb
    ·
     simp only [Instr.lookup,Sem.run_bind,aC w hu,Result.andThen_ok,Sem.run_pure,hchk,ho]
    ·
     simp only at hz
     simp only [Instr.lookup,Sem.run_bind,aC w hu,Result.andThen_ok,Sem.run_pure,hchk,ho,hz]
    ·
     simp only [Instr.lookup,Sem.run_bind,aC w hu,Result.andThen_ok,Sem.run_pure,hchk,ho,MapKept.run_getObj_map hr]
    ·
     simp only at hz
     simp only [Instr.lookup,Sem.run_bind,aC w hu,Result.andThen_ok,Sem.run_pure,hchk,ho,hz,MapKept.run_getObj_map hr]
   unfold mapOf at hM
   split at hM
   ·
    simp only [Option.some.injEq] at hM; subst hM
    have:=hm.dd.val rfl; cases this
    obtain ⟨u,o,f1,f2,f3⟩:=fin #[] ⟨rfl,by simp⟩ (by simp)
    exact ⟨_,go #[] u o f1 f3 (.inl ⟨rfl,rfl⟩),f2⟩
   ·
    rename_i id
    split at hM
    ·
     rename_i M' hg
     simp only [Option.some.injEq] at hM; subst hM
     cases hm with
     | map _ b hn hp =>
      obtain ⟨p1,ms,p2,p3,p4,p5⟩:=lh hS hg (.map id b hn hp)
      subst p1
      obtain ⟨u,o,f1,f2,f3⟩:=fin ms p3 (fun i p m hp hm=>(p4 i p m hp hm).2.2)
      exact ⟨_,go ms u o f1 f3 (.inr ⟨_,_,rfl,p2⟩),f2⟩
    ·
     cases hM
   ·
    cases hM
  ·
   cases h
 ·
  cases h
theorem dX {R:aM} (hR:ObjOk R) {P:Program} {cx:Cx} {S:St} {w:World} (h:aB R cx S w) {id:Nat} {M M':sN} (hg:S.H.get id=some (.map M)) {ms ms':Array MapEntry} {c c':Nat} (hb:w.heap[cx.bm id]? = some (.map ms c))
  (hd:ms'.size=M'.es.length∧c'=M'.clk)
  (hv:∀ (i:Nat) (p:D × AV × Nat) (m:MapEntry),M'.es[i]? = some p→ms'[i]? = some m→m.born=p.2.2∧aJ w cx.fr p.1 m.key∧av cx S w p.2.1 m.val) :
  ∃ w',(setObj (cx.bm id) (.map ms' c')).run P w=.ok () w'∧aB R cx { S with H:=S.H.set id (.map M') } w'∧Ext cx S w cx { S with H:=S.H.set id (.map M') } w':=by
 have hlt:cx.bm id < w.heap.size:=by
  rcases Nat.lt_or_ge (cx.bm id) w.heap.size with q | q
  ·
   exact q
  ·
   rw [Array.getElem?_eq_none q] at hb; cases hb
 refine ⟨_,MapKept.run_setObj_map _ hb,vg hR h hg (by simp) (fun b hne=>?_) rfl rfl rfl (ms':=ms') (clk':=c') ?_ ⟨hd.1,hd.2,fun i p m hp hm=>(hv i p m hp hm).1⟩ (fun i p m hp hm=>(hv i p m hp hm).2)⟩
 ·
  simp only [Array.getElem?_setIfInBounds]
  rw [if_neg (Ne.symm hne)]
 ·
  simp only [Array.getElem?_setIfInBounds,hlt,if_true]
theorem oG {P:Program} {w:World} {fr:Nat→Nat→Prop} {t:Nat} {k:D} {v u:Value} (hk:kr P t k=true) (h1:aJ w fr k v) (h2:aJ w fr k u):(Instr.keyThatStays v u).run P w=.ok u w:=by
 have:=Cj hk h1 h2; subst this
 unfold Instr.keyThatStays
 rw [if_pos (Br hk h1 9999)]
 rfl
theorem mJ {cx:Cx} {S:St} {w:World} {es:List (D × AV × Nat)} {ms:Array MapEntry} {p0:D × AV × Nat} {m0:MapEntry} (hsz:ms.size=es.length) (h:∀ (i:Nat) (p:D × AV × Nat) (m:MapEntry),es[i]? = some p→ms[i]? = some m→m.born=p.2.2∧aJ w cx.fr p.1 m.key∧av cx S w p.2.1 m.val)
  (h0:m0.born=p0.2.2∧aJ w cx.fr p0.1 m0.key∧av cx S w p0.2.1 m0.val):∀ (i:Nat) (p:D × AV × Nat) (m:MapEntry),(es ++ [p0])[i]? = some p→(ms.push m0)[i]? = some m→m.born=p.2.2∧aJ w cx.fr p.1 m.key∧av cx S w p.2.1 m.val:=by
 intro i p m hp hm
 rw [Array.getElem?_push] at hm
 rw [List.getElem?_append] at hp
 by_cases hi:i=ms.size
 ·
  rw [if_pos hi] at hm
  rw [if_neg (by omega),show i - es.length=0 by omega] at hp
  simp at hp hm; subst hp; subst hm; exact h0
 ·
  rw [if_neg hi] at hm
  have hlt:i < ms.size:=(Array.getElem?_eq_some_iff.1 hm).1
  rw [if_pos (by omega)] at hp
  exact h i p m hp hm
theorem iY {cx:Cx} {S:St} {w:World} {es:List (D × AV × Nat)} {ms:Array MapEntry} {j:Nat} {f:D × AV × Nat→D × AV × Nat} {g:MapEntry→MapEntry} (h:∀ (i:Nat) (p:D × AV × Nat) (m:MapEntry),es[i]? = some p→ms[i]? = some m→m.born=p.2.2∧aJ w cx.fr p.1 m.key∧av cx S w p.2.1 m.val)
  (h0:∀ (p:D × AV × Nat) (m:MapEntry),es[j]? = some p→ms[j]? = some m→(g m).born=(f p).2.2∧aJ w cx.fr (f p).1 (g m).key∧av cx S w (f p).2.1 (g m).val):∀ (i:Nat) (p:D × AV × Nat) (m:MapEntry),(es.modify j f)[i]? = some p→(ms.modify j g)[i]? = some m→m.born=p.2.2∧aJ w cx.fr p.1 m.key∧av cx S w p.2.1 m.val:=by
 intro i p m hp hm
 rw [Array.getElem?_modify] at hm
 rw [List.getElem?_modify] at hp
 by_cases hi:j=i
 ·
  subst hi
  simp only [if_true,Option.map_eq_map,Option.map_eq_some_iff] at hp hm
  obtain ⟨p1,q1,q2⟩:=hp
  obtain ⟨m1,r1,r2⟩:=hm
  have q2':f p1=p:=by simpa using q2
  subst q2'; subst r2
  exact h0 p1 m1 q1 r1
 ·
  rw [if_neg hi] at hm
  simp only [Option.map_eq_map,Option.map_eq_some_iff] at hp
  obtain ⟨p1,q1,q2⟩:=hp
  have q2':p1=p:=by simpa [hi] using q2
  subst q2'
  exact h i p1 m q1 hm
theorem mF {R:aM} (hR:ObjOk R) {C:bN} {cx:Cx} {S S':St} {w:World} (hS:aB R cx S w) {t:Nat} {m v:AV} {k:D} {mv kv vv:Value} (h:rU C t S m k v=some S') (hm:av cx S w m mv) (hk:aJ w cx.fr k kv) (hv:av cx S w v vv) :
  ∃ w',(Instr.mapUpdate t mv kv vv).run C.P w=.ok () w'∧aB R cx S' w'∧Ext cx S w cx S' w':=by
 unfold rU at h
 split at h
 ·
  rename_i kt et id hkt
  have hu:=gM hkt
  split at h
  ·
   rename_i M hg
   split at h
   ·
    rename_i hc
    simp only [Bool.and_eq_true] at hc
    obtain ⟨hkey,hpl⟩:=hc
    have hchk:=lG hkey hk false
    cases hm with
    | map _ b hn hp =>
    obtain ⟨p1,ms,p2,p3,p4,p5⟩:=lh hS hg (.map id b hn hp)
    subst p1
    split at h
    ·
     rename_i i y hf
     simp only [Option.some.injEq] at h; subst h
     obtain ⟨o,o1,o2⟩:=dz (P:=C.P) hkey hk p3 hf
     obtain ⟨bn,m',q1,q2,q3,q4⟩:=lJ (fun i p m hp hm=>(p4 i p m hp hm).2.2) hf o2
     subst q3
     obtain ⟨w',k1,k2,k3⟩:=dX hR (P:=C.P) (M':={ M with es:=M.es.modify i fun p=>(k,v,p.2.2) }) (ms':=ms.modify i fun e=>{ e with key:=kv,val:=vv }) (c':=M.clk) hS hg p2 ⟨by simp [p5],rfl⟩
      (iY p4 (fun p m hp hm=>⟨(p4 i p m hp hm).1,hk,hv⟩))
     refine ⟨w',?_,k2,k3⟩
     have hst:=oG hkey (p4 i _ m' q1 q2).2.1 hk
     simp only [Instr.mapUpdate,Sem.run_bind,aC w hu,Result.andThen_ok,MapKept.run_getObj_map p2,hchk,o1,q2,Option.map_some,Option.getD_some,hst]
     exact k1
    ·
     rename_i hf
     simp only [Option.some.injEq] at h; subst h
     obtain ⟨o,o1,o2⟩:=dz (P:=C.P) hkey hk p3 hf
     have:o=none:=o2
     subst this
     obtain ⟨w',k1,k2,k3⟩:=dX hR (P:=C.P) (M':={ es:=M.es ++ [(k,v,M.clk)],clk:=M.clk + 1 }) (ms':=ms.push { key:=kv,val:=vv,born:=M.clk }) (c':=M.clk + 1) hS hg p2 ⟨by simp [p5],rfl⟩
      (mJ p5 p4 ⟨rfl,hk,hv⟩)
     refine ⟨w',?_,k2,k3⟩
     simp only [Instr.mapUpdate,Sem.run_bind,aC w hu,Result.andThen_ok,MapKept.run_getObj_map p2,hchk,o1]
     exact k1
    ·
     cases h
   ·
    cases h
  ·
   cases h
 ·
  cases h
theorem wN {R:aM} {cx:Cx} {S:St} {w w':World} {id:Nat} {b:iU} (hg:S.H.get id=some b) (h1:aB R cx { S with H:=S.H.set id b } w') (h2:Ext cx S w cx { S with H:=S.H.set id b } w'):aB R cx S w'∧Ext cx S w cx S w':=by
 have hH:∀ i,({ S with H:=S.H.set id b }:St).H.get i=S.H.get i:=fun i=>by
  simp only [AL.aF]
  by_cases q:id=i
  ·
   subst q; simp [hg]
  ·
   simp [q]
 have hcur:∀ i,cur { S with H:=S.H.set id b } i=cur S i:=fun i=>by unfold cur; rw [hH i]
 have hl:∀ i,live { S with H:=S.H.set id b } i↔live S i:=fun i=>by unfold live; rw [hcur i]
 have e2:Ext cx { S with H:=S.H.set id b } w' cx S w':=by
  refine ⟨Nat.le_refl _,rfl,rfl,rfl,Nat.le_refl _,fun _ _ _ q1 q2=>⟨q2,q1⟩,fun _ _ _=>⟨rfl,fun _=>Iff.rfl⟩,fun i b hi hf=>⟨fun _=>⟨(hl i).2 hi,.inl hf⟩,fun hge=>absurd (h1.wf i ((hl i).2 hi)) (by show ¬ i < S.nx; exact Nat.not_lt.2 hge)⟩,fun i g _ hi=>⟨g,by unfold isIt at *; rw [hH i]; exact hi⟩,fun _ _ _ _ _ _ hf=>hf,fun i g hi hg'=>⟨g,by rw [hcur i]; exact hg',Nat.le_refl _,fun _=>⟨rfl,rfl,rfl⟩⟩⟩
 refine ⟨⟨fun i hi=>h1.wf i ((hl i).2 hi),fun i b hi=>h1.kC i b (by rw [hH i]; exact hi),fun i g cs hi=>?_,fun i es hi=>?_,fun i k x hi=>h1.objs i k x (by rw [hH i]; exact hi),fun i n hi=>h1.toks i n hi,fun i i' b a1 a2=>h1.sep i i' b ((hl i).2 a1) ((hl i').2 a2),h1.lt,h1.stat⟩,h2.trans e2⟩
 ·
  obtain ⟨d1,d2,arr2,el2,d3,d4,d5⟩:=h1.cells i g cs (by rw [hH i]; exact hi)
  exact ⟨d1,d2,arr2,el2,d3,d4,fun j x hx=>by
   obtain ⟨v,v1,v2,v3⟩:=d5 j x hx
   exact ⟨v,v1,v2.mono e2,v3⟩⟩
 ·
  obtain ⟨d1,d2,ms,clk,d3,d4,d5⟩:=h1.maps i es (by rw [hH i]; exact hi)
  exact ⟨d1,d2,ms,clk,d3,d4,fun j p m hp hm=>by
   obtain ⟨v1,v2⟩:=d5 j p m hp hm
   exact ⟨v1,v2.mono e2⟩⟩
theorem xq {R:aM} (hR:ObjOk R) {C:bN} {cx:Cx} {S:St} {w:World} (hS:aB R cx S w) {t:Nat} {m:AV} {k:D} {r:AV × St} {mv kv:Value} (h:uW C t S m k=some r) (hm:av cx S w m mv) (hk:aJ w cx.fr k kv) :
  ∃ w' u,(Instr.mapEntry t mv kv).run C.P w=.ok u w'∧aB R cx r.2 w'∧Ext cx S w cx r.2 w'∧av cx r.2 w' r.1 u:=by
 have two:∀ {S':St} {w':World} {y:AV} {x:Value} {n:Nat},av cx S' w' y x→av cx S' w' (.tup [y,.d (.int .i64 (n:Nat))]) (.tuple #[x,goInt n]):=by
  intro S' w' y x n hy
  refine .tup [y,.d (.int .i64 n)] [x,goInt n] rfl (fun i a c ha hc=>?_)
  match i,ha,hc with
  | 0,ha,hc=>simp at ha hc; subst ha; subst hc; exact hy
  | 1,ha,hc=>simp at ha hc; subst ha; subst hc; exact .of_int _ _
 unfold uW at h
 split at h
 ·
  rename_i kt et id hkt
  have hu:=gM hkt
  split at h
  ·
   rename_i M hg
   split at h
   ·
    rename_i hkey
    have hchk:=lG hkey hk false
    cases hm with
    | map _ b hn hp =>
    obtain ⟨p1,ms,p2,p3,p4,p5⟩:=lh hS hg (.map id b hn hp)
    subst p1
    split at h
    ·
     rename_i i y hf
     split at h
     ·
      rename_i p hpi
      simp only [Option.some.injEq] at h; subst h
      obtain ⟨o,o1,o2⟩:=dz (P:=C.P) hkey hk p3 hf
      obtain ⟨bn,m',q1,q2,q3,q4⟩:=lJ (fun i p m hp hm=>(p4 i p m hp hm).2.2) hf o2
      subst q3
      rw [hpi] at q1
      simp only [Option.some.injEq] at q1; subst q1
      have hsame:M.es.modify i (fun p=>(k,p.2.1,p.2.2))=M.es:=by
       apply List.ext_getElem?
       intro j
       rw [List.getElem?_modify]
       by_cases hj:i=j
       ·
        subst hj; rw [hpi]; simp
       ·
        simp [hj]
      obtain ⟨w',k1,k2,k3⟩:=dX hR (P:=C.P) (M':={ M with es:=M.es.modify i fun p=>(k,p.2.1,p.2.2) }) (ms':=ms.modify i fun e=>{ e with key:=kv }) (c':=M.clk) hS hg p2 ⟨by simp [p5],rfl⟩
       (iY p4 (fun p m hp hm=>⟨(p4 i p m hp hm).1,hk,(p4 i p m hp hm).2.2⟩))
      rw [hsame] at k2 k3
      have hback:aB R cx S w'∧Ext cx S w cx S w':=wN hg k2 k3
      have hborn:=(p4 i _ m' hpi q2).1
      refine ⟨w',.tuple #[m'.val,goInt m'.born],?_,hback.1,hback.2,?_⟩
      ·
       have hst:=oG hkey (p4 i _ m' hpi q2).2.1 hk
       simp only [Instr.mapEntry,Sem.run_bind,aC w hu,Result.andThen_ok,MapKept.run_getObj_map p2,hchk,o1,q2,Option.map_some,Option.getD_some,hst]
       rw [k1]; rfl
      ·
       rw [hborn]
       exact two (q4.mono hback.2)
     ·
      cases h
    ·
     rename_i hf
     simp only [Option.map_eq_some_iff] at h
     obtain ⟨z,hz,rfl⟩:=h
     obtain ⟨o,o1,o2⟩:=dz (P:=C.P) hkey hk p3 hf
     have:o=none:=o2
     subst this
     obtain ⟨zv,z1,z2⟩:=fI hz w cx.fr
     obtain ⟨w',k1,k2,k3⟩:=dX hR (P:=C.P) (M':={ es:=M.es ++ [(k,.d z,M.clk)],clk:=M.clk + 1 }) (ms':=ms.push { key:=kv,val:=zv,born:=M.clk }) (c':=M.clk + 1) hS hg p2 ⟨by simp [p5],rfl⟩
      (mJ p5 p4 ⟨rfl,hk,.d z zv z2⟩)
     refine ⟨w',.tuple #[zv,goInt M.clk],?_,k2,k3,two ((av.d z zv z2).mono k3)⟩
     simp only [Instr.mapEntry,Sem.run_bind,aC w hu,Result.andThen_ok,MapKept.run_getObj_map p2,hchk,o1,z1]
     rw [k1]; rfl
    ·
     cases h
   ·
    cases h
  ·
   cases h
 ·
  cases h
theorem jA {n:Nat}:∀ {es:List (D × AV × Nat)} {i0 i:Nat},iW n es i0=some i→i0 ≤ i∧(∃ p,es[i - i0]? = some p∧p.2.2=n)∧∀ j p,i0 ≤ j→j < i→es[j - i0]? = some p→p.2.2 ≠ n
 | [],i0,i,h=>by simp [iW] at h
 | (x,v,b) :: l,i0,i,h=>by
  simp only [iW] at h
  cases hb:Nat.beq b n with
  | true =>
   rw [hb] at h
   simp only [cond_true,Option.some.injEq] at h
   subst h
   exact ⟨Nat.le_refl _,⟨(x,v,b),by simp,Nat.eq_of_beq_eq_true hb⟩,fun j p h1 h2=>by omega⟩
  | false =>
   rw [hb] at h
   simp only [cond_false] at h
   obtain ⟨h1,⟨p,h2,h3⟩,h4⟩:=jA h
   refine ⟨by omega,⟨p,?_,h3⟩,fun j q hj1 hj2 hq=>?_⟩
   ·
    rw [show i - i0=(i - (i0 + 1)) + 1 by omega]; simpa using h2
   ·
    by_cases hj:j=i0
    ·
     subst hj
     simp at hq; subst hq
     intro e
     simp only at e
     rw [e] at hb
     simp at hb
    ·
     refine h4 j q (by omega) hj2 ?_
     rw [show j - i0=(j - (i0 + 1)) + 1 by omega] at hq
     simpa using hq
theorem nM {R:aM} (hR:ObjOk R) {C:bN} {cx:Cx} {S S':St} {w:World} (hS:aB R cx S w) {t:Nat} {m v:AV} {st:D} {mv sv vv:Value} (h:jZ S m st v=some S') (hm:av cx S w m mv) (hs:aJ w cx.fr st sv) (hv:av cx S w v vv) :
  ∃ w',(Instr.entryStore t mv sv vv).run C.P w=.ok () w'∧aB R cx S' w'∧Ext cx S w cx S' w':=by
 unfold jZ at h
 split at h
 ·
  rename_i id n
  split at h
  ·
   rename_i M hg
   split at h
   ·
    rename_i hc
    obtain ⟨hn0,hpl⟩:=hc
    have:=hs.val rfl; cases this
    cases hm with
    | map _ b hn hp =>
    obtain ⟨p1,ms,p2,p3,p4,p5⟩:=lh hS hg (.map id b hn hp)
    subst p1
    split at h
    ·
     rename_i i hf
     simp only [Option.some.injEq] at h; subst h
     obtain ⟨_,⟨p,f2,f3⟩,f4⟩:=jA hf
     rw [Nat.sub_zero] at f2
     have hil:i < ms.size:=by rw [p5]; exact (List.getElem?_eq_some_iff.1 f2).1
     have hidx:ms.findIdx? (fun e=>(e.born:Int) == n)=some i:=by
      rw [Array.findIdx?_eq_some_iff_getElem]
      refine ⟨hil,?_,fun j hj=>?_⟩
      ·
       have:=(p4 i p ms[i] f2 (by simp [hil])).1
       rw [this,f3]
       simp [Int.toNat_of_nonneg hn0]
      ·
       have hjl:j < M.es.length:=by omega
       have hq:=List.getElem?_eq_getElem hjl
       have hb:=(p4 j M.es[j] ms[j] hq (by simp [show j < ms.size by omega])).1
       have hne:=f4 j M.es[j] (Nat.zero_le _) hj (by rw [Nat.sub_zero]; exact hq)
       simp only [beq_iff_eq]
       rw [hb]
       intro e
       apply hne
       omega
     obtain ⟨w',k1,k2,k3⟩:=dX hR (P:=C.P) (M':={ M with es:=M.es.modify i fun p=>(p.1,v,p.2.2) }) (ms':=ms.modify i fun e=>{ e with val:=vv }) (c':=M.clk) hS hg p2 ⟨by simp [p5],rfl⟩
      (iY p4 (fun p m hp hm=>⟨(p4 i p m hp hm).1,(p4 i p m hp hm).2.1,hv⟩))
     refine ⟨w',?_,k2,k3⟩
     have hint:(asInt (.int .i64 n)).run C.P w=.ok n w:=by simp [asInt,asIntOf]
     simp only [Instr.entryStore,Sem.run_bind,Sem.run_pure,Result.andThen_ok,MapKept.run_getObj_map p2,hint,hidx]
     exact k1
    ·
     cases h
   ·
    cases h
  ·
   cases h
 ·
  cases h
theorem sJ {cx:Cx} {S:St} {w:World} {es:List (D × AV × Nat)} {ms:Array MapEntry} {j:Nat} (h:∀ (i:Nat) (p:D × AV × Nat) (m:MapEntry),es[i]? = some p→ms[i]? = some m→m.born=p.2.2∧aJ w cx.fr p.1 m.key∧av cx S w p.2.1 m.val) :
  ∀ (i:Nat) (p:D × AV × Nat) (m:MapEntry),(es.eraseIdx j)[i]? = some p→(ms.eraseIdxIfInBounds j)[i]? = some m→m.born=p.2.2∧aJ w cx.fr p.1 m.key∧av cx S w p.2.1 m.val:=by
 intro i p m hp hm
 have hm':(ms.toList.eraseIdx j)[i]? = some m:=by
  rw [← Array.getElem?_toList] at hm
  simpa using hm
 rw [List.getElem?_eraseIdx] at hp hm'
 split at hp
 ·
  rename_i hlt
  rw [if_pos hlt] at hm'
  exact h i p m hp (by simpa using hm')
 ·
  rename_i hlt
  rw [if_neg hlt] at hm'
  exact h (i + 1) p m hp (by simpa using hm')
theorem uI {R:aM} (hR:ObjOk R) {C:bN} {cx:Cx} {S S':St} {w:World} (hS:aB R cx S w) {t ty:Nat} {m:AV} {k:D} {mv kv:Value} (h:qA C t S m k=some S') (hm:av cx S w m mv) (hk:aJ w cx.fr k kv) :
  ∃ w',(Builtin.delete_ #[t] ty #[mv,kv]).run C.P w=.ok (.tuple #[]) w'∧aB R cx S' w'∧Ext cx S w cx S' w':=by
 unfold qA at h
 split at h
 ·
  rename_i kt et id hkt
  have hu:=gM hkt
  split at h
  ·
   rename_i M hg
   split at h
   ·
    rename_i hkey
    cases hm with
    | map _ b hn hp =>
    obtain ⟨p1,ms,p2,p3,p4,p5⟩:=lh hS hg (.map id b hn hp)
    subst p1
    have hchk:=lG hkey hk ms.isEmpty
    split at h
    ·
     rename_i i y hf
     simp only [Option.some.injEq] at h; subst h
     obtain ⟨o,o1,o2⟩:=dz (P:=C.P) hkey hk p3 hf
     obtain ⟨bn,m',q1,q2,q3,q4⟩:=lJ (fun i p m hp hm=>(p4 i p m hp hm).2.2) hf o2
     subst q3
     obtain ⟨w',k1,k2,k3⟩:=dX hR (P:=C.P) (M':={ M with es:=M.es.eraseIdx i }) (ms':=ms.eraseIdxIfInBounds i) (c':=M.clk) hS hg p2 ⟨by
       have e1:(ms.eraseIdxIfInBounds i).toList=ms.toList.eraseIdx i:=by simp
       rw [← Array.length_toList,e1,List.length_eraseIdx,List.length_eraseIdx,Array.length_toList,p5],rfl⟩ (sJ p4)
     refine ⟨w',?_,k2,k3⟩
     simp only [Builtin.delete_,List.getElem?_toArray,List.getElem?_cons_zero,List.getElem?_cons_succ,Sem.run_bind,aC w hu,Result.andThen_ok,MapKept.run_getObj_map p2,hchk,o1,k1,Sem.run_pure]
    ·
     rename_i hf
     simp only [Option.some.injEq] at h; subst h
     obtain ⟨o,o1,o2⟩:=dz (P:=C.P) hkey hk p3 hf
     have:o=none:=o2
     subst this
     obtain ⟨w',k1,k2,k3⟩:=dX hR (P:=C.P) (M':=M) (ms':=ms) (c':=M.clk) hS hg p2 ⟨p5,rfl⟩ p4
     obtain ⟨k2,k3⟩:=wN hg k2 k3
     refine ⟨w',?_,k2,k3⟩
     simp only [Builtin.delete_,List.getElem?_toArray,List.getElem?_cons_zero,List.getElem?_cons_succ,Sem.run_bind,aC w hu,Result.andThen_ok,MapKept.run_getObj_map p2,hchk,o1,k1,Sem.run_pure]
    ·
     cases h
   ·
    cases h
  ·
   cases h
 ·
  cases h
end
end Go.Ev

namespace Go.Ev
noncomputable section
set_option linter.unusedVariables false
set_option linter.unusedSimpArgs false
theorem nL {R:aM} (hR:ObjOk R) {cx cx':Cx} {S S':St} {w w':World} (h:aB R cx S w) {id k0:Nat} {x0:D} (hg:S.H.get id=some (.obj k0 x0)) (hmo:∀ k x,S'.H.get id=some (.obj k x)→nN x0 ≤ nN x) (hbk:∀ g,isIt S' id g→∃ g',isIt S id g') (hdi:∀ g,isIt S id g→¬ isIt S' id g)
  (hT:S'.T=S.T) (hnx:S'.nx=S.nx) (hH:∀ i,i ≠ id→S'.H.get i=S.H.get i) (hHid:S'.H.get id=none∨∃ k x,S'.H.get id=some (.obj k x)∧R.rel k x w' (cx'.bm id) (cx'.fp id))
  (hs:w.heap.size ≤ w'.heap.size) (h1:w'.os=w.os) (h2:w'.tape=w.tape) (h3:w'.output=w.output)
  (hoth:∀ b,b < w.heap.size→¬ cx.fp id b→w'.heap[b]? = w.heap[b]?)
  (hbm:∀ i,cx'.bm i=cx.bm i) (hfp:∀ i,i ≠ id→∀ b,(cx'.fp i b↔cx.fp i b)) (htsz:∀ i,cx'.tsz i=cx.tsz i) (htot:∀ i,cx'.tot i=cx.tot i)
  (hfpt:∀ b,cx'.fp id b→cx.fp id b∨(w.heap.size ≤ b∧b < w'.heap.size)) (hfpf:∀ b o,cx'.fp id b→cx'.fr b o)
  (hfr1:∀ b o,¬ cx.fr b o→b < w.heap.size→¬ cx'.fr b o) (hfr2:∀ b o,cx.fr b o→cx'.fr b o) (hfr3:∀ b o,cx'.fr b o→b < w'.heap.size) :
  aB R cx' S' w'∧Ext cx S w cx' S' w':=by
 obtain ⟨t1,t2⟩:=h.objs id k0 x0 hg
 have hlive:live S id:=by simp [live,cur,hg]
 have hcur:∀ i,i ≠ id→cur S' i=cur S i:=fun i hi=>by
  unfold cur; rw [hH i hi,hT]
 have hcurt:∀ g,cur S' id=some g→nN x0 ≤ g:=fun g hc=>by
  unfold cur at hc
  rcases hHid with q | ⟨k,x,q,_⟩
  ·
   rw [q,hT,h.kC id _ hg] at hc; cases hc
  ·
   have:=hmo k x q
   rw [q] at hc
   simp only [Option.some.injEq] at hc
   omega
 have hl':∀ i,live S' i→live S i:=fun i hl=>by
  by_cases hi:i=id
  ·
   subst hi; exact hlive
  ·
   unfold live at *; rwa [hcur i hi] at hl
 have e:Ext cx S w cx' S' w':=by
  refine ⟨hs,h1,h2,h3,by rw [hnx]; exact Nat.le_refl _,fun b o v hf hcl=>⟨?_,hfr1 b o hf (jf hcl)⟩,fun b hb hn=>?_,fun i b hl hf=>?_,fun i gi _ hi=>?_,fun i gi b _ h0 h2 hf=>?_,fun i gg hi hgg=>?_⟩
  ·
   exact iV (hoth b (jf hcl) (fun q=>hf (t2 b o q))) hcl
  ·
   exact ⟨hoth b hb (fun q=>by obtain ⟨_,g,z1,z2⟩:=hn id hlive q; exact hdi g z1 z2),fun o=>⟨fun q=>Classical.byContradiction fun q'=>hfr1 b o q' hb q,hfr2 b o⟩⟩
  ·
   refine ⟨fun _=>⟨hl' i hl,?_⟩,fun hge=>absurd (h.wf i (hl' i hl)) (by show ¬ i < S.nx; omega)⟩
   by_cases hi:i=id
   ·
    subst hi
    rcases hfpt b hf with q | q
    ·
     exact .inl q
    ·
     exact .inr q.1
   ·
    exact .inl ((hfp i hi b).1 hf)
  ·
   by_cases q:i=id
   ·
    subst q; exact hbk gi hi
   ·
    exact ⟨gi,by unfold isIt at *; rwa [hH i q] at hi⟩
  ·
   have q:i ≠ id:=fun q=>by subst q; exact hdi gi h0 h2
   exact (hfp i q b).2 hf
  ·
   by_cases hi':i=id
   ·
    subst hi'
    have:=hcurt gg hgg
    exact ⟨nN x0,by simp [cur,hg],this,fun _=>⟨hbm i,htsz i,htot i⟩⟩
   ·
    rw [hcur i hi'] at hgg
    exact ⟨gg,hgg,Nat.le_refl _,fun _=>⟨hbm i,htsz i,htot i⟩⟩
 have hne:∀ i,live S i→i ≠ id→∀ b,cx.fp i b→¬ cx.fp id b:=fun i hi hne b hf hq=>hne (h.sep i id b hi hlive hf hq)
 refine ⟨⟨fun i hi=>by rw [hnx]; exact h.wf i (hl' i hi),fun i b hi=>?_,fun i gg cs2 hi=>?_,fun i es hi=>?_,fun i k x hi=>?_,fun i n hi=>?_,fun i i' b a1 a2 f1 f2=>?_,hfr3,hR.stat _ _ _ _ h.stat e.prot⟩,e⟩
 ·
  rw [hT]
  by_cases q:i=id
  ·
   subst q; exact h.kC i _ hg
  ·
   rw [hH i q] at hi; exact h.kC i b hi
 ·
  by_cases q:i=id
  ·
   subst q
   rcases hHid with z | ⟨k,x,z,_⟩
   ·
    rw [z] at hi; cases hi
   ·
    rw [z] at hi; cases hi
  ·
   rw [hH i q] at hi
   obtain ⟨d1,d2,arr2,el2,d3,d4,d5⟩:=h.cells i gg cs2 hi
   have hb:=hne i (by simp [live,cur,hi]) q _ ((d1 _).2 rfl)
   refine ⟨fun b=>by rw [hfp i q,hbm i]; exact d1 b,fun o=>by rw [hbm i]; exact hfr2 _ _ (d2 o),arr2,el2,?_,by rw [htsz i,htot i]; exact d4,fun j x hx=>by
    obtain ⟨v,v1,v2,v3⟩:=d5 j x hx
    exact ⟨v,v1,v2.mono e,v3⟩⟩
   rw [hbm i,hoth _ (h.lt _ 0 (d2 0)) hb]; exact d3
 ·
  by_cases q:i=id
  ·
   subst q
   rcases hHid with z | ⟨k,x,z,_⟩
   ·
    rw [z] at hi; cases hi
   ·
    rw [z] at hi; cases hi
  ·
   rw [hH i q] at hi
   obtain ⟨d1,d2,ms,clk,d3,d4,d5⟩:=h.maps i es hi
   have hb:=hne i (by simp [live,cur,hi]) q _ ((d1 _).2 rfl)
   refine ⟨fun b=>by rw [hfp i q,hbm i]; exact d1 b,fun o=>by rw [hbm i]; exact hfr2 _ _ (d2 o),ms,clk,?_,d4,fun j p m hp hm=>by
    obtain ⟨v1,v2⟩:=d5 j p m hp hm
    exact ⟨v1.mono e.prot,v2.mono e⟩⟩
   rw [hbm i,hoth _ (h.lt _ 0 (d2 0)) hb]; exact d3
 ·
  by_cases q:i=id
  ·
   subst q
   rcases hHid with z | ⟨k',x',z,hr⟩
   ·
    rw [z] at hi; cases hi
   ·
    rw [z] at hi; cases hi
    exact ⟨hr,hfpf⟩
  ·
   rw [hH i q] at hi
   obtain ⟨d1,d2⟩:=h.objs i k x hi
   have hf:cx'.fp i=cx.fp i:=funext fun b=>propext (hfp i q b)
   rw [hbm i,hf]
   have hb:=hne i (by simp [live,cur,hi]) q
   exact ⟨hR.frame k x w w' _ _ d1 (fun c hc=>hoth c ((hR.lt k x w _ _ d1).1 c hc) (hb c hc)),fun b o hbf=>hfr2 b o (d2 b o hbf)⟩
 ·
  rw [hT] at hi
  have q:i ≠ id:=fun q=>by subst q; have:=h.kC i _ hg; rw [this] at hi; cases hi
  obtain ⟨hci,hHi⟩:=wu h hi
  obtain ⟨d1,d2,arr2,el2,fz,d3,d4,d5,d6⟩:=h.toks i n hi
  have hb:=hne i (by simp [live,hci]) q _ ((d1 _).2 rfl)
  have hlt:cx.bm i < w.heap.size:=h.lt _ _ (d2 _ (Nat.le_refl _))
  refine ⟨fun b=>by rw [hfp i q,hbm i]; exact d1 b,fun o ho=>?_,arr2,el2,fz,?_,?_,?_,?_⟩
  ·
   rw [htsz i] at ho; rw [hbm i]; exact hfr2 _ _ (d2 o ho)
  ·
   rw [hbm i,hoth _ hlt hb]; exact d3
  ·
   rw [htsz i,htot i]; exact d4
  ·
   rw [htot i]; exact d5
  ·
   rw [htsz i]; exact d6
 ·
  by_cases q:i=id <;> by_cases q':i'=id
  ·
   omega
  ·
   exfalso
   subst q
   have f2':=(hfp i' q' b).1 f2
   rcases hfpt b f1 with z | z
   ·
    exact hne i' (hl' i' a2) q' b f2' z
   ·
    have:=h.nZ hR (hl' i' a2) f2'; omega
  ·
   exfalso
   subst q'
   have f1':=(hfp i q b).1 f1
   rcases hfpt b f2 with z | z
   ·
    exact hne i (hl' i a1) q b f1' z
   ·
    have:=h.nZ hR (hl' i a1) f1'; omega
  ·
   exact h.sep i i' b (hl' i a1) (hl' i' a2) ((hfp i q b).1 f1) ((hfp i' q' b).1 f2)
theorem oF {R:aM} (hR:ObjOk R) {cx:Cx} {S:St} {w:World} (hS:aB R cx S w) (m:Option Nat) (since st:Nat) (seen:Array Nat) :
  ∃ cx',aB R cx' (aP S (.obj 3 (.int .i64 0))) (w.alloc (.mapIter m since seen st))∧Ext cx S w cx' (aP S (.obj 3 (.int .i64 0))) (w.alloc (.mapIter m since seen st)) ∧
   Names (aP S (.obj 3 (.int .i64 0))) S.nx 0∧(w.heap.size=cx'.bm S.nx∧cx'.fp S.nx w.heap.size∧(∀ i,cur (aP S (.obj 3 (.int .i64 0))) i ≠ none→cx'.fp i w.heap.size→i=S.nx) ∧
    (w.alloc (.mapIter m since seen st)).heap[w.heap.size]? = some (.mapIter m since seen st)):=by
 obtain ⟨cx',k1,k2,k3⟩:=mQ hR hS 3 (.int .i64 0) (.mapIter m since seen st) rfl ((hR.it _ _ _ _).2 ⟨by rw [size_alloc]; omega,fun c=>Iff.rfl⟩)
 have hget:(aP S (.obj 3 (.int .i64 0))).H.get S.nx=some (.obj 3 (.int .i64 0)):=by simp [aP,AL.aF]
 have hcur:cur (aP S (.obj 3 (.int .i64 0))) S.nx=some 0:=by unfold cur; rw [hget]; rfl
 cases k3 with
 | ptr _ _ _ _ hn hp =>
 have hb:=hp hcur
 have hf:cx'.fp S.nx w.heap.size:=((((hR.it _ _ _ _).1 (k1.objs _ _ _ hget).1).2) _).2 hb
 exact ⟨cx',k1,k2,hn,hb,hf,fun i hi hfi=>k1.sep i S.nx _ hi (by simp [live,hcur]) hfi hf,heap_alloc_new w _⟩
theorem wT {R:aM} (hR:ObjOk R) {C:bN} {cx:Cx} {S:St} {w:World} (hS:aB R cx S w) {t id:Nat} {kt:Nat × Nat} {M:sN} {v:Value} (ht:sQ C t=some kt) (hg:S.H.get id=some (.map M)) (hx:av cx S w (.map id) v) :
  ∃ cx' w' u,(Instr.range t v).run C.P w=.ok u w'∧aB R cx' (aP S (.obj 3 (.int .i64 0))) w'∧Ext cx S w cx' (aP S (.obj 3 (.int .i64 0))) w'∧av cx' (aP S (.obj 3 (.int .i64 0))) w' (.it S.nx 0 (some id) M.clk [] M.clk) u:=by
 have hu:=gM (k:=kt.1) (e:=kt.2) ht
 cases hx with
 | map _ b hn hp =>
 obtain ⟨p1,ms,p2,p3,p4,p5⟩:=lh hS hg (.map id b hn hp)
 subst p1
 obtain ⟨cx',k1,k2,k3,k4⟩:=oF hR hS (some (cx.bm id)) M.clk M.clk #[]
 refine ⟨cx',_,.pointer (some ⟨w.heap.size,0,none⟩),?_,k1,k2,?_⟩
 ·
  simp only [Instr.range,Sem.run_bind,aC w hu,Result.andThen_ok,MapKept.run_getObj_map p2,Sem.run_pure]
  rfl
 ·
  refine .it S.nx 0 id M.clk M.clk w.heap.size (cx.bm id) [] k3 (hn.mono k2) (fun hc=>?_) (fun _=>k4)
  exact (hn.pos k2 hc).2.1.symm
theorem oO {R:aM} (hR:ObjOk R) {C:bN} {cx:Cx} {S:St} {w:World} (hS:aB R cx S w) {t:Nat} {kt:Nat × Nat} {v:Value} (ht:sQ C t=some kt) (hx:av cx S w (.d .nilm) v) :
  ∃ cx' w' u,(Instr.range t v).run C.P w=.ok u w'∧aB R cx' (aP S (.obj 3 (.int .i64 0))) w'∧Ext cx S w cx' (aP S (.obj 3 (.int .i64 0))) w'∧av cx' (aP S (.obj 3 (.int .i64 0))) w' (.it S.nx 0 none 0 [] 0) u:=by
 have hu:=gM (k:=kt.1) (e:=kt.2) ht
 have:=hx.dd.val rfl
 cases this
 obtain ⟨cx',k1,k2,k3,k4⟩:=oF hR hS none 0 0 #[]
 refine ⟨cx',_,.pointer (some ⟨w.heap.size,0,none⟩),?_,k1,k2,.it0 S.nx 0 0 0 w.heap.size [] k3 (fun _=>k4)⟩
 simp only [Instr.range,Sem.run_bind,aC w hu,Result.andThen_ok,Sem.run_pure]
 rfl
theorem uL {R:aM} {C:bN} {cx:Cx} {S:St} {w:World} (hS:aB R cx S w) {k g id since st n i:Nat} {seen:List Nat} {M:sN} {p:D × AV × Nat} {v:Value} (hx:av cx S w (.it k g (some id) since seen st) v)
  (hg:S.H.get id=some (.map M)) (hl:seen.getLast? = some n) (hk:isIt S k g) (hc:M.clk=st) (hf:iW n M.es 0=some i) (hp:M.es[i]? = some p) :
  ∃ u,(Instr.entry v).run C.P w=.ok u w∧av cx S w (.tup [.d p.1,p.2.1]) u:=by
 cases hx with
 | it _ _ _ _ _ b m _ hn hni hm hpos =>
 obtain ⟨_,_,_,hb⟩:=hpos hk
 have hm:=hm (by simp [cur,hg])
 subst hm
 obtain ⟨c1,c2,ms,clk,c3,⟨c4,c4',c4''⟩,c5⟩:=hS.maps id M hg
 subst c4'
 have hlt:i < ms.size:=by rw [c4]; exact (List.getElem?_eq_some_iff.1 hp).1
 have hmi:ms[i]? = some ms[i]:=Array.getElem?_eq_getElem hlt
 obtain ⟨r1,r2⟩:=c5 i p _ hp hmi
 obtain ⟨_,⟨q,f2,f3⟩,f4⟩:=jA hf
 rw [Nat.sub_zero] at f2
 have hqp:q=p:=by rw [hp] at f2; exact (Option.some.inj f2).symm
 subst hqp
 have hfind:ms.find? (fun e=>e.born == n)=some ms[i]:=by
  rw [Array.find?_eq_some_iff_getElem]
  refine ⟨by simp [c4'' i q _ hp hmi,f3],i,hlt,rfl,fun j hj=>?_⟩
  have hjl:j < M.es.length:=by rw [← c4]; omega
  have hq:=List.getElem?_eq_getElem hjl
  have hbj:=c4'' j M.es[j] ms[j] hq (Array.getElem?_eq_getElem (by omega))
  have hne:=f4 j M.es[j] (Nat.zero_le _) hj (by rw [Nat.sub_zero]; exact hq)
  simp [hbj,hne]
 have hgo:(getObj b).run C.P w=.ok (.mapIter (some (cx.bm id)) since seen.toArray st) w:=by simp [getObj,Sem.run,hb]
 have hback:seen.toArray.back? = some n:=by simpa using hl
 refine ⟨.tuple #[ms[i].key,ms[i].val],?_,?_⟩
 ·
  simp only [Instr.entry,Sem.run_bind,Sem.run_pure,Result.andThen_ok,hgo,hback,MapKept.run_getObj_map c3,hc]
  rw [if_neg (by simp)]
  simp only [hfind,Sem.run_pure]
 ·
  refine .tup _ [ms[i].key,ms[i].val] rfl (fun j x u hx hu=>?_)
  match j,hx,hu with
  | 0,hx,hu=>simp at hx hu; subst hx; subst hu; exact .d _ _ r1
  | 1,hx,hu=>simp at hx hu; subst hx; subst hu; exact r2
end
end Go.Ev

namespace Go.Ev
noncomputable section
set_option linter.unusedVariables false
set_option linter.unusedSimpArgs false
def gV (R:aM) (C:bN) (cx:Cx) (S:St) (w:World) (σ:Operand→Value) (o:Oper):l5→Prop
 | .val v S'=>∃ cx' w' u,(execOp σ o).run C.P w=.ok (.value u) w'∧aB R cx' S' w'∧Ext cx S w cx' S' w'∧av cx' S' w' v u
 | .skip S'=>∃ cx' w',(execOp σ o).run C.P w=.ok .skip w'∧aB R cx' S' w'∧Ext cx S w cx' S' w'
 | .call f args=>∃ us:List Value,us.length=args.length∧(∀ (i:Nat) (x:AV) (v:Value),args[i]? = some x→us[i]? = some v→av cx S w x v) ∧
   ∀ fn,C.P.funcs[f]? = some fn→fn.body.isSome=true→fn.name ≠ "runtime.NumGoroutine" → (execOp σ o).run C.P w=.ok (.enter f us.toArray) w
 | .panic _=>False
theorem kV {P:Program} {w w':World} {s:Sem Value} {u:Value} (h:s.run P w=.ok u w'):(do pure (.value (← s)):Sem Next).run P w=.ok (.value u) w':=by
 rw [Sem.run_bind,h]; rfl
theorem Dz {P:Program} {w w':World} {s:Sem Unit} (h:s.run P w=.ok () w'):(do s; pure .skip:Sem Next).run P w=.ok .skip w':=by
 rw [Sem.run_bind,h]; rfl
section
variable {R:aM} {C:bN} {cx:Cx} {S:St} {w:World} {σ:Operand→Value} {o:Oper}
theorem gV.pure {v:AV} {u:Value} (hS:aB R cx S w) (h:(execOp σ o).run C.P w=.ok (.value u) w) (hv:av cx S w v u):gV R C cx S w σ o (.val v S) :=
 ⟨cx,w,u,h,hS,Ext.refl w hS.wf,hv⟩
theorem zP {x:AV} {ys:List D} {u:Value} {sz:Nat} (hd:eH x=some ys) (hx:av cx S w x u) (hs:sizes sz ys=true) :
  (Builtin.lenOf u).run C.P w=.ok ys.length w∧∃ fs,(∀ w',w'.heap=w.heap→(Builtin.firstCells sz ys.length u).run C.P w'=.ok fs.toArray w')∧Flat w cx.fr sz ys fs:=by
 obtain ⟨tight,hr⟩:=uS hd hx
 obtain ⟨a,cap,rfl,_⟩:=uU hr
 refine ⟨rfl,?_⟩
 obtain ⟨fs,f1,f2,_⟩:=eU (P:=C.P) hr hs
 refine ⟨fs,fun w' hw=>?_,f2⟩
 have hm:aJ w' cx.fr (.sl ys tight) (.slice a ys.length cap):=hr.mono (fun b o v h1 h2=>⟨by simp only [World.cell?] at h2 ⊢; rw [hw]; exact h2,h1⟩)
 obtain ⟨gs,g1,g2,g3⟩:=eU (P:=C.P) hm hs
 rw [g1]
 congr 2
 cases a with
 | none =>
  have h0:ys=[]:=by
   obtain ⟨a',cap',hv,_,_,hm⟩:=uU hr
   simp only [Value.slice.injEq] at hv
   by_cases q:ys=[]
   ·
    exact q
   ·
    obtain ⟨b,off,sz',vs,e,_⟩:=hm q
    rw [← hv.1] at e; cases e
  subst h0
  have e1:fs=[]:=by have:=f2.len; simpa using this
  have e2:gs=[]:=by have:=g2.len; simpa using this
  rw [e1,e2]
 | some ad =>
  have hrun:(loadCells ad (ys.length * sz)).run C.P w=.ok fs.toArray w:=f1
  have hrun':(loadCells ad (ys.length * sz)).run C.P w'=.ok gs.toArray w':=g1
  by_cases q:ys=[]
  ·
   subst q
   have e1:fs=[]:=by have:=f2.len; simpa using this
   have e2:gs=[]:=by have:=g2.len; simpa using this
   rw [e1,e2]
  ·
   obtain ⟨a',cap',hv,_,_,hm⟩:=uU hr
   obtain ⟨b,off,sz',vs,e,_⟩:=hm q
   simp only [Value.slice.injEq] at hv
   rw [← hv.1] at e
   simp only [Option.some.injEq] at e; subst e
   obtain ⟨fs',f1',f2',f3'⟩:=eU (P:=C.P) hr hs
   rw [f1] at f1'
   simp only [Result.ok.injEq,and_true] at f1'
   have hff:fs=fs':=by simpa using f1'
   subst hff
   apply List.ext_getElem?
   intro i
   by_cases hi:i < gs.length
   ·
    have hg:=List.getElem?_eq_getElem hi
    have hi':i < fs.length:=by rw [f2.len,← g2.len]; exact hi
    have hf:=List.getElem?_eq_getElem hi'
    have c1:=g3 b off _ _ rfl i _ hg
    have c2:=f3' b off _ _ rfl i _ hf
    simp only [World.cell?] at c1 c2
    rw [hw] at c1
    rw [c2] at c1
    rw [hg,hf]; simpa using c1.symm
   ·
    rw [List.getElem?_eq_none (by omega),List.getElem?_eq_none (by rw [f2.len,← g2.len]; omega)]
theorem mY (hR:ObjOk R) (hS:aB R cx S w) {t t2 e ty:Nat} {x r:AV} {ys:List D} {S':St} {v u:Value} (h:dV C e S x ys=some (r,S')) (he:aS C.P t=some e) (h2:dR C t2=true) (hx:av cx S w x v)
  (hu:(Builtin.lenOf u).run C.P w=.ok ys.length w) (hsrc:sizes (au C.P e) ys=true→∃ fs,(∀ w',w'.heap=w.heap→(Builtin.firstCells (au C.P e) ys.length u).run C.P w'=.ok fs.toArray w')∧Flat w cx.fr (au C.P e) ys fs)
  (h0:ys=[]→∀ sz,(Builtin.firstCells sz 0 u).run C.P w=.ok #[] w) (hi:(C.P.info? e).isSome=true) :
  ∃ cx' w' z,(Builtin.append_ #[t,t2] ty #[v,u]).run C.P w=.ok z w'∧aB R cx' S' w'∧Ext cx S w cx' S' w'∧av cx' S' w' r z:=by
 obtain ⟨ie,hi⟩:=Option.isSome_iff_exists.1 hi
 have nothing:∀ {xs:List D} {tight:Bool},aJ w cx.fr (.sl xs tight) v→ys.length=0→(Builtin.append_ #[t,t2] ty #[v,u]).run C.P w=.ok v w:=by
  intro xs tight hd hy
  obtain ⟨a,cap,rfl,hcap,_⟩:=uU hd
  have hy':ys=[]:=List.eq_nil_of_length_eq_zero hy
  subst hy'
  have:=run_append_fits (w:=w) (ty:=ty) (sLen:=xs.length) (sCap:=cap) (n:=0) (base:=a) (u:=u) (aU he) hi h2 hu (by omega) (new:=#[]) (h0 rfl _)
  rw [this]
  cases a with
  | none=>rfl
  | some ad=>simp [storeCells]
 unfold dV at h
 split at h
 ·
  by_cases hy:ys.length=0
  ·
   rw [if_pos hy,if_pos (by simp [hi])] at h
   simp only [Option.some.injEq,Prod.mk.injEq] at h
   obtain ⟨rfl,rfl⟩:=h
   exact ⟨cx,w,v,nothing (rZ hx.dd) hy,hS,Ext.refl w hS.wf,hx⟩
  ·
   rw [if_neg hy] at h
   split at h
   ·
    rename_i hc
    obtain ⟨c1,c2,c3,c4,c6⟩:=hc
    simp only [Option.some.injEq,Prod.mk.injEq] at h
    obtain ⟨rfl,rfl⟩:=h
    obtain ⟨fs,s1,s2⟩:=hsrc c4
    have:=qy hR hS (ty:=ty) (xs:=[]) he h2 (rZ hx.dd) hu s1 s2 hy (by simpa using c1) c2 c3 rfl c6
    simpa using this
   ·
    cases h
 ·
  rename_i xs tight
  by_cases hy:ys.length=0
  ·
   rw [if_pos hy,if_pos (by simp [hi])] at h
   simp only [Option.some.injEq,Prod.mk.injEq] at h
   obtain ⟨rfl,rfl⟩:=h
   exact ⟨cx,w,v,nothing hx.dd hy,hS,Ext.refl w hS.wf,hx⟩
  ·
   rw [if_neg hy] at h
   split at h
   ·
    rename_i hc
    obtain ⟨c1,c2,c3,c4,c5,c6⟩:=hc
    split at h
    ·
     rename_i ht
     subst ht
     simp only [Option.some.injEq,Prod.mk.injEq] at h
     obtain ⟨rfl,rfl⟩:=h
     obtain ⟨fs,s1,s2⟩:=hsrc c4
     exact qy hR hS he h2 hx.dd hu s1 s2 hy c1 c2 c3 c5 c6
    ·
     cases h
   ·
    cases h
 ·
  rename_i xs tok
  by_cases hy:ys.length=0
  ·
   rw [if_pos hy,if_pos (by simp [hi])] at h
   simp only [Option.some.injEq,Prod.mk.injEq] at h
   obtain ⟨rfl,rfl⟩:=h
   refine ⟨cx,w,v,?_,hS,Ext.refl w hS.wf,hx⟩
   cases hx with
   | tsl _ _ b off cap hn hd hp=>exact nothing hd hy
  ·
   rw [if_neg hy] at h
   split at h
   ·
    rename_i hc
    obtain ⟨c1,c2,c3,c4,c5,c6⟩:=hc
    split at h
    ·
     rename_i en hT
     split at h
     ·
      rename_i hen
      obtain ⟨rfl,hpos⟩:=hen
      simp only [Option.some.injEq,Prod.mk.injEq] at h
      obtain ⟨rfl,rfl⟩:=h
      obtain ⟨fs,s1,s2⟩:=hsrc c4
      exact yf hR hS he h2 hx (by intro q; subst q; simp at hpos) hT hu s1 s2 hy c1 c2 c3 c5 c6
     ·
      cases h
    ·
     cases h
   ·
    cases h
 ·
  cases h
theorem oK {A:Array Nat} {V:Array Value} {t t2 ty:Nat} {v u:Value} (h1:A[0]? = some t) (h2:A[1]? = some t2) (h3:V[0]? = some v) (h4:V[1]? = some u) :
  Builtin.append_ A ty V=Builtin.append_ #[t,t2] ty #[v,u]:=by
 unfold Builtin.append_
 simp only [h1,h2,h3,h4,List.getElem?_toArray,List.getElem?_cons_zero,List.getElem?_cons_succ]
theorem Ac {A:Array Nat} {V:Array Value} {t ty:Nat} {v:Value} (h1:A[0]? = some t) (h3:V[0]? = some v):Builtin.len_ A ty V=Builtin.len_ #[t] ty #[v]:=by
 unfold Builtin.len_
 simp only [h1,h3,List.getElem?_toArray,List.getElem?_cons_zero]
theorem vJ {A:Array Nat} {V:Array Value} {t ty:Nat} {v u:Value} (h1:A[0]? = some t) (h3:V[0]? = some v) (h4:V[1]? = some u):Builtin.delete_ A ty V=Builtin.delete_ #[t] ty #[v,u]:=by
 unfold Builtin.delete_
 simp only [h1,h3,h4,List.getElem?_toArray,List.getElem?_cons_zero,List.getElem?_cons_succ]
theorem zN {A:Array Nat} {V:Array Value} {t t2 ty:Nat} {v u:Value} (h1:A[0]? = some t) (h3:V[0]? = some v) (h4:V[1]? = some u):Builtin.copy_ A ty V=Builtin.copy_ #[t,t2] ty #[v,u]:=by
 unfold Builtin.copy_
 simp only [h1,h3,h4,List.getElem?_toArray,List.getElem?_cons_zero,List.getElem?_cons_succ]
theorem xN {A:Array Nat} {V:Array Value} {t ty:Nat} {v:Value} (h1:A[0]? = some t) (h3:V[0]? = some v):Builtin.clear_ A ty V=Builtin.clear_ #[t] ty #[v]:=by
 unfold Builtin.clear_
 simp only [h1,h3,List.getElem?_toArray,List.getElem?_cons_zero]
theorem mg {ρ:Operand→Option AV} (hρ:oJ cx S w ρ σ) {as_:Array Operand} {args:List AV} (h:dG ρ as_.toList=some args) :
  (as_.map σ).toList.length=args.length∧∀ (i:Nat) (x:AV) (v:Value),args[i]? = some x→(as_.map σ).toList[i]? = some v→av cx S w x v:=by
 obtain ⟨h1,h2⟩:=jM h
 refine ⟨by simp [h1],fun i x v hx hv=>?_⟩
 simp only [Array.toList_map,List.getElem?_map,Option.map_eq_some_iff] at hv
 obtain ⟨q,hq,rfl⟩:=hv
 exact hρ _ _ (h2 i q x hq hx)
theorem kW {e:Nat} (h:dD C e=true):(C.P.info? e).isSome=true:=by
 obtain ⟨i,z,hi,_⟩:=jq h; simp [hi]
theorem vH {e:Nat} {x:AV} {ys:List D} {r:AV × St} (h:dV C e S x ys=some r):(C.P.info? e).isSome=true:=by
 unfold dV at h
 split at h
 ·
  split at h
  ·
   split at h
   ·
    assumption
   ·
    cases h
  ·
   split at h
   ·
    rename_i hc; exact kW hc.2.2.2.2
   ·
    cases h
 ·
  split at h
  ·
   split at h
   ·
    assumption
   ·
    cases h
  ·
   split at h
   ·
    rename_i hc; exact kW hc.2.2.2.2.2
   ·
    cases h
 ·
  split at h
  ·
   split at h
   ·
    assumption
   ·
    cases h
  ·
   split at h
   ·
    rename_i hc; exact kW hc.2.2.2.2.2
   ·
    cases h
 ·
  cases h
theorem kY (hR:ObjOk R) (hS:aB R cx S w) {A:Array Nat} {V:Array Value} {t t2 e ty:Nat} {x y r:AV} {ys:List D} {S':St} {v u:Value} (h:dV C e S x ys=some (r,S')) (he:aS C.P t=some e) (hei:(C.P.info? e).isSome=true) (h2:dR C t2=true)
  (hx:av cx S w x v) (hy:av cx S w y u) (hk:eH y=some ys∨∃ s,y=.d (.str s)∧ys=s.map fun c=>.int .u8 c.toNat)
  (a1:A[0]? = some t) (a2:A[1]? = some t2) (a3:V[0]? = some v) (a4:V[1]? = some u) :
  ∃ cx' w' z,(Builtin.append_ A ty V).run C.P w=.ok z w'∧aB R cx' S' w'∧Ext cx S w cx' S' w'∧av cx' S' w' r z:=by
 rw [oK a1 a2 a3 a4]
 rcases hk with hk | ⟨s,rfl,rfl⟩
 ·
  have hlen:(Builtin.lenOf u).run C.P w=.ok ys.length w:=by
   obtain ⟨tight,hr⟩:=uS hk hy
   obtain ⟨a,cap,rfl,_⟩:=uU hr
   rfl
  refine mY hR hS h he h2 hx hlen (fun hs=>(zP hk hy hs).2) (fun h0 sz=>?_) hei
  subst h0
  obtain ⟨tight,hr⟩:=uS hk hy
  obtain ⟨a,cap,rfl,_⟩:=uU hr
  cases a <;> simp [Builtin.firstCells,loadCells,loadCellsFrom]
 ·
  obtain ⟨b,rfl,rfl⟩:=hy.str
  have hbl:b.data.toList.length=b.size:=Array.length_toList
  refine mY hR hS h he h2 hx ?_ (fun hs=>?_) (fun h0 sz=>?_) hei
  ·
   simp only [Builtin.lenOf,List.length_map,Sem.run_pure]; rw [hbl]
  ·
   obtain ⟨fs,f1,f2⟩:=uu (P:=C.P) (w:=w) (fr:=cx.fr) b
   by_cases hne:b.data.toList=[]
   ·
    refine ⟨[],fun w' _=>?_,by simp [hne],by simp,by simp [hne],by simp [hne]⟩
    simp only [hne,List.map_nil,List.length_nil,Builtin.firstCells,Sem.run_pure]
    congr 1
    apply Array.ext'
    simp [ByteArray.data_extract]
   ·
    have hsz:au C.P e=1:=by
     cases hb:b.data.toList with
     | nil=>exact absurd hb hne
     | cons c l=>rw [hb] at hs; simp only [List.map_cons,sizes,Bool.and_eq_true] at hs; have:=Nat.eq_of_beq_eq_true hs.1; simpa [D.cells] using this.symm
    rw [hsz]
    refine ⟨fs,fun w' _=>?_,f2⟩
    have:(Builtin.firstCells 1 b.size (.string b)).run C.P w'=.ok fs.toArray w':=by
     simp only [Builtin.firstCells,Sem.run_pure,Result.ok.injEq,and_true] at f1 ⊢
     exact f1
    simp only [List.length_map,hbl]
    exact this
  ·
   simp only [Builtin.firstCells,Sem.run_pure]
   congr 1
   apply Array.ext'
   simp [ByteArray.data_extract]
theorem lZ {ρ:Operand→Option AV} (hρ:oJ cx S w ρ σ) {x:Option Operand} {y:Option D} (h:lN ρ x=some y):gp cx w y (x.map σ):=by
 unfold lN at h
 split at h
 ·
  simp only [Option.some.injEq] at h; subst h; trivial
 ·
  rename_i o'
  split at h
  ·
   rename_i z hz
   simp only [Option.some.injEq] at h; subst h
   exact (hρ _ _ hz).dd
  ·
   cases h
theorem sG (hR:ObjOk R) (hS:aB R cx S w) {b:Builtin} {A:Array Nat} {args:List AV} {us:List Value} {ty:Nat} {cs:Array Bool} {nx:l5} (h:dH C b A S args=some nx)
  (hl:us.length=args.length) (hr:∀ (i:Nat) (x:AV) (v:Value),args[i]? = some x→us[i]? = some v→av cx S w x v) :
  ∃ v S' cx' w' u,nx=.val v S'∧(Go.builtin b A ty cs us.toArray).run C.P w=.ok (.value u) w'∧aB R cx' S' w'∧Ext cx S w cx' S' w'∧av cx' S' w' v u:=by
 have hrefl:=Ext.refl (cx:=cx) w hS.wf
 unfold dH at h
 split at h
 ·
  rename_i x
  split at h
  ·
   rename_i t ht
   split at h
   ·
    rename_i hlt
    simp only [Option.map_eq_some_iff] at h
    obtain ⟨n,hn,rfl⟩:=h
    match us,hl with
    | [u],_ =>
     have:=zu hS (ty:=ty) hlt hn (hr 0 x u rfl rfl)
     refine ⟨_,_,cx,w,.int .i64 n,rfl,?_,hS,hrefl,.of_int _ _⟩
     simp only [Go.builtin]
     rw [Ac (v:=u) ht rfl]
     exact kV this
   ·
    cases h
  ·
   cases h
 ·
  rename_i x y
  split at h
  ·
   rename_i t ht
   cases ht2:A[1]? with
   | none=>simp [ht2] at h
   | some t2 =>
    simp only [ht2] at h
    by_cases hsrc:dR C t2=true
    ·
     rw [if_pos hsrc] at h
     match us,hl with
     | [u1,u2],_ =>
      have key:∀ {e:Nat} {ys:List D} {r:AV × St},aS C.P t=some e→dV C e S x ys=some r→(eH y=some ys∨∃ s,y=.d (.str s)∧ys=s.map fun c=>.int .u8 c.toNat)→nx=.val r.1 r.2 →
        ∃ v S' cx' w' u,nx=.val v S'∧(Go.builtin .append A ty cs [u1,u2].toArray).run C.P w=.ok (.value u) w'∧aB R cx' S' w'∧Ext cx S w cx' S' w'∧av cx' S' w' v u:=by
       intro e ys r he hop hk hnx
       by_cases hei:(C.P.info? e).isSome=true
       ·
        obtain ⟨cx',w',z,k1,k2,k3,k4⟩:=kY (ty:=ty) (A:=A) (V:=[u1,u2].toArray) hR hS (r:=r.1) (S':=r.2) hop he hei hsrc (hr 0 x u1 rfl rfl) (hr 1 y u2 rfl rfl) hk ht ht2 rfl rfl
        exact ⟨r.1,r.2,cx',w',z,hnx,kV k1,k2,k3,k4⟩
       ·
        exfalso
        exact hei (vH hop)
      have e1:Builtin.append_ A ty [u1,u2].toArray=Builtin.append_ #[t,t2] ty #[u1,u2]:=oK ht ht2 rfl rfl
      have fin:∀ {r:AV × St},nx=.val r.1 r.2→(∃ cx' w' z,(Builtin.append_ #[t,t2] ty #[u1,u2]).run C.P w=.ok z w'∧aB R cx' r.2 w'∧Ext cx S w cx' r.2 w'∧av cx' r.2 w' r.1 z) →
        ∃ v S' cx' w' u,nx=.val v S'∧(Go.builtin .append A ty cs [u1,u2].toArray).run C.P w=.ok (.value u) w'∧aB R cx' S' w'∧Ext cx S w cx' S' w'∧av cx' S' w' v u:=by
       intro r hnx ⟨cx',w',z,k1,k2,k3,k4⟩
       rw [← e1] at k1
       exact ⟨r.1,r.2,cx',w',z,hnx,kV k1,k2,k3,k4⟩
      split at h
      ·
       rename_i e he
       split at h
       ·
        rename_i id g off len lim sz
        simp only [Option.map_eq_some_iff] at h
        obtain ⟨r,hop,rfl⟩:=h
        exact fin rfl (pg hR hS hop he hsrc (hr 0 _ u1 rfl rfl) (hr 1 y u2 rfl rfl))
       ·
        cases hrow:C.rowT t with
        | true =>
         simp only [hrow,cond_true] at h
         split at h
         ·
          simp only [Option.map_eq_some_iff] at h
          obtain ⟨r,hop,rfl⟩:=h
          have hn:=wo (hr 0 _ u1 rfl rfl).dd
          subst hn
          exact fin rfl (jo hR hS (xs:=[]) (cap:=0) hop he hsrc (fun sz _=>⟨[],fun w' _=>by simp [Builtin.firstCells],⟨by simp,by simp,by simp,by simp⟩⟩) rfl (hr 0 _ _ rfl rfl) (hr 1 y u2 rfl rfl))
         ·
          rename_i xs
          simp only [Option.map_eq_some_iff] at h
          obtain ⟨r,hop,rfl⟩:=h
          have hd:=(hr 0 _ u1 rfl rfl).dd
          obtain ⟨a,cap,rfl,_,hcap,_⟩:=uU hd
          exact fin rfl (jo hR hS hop he hsrc (fun sz hs=>qz hd hs) (hcap rfl) (hr 0 _ _ rfl rfl) (hr 1 y u2 rfl rfl))
         ·
          cases h
        | false =>
         simp only [hrow,cond_false] at h
         split at h
         ·
          rename_i ys hd
          simp only [Option.map_eq_some_iff] at h
          obtain ⟨r,hop,rfl⟩:=h
          exact key he hop (.inl hd) rfl
         ·
          rename_i hd
          split at h
          ·
           simp only [Option.map_eq_some_iff] at h
           obtain ⟨r,hop,rfl⟩:=h
           exact key he hop (.inr ⟨_,rfl,rfl⟩) rfl
          ·
           cases h
      ·
       cases h
    ·
     rw [if_neg hsrc] at h; cases h
  ·
   cases h
 ·
  rename_i x y
  split at h
  ·
   rename_i t ht
   split at h
   ·
    rename_i e he
    match us,hl with
    | [u1,u2],_ =>
     obtain ⟨n,S',cx',w',rfl,k1,k2,k3⟩:=x8 (t2:=0) (ty:=ty) hR hS h he (hr 0 x u1 rfl rfl) (hr 1 y u2 rfl rfl)
     refine ⟨_,S',cx',w',.int .i64 n,rfl,?_,k2,k3,.of_int _ _⟩
     simp only [Go.builtin]
     rw [zN (t2:=0) (v:=u1) (u:=u2) ht rfl rfl]
     exact kV k1
   ·
    cases h
  ·
   cases h
 ·
  rename_i x
  split at h
  ·
   rename_i t ht
   split at h
   ·
    rename_i e he
    match us,hl with
    | [u],_ =>
     obtain ⟨S',cx',w',rfl,k1,k2,k3⟩:=wB (ty:=ty) hR hS h he (hr 0 x u rfl rfl)
     refine ⟨_,S',cx',w',.tuple #[],rfl,?_,k2,k3,.tup [] [] rfl (by simp)⟩
     simp only [Go.builtin]
     rw [xN (v:=u) ht rfl]
     exact kV k1
   ·
    cases h
  ·
   cases h
 ·
  rename_i m k
  split at h
  ·
   rename_i t ht
   simp only [Option.map_eq_some_iff] at h
   obtain ⟨S',hd,rfl⟩:=h
   match us,hl with
   | [u1,u2],_ =>
    obtain ⟨w',k1,k2,k3⟩:=uI (ty:=ty) hR hS hd (hr 0 m u1 rfl rfl) (hr 1 _ u2 rfl rfl).dd
    refine ⟨_,S',cx,w',.tuple #[],rfl,?_,k2,k3,.tup [] [] rfl (by simp)⟩
    simp only [Go.builtin]
    rw [vJ (v:=u1) (u:=u2) ht rfl rfl]
    exact kV k1
  ·
   cases h
 ·
  simp only [Option.map_eq_some_iff] at h
  obtain ⟨r,hm,rfl⟩:=h
  obtain ⟨v,rest,k,z,e1,e2,e3⟩:=nz (P:=C.P) (cx:=cx) (S:=S) (w:=w) (g:=Builtin.min2) (fun k a b=>by simp [Builtin.min2]) _ args r us rfl hm hl hr
  subst e1; subst e2
  refine ⟨_,_,cx,w,.int k z,rfl,?_,hS,hrefl,.of_int _ _⟩
  exact kV (by simpa [Builtin.min_] using e3)
 ·
  simp only [Option.map_eq_some_iff] at h
  obtain ⟨r,hm,rfl⟩:=h
  obtain ⟨v,rest,k,z,e1,e2,e3⟩:=nz (P:=C.P) (cx:=cx) (S:=S) (w:=w) (g:=Builtin.max2) (fun k a b=>by simp [Builtin.max2]) _ args r us rfl hm hl hr
  subst e1; subst e2
  refine ⟨_,_,cx,w,.int k z,rfl,?_,hS,hrefl,.of_int _ _⟩
  exact kV (by simpa [Builtin.max_] using e3)
 ·
  cases h
end
end
end Go.Ev

namespace Go.Ev
noncomputable section
set_option linter.unusedVariables false
set_option linter.unusedSimpArgs false
section
variable {R:aM} {C:bN} {cx:Cx} {S:St} {w:World} {σ:Operand→Value}
theorem bU (hRC:dZ R C) (hS:aB R cx S w) {ρ:Operand→Option AV} (hρ:oJ cx S w ρ σ) (o:Oper) {nx:l5} (h:oper C ρ S o.op=some nx):gV R C cx S w σ o nx:=by
 have hR:=hRC.toObjOk
 obtain ⟨dst,op,type,pos,after,guard⟩:=o
 simp only at h
 cases op <;> simp only [oper] at h <;> try (cases h; done)
 case move x =>
  simp only [Option.map_eq_some_iff] at h
  obtain ⟨v,hv,rfl⟩:=h
  exact gV.pure hS rfl (hρ _ _ hv)
 case assign x =>
  simp only [Option.map_eq_some_iff] at h
  obtain ⟨v,hv,rfl⟩:=h
  exact gV.pure hS rfl (hρ _ _ hv)
 case pick c a b =>
  split at h
  ·
   rename_i t hc
   simp only [Option.map_eq_some_iff] at h
   obtain ⟨v,hv,rfl⟩:=h
   have hb:=(hρ _ _ hc).bool
   refine gV.pure (u:=σ (if t then a else b)) hS ?_ (hρ _ _ hv)
   simp only [execOp,hb,asBool,Sem.run_bind,Sem.run_pure,Result.andThen_ok]
   cases t <;> rfl
  ·
   cases h
 case alloc t =>
  cases hhas:S.H.has S.nx with
  | true=>simp [hhas] at h
  | false =>
  simp only [hhas,cond_false] at h
  split at h
  ·
   rename_i kk xx hobj
   simp only [Option.some.injEq] at h
   subst h
   obtain ⟨zv,r1,r2,r3⟩:=hRC.new t kk xx hobj
   obtain ⟨cx',k1,k2,k3⟩:=mQ hR hS kk xx (.cells zv.cells t) r3 (r2 w)
   refine ⟨cx',_,_,?_,k1,k2,k3⟩
   refine kV ?_
   simp only [Instr.alloc,Sem.run_bind,r1,Result.andThen_ok,newVar,newRow,run_newObj,Sem.run_pure]
   rfl
  simp only [Option.map_eq_some_iff] at h
  obtain ⟨z,hz,rfl⟩:=h
  obtain ⟨zv,r1,r2⟩:=fI hz w cx.fr
  have hp:=fC (cx:=cx) (S:=S) (.d z zv r2) rfl
  obtain ⟨cx',k1,k2,k3⟩:=tO hR hS (AV.d z).cells zv.cells.toList t hp.1 (fun i x v hx hv=>⟨hp.2.2 i x v hx hv,hp.2.1 v (List.mem_of_getElem? hv)⟩)
  refine ⟨cx',_,_,?_,k1,k2,k3⟩
  refine kV ?_
  simp only [Instr.alloc,Sem.run_bind,r1,Result.andThen_ok,newVar,newRow,run_newObj,Sem.run_pure]
  rfl
 case box t x =>
  split at h
  ·
   rename_i v hv
   split at h
   ·
    rename_i hpl
    cases hhas:S.H.has S.nx with
    | true=>simp [hhas] at h
    | false =>
    simp only [hhas,cond_false,Option.some.injEq] at h
    subst h
    have hp:=fC (hρ _ _ hv) hpl
    obtain ⟨cx',k1,k2,k3⟩:=tO hR hS v.cells (σ x).cells.toList t hp.1 (fun i x v hx hv=>⟨hp.2.2 i x v hx hv,hp.2.1 v (List.mem_of_getElem? hv)⟩)
    refine ⟨cx',_,_,?_,k1,k2,k3⟩
    refine kV ?_
    simp only [Instr.box,Sem.run_bind,Result.andThen_ok,newVar,newRow,run_newObj,Sem.run_pure]
    rfl
   ·
    cases h
  ·
   cases h
 case build t parts =>
  split at h
  ·
   rename_i z ps hz hps
   split at h
   ·
    rename_i pl hpl
    simp only [Option.map_eq_some_iff] at h
    obtain ⟨cs,hcs,rfl⟩:=h
    obtain ⟨u,b1,b2⟩:=wG hρ hz hps hpl hcs
    exact gV.pure hS (kV b1) b2
   ·
    cases h
  ·
   cases h
 case buildSlice t len parts =>
  cases hrw:jK C t len with
  | true =>
  rw [hrw] at h
  simp only [cond_true] at h
  split at h
  ·
   rename_i ps hps
   obtain ⟨v,S',rfl,cx',u,w',b1,b2,b3,b4⟩:=rE hR hS hρ hps h
   exact ⟨cx',w',u,kV b1,b2,b3,b4⟩
  ·
   cases h
  | false =>
  rw [hrw] at h
  simp only [cond_false] at h
  split at h
  ·
   rename_i e ps he hps
   split at h
   ·
    rename_i hsm
    split at h
    ·
     rename_i z hz
     split at h
     ·
      rename_i cs hcs
      split at h
      ·
       rename_i ag hag
       simp only [Option.map_eq_some_iff] at h
       obtain ⟨xs,hxs,rfl⟩:=h
       obtain ⟨u,w',b1,b2,b3,b4⟩:=nI hR hS hρ he hps hsm hz hcs hag hxs
       exact ⟨cx,w',u,kV b1,b2,b3,b4⟩
      ·
       cases h
     ·
      cases h
    ·
     cases h
   ·
    cases h
  ·
   cases h
 case load t a =>
  split at h
  ·
   rename_i v hv
   simp only [Option.map_eq_some_iff] at h
   obtain ⟨r,hr,rfl⟩:=h
   obtain ⟨u,b1,b2⟩:=rT (C:=C) hS hr (hρ _ _ hv)
   exact gV.pure hS (kV b1) b2
  ·
   cases h
 case store t a x =>
  split at h
  ·
   rename_i p v hp hv
   simp only [Option.map_eq_some_iff] at h
   obtain ⟨S',hst,rfl⟩:=h
   obtain ⟨w',b1,b2,b3⟩:=wP hR hS hst (hρ _ _ hp) (hρ _ _ hv)
   exact ⟨cx,w',Dz b1,b2,b3⟩
  ·
   cases h
 case nilCheck x =>
  split at h
  ·
   rename_i i g o' hx
   simp only [Option.some.injEq] at h; subst h
   have:=hρ _ _ hx
   refine gV.pure (u:=σ x) hS ?_ this
   generalize hq:σ x=v at this
   cases this
   simp [execOp,hq]
  ·
   rename_i y o' hx
   simp only [Option.some.injEq] at h; subst h
   have:=hρ _ _ hx
   refine gV.pure (u:=σ x) hS ?_ this
   generalize hq:σ x=v at this
   cases this
   simp [execOp,hq]
  ·
   rename_i g cs hx
   simp only [Option.some.injEq] at h; subst h
   have:=hρ _ _ hx
   refine gV.pure (u:=σ x) hS ?_ this
   generalize hq:σ x=v at this
   cases this
   simp [execOp,hq]
  ·
   cases h
 case binOp op t x y yt =>
  split at h
  ·
   rename_i a b ha hb
   simp only [Option.map_eq_some_iff] at h
   obtain ⟨r,hr,rfl⟩:=h
   obtain ⟨u,b1,b2⟩:=xS hr (hρ _ _ ha) (hρ _ _ hb) x y
   exact gV.pure hS (kV b1) b2
  ·
   cases h
 case unOp op t x =>
  split at h
  ·
   rename_i b hx
   simp only [Option.some.injEq] at h; subst h
   have:=(hρ _ _ hx).bool
   refine gV.pure (u:=.bool (!b)) hS ?_ (.of_bool _)
   simp [execOp,this,Op.unary]
  ·
   rename_i k n hx
   simp only [Option.some.injEq] at h; subst h
   have:=(hρ _ _ hx).int
   refine gV.pure (u:=.int k (k.wrap (0 - n))) hS ?_ (.of_int _ _)
   simp [execOp,this,Op.unary,Op.intArith]
  ·
   cases h
 case convert src dst' x =>
  split at h
  ·
   rename_i v hv
   simp only [Option.map_eq_some_iff] at h
   obtain ⟨r,hr,rfl⟩:=h
   obtain ⟨u,b1,b2⟩:=xC hr (hρ _ _ hv)
   exact gV.pure hS (kV b1) b2
  ·
   cases h
 case makeFunc fn first caps =>
  split at h
  ·
   rename_i g hf
   simp only [Option.map_eq_some_iff] at h
   obtain ⟨cs,hcs,rfl⟩:=h
   obtain ⟨h1,h2⟩:=mg hρ hcs
   have hf0:first = #[]:=Array.toList_eq_nil_iff.1 hf
   subst hf0
   refine gV.pure (u:=.func (.func g) #[] (caps.map σ)) hS (by simp [execOp,Instr.makeFunc]) ?_
   exact av.fn (cx:=cx) (S:=S) (w:=w) g cs (caps.map σ).toList h1 h2
  ·
   cases h
 case slice t x lo hi mx =>
  split at h
  ·
   rename_i v hv
   split at h
   ·
    rename_i l hh m hl hhi hm
    simp only [Option.map_eq_some_iff] at h
    obtain ⟨r,hr,rfl⟩:=h
    obtain ⟨u,b1,b2⟩:=vR hr (hρ _ _ hv) (lZ hρ hl) (lZ hρ hhi) (lZ hρ hm)
    exact gV.pure hS (kV b1) b2
   ·
    cases h
  ·
   cases h
 case fieldAddr s x fld =>
  split at h
  ·
   rename_i id g off fo ft hx hf
   split at h
   ·
    cases h
   ·
    rename_i hz
    simp only [Option.some.injEq] at h; subst h
    obtain ⟨u,b1,b2⟩:=(kD (C:=C) hf hz (hρ _ _ hx)).1 _ _ _ rfl
    exact gV.pure hS (kV b1) b2
  ·
   rename_i y off fo ft hx hf
   split at h
   ·
    cases h
   ·
    rename_i hz
    simp only [Option.some.injEq] at h; subst h
    obtain ⟨u,b1,b2⟩:=(kD (C:=C) hf hz (hρ _ _ hx)).2 _ _ rfl
    exact gV.pure hS (kV b1) b2
  ·
   cases h
 case field t x fld =>
  split at h
  ·
   rename_i cs fo ft hx hf
   simp only [Option.map_eq_some_iff] at h
   obtain ⟨r,hr,rfl⟩:=h
   obtain ⟨u,b1,b2⟩:=(oL (C:=C) (r:=.d r) hf).2 cs r (hρ _ _ hx) hr
   exact gV.pure hS (kV b1) b2
  ·
   rename_i cs fo ft hx hf
   simp only [Option.map_eq_some_iff] at h
   obtain ⟨r,hr,rfl⟩:=h
   obtain ⟨u,b1,b2⟩:=(oL (C:=C) (r:=r) hf).1 cs (hρ _ _ hx) hr
   exact gV.pure hS (kV b1) b2
  ·
   cases h
 case indexAddr t x i =>
  split at h
  ·
   rename_i v n hv hn
   simp only [Option.map_eq_some_iff] at h
   obtain ⟨r,hr,rfl⟩:=h
   obtain ⟨u,b1,b2⟩:=o5 hr (hρ _ _ hv) (hρ _ _ hn)
   exact gV.pure hS (kV b1) b2
  ·
   cases h
 case index t x i =>
  split at h
  ·
   rename_i s k n hx hi
   split at h
   ·
    rename_i hc
    simp only [Bool.and_eq_true,decide_eq_true_eq] at hc
    simp only [Option.map_eq_some_iff] at h
    obtain ⟨c,hcc,rfl⟩:=h
    have hi':=(hρ _ _ hi).int
    have:=wH (P:=C.P) (k:=k) (hρ _ _ hx) hc.1 hc.2 hcc
    refine gV.pure hS (kV ?_) (.of_int _ _)
    rw [hi']; exact this
   ·
    cases h
  ·
   cases h
 case makeMap t r =>
  split at h
  ·
   rename_i kt hkt hr
   cases hhas:S.H.has S.nx with
   | true=>simp [hhas] at h
   | false =>
   simp only [hhas,cond_false,Option.some.injEq] at h; subst h
   obtain ⟨cx',k1,k2,k3⟩:=vB hR hS
   refine ⟨cx',_,_,kV (u:=.map (some w.heap.size)) (w':=w.alloc (.map #[] 0)) ?_,k1,k2,k3⟩
   have hu:=gM hkt
   cases r with
   | none=>rfl
   | some o' =>
    simp only at hr
    split at hr
    ·
     rename_i k n hq
     have hi:=(hρ _ _ hq).int
     simp only [Option.map_some,Instr.makeMap,Sem.run_bind,aC w hu,Result.andThen_ok,hi,asInt,asIntOf,Sem.run_pure]
     rfl
    ·
     cases hr
  ·
   cases h
 case makeSlice t l c =>
  split at h
  ·
   rename_i lv cv hl hc
   simp only [Option.map_eq_some_iff] at h
   obtain ⟨r,hr,rfl⟩:=h
   obtain ⟨cx',w',u,b1,b2,b3,b4⟩:=xD hR hS hr (hρ _ _ hl).dd (hρ _ _ hc).dd
   exact ⟨cx',w',u,kV b1,b2,b3,b4⟩
  ·
   cases h
 case range t x =>
  split at h
  ·
   rename_i kt id ht hx
   split at h
   ·
    rename_i M hg
    cases hhas:S.H.has S.nx with
    | true=>simp [hhas] at h
    | false =>
    simp only [hhas,cond_false,Option.some.injEq] at h; subst h
    obtain ⟨cx',w',u,b1,b2,b3,b4⟩:=wT hR hS ht hg (hρ _ _ hx)
    exact ⟨cx',w',u,kV b1,b2,b3,b4⟩
   ·
    cases h
  ·
   rename_i kt ht hx
   cases hhas:S.H.has S.nx with
   | true=>simp [hhas] at h
   | false =>
   simp only [hhas,cond_false,Option.some.injEq] at h; subst h
   obtain ⟨cx',w',u,b1,b2,b3,b4⟩:=oO hR hS ht (hρ _ _ hx)
   exact ⟨cx',w',u,kV b1,b2,b3,b4⟩
  ·
   cases h
 case entry t =>
  split at h
  ·
   rename_i k g id since seen st hx
   split at h
   ·
    rename_i M n c hg hl hk
    split at h
    ·
     rename_i hc
     split at h
     ·
      rename_i i hf
      simp only [Option.map_eq_some_iff] at h
      obtain ⟨p,hp,rfl⟩:=h
      obtain ⟨hc1,hc2⟩:=hc
      subst hc2
      obtain ⟨u,b1,b2⟩:=uL (C:=C) hS (hρ _ _ hx) hg hl hk hc1 hf hp
      exact gV.pure hS (kV b1) b2
     ·
      cases h
    ·
     cases h
   ·
    cases h
  ·
   cases h
 case lookup t m k ok =>
  split at h
  ·
   rename_i mv kd hm hk
   simp only [Option.map_eq_some_iff] at h
   obtain ⟨v,hv,rfl⟩:=h
   obtain ⟨u,b1,b2⟩:=uC hS hv (hρ _ _ hm) (hρ _ _ hk).dd
   exact gV.pure hS (kV b1) b2
  ·
   cases h
 case mapUpdate t m k x =>
  split at h
  ·
   rename_i mv kd v hm hk hx
   simp only [Option.map_eq_some_iff] at h
   obtain ⟨S',hv,rfl⟩:=h
   obtain ⟨w',b1,b2,b3⟩:=mF hR hS hv (hρ _ _ hm) (hρ _ _ hk).dd (hρ _ _ hx)
   exact ⟨cx,w',Dz b1,b2,b3⟩
  ·
   cases h
 case insert t m k x =>
  split at h
  ·
   rename_i mv kd v hm hk hx
   simp only [Option.map_eq_some_iff] at h
   obtain ⟨S',hv,rfl⟩:=h
   obtain ⟨w',b1,b2,b3⟩:=mF hR hS hv (hρ _ _ hm) (hρ _ _ hk).dd (hρ _ _ hx)
   exact ⟨cx,w',Dz b1,b2,b3⟩
  ·
   cases h
 case mapEntry t m k =>
  split at h
  ·
   rename_i mv kd hm hk
   simp only [Option.map_eq_some_iff] at h
   obtain ⟨r,hv,rfl⟩:=h
   obtain ⟨w',u,b1,b2,b3,b4⟩:=xq hR hS hv (hρ _ _ hm) (hρ _ _ hk).dd
   exact ⟨cx,w',u,kV b1,b2,b3,b4⟩
  ·
   cases h
 case entryStore t m st x =>
  split at h
  ·
   rename_i mv sd v hm hk hx
   simp only [Option.map_eq_some_iff] at h
   obtain ⟨S',hv,rfl⟩:=h
   obtain ⟨w',b1,b2,b3⟩:=nM hR (C:=C) (t:=t) hS hv (hρ _ _ hm) (hρ _ _ hk).dd (hρ _ _ hx)
   exact ⟨cx,w',Dz b1,b2,b3⟩
  ·
   cases h
 case extract t i =>
  split at h
  ·
   rename_i vs ht
   simp only [Option.map_eq_some_iff] at h
   obtain ⟨v,hv,rfl⟩:=h
   have hr:=hρ _ _ ht
   generalize hq:σ t=u at hr
   cases hr with
   | tup _ us hl hr =>
    have hlt:i < us.length:=by rw [hl]; exact (List.getElem?_eq_some_iff.1 hv).1
    have hu:=List.getElem?_eq_getElem hlt
    refine gV.pure hS (kV (u:=us[i]) ?_) (hr i v _ hv hu)
    simp [Instr.extract,hq,hlt]
  ·
   cases h
 case call c =>
  obtain ⟨callee,cargs,argTypes⟩:=c
  simp only at h
  cases callee <;> simp only at h <;> try (cases h; done)
  case value g =>
   split at h
   ·
    rename_i k caps args hg ha
    simp only [Option.some.injEq] at h; subst h
    obtain ⟨h1,h2⟩:=mg hρ ha
    have hgr:=hρ _ _ hg
    generalize hq:σ g=gv at hgr
    cases hgr with
    | fn _ _ cv hl hr =>
     refine ⟨(cargs.map σ).toList ++ cv,by rw [List.length_append,List.length_append,h1,hl],fun i x v hx hv=>?_,fun fn hf hb hn=>?_⟩
     ·
      rw [List.getElem?_append] at hx hv
      by_cases hi:i < args.length
      ·
       rw [if_pos hi] at hx; rw [if_pos (by rw [h1]; exact hi)] at hv; exact h2 i x v hx hv
      ·
       rw [if_neg hi] at hx; rw [if_neg (by rw [h1]; exact hi),h1] at hv; exact hr _ x v hx hv
     ·
      have hb':fn.body.isNone=false:=by cases hq:fn.body <;> simp_all
      have hn':(fn.name == "runtime.NumGoroutine")=false:=by simpa using hn
      simp only [execOp,resolve,hq,Deferred.ofValue,Sem.run_bind,Sem.run_pure,Result.andThen_ok,invoke,callFunc,run_program,hf,hn',hb',Bool.false_eq_true,if_false]
      congr 2
      apply Array.ext'
      simp
   ·
    cases h
  case builtin b =>
   split at h
   ·
    rename_i args ha
    obtain ⟨h1,h2⟩:=mg hρ ha
    obtain ⟨v,S',cx',w',u,rfl,b1,b2,b3,b4⟩:=sG (R:=R) (C:=C) (ty:=type) (cs:=cargs.map fun | .const _=>true | _=>false) hR hS h h1 h2
    refine ⟨cx',w',u,?_,b2,b3,b4⟩
    simp only [execOp,resolve,Sem.run_bind,Sem.run_pure,Result.andThen_ok,invoke]
    have hq:(cargs.map σ).toList.toArray=cargs.map σ:=rfl
    rw [hq] at b1
    exact b1
   ·
    cases h
end
end
end Go.Ev

namespace Go.Ev
noncomputable section
set_option linter.unusedVariables false
set_option linter.unusedSimpArgs false
structure bW (cx:Cx) (S:St) (w:World) (nt:Nat) (e:Env) (a:Act):Prop where
 size:nt ≤ a.tmps.size
 rel:∀ t x,AL.get e t=some x→∃ v,a.tmps[t]? = some v∧av cx S w x v
theorem bW.mono {cx cx':Cx} {S S':St} {w w':World} {nt:Nat} {e:Env} {a:Act} (h:bW cx S w nt e a) (x:Ext cx S w cx' S' w'):bW cx' S' w' nt e a :=
 ⟨h.size,fun t y hy=>let ⟨v,h1,h2⟩:=h.rel t y hy; ⟨v,h1,h2.mono x⟩⟩
theorem bW.put {cx:Cx} {S:St} {w:World} {nt:Nat} {e e':Env} {a:Act} {dst:Option Nat} {x:AV} {v:Value} (h:bW cx S w nt e a) (hp:Env.put nt e dst x=some e') (hx:av cx S w x v):bW cx S w nt e' (a.put dst v):=by
 unfold Env.put at hp
 split at hp
 ·
  rename_i t
  cases hb:Nat.blt t nt with
  | false=>rw [hb] at hp; cases hp
  | true =>
   rw [hb] at hp
   simp at hp; subst hp
   have hlt:t < nt:=Nat.le_of_ble_eq_true hb
   refine ⟨by simp [Act.put,h.size],fun u y hy=>?_⟩
   rw [AL.bF] at hy
   by_cases hu:t=u
   ·
    subst hu
    rw [if_pos rfl] at hy
    cases hy
    refine ⟨v,?_,hx⟩
    have:=h.size
    simp [Act.put,show t < a.tmps.size by omega]
   ·
    rw [if_neg hu] at hy
    obtain ⟨z,h1,h2⟩:=h.rel u y hy
    exact ⟨z,by simpa [Act.put,Array.getElem?_setIfInBounds_ne hu] using h1,h2⟩
 ·
  simp at hp; subst hp; exact h
theorem bW.eval {cx:Cx} {S:St} {w:World} {nt:Nat} {e:Env} {a:Act} (h:bW cx S w nt e a):oJ cx S w (bA e) a.eval:=by
 intro x y hy
 cases x <;> simp only [bA] at hy
 case tmp t =>
  obtain ⟨v,h1,h2⟩:=h.rel t y hy
  simpa [Act.eval,h1] using h2
 case const v =>
  simp only [Option.map_eq_some_iff] at hy
  obtain ⟨z,hz,rfl⟩:=hy
  exact .d _ _ (jD hz w cx.fr)
 case global g=>cases hy
 case func f =>
  simp at hy; subst hy
  exact av.fn (cx:=cx) (S:=S) (w:=w) f [] [] rfl (by simp)
theorem bJ {cx:Cx} {S:St} {w:World} {nt:Nat} {e:Env} {a:Act} {ops:Array Oper} {o:Oper} {b:Bool} (h:bW cx S w nt e a) (hw:bf ops e o=some b):Region.wanted o (yielded ops a.tmps)=b:=by
 unfold bf at hw
 unfold Region.wanted
 split at hw
 ·
  rename_i hg; simp at hw; subst hw; simp [hg]
 ·
  rename_i j want hg
  split at hw
  ·
   rename_i oj hj
   split at hw
   ·
    rename_i t ht
    split at hw
    ·
     rename_i c hc
     simp at hw; subst hw
     obtain ⟨v,h1,h2⟩:=h.rel t _ hc
     have:=h2.bool; subst this
     simp only [hg,yielded,hj,Option.bind_some,ht,h1]
     cases c <;> cases want <;> rfl
    ·
     rename_i hc
     simp at hw; subst hw
     obtain ⟨v,h1,h2⟩:=h.rel t _ hc
     cases h2 with
     | tup _ vs hl _ =>
      have:vs=[]:=List.eq_nil_of_length_eq_zero hl
      subst this
      simp only [hg,yielded,hj,Option.bind_some,ht,h1]
      cases want <;> rfl
    ·
     cases hw
   ·
    cases hw
  ·
   cases hw
def mK (cx:Cx) (S:St) (w:World) (p:Option AV) (v:AV) (e:Ending):Prop :=
 match p with
 | none=>∃ u,e=.returned u∧av cx S w v u
 | some pv=>∃ u,e=.panicked [{ v:=u,recovered:=false }]∧av cx S w pv u
def vF (R:aM) (P:Program) (h:Hand):Prop :=
 ∀ f args S p v S',h f args S=some (p,v,S')→(∃ fn,P.funcs[f]? = some fn∧fn.body.isSome=true∧fn.name ≠ "runtime.NumGoroutine") ∧
  ∀ cx w (us:List Value),aB R cx S w→us.length=args.length→(∀ (i:Nat) (x:AV) (u:Value),args[i]? = some x→us[i]? = some u→av cx S w x u) →
  Calls P f us.toArray w (fun e w'=>∃ cx',aB R cx' S' w'∧Ext cx S w cx' S' w' ∧
   mK cx' S' w' p v e)
def After (R:aM) (cx:Cx) (S:St) (w:World) (nt:Nat) (a:Act) (K:Act→World→Prop) (Q:Exit→Act→World→Prop):Stp→Prop
 | .go e' S'=>∀ cx' a' w',aB R cx' S' w'→Ext cx S w cx' S' w'→bW cx' S' w' nt e' a'→a'.defers=a.defers→K a' w'
 | .stop v S'=>∀ cx' w' u,aB R cx' S' w'→Ext cx S w cx' S' w'→av cx' S' w' v u→Q (.panic [{ v:=u,recovered:=false }]) a w'
theorem put_defers (a:Act) (d:Option Nat) (v:Value):(a.put d v).defers=a.defers:=by cases d <;> rfl
theorem rP {R:aM} {C:bN} (hR:dZ R C) {h:Hand} (hh:vF R C.P h) {cx:Cx} {S:St} {w:World} {nt:Nat} {e:Env} {a:Act} {ops:Array Oper} {o:Oper} {r:Stp}
  (hs:bZ C h nt ops o e S=some r) (hS:aB R cx S w) (he:bW cx S w nt e a) {K:Act→World→Prop} {Q:Exit→Act→World→Prop} (hk:After R cx S w nt a K Q r) {i:Nat} (hi:ops[i]? = some o) :
  wpOp C.P ops Q i K a w:=by
 unfold wpOp
 rw [hi]
 simp only
 unfold bZ at hs
 have hrefl:=Ext.refl (cx:=cx) w hS.wf
 split at hs
 ·
  rename_i hw
  rw [if_pos (bJ he hw)]
  left
  split at hs
  ·
   rename_i v S' hop
   obtain ⟨cx',w',u,h1,h2,h3,h4⟩:=bU hR hS he.eval o hop
   split at hs
   ·
    rename_i e' hp
    simp only [Option.some.injEq] at hs; subst hs
    unfold Oper.wp
    rw [h1]
    exact hk cx' _ w' h2 h3 ((he.mono h3).put hp h4) (put_defers _ _ _)
   ·
    cases hs
  ·
   rename_i S' hop
   obtain ⟨cx',w',h1,h2,h3⟩:=bU hR hS he.eval o hop
   split at hs
   ·
    rename_i hd
    simp only [Option.some.injEq] at hs; subst hs
    unfold Oper.wp
    rw [h1]
    show K (a.put o.dst undef) w'
    rw [hd]
    exact hk cx' _ w' h2 h3 (he.mono h3) rfl
   ·
    cases hs
  ·
   rename_i f args hop
   obtain ⟨us,h1,h2,h3⟩:=bU hR hS he.eval o hop
   split at hs
   ·
    rename_i v S' hc
    obtain ⟨⟨fn,f1,f2,f3⟩,hcalls⟩:=hh f args S _ v S' hc
    split at hs
    ·
     rename_i e' hp
     simp only [Option.some.injEq] at hs; subst hs
     unfold Oper.wp
     rw [h3 fn f1 f2 f3]
     refine (hcalls cx w us hS h1 h2).mono (fun en w' hen=>?_)
     obtain ⟨cx',k1,k2,u,rfl,k3⟩:=hen
     exact hk cx' _ w' k1 k2 ((he.mono k2).put hp k3) (put_defers _ _ _)
    ·
     cases hs
   ·
    rename_i p v S' hc
    obtain ⟨⟨fn,f1,f2,f3⟩,hcalls⟩:=hh f args S _ v S' hc
    simp only [Option.some.injEq] at hs; subst hs
    unfold Oper.wp
    rw [h3 fn f1 f2 f3]
    refine (hcalls cx w us hS h1 h2).mono (fun en w' hen=>?_)
    obtain ⟨cx',k1,k2,u,rfl,k3⟩:=hen
    exact hk cx' w' u k1 k2 k3
   ·
    cases hs
  ·
   cases hs
  ·
   cases hs
 ·
  rename_i hw
  rw [if_neg (by rw [bJ he hw]; simp)]
  split at hs
  ·
   rename_i hd
   simp only [Option.some.injEq] at hs; subst hs
   rw [hd]
   exact hk cx _ w hS hrefl he rfl
  ·
   rename_i t hd
   split at hs
   ·
    rename_i e1 hput
    simp only [Option.some.injEq] at hs; subst hs
    rw [hd]
    exact hk cx _ w hS hrefl (he.put hput (.tup [] [] rfl (fun i x v hx=>by simp at hx))) (put_defers _ _ _)
   ·
    cases hs
 ·
  cases hs
end
end Go.Ev

namespace Go.Ev
noncomputable section
set_option linter.unusedVariables false
set_option linter.unusedSimpArgs false
def isVal (S:St) (S':St) (a b:Option l5):Prop:=∀ nx,a=some nx→∃ v,nx=.val v S∧b=some (.val v S')
theorem AL.gH {α:Type}:∀ {l:AL α} {n:Nat},AL.has l n=false→AL.get l n=none
 | [],_,_=>rfl
 | (k,v) :: l,n,h=>by
  simp only [AL.has] at h
  cases hb:Nat.beq k n with
  | true=>rw [hb] at h; cases h
  | false =>
   rw [hb] at h
   rw [AL.yS,hb,cond_false]
   exact AL.gH h
theorem xU {C:bN} {t len:Nat} {ps:Array (Nat × Operand)} (h0:¬ cls C (.buildSlice t len ps)=0) (hc:cls C (.buildSlice t len ps) ≤ 1):False:=by
 unfold cls at h0 hc
 cases h:jK C t len <;> simp [h] at h0 hc
theorem ng {C:bN} {t len:Nat} {S:St} {ps:List (Nat × AV)} {nx:l5} (h:gy C t S len ps=some nx):S.H.get S.nx=none∧∃ v b,nx=.val v (aP S b):=by
 unfold gy at h
 split at h
 ·
  split at h
  ·
   split at h
   ·
    cases hh:S.H.has S.nx with
    | true=>simp [hh] at h
    | false =>
     simp only [hh,cond_false,Option.map_eq_some_iff] at h
     obtain ⟨z,_,rfl⟩:=h
     exact ⟨AL.gH hh,_,_,rfl⟩
   ·
    cases h
  ·
   cases h
 ·
  cases h
theorem xO {C:bN} {ρ:Operand→Option AV} {op:Op} (hc:cls C op=0) (S S':St):isVal S S' (oper C ρ S op) (oper C ρ S' op):=by
 intro nx h
 cases op
 case buildSlice t len ps =>
  have hr:jK C t len=false:=by unfold cls at hc; cases hq:jK C t len <;> simp [hq] at hc ⊢
  simp only [oper,hr,cond_false] at h ⊢
  (repeat' split at h) <;> first
   | (cases h; done)
   | (simp only [Option.map_eq_some_iff] at h; obtain ⟨a,ha,rfl⟩:=h; exact ⟨_,rfl,by simp_all⟩)
 all_goals simp only [cls] at hc
 all_goals try (cases hc; done)
 case call c =>
  obtain ⟨callee,args,ats⟩:=c
  cases callee <;> try (exact absurd (show (2:Nat)=0 from hc) (by omega))
  rename_i b
  cases b <;> try (first | exact absurd (show (2:Nat)=0 from hc) (by omega) | exact absurd (show (1:Nat)=0 from hc) (by omega))
  all_goals
   simp only [oper] at h ⊢
   split at h
   ·
    simp only [dH,Option.map_eq_some_iff] at h ⊢
    obtain ⟨a,ha,rfl⟩:=h
    exact ⟨_,rfl,by simp_all⟩
   ·
    cases h
 all_goals
  simp only [oper] at h ⊢
  (repeat' split at h) <;> first
   | (cases h; done)
   | (simp only [Option.some.injEq] at h; subst h; exact ⟨_,rfl,by simp_all⟩)
   | (simp only [Option.map_eq_some_iff] at h; obtain ⟨a,ha,rfl⟩:=h; exact ⟨_,rfl,by simp_all⟩)
theorem uG {C:bN} {ρ:Operand→Option AV} {op:Op} (hc:cls C op ≤ 1) (S:St) {nx:l5} (h:oper C ρ S op=some nx):∃ v,nx=.val v S:=by
 by_cases h0:cls C op=0
 ·
  obtain ⟨v,h1,_⟩:=xO h0 S S nx h; exact ⟨v,h1⟩
 ·
  cases op <;> try (first | exact absurd rfl h0 | exact absurd (show (2:Nat) ≤ 1 from hc) (by omega) | exact (xU h0 hc).elim)
  case load t a =>
   simp only [oper] at h
   split at h
   ·
    simp only [Option.map_eq_some_iff] at h
    obtain ⟨r,hr,rfl⟩:=h
    exact ⟨r,rfl⟩
   ·
    cases h
  case lookup t m k ok =>
   simp only [oper] at h
   split at h
   ·
    simp only [Option.map_eq_some_iff] at h
    obtain ⟨r,hr,rfl⟩:=h
    exact ⟨r,rfl⟩
   ·
    cases h
  case call c =>
   obtain ⟨callee,args,ats⟩:=c
   cases callee <;> try (exact absurd (show (2:Nat) ≤ 1 from hc) (by omega))
   rename_i b
   cases b <;> try (first | exact absurd rfl h0 | exact absurd (show (2:Nat) ≤ 1 from hc) (by omega))
   simp only [oper] at h
   split at h
   ·
    simp only [dH] at h
    (repeat' split at h) <;> first
     | (cases h; done)
     | (simp only [Option.map_eq_some_iff] at h; obtain ⟨a,ha,rfl⟩:=h; exact ⟨_,rfl⟩)
     | contradiction
   ·
    cases h
theorem gz {α β:Type} {f g:α→Option β}:∀ {l:List α},(∀ x ∈ l,f x=g x)→dG f l=dG g l
 | [],_=>rfl
 | x :: l,h=>by
  simp only [dG]
  rw [h x (by simp),gz (fun y hy=>h y (by simp [hy]))]
theorem mq {C:bN} {ρ ρ':Operand→Option AV} (S:St) (op:Op) (h:∀ x ∈ op.operands,ρ x=ρ' x):oper C ρ S op=oper C ρ' S op:=by
 cases op <;> simp only [Op.operands] at h <;> simp only [oper]
 case build t ps =>
  have:iQ ρ ps=iQ ρ' ps:=gz fun p hp=>by rw [h p.2 (by simp; exact ⟨p.1,by simpa using hp⟩)]
  rw [this]
 case buildSlice t n ps =>
  have:iQ ρ ps=iQ ρ' ps:=gz fun p hp=>by rw [h p.2 (by simp; exact ⟨p.1,by simpa using hp⟩)]
  rw [this]
 case makeFunc fn first caps =>
  have:dG ρ caps.toList=dG ρ' caps.toList:=gz fun p hp=>h p (by simp; exact .inr (by simpa using hp))
  rw [this]
 case call c =>
  have ha:dG ρ c.args.toList=dG ρ' c.args.toList:=gz fun p hp=>h p (by simp only [Call.operands]; exact Array.mem_append.2 (.inr (by simpa using hp)))
  rw [ha]
  cases hc:c.callee with
  | value f=>have:ρ f=ρ' f:=h f (by simp [Call.operands,hc]); simp only [this]
  | invoke r m=>rfl
  | builtin b=>rfl
 case makeMap t r =>
  cases r with
  | none=>rfl
  | some o=>have he:ρ o=ρ' o:=h o (by simp); simp only [he]
 case slice t x lo hi mx =>
  have hx:ρ x=ρ' x:=h x (by simp)
  have hl:lN ρ lo=lN ρ' lo:=by cases lo <;> simp only [lN]; rw [h _ (by simp)]
  have hh:lN ρ hi=lN ρ' hi:=by cases hi <;> simp only [lN]; rw [h _ (by simp)]
  have hm:lN ρ mx=lN ρ' mx:=by cases mx <;> simp only [lN]; rw [h _ (by simp)]
  rw [hx,hl,hh,hm]
 case pick c a b =>
  rw [h c (by simp)]
  cases ρ' c with
  | none=>rfl
  | some v =>
   cases v <;> try rfl
   rename_i x
   cases x <;> try rfl
   rename_i t
   cases t
   ·
    simp only [Bool.false_eq_true,if_false]; rw [h b (by simp)]
   ·
    simp only [if_true]; rw [h a (by simp)]
 all_goals (first | rfl | (simp only [h _ (by simp:_ ∈ _)]; done) | (simp_all; done))
def CZ (e e':Env):Prop:=∀ t,AL.get e t=AL.get e' t
def mr (e:Env) (dst:Option Nat) (x:Option AV) (e':Env):Prop:=∀ t,AL.get e' t=if dst=some t then x else AL.get e t
theorem mr.put {nt:Nat} {e e':Env} {dst:Option Nat} {v:AV} (h:Env.put nt e dst v=some e'):mr e dst (some v) e':=by
 unfold Env.put at h
 split at h
 ·
  rename_i t
  cases hb:Nat.blt t nt with
  | false=>rw [hb] at h; cases h
  | true =>
   rw [hb] at h; simp at h; subst h
   intro u; rw [AL.bF]
   by_cases hu:t=u <;> simp [hu]
 ·
  simp at h; subst h; intro u; simp
theorem lI {nt:Nat} {e e':Env} {dst:Option Nat} {v:AV} (h:Env.put nt e dst v=some e') (e2:Env):∃ e2',Env.put nt e2 dst v=some e2':=by
 unfold Env.put at h ⊢
 split at h
 ·
  rename_i t
  cases hb:Nat.blt t nt with
  | false=>rw [hb] at h; cases h
  | true=>exact ⟨_,rfl⟩
 ·
  exact ⟨_,rfl⟩
theorem mr.none (e:Env) (x:Option AV):mr e none x e:=by intro u; simp
theorem jr {e e2:Env} {ops:Array Oper} {o:Oper} (h:∀ t ∈ o.looksAt ops,AL.get e2 t=AL.get e t):∀ x ∈ o.op.operands,bA e x=bA e2 x:=by
 intro x hx
 cases x <;> try rfl
 rename_i t
 simp only [bA]
 exact (h t (List.mem_append_left _ (List.mem_filterMap.2 ⟨.tmp t,by simpa using hx,rfl⟩))).symm
theorem iA {e e2:Env} {ops:Array Oper} {o:Oper} (h:∀ t ∈ o.looksAt ops,AL.get e2 t=AL.get e t):bf ops e2 o=bf ops e o:=by
 unfold bf
 cases hg:o.guard with
 | none=>rfl
 | some p =>
  obtain ⟨j,want⟩:=p
  simp only
  cases hj:ops[j]? with
  | none=>rfl
  | some oj =>
   simp only
   cases ht:oj.dst with
   | none=>rfl
   | some t =>
    simp only
    rw [h t (by unfold Oper.looksAt; rw [hg]; simp [hj,ht])]
theorem eT {C:bN} {h:Hand} {nt:Nat} {ops:Array Oper} {o:Oper} {e e' e2:Env} {S S':St} (hs:bZ C h nt ops o e S=some (.go e' S')) (ha:∀ t ∈ o.looksAt ops,AL.get e2 t=AL.get e t) :
  ∃ x e2',bZ C h nt ops o e2 S=some (.go e2' S')∧mr e o.dst x e'∧mr e2 o.dst x e2':=by
 have hop:oper C (bA e2) S o.op=oper C (bA e) S o.op:=mq S o.op (fun x hx=>(jr ha x hx).symm)
 unfold bZ at hs ⊢
 rw [iA ha,hop]
 split at hs
 ·
  split at hs
  ·
   rename_i v S1 ho
   split at hs
   ·
    rename_i e1 hp
    simp only [Option.some.injEq,Stp.go.injEq] at hs
    obtain ⟨rfl,rfl⟩:=hs
    obtain ⟨e2',h2⟩:=lI hp e2
    exact ⟨some v,e2',by simp [h2],mr.put hp,mr.put h2⟩
   ·
    cases hs
  ·
   rename_i S1 ho
   split at hs
   ·
    rename_i hd
    simp only [Option.some.injEq,Stp.go.injEq] at hs
    obtain ⟨rfl,rfl⟩:=hs
    refine ⟨.none,e2,by simp,?_,?_⟩ <;> (rw [hd]; exact mr.none _ _)
   ·
    cases hs
  ·
   rename_i f args ho
   split at hs
   ·
    rename_i v S1 hc
    split at hs
    ·
     rename_i e1 hp
     simp only [Option.some.injEq,Stp.go.injEq] at hs
     obtain ⟨rfl,rfl⟩:=hs
     obtain ⟨e2',h2⟩:=lI hp e2
     exact ⟨some v,e2',by simp [h2],mr.put hp,mr.put h2⟩
    ·
     cases hs
   ·
    cases hs
   ·
    cases hs
  ·
   cases hs
  ·
   cases hs
 ·
  split at hs
  ·
   rename_i hd
   simp only [Option.some.injEq,Stp.go.injEq] at hs
   obtain ⟨rfl,rfl⟩:=hs
   refine ⟨.none,e2,by simp,?_,?_⟩ <;> (rw [hd]; exact mr.none _ _)
  ·
   rename_i t hd
   split at hs
   ·
    rename_i e1 hput
    simp only [Option.some.injEq,Stp.go.injEq] at hs
    obtain ⟨rfl,rfl⟩:=hs
    obtain ⟨e2',h2⟩:=lI hput e2
    refine ⟨some (.tup []),e2',by simp [h2],?_,?_⟩
    ·
     rw [hd]; exact mr.put hput
    ·
     rw [hd]; exact mr.put h2
   ·
    cases hs
 ·
  cases hs
def qw (h:Hand):Prop:=∀ f args S v S',h f args S=some (none,v,S')→(fA args).isSome=true→(kH v).isSome=true→∀ S2,h f args S2=some (none,v,S2)
def Z0 (C:bN) (h:Hand) (nt:Nat) (ops:Array Oper) (o:Oper) (e:Env):Prop :=
 ∃ x:Option AV,∀ e2:Env,(∀ t ∈ o.looksAt ops,AL.get e2 t=AL.get e t)→∀ S2,∃ e2',bZ C h nt ops o e2 S2=some (.go e2' S2)∧mr e2 o.dst x e2'
theorem Z0.agree {C:bN} {h:Hand} {nt:Nat} {ops:Array Oper} {o:Oper} {e f:Env} (z:Z0 C h nt ops o e) (ha:∀ t ∈ o.looksAt ops,AL.get f t=AL.get e t):Z0 C h nt ops o f:=by
 obtain ⟨x,hx⟩:=z
 exact ⟨x,fun e2 h2=>hx e2 (fun t ht=>(h2 t ht).trans (ha t ht))⟩
theorem xg {C:bN} {b:Builtin} {A:Array Nat} {S:St} {args:List AV} {nx:l5} (h:dH C b A S args=some nx):∃ v S',nx=.val v S':=by
 have hm:∀ {α:Type} {o:Option α} {g:α→AV} {k:α→St},o.map (fun r=>l5.val (g r) (k r))=some nx→∃ v S',nx=.val v S':=by
  intro α o g k hq
  simp only [Option.map_eq_some_iff] at hq
  obtain ⟨r,_,rfl⟩:=hq
  exact ⟨_,_,rfl⟩
 unfold dH at h
 split at h
 ·
  split at h
  ·
   split at h
   ·
    exact hm h
   ·
    cases h
  ·
   cases h
 ·
  split at h
  ·
   rename_i t ht
   cases ht2:A[1]? with
   | none=>simp [ht2] at h
   | some t2 =>
    simp only [ht2] at h
    by_cases hsrc:dR C t2=true
    ·
     rw [if_pos hsrc] at h
     split at h
     ·
      split at h
      ·
       exact hm h
      ·
       cases hr:C.rowT t with
       | true =>
        simp only [hr,cond_true] at h
        split at h
        ·
         exact hm h
        ·
         exact hm h
        ·
         cases h
       | false =>
        simp only [hr,cond_false] at h
        split at h
        ·
         exact hm h
        ·
         split at h
         ·
          exact hm h
         ·
          cases h
     ·
      cases h
    ·
     rw [if_neg hsrc] at h; cases h
  ·
   cases h
 ·
  split at h
  ·
   split at h
   ·
    unfold u6 at h
    (repeat' split at h) <;> first
     | (cases h; done)
     | (simp only [Option.some.injEq] at h; subst h; exact ⟨_,_,rfl⟩)
   ·
    cases h
  ·
   cases h
 ·
  split at h
  ·
   split at h
   ·
    unfold pQ at h
    (repeat' split at h) <;> first
     | (cases h; done)
     | (simp only [Option.some.injEq] at h; subst h; exact ⟨_,_,rfl⟩)
   ·
    cases h
  ·
   cases h
 ·
  split at h
  ·
   simp only [Option.map_eq_some_iff] at h
   obtain ⟨r,_,rfl⟩:=h
   exact ⟨_,_,rfl⟩
  ·
   cases h
 ·
  exact hm h
 ·
  exact hm h
 ·
  cases h
theorem zh {C:bN} {ρ:Operand→Option AV} {op:Op} {S:St} {f:Nat} {args:List AV} (h:oper C ρ S op=some (.call f args)) (hc:¬ cls C op ≤ 1) (S2:St):oper C ρ S2 op=some (.call f args):=by
 cases op <;> try (first | exact absurd (show (0:Nat) ≤ 1 from Nat.zero_le 1) hc | exact absurd (show (1:Nat) ≤ 1 from Nat.le_refl 1) hc)
 case call c =>
  obtain ⟨callee,as_,ats⟩:=c
  cases callee with
  | value g=>simpa only [oper] using h
  | invoke r m=>simp only [oper] at h; cases h
  | builtin b =>
   exfalso
   simp only [oper] at h
   split at h
   ·
    rename_i args hargs
    obtain ⟨v,S',hq⟩:=xg h
    cases hq
   ·
    cases h
 case buildSlice t len ps =>
  exfalso
  have hr:jK C t len=true:=by unfold cls at hc; cases hq:jK C t len <;> simp [hq] at hc ⊢
  simp only [oper,hr,cond_true] at h
  split at h
  ·
   obtain ⟨_,v,cs,hq⟩:=ng h; cases hq
  ·
   cases h
 all_goals
  exfalso
  simp only [oper] at h
  (repeat' split at h) <;> first
   | (cases h; done)
   | (simp only [Option.map_eq_some_iff] at h; obtain ⟨a,ha,h⟩:=h; cases h; done)
   | (simp only [Option.some.injEq] at h; cases h; done)
   | (cases hh:S.H.has S.nx <;> simp [hh] at h; done)
theorem CW {C:bN} {h:Hand} (hp:qw h) {nt:Nat} {ops:Array Oper} {o:Oper} {e e':Env} {S S':St} (hs:bZ C h nt ops o e S=some (.go e' S')) (hk:A8 C ops o e e' S=0):Z0 C h nt ops o e:=by
 have skip:bf ops e o=some false→Z0 C h nt ops o e:=fun hw=>by
  refine ⟨some (.tup []),fun e2 ha S2=>?_⟩
  unfold bZ at hs ⊢
  rw [iA ha,hw]
  rw [hw] at hs
  cases hd:o.dst with
  | none=>exact ⟨e2,by simp,mr.none _ _⟩
  | some t =>
   simp only [hd] at hs ⊢
   split at hs
   ·
    rename_i e1 hput
    obtain ⟨e2',h2⟩:=lI hput e2
    exact ⟨e2',by simp [h2],mr.put h2⟩
   ·
    cases hs
 have vals:∀ {v:AV},bf ops e o=some true→(∀ S2,oper C (bA e) S2 o.op=some (.val v S2))→Env.put nt e o.dst v=some e'→Z0 C h nt ops o e:=fun {v} hw hv hput=>by
  refine ⟨some v,fun e2 ha S2=>?_⟩
  have hop:oper C (bA e2) S2 o.op=oper C (bA e) S2 o.op:=mq S2 o.op (fun x hx=>(jr ha x hx).symm)
  obtain ⟨e2',h2⟩:=lI hput e2
  refine ⟨e2',?_,mr.put h2⟩
  unfold bZ
  rw [iA ha,hw,hop,hv S2]
  simp [h2]
 unfold bZ at hs
 split at hs
 ·
  rename_i hw
  by_cases hc:cls C o.op ≤ 1
  ·
   have h0:cls C o.op=0:=by simpa [A8,hc] using hk
   split at hs
   ·
    rename_i v S1 ho
    split at hs
    ·
     rename_i e1 hput
     simp only [Option.some.injEq,Stp.go.injEq] at hs
     obtain ⟨rfl,rfl⟩:=hs
     obtain ⟨v',h1,_⟩:=xO h0 S S _ ho
     simp only [l5.val.injEq] at h1
     obtain ⟨rfl,rfl⟩:=h1
     exact vals hw (fun S2=>by
      obtain ⟨v2,h2,h3⟩:=xO h0 S1 S2 _ ho
      simp only [l5.val.injEq,and_true] at h2
      subst h2; exact h3) hput
    ·
     cases hs
   ·
    rename_i S1 ho; obtain ⟨v',h1,_⟩:=xO h0 S S _ ho; cases h1
   ·
    rename_i f args ho; obtain ⟨v',h1,_⟩:=xO h0 S S _ ho; cases h1
   ·
    cases hs
   ·
    cases hs
  ·
   unfold A8 at hk
   rw [if_neg hc] at hk
   split at hk
   ·
    cases hk
   ·
    unfold vW at hk
    rw [hw] at hk
    split at hs
    ·
     rename_i v S1 ho; simp only [ho] at hk; cases hk
    ·
     rename_i S1 ho; simp only [ho] at hk; cases hk
    ·
     rename_i f args ho
     simp only [ho] at hk
     cases hcond:uF o e' args with
     | false=>rw [hcond] at hk; cases hk
     | true =>
      unfold uF at hcond
      simp only [Bool.and_eq_true] at hcond
      obtain ⟨hargs,hres⟩:=hcond
      split at hs
      ·
       rename_i v S1 hcall
       split at hs
       ·
        rename_i e1 hput
        simp only [Option.some.injEq,Stp.go.injEq] at hs
        obtain ⟨rfl,rfl⟩:=hs
        have hv:(kH v).isSome=true:=by
         cases hd:o.dst with
         | none=>rw [hd] at hres; cases hres
         | some t =>
          have:=mr.put hput t
          rw [hd] at this hres
          simp only [if_true] at this
          simp only [this] at hres
          exact hres
        refine ⟨some v,fun e2 ha S2=>?_⟩
        have hop:oper C (bA e2) S2 o.op=oper C (bA e) S2 o.op:=mq S2 o.op (fun x hx=>(jr ha x hx).symm)
        obtain ⟨e2',h2⟩:=lI hput e2
        refine ⟨e2',?_,mr.put h2⟩
        unfold bZ
        rw [iA ha,hw,hop,zh ho hc S2]
        simp only [hp f args S v S1 hcall hargs hv S2,h2]
       ·
        cases hs
      ·
       cases hs
      ·
       cases hs
    ·
     cases hs
    ·
     cases hs
 ·
  rename_i hw; exact skip hw
 ·
  cases hs
theorem step1 {C:bN} {h:Hand} {nt:Nat} {ops:Array Oper} {o:Oper} {e e':Env} {S S':St} (hc:cls C o.op ≤ 1) (hs:bZ C h nt ops o e S=some (.go e' S')):S'=S:=by
 unfold bZ at hs
 split at hs
 ·
  split at hs
  ·
   rename_i v S1 ho
   obtain ⟨v',h1⟩:=uG hc S ho
   simp only [l5.val.injEq] at h1
   obtain ⟨rfl,rfl⟩:=h1
   split at hs
   ·
    simp only [Option.some.injEq,Stp.go.injEq] at hs; exact hs.2.symm
   ·
    cases hs
  ·
   rename_i S1 ho; obtain ⟨v',h1⟩:=uG hc S ho; cases h1
  ·
   rename_i f args ho; obtain ⟨v',h1⟩:=uG hc S ho; cases h1
  ·
   cases hs
  ·
   cases hs
 ·
  (repeat' split at hs) <;> first | (simp only [Option.some.injEq,Stp.go.injEq] at hs; exact hs.2.symm) | cases hs
 ·
  cases hs
theorem pX (C:bN) (ops:Array Oper) (o:Oper) (e e':Env) (S:St):vW C ops o e e' S=0∨vW C ops o e e' S=2:=by
 unfold vW
 split
 ·
  exact .inl rfl
 ·
  split
  ·
   rename_i args _
   cases uF o e' args
   ·
    exact .inr rfl
   ·
    exact .inl rfl
  ·
   exact .inr rfl
theorem BI {C:bN} {ops:Array Oper} {o:Oper} {e e':Env} {S:St} (h:A8 C ops o e e' S=1):cls C o.op ≤ 1:=by
 unfold A8 at h
 split at h
 ·
  assumption
 ·
  split at h
  ·
   omega
  ·
   rcases pX C ops o e e' S with q | q <;> omega
theorem BR {C:bN} {ops:Array Oper} {o:Oper} {e e':Env} {S:St} (h:A8 C ops o e e' S=3):yO C o.op=true:=by
 unfold A8 at h
 split at h
 ·
  omega
 ·
  split at h
  ·
   assumption
  ·
   rcases pX C ops o e e' S with q | q <;> omega
theorem Ba {C:bN} {h:Hand} {nt:Nat} {ops:Array Oper} {o:Oper} {e e':Env} {S S':St} (hn:yO C o.op=true) (hs:bZ C h nt ops o e S=some (.go e' S')) :
  S'=S∨(S.H.get S.nx=none∧∃ b,S'=aP S b):=by
 unfold bZ at hs
 split at hs
 ·
  right
  have key:∀ {nx:l5},oper C (bA e) S o.op=some nx→S.H.get S.nx=none∧∃ v b,nx=.val v (aP S b):=by
   intro nx ho
   obtain ⟨dst,op,ty,pos,after,guard⟩:=o
   simp only at hn ho
   cases op <;> try (cases hn; done)
   case buildSlice t len ps _ =>
    have hr:jK C t len=true:=hn
    simp only [oper,hr,cond_true] at ho
    split at ho
    ·
     exact ng ho
    ·
     cases ho
   case range t x =>
    simp only [oper] at ho
    cases hh:S.H.has S.nx with
    | true =>
     split at ho
     ·
      split at ho
      ·
       simp [hh] at ho
      ·
       cases ho
     ·
      simp [hh] at ho
     ·
      cases ho
    | false =>
     split at ho
     ·
      split at ho
      ·
       simp only [hh,cond_false,Option.some.injEq] at ho
       subst ho
       exact ⟨AL.gH hh,_,_,rfl⟩
      ·
       cases ho
     ·
      simp only [hh,cond_false,Option.some.injEq] at ho
      subst ho
      exact ⟨AL.gH hh,_,_,rfl⟩
     ·
      cases ho
   ·
    rename_i t
    simp only [oper] at ho
    cases hh:S.H.has S.nx with
    | true=>simp [hh] at ho
    | false =>
     simp only [hh,cond_false] at ho
     split at ho
     ·
      simp only [Option.some.injEq] at ho
      subst ho
      exact ⟨AL.gH hh,_,_,rfl⟩
     ·
      simp only [Option.map_eq_some_iff] at ho
      obtain ⟨z,_,rfl⟩:=ho
      exact ⟨AL.gH hh,_,_,rfl⟩
   ·
    rename_i t x
    simp only [oper] at ho
    split at ho
    ·
     split at ho
     ·
      cases hh:S.H.has S.nx with
      | true=>simp [hh] at ho
      | false =>
       simp only [hh,cond_false,Option.some.injEq] at ho
       subst ho
       exact ⟨AL.gH hh,_,_,rfl⟩
     ·
      cases ho
    ·
     cases ho
  split at hs
  ·
   rename_i v S1 ho
   obtain ⟨k1,v',cs,k2⟩:=key ho
   simp only [l5.val.injEq] at k2
   obtain ⟨rfl,rfl⟩:=k2
   split at hs
   ·
    simp only [Option.some.injEq,Stp.go.injEq] at hs
    exact ⟨k1,cs,hs.2.symm⟩
   ·
    cases hs
  ·
   rename_i S1 ho; obtain ⟨_,v',cs,k2⟩:=key ho; cases k2
  ·
   rename_i f args ho; obtain ⟨_,v',cs,k2⟩:=key ho; cases k2
  ·
   cases hs
  ·
   cases hs
 ·
  left
  (repeat' split at hs) <;> first | (simp only [Option.some.injEq,Stp.go.injEq] at hs; exact hs.2.symm) | cases hs
 ·
  cases hs
theorem qh {S:St} {nb:iU} (hn:S.H.get S.nx=none) {id:Nat} {b:iU} (h:S.H.get id=some b):(aP S nb).H.get id=some b:=by
 simp only [aP,AL.aF]
 rw [if_neg (fun q=>by subst q; rw [hn] at h; cases h)]
 exact h
theorem zD {S:St} {nb:iU} (hn:S.H.get S.nx=none) {x:AV} {n:Nat} (h:fQ x S=some n):fQ x (aP S nb)=some n:=by
 unfold fQ at h
 split at h <;> first
  | exact h
  | (cases h; done)
  | (split at h; all_goals first | (cases h; done) | (rename_i hg; simp only [fQ,qh hn hg]; exact h))
theorem zT {S:St} {nb:iU} (hn:S.H.get S.nx=none) {x:AV} {M:sN} (h:mapOf S x=some M):mapOf (aP S nb) x=some M:=by
 unfold mapOf at h ⊢
 split at h
 ·
  exact h
 ·
  split at h
  ·
   rename_i hg; simp only [qh hn hg]; exact h
  ·
   cases h
 ·
  cases h
theorem Ad {C:bN} {ρ:Operand→Option AV} {op:Op} (hc:cls C op ≤ 1) {S:St} {nb:iU} (hn:S.H.get S.nx=none) {v:AV} (h:oper C ρ S op=some (.val v S)):oper C ρ (aP S nb) op=some (.val v (aP S nb)):=by
 by_cases h0:cls C op=0
 ·
  obtain ⟨v',h1,h2⟩:=xO h0 S (aP S nb) _ h
  simp only [l5.val.injEq,and_true] at h1
  subst h1; exact h2
 ·
  cases op <;> try (first | exact absurd rfl h0 | exact absurd (show (2:Nat) ≤ 1 from hc) (by omega) | exact (xU h0 hc).elim)
  case load t a =>
   simp only [oper] at h ⊢
   split at h
   ·
    rename_i u hu
    simp only [Option.map_eq_some_iff,l5.val.injEq,and_true] at h ⊢
    obtain ⟨r,hr,rfl⟩:=h
    refine ⟨r,?_,rfl⟩
    unfold iP at hr ⊢
    split at hr
    ·
     rename_i id gen off
     split at hr
     ·
      rename_i cs' hl
      have hk:∃ g,S.H.get id=some (.cells g cs'):=by
       unfold St.look at hl
       split at hl
       ·
        rename_i g' cs2 hg
        cases hb:Nat.beq g' gen with
        | true=>rw [hb] at hl; simp at hl; subst hl; exact ⟨_,hg⟩
        | false=>rw [hb] at hl; simp at hl
       ·
        cases hl
      obtain ⟨g,hk⟩:=hk
      have:(aP S nb).look id gen=some cs':=by
       unfold St.look at hl ⊢
       rw [qh hn hk]
       rw [hk] at hl
       exact hl
      rw [this]; exact hr
     ·
      cases hr
    ·
     exact hr
    ·
     cases hr
   ·
    cases h
  case lookup t m k ok =>
   simp only [oper] at h ⊢
   split at h
   ·
    simp only [Option.map_eq_some_iff,l5.val.injEq,and_true] at h ⊢
    obtain ⟨r,hr,rfl⟩:=h
    refine ⟨r,?_,rfl⟩
    unfold jJ at hr
    split at hr
    ·
     rename_i kt et M hkt hM
     have:mapOf (aP S nb) _=some M:=zT hn hM
     unfold jJ
     simp only [hkt,this]
     exact hr
    ·
     cases hr
   ·
    cases h
  case call c =>
   obtain ⟨callee,args,ats⟩:=c
   cases callee <;> try (exact absurd (show (2:Nat) ≤ 1 from hc) (by omega))
   rename_i b
   cases b <;> try (first | exact absurd rfl h0 | exact absurd (show (2:Nat) ≤ 1 from hc) (by omega))
   simp only [oper] at h ⊢
   split at h
   ·
    rename_i as_ has
    unfold dH at h ⊢
    split at h <;> try (first | contradiction | (cases h; done))
    split at h
    ·
     rename_i t ht
     split at h
     ·
      rename_i hlt
      simp only [Option.map_eq_some_iff,l5.val.injEq,and_true] at h
      obtain ⟨n,hn',rfl⟩:=h
      simp only [zD hn hn',Option.map_some,hlt,if_true]
     ·
      cases h
    ·
     cases h
   ·
    cases h
theorem sI {C:bN} {h:Hand} {nt:Nat} {ops:Array Oper} {o:Oper} {e e':Env} {S:St} {nb:iU} (hc:cls C o.op ≤ 1) (hn:S.H.get S.nx=none) (hs:bZ C h nt ops o e S=some (.go e' S)) :
  bZ C h nt ops o e (aP S nb)=some (.go e' (aP S nb)):=by
 unfold bZ at hs ⊢
 split at hs
 ·
  split at hs
  ·
   rename_i v S1 ho
   obtain ⟨v',h1⟩:=uG hc S ho
   simp only [l5.val.injEq] at h1
   obtain ⟨rfl,rfl⟩:=h1
   rw [Ad hc hn ho]
   split at hs
   ·
    rename_i e1 hput
    simp only [Option.some.injEq,Stp.go.injEq,and_true] at hs
    subst hs
    simp [hput]
   ·
    cases hs
  ·
   rename_i S1 ho; obtain ⟨v',h1⟩:=uG hc S ho; cases h1
  ·
   rename_i f args ho; obtain ⟨v',h1⟩:=uG hc S ho; cases h1
  ·
   cases hs
  ·
   cases hs
 ·
  (repeat' split at hs) <;> first | (simp only [Option.some.injEq,Stp.go.injEq,and_true] at hs; subst hs; simp_all) | cases hs
 ·
  cases hs
theorem tV:∀ (l l':List (D × AV × Nat)),jC l l'=true→l=l'
 | [],l',h=>by cases l' <;> simp_all [jC]
 | (k,v,n) :: l,l',h=>by
  match l',h with
  | (k',v',n') :: l',h =>
   simp only [jC,Bool.and_eq_true] at h
   rw [Nat.eq_of_beq_eq_true h.1.1.1,D.same_eq _ _ h.1.1.2,AV.same_eq _ _ h.1.2,tV _ _ h.2]
theorem zb {S S':St} {id:Nat} (h:sameAt S S' id=true):S'.H.get id=S.H.get id:=by
 unfold sameAt at h
 split at h
 ·
  rename_i g cs g' cs' h1 h2
  simp only [Bool.and_eq_true] at h
  rw [h1,h2,Nat.eq_of_beq_eq_true h.1,AV.eX _ _ h.2]
 ·
  rename_i m m' h1 h2
  simp only [Bool.and_eq_true] at h
  rw [h1,h2]
  obtain ⟨es,clk⟩:=m
  obtain ⟨es',clk'⟩:=m'
  simp only at h
  rw [Nat.eq_of_beq_eq_true h.1,tV _ _ h.2]
 ·
  rename_i h1 h2; rw [h1,h2]
 ·
  cases h
theorem wz {ρ ρ':Operand→Option AV} (op:Op) (h:∀ x ∈ op.operands,ρ x=ρ' x):ku ρ op=ku ρ' op:=by
 cases op <;> simp only [Op.operands] at h <;> try rfl
 case load t a=>simp only [ku]; rw [h a (by simp)]
 case lookup t m k ok=>simp only [ku]; rw [h m (by simp)]
 case call c =>
  obtain ⟨callee,args,ats⟩:=c
  cases callee <;> try rfl
  rename_i b
  cases b <;> try rfl
  have ha:dG ρ args.toList=dG ρ' args.toList:=gz fun p hp=>h p (by simp only [Call.operands]; exact Array.mem_append.2 (.inr (by simpa using hp)))
  simp only [ku]
  rw [ha]
theorem zO {C:bN} {ρ:Operand→Option AV} {op:Op} (hc:cls C op ≤ 1) {S S2:St} (hI:∀ id ∈ (ku ρ op).getD [],S2.H.get id=S.H.get id) {v:AV} (h:oper C ρ S op=some (.val v S)):oper C ρ S2 op=some (.val v S2):=by
 by_cases h0:cls C op=0
 ·
  obtain ⟨v',h1,h2⟩:=xO h0 S S2 _ h
  simp only [l5.val.injEq,and_true] at h1
  subst h1; exact h2
 ·
  cases op <;> try (first | exact absurd rfl h0 | exact absurd (show (2:Nat) ≤ 1 from hc) (by omega) | exact (xU h0 hc).elim)
  case load t a =>
   simp only [oper] at h ⊢
   split at h
   ·
    rename_i u hu
    simp only [Option.map_eq_some_iff,l5.val.injEq,and_true] at h ⊢
    obtain ⟨r,hr,rfl⟩:=h
    refine ⟨r,?_,rfl⟩
    unfold iP at hr ⊢
    split at hr
    ·
     rename_i id gen off
     have:S2.look id gen=S.look id gen:=by
      unfold St.look
      rw [hI id (by simp [ku,hu])]
     simp only [this]; exact hr
    ·
     exact hr
    ·
     cases hr
   ·
    cases h
  case lookup t m k ok =>
   simp only [oper] at h ⊢
   split at h
   ·
    rename_i mv kd hmv hkd
    simp only [Option.map_eq_some_iff,l5.val.injEq,and_true] at h ⊢
    obtain ⟨r,hr,rfl⟩:=h
    refine ⟨r,?_,rfl⟩
    have:mapOf S2 mv=mapOf S mv:=by
     cases mv <;> try rfl
     ·
      rename_i y; cases y <;> rfl
     ·
      rename_i id
      simp only [mapOf]
      rw [hI id (by simp [ku,hmv])]
    unfold jJ at hr ⊢
    rw [this]; exact hr
   ·
    cases h
  case call c =>
   obtain ⟨callee,args,ats⟩:=c
   cases callee <;> try (exact absurd (show (2:Nat) ≤ 1 from hc) (by omega))
   rename_i b
   cases b <;> try (first | exact absurd rfl h0 | exact absurd (show (2:Nat) ≤ 1 from hc) (by omega))
   simp only [oper] at h ⊢
   split at h
   ·
    rename_i as_ has
    unfold dH at h ⊢
    split at h <;> try (first | contradiction | (cases h; done))
    rename_i x _
    split at h
    ·
     rename_i t ht
     split at h
     ·
      rename_i hlt
      simp only [Option.map_eq_some_iff,l5.val.injEq,and_true] at h
      obtain ⟨n,hn',rfl⟩:=h
      have:fQ x S2=some n:=by
       rw [← hn']
       cases x <;> try rfl
       ·
        rename_i y; cases y <;> rfl
       ·
        rename_i id
        simp only [fQ]
        rw [hI id (by simp [ku,has])]
      simp only [this,Option.map_some,hlt,if_true]
     ·
      cases h
    ·
     cases h
   ·
    cases h
theorem tu {C:bN} {h:Hand} {nt:Nat} {ops:Array Oper} {o:Oper} {e e':Env} {S S2:St} (hc:cls C o.op ≤ 1) (hI:∀ id ∈ (ku (bA e) o.op).getD [],S2.H.get id=S.H.get id) (hs:bZ C h nt ops o e S=some (.go e' S)) :
  bZ C h nt ops o e S2=some (.go e' S2):=by
 unfold bZ at hs ⊢
 split at hs
 ·
  split at hs
  ·
   rename_i v S1 ho
   obtain ⟨v',h1⟩:=uG hc S ho
   simp only [l5.val.injEq] at h1
   obtain ⟨rfl,rfl⟩:=h1
   rw [zO hc hI ho]
   split at hs
   ·
    rename_i e1 hput
    simp only [Option.some.injEq,Stp.go.injEq,and_true] at hs
    subst hs
    simp [hput]
   ·
    cases hs
  ·
   rename_i S1 ho; obtain ⟨v',h1⟩:=uG hc S ho; cases h1
  ·
   rename_i f args ho; obtain ⟨v',h1⟩:=uG hc S ho; cases h1
  ·
   cases hs
  ·
   cases hs
 ·
  (repeat' split at hs) <;> first | (simp only [Option.some.injEq,Stp.go.injEq,and_true] at hs; subst hs; simp_all) | cases hs
 ·
  cases hs
structure BM (C:bN) (h:Hand) (nt:Nat) (ops:Array Oper) (I:List Nat) (o:Oper) (e:Env) (k:Nat):Prop where
 zero:k=0→Z0 C h nt ops o e
 one:k=1→cls C o.op ≤ 1∧∀ id ∈ (ku (bA e) o.op).getD [],id ∈ I
 three:k=3→yO C o.op=true
theorem BM.agree {C:bN} {h:Hand} {nt:Nat} {ops:Array Oper} {I:List Nat} {o:Oper} {e f:Env} {k:Nat} (z:BM C h nt ops I o e k) (ha:∀ t ∈ o.looksAt ops,AL.get f t=AL.get e t):BM C h nt ops I o f k :=
 ⟨fun q=>(z.zero q).agree ha,fun q=>⟨(z.one q).1,by rw [wz o.op (fun x hx=>(jr ha x hx).symm)]; exact (z.one q).2⟩,z.three⟩
def kE (I:List Nat) (k:Nat) (S S':St):Prop:=k=4→∀ id ∈ I,S'.H.get id=S.H.get id
theorem BK {C:bN} {h:Hand} {nt:Nat} {ops:Array Oper} {I:List Nat} {x y:Oper} {e e1 e2:Env} {S S1 S2:St} {kx ky:Nat} (hap:x.apart ops y=true) (hcl:CY kx ky=true) (zx:BM C h nt ops I x e kx) (zy:BM C h nt ops I y e1 ky)
  (px:kE I kx S S1) (py:kE I ky S1 S2) (hx:bZ C h nt ops x e S=some (.go e1 S1)) (hy:bZ C h nt ops y e1 S1=some (.go e2 S2)) :
  ∃ f1 T1 f2,bZ C h nt ops y e S=some (.go f1 T1)∧bZ C h nt ops x f1 T1=some (.go f2 S2)∧CZ f2 e2∧BM C h nt ops I y e ky∧BM C h nt ops I x f1 kx∧kE I ky S T1∧kE I kx T1 S2:=by
 obtain ⟨a1,a2,a3⟩:=Oper.apart_spec hap
 obtain ⟨vx,_,_,ux,_⟩:=eT hx (e2:=e) (fun _ _=>rfl)
 have hyl:∀ t ∈ y.looksAt ops,AL.get e t=AL.get e1 t:=fun t ht=>by
  rw [ux t,if_neg (fun q=>a1 t q ht)]
 have zy':=zy.agree hyl
 have xl:∀ {vy:Option AV} {f1:Env},mr e y.dst vy f1→∀ t ∈ x.looksAt ops,AL.get f1 t=AL.get e t:=fun u t ht=>by
  rw [u t,if_neg (fun q=>a3 t q ht)]
 have fin:∀ {vy:Option AV} {f1:Env} {T:St},mr e1 y.dst vy e2→mr e y.dst vy f1→(∃ f2,bZ C h nt ops x f1 T=some (.go f2 S2)∧mr f1 x.dst vx f2)→∃ f2,bZ C h nt ops x f1 T=some (.go f2 S2)∧CZ f2 e2:=by
  intro vy f1 T u1 u2 ⟨f2,q1,q2⟩
  refine ⟨f2,q1,fun t=>?_⟩
  rw [q2 t,u2 t,u1 t,ux t]
  by_cases hd:x.dst=some t
  ·
   have:y.dst ≠ some t:=a2 t hd
   simp [hd,this]
  ·
   simp [hd]
 have updx:∀ {v:Option AV} {f1 f2:Env},mr e x.dst v e1→mr f1 x.dst v f2→mr f1 x.dst vx f2:=fun u u'=>by
  intro t
  rw [u' t]
  by_cases hd:x.dst=some t
  ·
   have q1:=u t; have q2:=ux t; rw [if_pos hd] at q1 q2; simp [hd,← q1,← q2]
  ·
   simp [hd]
 simp only [CY,Bool.or_eq_true,Bool.and_eq_true] at hcl
 rcases hcl with ((q | q) | ⟨q,q2⟩) | ⟨q,q2⟩
 ·
  have hq0:=Nat.eq_of_beq_eq_true q
  obtain ⟨v0,z0⟩:=zx.zero hq0
  have hS:S1=S∧mr e x.dst v0 e1:=by
   obtain ⟨e1',g1,g2⟩:=z0 e (fun _ _=>rfl) S
   rw [hx] at g1
   simp only [Option.some.injEq,Stp.go.injEq] at g1
   exact ⟨g1.2,by rw [g1.1]; exact g2⟩
  obtain ⟨rfl,hu⟩:=hS
  obtain ⟨vy,f1,k1,k2,k3⟩:=eT hy hyl
  obtain ⟨f2,g1,g2⟩:=z0 f1 (xl k3) S2
  obtain ⟨f2',m1,m2⟩:=fin k2 k3 ⟨f2,g1,updx hu g2⟩
  exact ⟨f1,S2,f2',k1,m1,m2,zy',zx.agree (xl k3),py,fun q=>by omega⟩
 ·
  have hq0:=Nat.eq_of_beq_eq_true q
  obtain ⟨v0,z0⟩:=zy.zero hq0
  have hS:S2=S1∧mr e1 y.dst v0 e2:=by
   obtain ⟨e1',g1,g2⟩:=z0 e1 (fun _ _=>rfl) S1
   rw [hy] at g1
   simp only [Option.some.injEq,Stp.go.injEq] at g1
   exact ⟨g1.2,by rw [g1.1]; exact g2⟩
  obtain ⟨rfl,hu⟩:=hS
  obtain ⟨f1,k1,k3⟩:=z0 e hyl S
  obtain ⟨v3,f2,g1,g2,g3⟩:=eT hx (xl k3)
  obtain ⟨f2',m1,m2⟩:=fin hu k3 ⟨f2,g1,updx g2 g3⟩
  exact ⟨f1,S,f2',k1,m1,m2,zy',zx.agree (xl k3),fun q=>by omega,px⟩
 ·
  have hq1:=Nat.eq_of_beq_eq_true q
  obtain ⟨hx1,hx2'⟩:=zx.one hq1
  have e1S:=step1 hx1 hx
  subst e1S
  obtain ⟨vy,f1,k1,k2,k3⟩:=eT hy hyl
  have hx2:∃ f2,bZ C h nt ops x f1 S2=some (.go f2 S2)∧mr f1 x.dst vx f2:=by
   have hat:bZ C h nt ops x e S2=some (.go e1 S2):=by
    try simp only [Bool.or_eq_true] at q2
    rcases q2 with (q2 | q2) | q2
    ·
     have:=step1 (zy.one (Nat.eq_of_beq_eq_true q2)).1 hy
     subst this; exact hx
    ·
     rcases Ba (zy.three (Nat.eq_of_beq_eq_true q2)) hy with r | ⟨r1,cs,r2⟩
     ·
      subst r; exact hx
     ·
      subst r2; exact sI hx1 r1 hx
    ·
     exact tu hx1 (fun id hid=>py (Nat.eq_of_beq_eq_true q2) id (hx2' id hid)) hx
   obtain ⟨v3,f2,g1,g2,g3⟩:=eT hat (xl k3)
   exact ⟨f2,g1,updx g2 g3⟩
  obtain ⟨f2',m1,m2⟩:=fin k2 k3 hx2
  exact ⟨f1,S2,f2',k1,m1,m2,zy',zx.agree (xl k3),py,fun q=>by omega⟩
 ·
  have hq4:=Nat.eq_of_beq_eq_true q
  have hq1:=Nat.eq_of_beq_eq_true q2
  obtain ⟨hy1,hy2⟩:=zy'.one hq1
  have e2S:=step1 hy1 hy
  subst e2S
  obtain ⟨vy,f0,k1,k2,k3⟩:=eT hy hyl
  have hyS:bZ C h nt ops y e S=some (.go f0 S):=tu (S:=S2) (S2:=S) hy1 (fun id hid=>(px hq4 id (hy2 id hid)).symm) k1
  obtain ⟨v3,f2,g1,g2,g3⟩:=eT hx (xl k3)
  obtain ⟨f2',m1,m2⟩:=fin k2 k3 ⟨f2,g1,updx g2 g3⟩
  exact ⟨f0,S,f2',hyS,m1,m2,zy',zx.agree (xl k3),fun q=>by omega,px⟩
end
end Go.Ev

namespace Go.Ev
noncomputable section
set_option linter.unusedVariables false
set_option linter.unusedSimpArgs false
section
variable {C:bN} {h:Hand} {nt:Nat} {ops:Array Oper} {I:List Nat} {K:Nat→Nat}
inductive Run (C:bN) (h:Hand) (nt:Nat) (ops:Array Oper) (I:List Nat) (K:Nat→Nat):List Nat→Env→St→Env→St→Prop
 | nil (e:Env) (S:St):Run C h nt ops I K [] e S e S
 | cons (i:Nat) (l:List Nat) (o:Oper) (e e1 e2:Env) (S S1 S2:St) (ho:ops[i]? = some o) (hs:bZ C h nt ops o e S=some (.go e1 S1)) (hk:BM C h nt ops I o e (K i)) (hp:kE I (K i) S S1) (hr:Run C h nt ops I K l e1 S1 e2 S2):Run C h nt ops I K (i :: l) e S e2 S2
theorem Run.congr:∀ (l:List Nat) {e e2 e':Env} {S S':St},CZ e2 e→Run C h nt ops I K l e S e' S'→∃ e2',Run C h nt ops I K l e2 S e2' S'∧CZ e2' e'
 | [],e,e2,e',S,S',hq,hv=>by cases hv; exact ⟨e2,.nil _ _,hq⟩
 | i :: l,e,e2,e',S,S',hq,hv=>by
  cases hv with
  | cons _ _ o _ e1 _ _ S1 _ ho hs hk hp hr =>
   obtain ⟨x,e3,k1,k2,k3⟩:=eT hs (e2:=e2) (fun t _=>hq t)
   obtain ⟨e4,m1,m2⟩:=Run.congr l (e2:=e3) (fun t=>by rw [k3 t,k2 t,hq t]) hr
   exact ⟨e4,.cons i l o _ _ _ _ _ _ ho k1 (hk.agree (fun t _=>hq t)) hp m1,m2⟩
theorem bubble:∀ (l1 l2:List Nat) (i:Nat) {o:Oper} {e e':Env} {S S':St},ops[i]? = some o→(∀ k ∈ l1,∀ x,ops[k]? = some x→x.apart ops o=true∧CY (K k) (K i)=true)→Run C h nt ops I K (l1 ++ i :: l2) e S e' S' →
  ∃ e1 S1 e2,bZ C h nt ops o e S=some (.go e1 S1)∧BM C h nt ops I o e (K i)∧kE I (K i) S S1∧Run C h nt ops I K (l1 ++ l2) e1 S1 e2 S'∧CZ e2 e'
 | [],l2,i,o,e,e',S,S',ho,_,hv=>by
  cases hv with
  | cons _ _ o' _ e1 _ _ S1 _ ho' hs hk hp hr =>
   rw [ho] at ho'; cases ho'
   exact ⟨e1,S1,e',hs,hk,hp,hr,fun _=>rfl⟩
 | k :: l1,l2,i,o,e,e',S,S',ho,hok,hv=>by
  rw [List.cons_append] at hv
  cases hv with
  | cons _ _ x _ ek _ _ Sk _ hx hs hk hp hr =>
   obtain ⟨e1,S1,e2,k1,kk,kp,k2,k3⟩:=bubble l1 l2 i ho (fun k hk=>hok k (by simp [hk])) hr
   obtain ⟨g1,g2⟩:=hok k (by simp) x hx
   obtain ⟨f1,T1,f2,c1,c2,c3,c4,c5,c6,c7⟩:=BK g1 g2 hk kk hp kp hs k1
   obtain ⟨e3,m1,m2⟩:=Run.congr (l1 ++ l2) c3 k2
   exact ⟨f1,T1,e3,c1,c4,c6,.cons k _ x _ _ _ _ _ _ hx c2 c5 c7 m1,fun t=>(m2 t).trans (k3 t)⟩
def kindOf (I:List Nat) (d:Dc):Nat:=bif Nat.beq d.k 2 then (bif I.all (sameAt d.S d.S') then 4 else 2) else d.k
theorem nK {I:List Nat} {d:Dc} {k:Nat} (h:kindOf I d=k) (h2:k ≠ 2) (h4:k ≠ 4):d.k=k:=by
 unfold kindOf at h
 cases hb:Nat.beq d.k 2 with
 | false=>rw [hb] at h; exact h
 | true =>
  rw [hb] at h
  simp only [cond_true] at h
  cases hc:I.all (sameAt d.S d.S') <;> rw [hc] at h <;> simp at h <;> omega
theorem Cn (C:bN) (ops:Array Oper) (o:Oper) (e e':Env) (S:St):A8 C ops o e e' S ≠ 4:=by
 unfold A8
 split
 ·
  omega
 ·
  split
  ·
   omega
  ·
   rcases pX C ops o e e' S with q | q <;> omega
theorem qc (hp:qw h):∀ (l:List Oper) (k:Nat) {e e':Env} {S S':St} {ks:List Dc},(∀ j,l[j]? = ops[k + j]?)→qI C h nt ops l e S=some (ks,e',S')→(∀ j d,ks[j]? = some d→K (k + j)=kindOf I d) →
  (∀ d ∈ ks,∀ id ∈ d.ids,id ∈ I)→Run C h nt ops I K ((List.range l.length).map (k + ·)) e S e' S'∧ks.length=l.length
 | [],k,e,e',S,S',ks,_,hv,hK,hI=>by
  simp only [qI,Option.some.injEq,Prod.mk.injEq] at hv
  obtain ⟨rfl,rfl,rfl⟩:=hv
  exact ⟨.nil _ _,rfl⟩
 | o :: l,k,e,e',S,S',ks,hl,hv,hK,hI=>by
  have h0:ops[k]? = some o:=by simpa using (hl 0).symm
  rw [List.length_cons,List.range_succ_eq_map,List.map_cons,Nat.add_zero,List.map_map]
  simp only [qI] at hv
  split at hv
  ·
   rename_i e1 S1 hs
   split at hv
   ·
    rename_i ks' e2 S2 hr
    simp only [Option.some.injEq,Prod.mk.injEq] at hv
    obtain ⟨rfl,rfl,rfl⟩:=hv
    have hf:((fun x=>k + x) ∘ Nat.succ)=(fun x=>k + 1 + x):=by funext x; simp; omega
    rw [hf]
    obtain ⟨r1,r2⟩:=qc hp l (k + 1) (fun j=>by have:=hl (j + 1); simpa [Nat.add_assoc,Nat.add_comm 1 j] using this) hr (fun j d hj=>by
     have:=hK (j + 1) d (by simpa using hj)
     rw [show k + 1 + j=k + (j + 1) by omega,this]) (fun d hd=>hI d (by simp [hd]))
    have hk0:=hK 0 _ rfl
    rw [Nat.add_zero] at hk0
    refine ⟨.cons k _ o _ _ _ _ _ _ h0 hs ⟨fun q=>CW hp hs (nK (hk0.symm.trans q) (by omega) (by omega)),fun q=>⟨BI (nK (hk0.symm.trans q) (by omega) (by omega)),fun id hid=>hI _ List.mem_cons_self id hid⟩,
     fun q=>BR (nK (hk0.symm.trans q) (by omega) (by omega))⟩ (fun q id hid=>?_) r1,by simp [r2]⟩
    have hq:=hk0.symm.trans q
    unfold kindOf at hq
    simp only at hq
    cases hb:Nat.beq (A8 C ops o e e1 S) 2 with
    | false=>rw [hb] at hq; exact absurd hq (Cn C ops o e e1 S)
    | true =>
     rw [hb] at hq
     simp only [cond_true] at hq
     cases hc:I.all (sameAt S S1) with
     | false=>rw [hc] at hq; cases hq
     | true=>exact zb (List.all_eq_true.1 hc id hid)
   ·
    cases hv
  ·
   cases hv
end
def kR (ops:Array Oper):Bool :=
 let B:=Region.before ops
 (List.range ops.size).all fun i=>match ops[i]? with
  | none=>false
  | some o=>Nat.blt (B.getD i 0) (2 ^ i) && (o.after.all fun e=>!Region.binds .any e || Nat.blt e.on i) &&
   (List.range i).all fun k=>match ops[k]? with
    | none=>false
    | some x=>if (B.getD i 0).testBit k then (o.after.any fun e=>Region.binds .any e && (Nat.beq e.on k || (B.getD e.on 0).testBit k)) else x.apart ops o
theorem eO {ops:Array Oper} (hr:kR ops=true) {i:Nat} {o:Oper} (hi:ops[i]? = some o) :
  (∀ e ∈ o.after,Region.binds .any e=true→e.on < i) ∧
  (∀ k x,k < i→ops[k]? = some x→if ((Region.before ops).getD i 0).testBit k=true then ∃ e ∈ o.after,Region.binds .any e=true∧(e.on=k∨((Region.before ops).getD e.on 0).testBit k=true) else x.apart ops o=true)∧∀ k,i ≤ k→((Region.before ops).getD i 0).testBit k=false:=by
 have hlt:i < ops.size:=(Array.getElem?_eq_some_iff.1 hi).1
 simp only [kR,List.all_eq_true,List.mem_range] at hr
 have h1:=hr i hlt
 rw [hi] at h1
 simp only [Bool.and_eq_true] at h1
 obtain ⟨⟨h0,h1⟩,h2⟩:=h1
 refine ⟨fun e he hb=>?_,fun k x hk hx=>?_,fun k hk=>Nat.testBit_lt_two_pow (Nat.lt_of_lt_of_le (Nat.le_of_ble_eq_true h0) (Nat.pow_le_pow_right (by omega) hk))⟩
 ·
  have:=Array.all_eq_true_iff_forall_mem.1 h1 e he
  simp only [hb,Bool.not_true,Bool.false_or] at this
  exact Nat.le_of_ble_eq_true this
 ·
  rw [List.all_eq_true] at h2
  have:=h2 k (List.mem_range.2 hk)
  rw [hx] at this
  simp only at this
  split at this
  ·
   rename_i hb
   rw [if_pos hb]
   obtain ⟨e,he,hq⟩:=Array.any_eq_true'.1 this
   simp only [Bool.and_eq_true,Bool.or_eq_true] at hq
   exact ⟨e,he,hq.1,hq.2.imp (fun q=>Nat.eq_of_beq_eq_true q) id⟩
  ·
   rename_i hb
   rw [if_neg hb]; exact this
def Closed (ops:Array Oper) (listed:Array Bool):Prop:=∀ j,listed.getD j false=true→∀ k,k < j→((Region.before ops).getD j 0).testBit k=true→listed.getD k false=true
theorem Ap {R:aM} {C:bN} (hR:dZ R C) {h:Hand} (hh:vF R C.P h) {nt:Nat} {ops:Array Oper} (hr:kR ops=true) {I:List Nat} {K:Nat→Nat} (hK:∀ i k,k < i→i < ops.size→((Region.before ops).getD i 0).testBit k=true∨CY (K k) (K i)=true) {Q:Exit→Act→World→Prop} :
  ∀ (fuel:Nat) (listed:Array Bool) {cx:Cx} {S S':St} {w:World} {e e':Env} {a:Act},listed.size=ops.size→Closed ops listed →
  ((List.range ops.size).filter fun i=>!listed.getD i false).length=fuel→Run C h nt ops I K ((List.range ops.size).filter fun i=>!listed.getD i false) e S e' S'→aB R cx S w→bW cx S w nt e a →
  (∀ cx' a' w' e'',aB R cx' S' w'→Ext cx S w cx' S' w'→bW cx' S' w' nt e'' a'→CZ e'' e'→a'.defers=a.defers→Q .normal a' w')→wpAny C.P .any ops Q fuel listed a w:=by
 intro fuel
 induction fuel with
 | zero =>
  intro listed cx S S' w e e' a hsz hcl hlen hev hS he hk
  have hnil:=List.eq_nil_of_length_eq_zero hlen
  rw [hnil] at hev
  cases hev
  refine ⟨?_,hk cx a w e hS (Ext.refl w hS.wf) he (fun _=>rfl) rfl⟩
  cases hq:Region.ready .any ops listed with
  | nil=>rfl
  | cons i l =>
   have hi:i ∈ Region.ready .any ops listed:=by rw [hq]; simp
   obtain ⟨h1,o,h2,_⟩:=mem_ready.1 hi
   have hlt:i < ops.size:=(Array.getElem?_eq_some_iff.1 h2).1
   have:i ∈ (List.range ops.size).filter fun i=>!listed.getD i false:=by
    rw [List.mem_filter]
    refine ⟨List.mem_range.2 hlt,?_⟩
    have hlt':i < listed.size:=by omega
    simp [hlt'] at h1 ⊢; exact h1
   rw [hnil] at this; cases this
 | succ fuel ih =>
  intro listed cx S S' w e e' a hsz hcl hlen hev hS he hk
  have step:∀ i ∈ Region.ready .any ops listed,wpOp C.P ops Q i (wpAny C.P .any ops Q fuel (listed.setIfInBounds i true)) a w:=by
   intro i hi
   obtain ⟨h1,o,h2,h3⟩:=mem_ready.1 hi
   have hlt:i < ops.size:=(Array.getElem?_eq_some_iff.1 h2).1
   have hlt':i < listed.size:=by omega
   have h1':listed.getD i false=false:=by simp [hlt'] at h1 ⊢; exact h1
   obtain ⟨r1,r2,_⟩:=eO hr h2
   have hclo:∀ k,k < i→((Region.before ops).getD i 0).testBit k=true→listed.getD k false=true:=by
    intro k hk hb
    have hkx:∃ x,ops[k]? = some x:=⟨ops[k],by simp [show k < ops.size by omega]⟩
    obtain ⟨x,hx⟩:=hkx
    have:=r2 k x hk hx
    rw [if_pos hb] at this
    obtain ⟨ed,he,hbnd,hor⟩:=this
    rcases hor with q | q
    ·
     rw [← q]; exact h3 ed he hbnd
    ·
     by_cases hke:k < ed.on
     ·
      exact hcl ed.on (h3 ed he hbnd) k hke q
     ·
      rcases Nat.lt_or_ge ed.on k with q1 | q1
      ·
       exfalso
       have hel:ed.on < ops.size:=by have:=r1 ed he hbnd; omega
       have:=(eO hr (show ops[ed.on]? = some ops[ed.on] by simp [hel])).2.2 k (by omega)
       rw [this] at q; cases q
      ·
       have:k=ed.on:=by omega
       rw [this]; exact h3 ed he hbnd
   have hmem:i ∈ (List.range ops.size).filter fun i=>!listed.getD i false:=by
    rw [List.mem_filter]; exact ⟨List.mem_range.2 hlt,by rw [h1']; rfl⟩
   obtain ⟨l1,l2,hsp⟩:=List.append_of_mem hmem
   have hpw:((List.range ops.size).filter fun i=>!listed.getD i false).Pairwise (· < ·):=List.Pairwise.filter _ List.pairwise_lt_range
   rw [hsp] at hpw
   obtain ⟨p1,p2,p3⟩:=List.pairwise_append.1 hpw
   have hlt1:∀ k ∈ l1,k < i:=fun k hk=>p3 k hk i (by simp)
   have hgt2:∀ k ∈ l2,i < k:=fun k hk=>(List.pairwise_cons.1 p2).1 k hk
   rw [hsp] at hev
   obtain ⟨e1,S1,e2,b1,_,_,b2,b3⟩:=bubble l1 l2 i h2 (fun k hk x hx=>by
    have hki:=hlt1 k hk
    have hkl:listed.getD k false=false:=by
     have:k ∈ (List.range ops.size).filter fun i=>!listed.getD i false:=by rw [hsp]; simp [hk]
     simpa using (List.mem_filter.1 this).2
    have:=r2 k x hki hx
    split at this
    ·
     rename_i hb
     have:=hclo k hki hb
     rw [hkl] at this; cases this
    ·
     rename_i hnb
     exact ⟨this,(hK i k hki hlt).resolve_left hnb⟩) hev
   have hrest:(List.range ops.size).filter (fun j=>!(listed.setIfInBounds i true).getD j false)=l1 ++ l2:=by
    have:(fun j=>!(listed.setIfInBounds i true).getD j false)=(fun j=>(!listed.getD j false) && decide (j ≠ i)):=by
     funext j
     by_cases hj:i=j
     ·
      subst hj; simp [hlt']
     ·
      rw [getD_set_ne false hj]; simp [Ne.symm hj]
    rw [this,← List.filter_filter]
    have hcomm:∀ (l:List Nat) (p q:Nat→Bool),(l.filter p).filter q=(l.filter q).filter p:=fun l p q=>by
     rw [List.filter_filter,List.filter_filter]; congr 1; funext a; exact Bool.and_comm _ _
    rw [hcomm,hsp,List.filter_append,List.filter_cons]
    simp only [ne_eq,not_true_eq_false,decide_false,Bool.false_eq_true,if_false]
    congr 1
    ·
     rw [List.filter_eq_self]; intro k hk; simp; have:=hlt1 k hk; omega
    ·
     rw [List.filter_eq_self]; intro k hk; simp; have:=hgt2 k hk; omega
   refine rP hR hh b1 hS he (fun cx1 a1 w1 s1 x1 er1 d1=>?_) h2
   refine ih (listed.setIfInBounds i true) (cx:=cx1) (S:=S1) (S':=S') (w:=w1) (e:=e1) (e':=e2) (by simpa using hsz) (fun j hj k hkj hb=>?_) ?_ (by rw [hrest]; exact b2) s1 er1 (fun cx' a' w' e'' q1 q2 q3 q4 q5=>hk cx' a' w' e'' q1 (x1.trans q2) q3 (fun t=>(q4 t).trans (b3 t)) (q5.trans d1))
   ·
    by_cases hij:i=j
    ·
     subst hij
     exact getD_set_true (hclo k hkj hb)
    ·
     rw [getD_set_ne false hij] at hj
     exact getD_set_true (hcl j hj k hkj hb)
   ·
    rw [hrest]
    have:=hlen
    rw [hsp] at this
    simp at this ⊢; omega
  refine ⟨fun hnone=>?_,step⟩
  exfalso
  cases hq:(List.range ops.size).filter fun i=>!listed.getD i false with
  | nil=>rw [hq] at hlen; simp at hlen
  | cons m l =>
   have hm:m ∈ (List.range ops.size).filter fun i=>!listed.getD i false:=by rw [hq]; simp
   obtain ⟨hm1,hm2⟩:=List.mem_filter.1 hm
   have hmlt:=List.mem_range.1 hm1
   have hmo:ops[m]? = some ops[m]:=by simp [hmlt]
   have hpw:((List.range ops.size).filter fun i=>!listed.getD i false).Pairwise (· < ·):=List.Pairwise.filter _ List.pairwise_lt_range
   rw [hq] at hpw
   have hmin:=(List.pairwise_cons.1 hpw).1
   have hready:m ∈ Region.ready .any ops listed:=by
    rw [mem_ready]
    refine ⟨by have:m < listed.size:=(by omega); simp [this] at hm2 ⊢; exact hm2,ops[m],hmo,fun ed he hb=>?_⟩
    have hon:=(eO hr hmo).1 ed he hb
    cases hc:listed.getD ed.on false with
    | true=>rfl
    | false =>
     have:ed.on ∈ (List.range ops.size).filter fun i=>!listed.getD i false:=by
      rw [List.mem_filter]; exact ⟨List.mem_range.2 (by omega),by rw [hc]; rfl⟩
     rw [hq] at this
     rcases List.mem_cons.1 this with q | q
     ·
      omega
     ·
      have:=hmin _ q; omega
   rw [hnone] at hready
   cases hready
end
end Go.Ev

namespace Go.Ev
noncomputable section
set_option linter.unusedVariables false
set_option linter.unusedSimpArgs false
theorem run_next_at {P:Program} {w:World} (ty b bm since c0:Nat) (seen:Array Nat) (es:Array MapEntry) (clock:Nat) (hb:w.heap[b]? = some (.mapIter (some bm) since seen c0)) (hm:w.heap[bm]? = some (.map es clock))
  (hold:∀ x ∈ es.toList,x.born < since) (hsc:since ≤ c0) :
  ((∀ e ∈ es.toList,seen.contains e.born=true)∧(Instr.next (.pointer (some ⟨b,0,none⟩)) false ty).run P w=.ok (.tuple #[.bool false]) w) ∨
  ∃ e ∈ es.toList,seen.contains e.born=false∧∃ w1:World,w1.heap=w.heap∧w1.os=w.os∧w1.output=w.output∧w1.tape=w.tape ∧
   (Instr.next (.pointer (some ⟨b,0,none⟩)) false ty).run P w=.ok (.tuple #[.bool true,e.key,e.val]) { w1 with heap:=w1.heap.setIfInBounds b (.mapIter (some bm) since (seen.push e.born) clock) }:=by
 simp only [Instr.next,getObj,Sem.run_bind,Sem.run,hb,hm,Result.andThen,next_test_false seen es since c0 hold hsc,Bool.false_eq_true,if_false]
 have hmem:∀ x ∈ (Array.filter (fun e=>!seen.contains e.born) es).toList,x ∈ es.toList∧seen.contains x.born=false:=fun x hx=>by
  simp at hx ⊢
  exact hx
 have hemp:Array.filter (fun e=>!seen.contains e.born) es = #[]→∀ e ∈ es.toList,seen.contains e.born=true:=fun h e he=>by
  rw [Array.filter_eq_empty_iff] at h
  have:=h e (by simpa using he)
  simpa using this
 generalize Array.filter (fun e=>!seen.contains e.born) es=L at hmem hemp ⊢
 have e1:L.filter (fun x=>decide (x.born < since))=L:=Array.filter_eq_self.2 (fun x hx=>by simpa using hold x (hmem x (by simpa using hx)).1)
 have e2:L.filter (fun x=>decide (x.born ≥ since)) = #[]:=by
  rw [Array.filter_eq_empty_iff]
  intro x hx
  have:=hold x (hmem x (by simpa using hx)).1
  simp
  omega
 simp only [e1,e2,Array.append_empty]
 by_cases h0:L.size=0
 ·
  left
  have:L = #[]:=Array.eq_empty_of_size_eq_zero h0
  subst this
  refine ⟨hemp rfl,?_⟩
  simp [choose,Sem.run,Question.forced]
 ·
  right
  have hne:L.isEmpty=false:=by simp [Array.isEmpty,h0]
  simp only [hne,Bool.false_eq_true,if_false,Array.empty_append,Array.size_map]
  have hch:∃ (j:Nat) (w1:World),j < L.size∧(w1.heap=w.heap∧w1.os=w.os∧w1.output=w.output∧w1.tape=w.tape)∧(choose (Question.mapNext L.size)).run P w=.ok j w1:=by
   by_cases hf:L.size ≤ 1
   ·
    exact ⟨0,w,by omega,⟨rfl,rfl,rfl,rfl⟩,by simp [choose,Sem.run,Question.forced,hf]⟩
   ·
    exact ⟨_,w.drew,Nat.mod_lt _ (by omega),⟨rfl,rfl,rfl,rfl⟩,by
     simp only [choose,Sem.run,Question.forced,decide_eq_true_eq,hf,if_false,Question.cut]
     rfl⟩
  obtain ⟨j,w1,hj,hal,hrun⟩:=hch
  have hLj:L[j] ∈ L.toList:=by simp
  refine ⟨L[j],(hmem _ hLj).1,(hmem _ hLj).2,w1,hal.1,hal.2.1,hal.2.2.1,hal.2.2.2,?_⟩
  have hlt:b < w1.heap.size:=by rw [hal.1]; exact (Array.getElem?_eq_some_iff.1 hb).1
  have hb1:w1.heap[b]? = some (.mapIter (some bm) since seen c0):=by rw [hal.1]; exact hb
  have hset:∀ (o':Obj),(setObj b o').run P w1=.ok () { w1 with heap:=w1.heap.setIfInBounds b o' }:=fun o'=>by
   simp only [setObj,Sem.run,hb1]
   try rfl
  simp only [hrun,Array.getElem?_map,Array.getElem?_eq_getElem hj,Option.map_some,Sem.run_bind,hset,Result.andThen]
  rfl
theorem uO {P:Program} {w:World} (ty b:Nat) (hb:w.heap[b]? = some (.mapIter none 0 #[] 0)) :
  (Instr.next (.pointer (some ⟨b,0,none⟩)) false ty).run P w=.ok (.tuple #[.bool false]) w:=by
 simp only [Instr.next,getObj,Sem.run_bind,Sem.run,hb,Result.andThen]
 rfl
def jl (R:aM) (P:Program) (h:gu):Prop :=
 ∀ f args S rs,h f args S=some rs→(∃ fn,P.funcs[f]? = some fn∧fn.body.isSome=true∧fn.name ≠ "runtime.NumGoroutine") ∧
  ∀ cx w (us:List Value),aB R cx S w→us.length=args.length→(∀ (i:Nat) (x:AV) (u:Value),args[i]? = some x→us[i]? = some u→av cx S w x u) →
  Calls P f us.toArray w (fun e w'=>∃ r ∈ rs,∃ cx',aB R cx' r.2.2 w'∧Ext cx S w cx' r.2.2 w'∧mK cx' r.2.2 w' r.1 r.2.1 e)
theorem zS {R:aM} {P:Program}:vF R P noHand:=fun f args S p v S' h=>by cases h
theorem CP {R:aM} {P:Program} {h:gu} (hh:jl R P h):vF R P (BA h):=by
 intro f args S p v S' hd
 unfold BA at hd
 split at hd
 ·
  rename_i r hr
  simp only [Option.some.injEq] at hd
  subst hd
  obtain ⟨h1,h2⟩:=hh f args S _ hr
  refine ⟨h1,fun cx w us hS hl hu=>(h2 cx w us hS hl hu).mono fun e w' he=>?_⟩
  obtain ⟨r',hr',cx',k⟩:=he
  simp only [List.mem_singleton] at hr'
  subst hr'
  exact ⟨cx',k⟩
 ·
  cases hd
theorem jQ {α β:Type} {f:α→Option β}:∀ {l:List α} {rs:List β},dG f l=some rs→∀ x ∈ l,∃ r,f x=some r∧r ∈ rs
 | [],_,_,x,hx=>by cases hx
 | y :: l,rs,h,x,hx=>by
  simp only [dG] at h
  split at h
  ·
   rename_i z hz
   simp only [Option.map_eq_some_iff] at h
   obtain ⟨zs,hzs,rfl⟩:=h
   rcases List.mem_cons.1 hx with rfl | hx
   ·
    exact ⟨z,hz,by simp⟩
   ·
    obtain ⟨r,h1,h2⟩:=jQ hzs x hx
    exact ⟨r,h1,List.mem_cons_of_mem _ h2⟩
  ·
   cases h
theorem iI {α β:Type} {f:α→Option (List β)}:∀ {l:List α} {rs:List β},oN f l=some rs→∀ x ∈ l,∃ r,f x=some r∧∀ y ∈ r,y ∈ rs
 | [],_,_,x,hx=>by cases hx
 | y :: l,rs,h,x,hx=>by
  simp only [oN] at h
  split at h
  ·
   rename_i z hz
   split at h
   ·
    rename_i zs hzs
    simp only [Option.some.injEq] at h
    subst h
    rcases List.mem_cons.1 hx with rfl | hx
    ·
     exact ⟨z,hz,fun y hy=>List.mem_append.2 (.inl hy)⟩
    ·
     obtain ⟨r,h1,h2⟩:=iI hzs x hx
     exact ⟨r,h1,fun y hy=>List.mem_append.2 (.inr (h2 y hy))⟩
   ·
    cases h
  ·
   cases h
theorem p9 {R:aM} {C:bN} (hR:dZ R C) {cx:Cx} {S:St} {w:World} {nt:Nat} {e:Env} {a:Act} {ops:Array Oper} {o:Oper} {t:Nat} {rs:List Stp} (hop:o.op=.next (.tmp t) false)
  (hs:y7 nt o t e S=some rs) (hS:aB R cx S w) (he:bW cx S w nt e a) {K:Act→World→Prop} {Q:Exit→Act→World→Prop} (hk:∀ r ∈ rs,After R cx S w nt a K Q r) {i:Nat} (hi:ops[i]? = some o) :
  wpOp C.P ops Q i K a w:=by
 unfold y7 at hs
 have hrefl:=Ext.refl (cx:=cx) w hS.wf
 have enter:o.guard=none→(∃ v w',(Instr.next (a.eval (.tmp t)) false o.type).run C.P w=.ok v w'∧K (a.put o.dst v) w')→wpOp C.P ops Q i K a w:=by
  intro hg ⟨v,w',h1,h2⟩
  unfold wpOp
  rw [hi]
  simp only
  rw [if_pos (by unfold Region.wanted; rw [hg])]
  left
  unfold Oper.wp
  have hq:(execOp a.eval o).run C.P w=.ok (.value v) w':=by
   obtain ⟨dst,op,ty,pos,after,guard⟩:=o
   simp only at hop
   subst hop
   exact kV h1
  rw [hq]
  exact h2
 split at hs
 ·
  rename_i k g since seen st hg ht
  split at hs
  ·
   rename_i c hc
   split at hs
   ·
    rename_i hcg
    subst hcg
    simp only [Option.map_eq_some_iff] at hs
    obtain ⟨e',hp,rfl⟩:=hs
    obtain ⟨u,h1,h2⟩:=he.rel t _ ht
    have hev:a.eval (.tmp t)=u:=by simp [Act.eval,h1]
    cases h2 with
    | it0 _ _ _ _ b _ hn hpos =>
    obtain ⟨_,_,_,hb⟩:=hpos hc
    refine enter hg ⟨.tuple #[.bool false],w,?_,?_⟩
    ·
     rw [hev]; exact uO _ b hb
    ·
     refine hk (.go e' S) (by simp) cx _ w hS hrefl (he.put hp ?_) (put_defers _ _ _)
     refine .tup [.d (.bool false)] [.bool false] rfl (fun j x u hx hu=>?_)
     match j,hx,hu with
     | 0,hx,hu=>simp at hx hu; subst hx; subst hu; exact .of_bool _
   ·
    cases hs
  ·
   cases hs
 ·
  rename_i k g id since seen st hg ht
  split at hs
  ·
   rename_i M c hM hc
   split at hs
   ·
    rename_i hcond
    obtain ⟨hcg,hold,hsc,hnt⟩:=hcond
    subst hcg
    obtain ⟨u,h1,h2⟩:=he.rel t _ ht
    have hev:a.eval (.tmp t)=u:=by simp [Act.eval,h1]
    have hidk:id ≠ k:=fun q=>by subst q; rw [hM] at hc; cases hc
    cases h2 with
    | it _ _ _ _ _ b m _ hn hni hm hpos =>
    have hkg:isIt S k g:=hc
    obtain ⟨hbk,hfk,honly,hb⟩:=hpos hkg
    have hm:=hm (by simp [cur,hM])
    obtain ⟨c1,c2,ms,clk,c3,⟨c4,c4',c4''⟩,c5⟩:=hS.maps id M hM
    rw [← hm] at c3
    have hborn:∀ x ∈ ms.toList,∃ (j:Nat) (p:D × AV × Nat),M.es[j]? = some p∧ms[j]? = some x∧x.born=p.2.2:=fun x hx=>by
     obtain ⟨j,hj,rfl⟩:=List.getElem_of_mem hx
     have hj':j < ms.size:=by simpa using hj
     have hjm:j < M.es.length:=by rw [← c4]; exact hj'
     have hp:=List.getElem?_eq_getElem hjm
     refine ⟨j,M.es[j],hp,by simp [hj'],?_⟩
     exact c4'' j _ _ hp (by simp [hj'])
    have holdm:∀ x ∈ ms.toList,x.born < since:=fun x hx=>by
     obtain ⟨j,p,p1,p2,p3⟩:=hborn x hx
     rw [p3]
     exact Nat.le_of_ble_eq_true (List.all_eq_true.1 hold p (List.mem_of_getElem? p1))
    rcases run_next_at (P:=C.P) o.type b m since st seen.toArray ms clk hb c3 holdm hsc with ⟨r1,r2⟩ | ⟨x,r1,r2,w1,r3,r4,r5,r6,r7⟩
    ·
     have hnil:M.es.filter (fun p=>!(seen.contains p.2.2))=[]:=by
      rw [List.filter_eq_nil_iff]
      intro p hp
      obtain ⟨j,hj,rfl⟩:=List.getElem_of_mem hp
      have hjm:j < ms.size:=by rw [c4]; exact hj
      have hb2:=c4'' j _ _ (List.getElem?_eq_getElem hj) (Array.getElem?_eq_getElem hjm)
      have:=r1 ms[j] (by simp)
      rw [hb2] at this
      simpa using this
     rw [hnil] at hs
     simp only [Option.map_eq_some_iff] at hs
     obtain ⟨e',hp,rfl⟩:=hs
     refine enter hg ⟨.tuple #[.bool false],w,by rw [hev]; exact r2,?_⟩
     refine hk (.go e' S) (by simp) cx _ w hS hrefl (he.put hp ?_) (put_defers _ _ _)
     refine .tup [.d (.bool false)] [.bool false] rfl (fun j x u hx hu=>?_)
     match j,hx,hu with
     | 0,hx,hu=>simp at hx hu; subst hx; subst hu; exact .of_bool _
    ·
     obtain ⟨j,p,p1,p2,p3⟩:=hborn x r1
     have hpm:p ∈ M.es.filter (fun p=>!(seen.contains p.2.2)):=by
      rw [List.mem_filter]
      refine ⟨List.mem_of_getElem? p1,?_⟩
      rw [p3] at r2
      simpa using r2
     have hs':dG (fun p:D × AV × Nat=>(Env.put nt ((t,.it k (g + 1) (some id) since (seen ++ [p.2.2]) M.clk) :: e) o.dst (.tup [.d (.bool true),.d p.1,p.2.1])).map fun e' =>
      Stp.go e' { S with H:=S.H.set k (.obj 3 (.int .i64 ((g + 1:Nat):Int))) }) (M.es.filter (fun p=>!(seen.contains p.2.2)))=some rs:=by
      split at hs
      ·
       rename_i hnil; rw [hnil] at hpm; cases hpm
      ·
       exact hs
     obtain ⟨rr,q1,q2⟩:=jQ hs' p hpm
     simp only [Option.map_eq_some_iff] at q1
     obtain ⟨e',hp,rfl⟩:=q1
     generalize hS':({ S with H:=S.H.set k (.obj 3 (.int .i64 ((g + 1:Nat):Int))) }:St)=S' at hp q2
     generalize hw':({ w1 with heap:=w1.heap.setIfInBounds b (.mapIter (some m) since (seen.toArray.push x.born) clk) }:World)=w' at r7
     have hget:S'.H.get k=some (.obj 3 (.int .i64 ((g + 1:Nat):Int))):=by rw [← hS']; simp [AL.aF]
     have hheap:w'.heap=w.heap.setIfInBounds b (.mapIter (some m) since (seen.toArray.push x.born) clk):=by rw [← hw',← r3]
     have hblt:b < w.heap.size:=Ca hb
     have hsz:w'.heap.size=w.heap.size:=by rw [hheap]; simp
     have hfpk:∀ c,cx.fp k c↔c=b:=by
      have:=((hR.toObjOk.it _ _ _ _).1 (hS.objs k 3 _ hc).1).2
      intro c; rw [this c,hbk]
     have hcurk:cur S' k=some (g + 1):=by simp [cur,hget,nN]
     have hnx:S'.nx=S.nx:=by rw [← hS']
     have hT:S'.T=S.T:=by rw [← hS']
     obtain ⟨k1,k2⟩:=nL hR.toObjOk (cx':=cx) (S':=S') (w':=w') hS hc
      (fun kk xx hx=>by rw [hget] at hx; simp only [Option.some.injEq,iU.obj.injEq] at hx; obtain ⟨_,rfl⟩:=hx; simp only [nN]; omega)
      (fun g' _=>⟨g,hkg⟩)
      (fun g' h0 h2=>by
       unfold isIt at h0 h2
       rw [hc] at h0
       rw [hget] at h2
       simp only [Option.some.injEq,iU.obj.injEq,true_and,D.int.injEq] at h0 h2
       omega)
      hT hnx (fun ii hne=>by rw [← hS']; simp only [AL.aF]; rw [if_neg (Ne.symm hne)])
      (.inr ⟨3,_,hget,(hR.toObjOk.it _ _ _ _).2 ⟨by rw [hsz,← hbk]; exact hblt,fun c=>by rw [hfpk c,hbk]⟩⟩)
      (by omega) (by rw [← hw']; exact r4) (by rw [← hw']; exact r6) (by rw [← hw']; exact r5)
      (fun c hc1 hc2=>by
       rw [hheap,Array.getElem?_setIfInBounds_ne (fun q=>hc2 ((hfpk c).2 q.symm))])
      (fun _=>rfl) (fun _ _ _=>Iff.rfl) (fun _=>rfl) (fun _=>rfl) (fun c hc1=>.inl hc1)
      (fun c oo hc1=>(hS.objs k 3 _ hc).2 c oo hc1) (fun _ _ q _=>q) (fun _ _ q=>q) (fun c oo q=>by rw [hsz]; exact hS.lt c oo q)
     have hw2:w'.heap[b]? = some (.mapIter (some m) since (seen ++ [p.2.2]).toArray M.clk):=by
      rw [hheap,Array.getElem?_setIfInBounds_self,if_pos hblt,c4',p3]
      simp
     have hlive:∀ ii,cur S' ii ≠ none→cur S ii ≠ none:=fun ii hii=>by
      by_cases q:ii=k
      ·
       subst q; rw [fV hkg]; simp
      ·
       unfold cur at hii ⊢
       have:S'.H.get ii=S.H.get ii:=by rw [← hS']; simp only [AL.aF]; rw [if_neg (Ne.symm q)]
       rw [this,hT] at hii
       exact hii
     refine enter hg ⟨.tuple #[.bool true,x.key,x.val],w',by rw [hev]; exact r7,?_⟩
     refine hk (.go e' S') q2 cx _ w' k1 k2 (bW.put (e:=(t,.it k (g + 1) (some id) since (seen ++ [p.2.2]) M.clk) :: e) ?_ hp ?_) (put_defers _ _ _)
     ·
      refine ⟨he.size,fun t' x' hx'=>?_⟩
      rw [AL.bF] at hx'
      by_cases q:t=t'
      ·
       subst q
       rw [if_pos rfl] at hx'
       cases hx'
       refine ⟨_,h1,.it k (g + 1) id since M.clk b m _ ⟨by rw [hnx]; exact hn.1,fun g' hg'=>by rw [hcurk] at hg'; cases hg'; exact Nat.le_refl _⟩ (hni.mono k2) (fun hcur=>?_) (fun _=>⟨hbk,hfk,fun ii hii hf=>honly ii (hlive ii hii) hf,hw2⟩)⟩
       exact hm
      ·
       rw [if_neg q] at hx'
       obtain ⟨v,v1,v2⟩:=he.rel t' x' hx'
       exact ⟨v,v1,v2.mono k2⟩
     ·
      obtain ⟨d1,d2⟩:=c5 j p x p1 p2
      refine .tup [.d (.bool true),.d p.1,p.2.1] [.bool true,x.key,x.val] rfl (fun j' x' u' hx' hu'=>?_)
      match j',hx',hu' with
      | 0,hx',hu'=>simp at hx' hu'; subst hx'; subst hu'; exact .of_bool _
      | 1,hx',hu'=>simp at hx' hu'; subst hx'; subst hu'; exact .d _ _ (d1.mono k2.prot)
      | 2,hx',hu'=>simp at hx' hu'; subst hx'; subst hu'; exact d2.mono k2
   ·
    cases hs
  ·
   cases hs
 ·
  cases hs
theorem oH {R:aM} {C:bN} (hR:dZ R C) {h:gu} (hh:jl R C.P h) {cx:Cx} {S:St} {w:World} {nt:Nat} {e:Env} {a:Act} {ops:Array Oper} {o:Oper} {rs:List Stp}
  (hs:yY C h nt ops o e S=some rs) (hS:aB R cx S w) (he:bW cx S w nt e a) {K:Act→World→Prop} {Q:Exit→Act→World→Prop} (hk:∀ r ∈ rs,After R cx S w nt a K Q r) {i:Nat} (hi:ops[i]? = some o) :
  wpOp C.P ops Q i K a w:=by
 have one:(bZ C noHand nt ops o e S).map ([·])=some rs→wpOp C.P ops Q i K a w:=by
  intro h1
  simp only [Option.map_eq_some_iff] at h1
  obtain ⟨r,h1,rfl⟩:=h1
  exact rP hR zS h1 hS he (hk r (by simp)) hi
 unfold yY at hs
 split at hs
 ·
  rename_i t hop
  exact p9 hR hop hs hS he hk hi
 ·
  rename_i c hop
  split at hs
  ·
   rename_i hw
   split at hs
   ·
    rename_i f args ho
    split at hs
    ·
     rename_i os hc
     unfold wpOp
     rw [hi]
     simp only
     rw [if_pos (bJ he hw)]
     left
     obtain ⟨us,h1,h2,h3⟩:=bU hR hS he.eval o ho
     obtain ⟨⟨fn,f1,f2,f3⟩,hcalls⟩:=hh f args S os hc
     unfold Oper.wp
     rw [h3 fn f1 f2 f3]
     refine (hcalls cx w us hS h1 h2).mono (fun en w' hen=>?_)
     obtain ⟨⟨p,v,S'⟩,hr,cx',k1,k2,k3⟩:=hen
     obtain ⟨rr,q1,q2⟩:=jQ hs _ hr
     cases p with
     | none =>
      simp only [Option.map_eq_some_iff] at q1
      obtain ⟨e',hp,rfl⟩:=q1
      obtain ⟨u,rfl,k3⟩:=k3
      exact hk (.go e' S') q2 cx' _ w' k1 k2 ((he.mono k2).put hp k3) (put_defers _ _ _)
     | some p =>
      simp only [Option.some.injEq] at q1
      subst q1
      obtain ⟨u,rfl,k3⟩:=k3
      exact hk (.stop p S') q2 cx' w' u k1 k2 k3
    ·
     cases hs
   ·
    exact one hs
  ·
   exact one hs
 ·
  exact one hs
theorem r9 {R:aM} {C:bN} (hR:dZ R C) {h:gu} (hh:jl R C.P h) {nt:Nat} {ops:Array Oper} {Q:Exit→Act→World→Prop}:∀ (l:List Oper) (k:Nat) {cx:Cx} {S:St} {w:World} {e:Env} {a:Act} {rs:List Stp},
  (∀ j,l[j]? = ops[k + j]?)→qj C h nt ops l e S=some rs→aB R cx S w→bW cx S w nt e a →
  (∀ r ∈ rs,match r with
   | .go e' S'=>∀ cx' a' w',aB R cx' S' w'→Ext cx S w cx' S' w'→bW cx' S' w' nt e' a'→a'.defers=a.defers→Q .normal a' w'
   | .stop v S'=>∀ cx' a' w' u,aB R cx' S' w'→Ext cx S w cx' S' w'→av cx' S' w' v u→a'.defers=a.defers→Q (.panic [{ v:=u,recovered:=false }]) a' w') →
  wpOps C.P ops Q ((List.range l.length).map (k + ·)) a w
 | [],k,cx,S,w,e,a,rs,hl,hev,hS,he,hk=>by
  simp only [qj,Option.some.injEq] at hev; subst hev
  exact hk (.go e S) (by simp) cx a w hS (Ext.refl w hS.wf) he rfl
 | o :: l,k,cx,S,w,e,a,rs,hl,hev,hS,he,hk=>by
  have h0:ops[k]? = some o:=by simpa using (hl 0).symm
  rw [List.length_cons,List.range_succ_eq_map,List.map_cons,wpOps_cons,Nat.add_zero]
  simp only [qj] at hev
  split at hev
  ·
   rename_i r1 hst
   refine oH hR hh hst hS he (fun r hr=>?_) h0
   obtain ⟨r2,b1,b2⟩:=iI hev r hr
   cases r with
   | go e' S' =>
    intro cx1 a1 w1 s1 x1 er1 d1
    simp only at b1
    have ih:=r9 hR hh (Q:=Q) l (k + 1) (cx:=cx1) (S:=S') (w:=w1) (e:=e') (a:=a1) (rs:=r2) (fun j=>by have:=hl (j + 1); simpa [Nat.add_assoc,Nat.add_comm 1 j] using this) b1 s1 er1 (fun r hr=>by
     have hk':=hk r (b2 r hr)
     cases r with
     | go e2 S2=>exact fun cx' a' w' q1 q2 q3 q4=>hk' cx' a' w' q1 (x1.trans q2) q3 (q4.trans d1)
     | stop v S2=>exact fun cx' a' w' u q1 q2 q3 q4=>hk' cx' a' w' u q1 (x1.trans q2) q3 (q4.trans d1))
    rw [List.map_map]
    have:((fun x=>k + x) ∘ Nat.succ)=(fun x=>k + 1 + x):=by funext x; simp; omega
    rw [this]; exact ih
   | stop v S' =>
    simp only [Option.some.injEq] at b1
    subst b1
    exact fun cx1 w1 u s1 x1 r1=>hk (.stop v S') (b2 _ (by simp)) cx1 a w1 u s1 x1 r1 rfl
  ·
   cases hev
end
end Go.Ev

namespace Go.Ev
noncomputable section
set_option linter.unusedVariables false
set_option linter.unusedSimpArgs false
theorem dL {n:Nat}:∀ {l:List AV},belows n l=true→∀ y ∈ l,y.under n=true
 | [],_,y,hy=>by cases hy
 | x :: l,h,y,hy=>by
  simp only [belows,Bool.and_eq_true] at h
  rcases List.mem_cons.1 hy with rfl | hy
  ·
   exact h.1
  ·
   exact dL h.2 y hy
theorem iZ {n:Nat}:∀ {H:AL iU},fK n H=true→∀ id b,AL.get H id=some b→(∀ g cs,b=.cells g cs→belows n cs=true)∧(∀ es,b=.map es→∀ p ∈ es.es,p.2.1.under n=true)
 | [],_,id,b,h=>by simp [AL.get] at h
 | (k,v) :: l,hb,id,b,h=>by
  have hrest:fK n l=true:=by cases v <;> simp only [fK,Bool.and_eq_true] at hb <;> first | exact hb.2 | exact hb
  rw [AL.bF] at h
  by_cases hk:k=id
  ·
   rw [if_pos hk] at h
   cases h
   refine ⟨fun g cs hq=>?_,fun es hq=>?_⟩
   ·
    subst hq; simp only [fK,Bool.and_eq_true] at hb; exact hb.1
   ·
    subst hq; simp only [fK,Bool.and_eq_true,List.all_eq_true] at hb; exact hb.1
  ·
   rw [if_neg hk] at h; exact iZ hrest id b h
theorem AL.gI {α:Type}:∀ {l:AL α} {k:Nat} {v:α},AL.get l k=some v→(k,v) ∈ l
 | [],k,v,h=>by simp [AL.get] at h
 | (a,x) :: l,k,v,h=>by
  rw [AL.bF] at h
  split at h
  ·
   rename_i hk; cases h; subst hk; simp
  ·
   exact List.mem_cons_of_mem _ (AL.gI h)
theorem AL.mh {α:Type}:∀ {l:AL α} {k:Nat},AL.has l k=true→∃ v,AL.get l k=some v
 | [],k,h=>by cases h
 | (a,x) :: l,k,h=>by
  simp only [AL.has] at h
  rw [AL.bF]
  by_cases hk:a=k
  ·
   exact ⟨x,by rw [if_pos hk]⟩
  ·
   have:Nat.beq a k=false:=by
    cases hb:Nat.beq a k
    ·
     rfl
    ·
     exact absurd (Nat.eq_of_beq_eq_true hb) hk
   rw [this] at h
   obtain ⟨v,hv⟩:=AL.mh h
   exact ⟨v,by rw [if_neg hk]; exact hv⟩
theorem qW:∀ (l l':List (D × AV × Nat)),jC l l'=true→l=l'
 | [],l',h=>by cases l' <;> simp_all [jC]
 | (k,v,n) :: l,l',h=>by
  cases l' with
  | nil=>simp [jC] at h
  | cons p l' =>
   obtain ⟨k',v',n'⟩:=p
   simp only [jC,Bool.and_eq_true] at h
   rw [Nat.eq_of_beq_eq_true h.1.1.1,D.same_eq _ _ h.1.1.2,AV.same_eq _ _ h.1.2,qW _ _ h.2]
theorem qN {x y:iU} (h:pW x y=true):x=y:=by
 unfold pW at h
 split at h
 ·
  simp only [Bool.and_eq_true] at h
  rw [Nat.eq_of_beq_eq_true h.1,AV.eX _ _ h.2]
 ·
  rename_i m m'
  simp only [Bool.and_eq_true] at h
  obtain ⟨es,c⟩:=m
  obtain ⟨es',c'⟩:=m'
  simp only at h
  rw [Nat.eq_of_beq_eq_true h.1,qW _ _ h.2]
 ·
  simp only [Bool.and_eq_true] at h
  rw [Nat.eq_of_beq_eq_true h.1,D.same_eq _ _ h.2]
 ·
  cases h
theorem iO (l:AL Nat):∀ (cs:List AV),sO l cs=cs.map (AV.ren l)
 | []=>rfl
 | x :: cs=>by simp [sO,iO l cs]
theorem qg:∀ {l:AL Nat},vE (l.map (·.2))=true→∀ {i j a:Nat},(i,a) ∈ l→(j,a) ∈ l→i=j
 | [],_,i,j,a,h,_=>by cases h
 | p :: l,hn,i,j,a,hi,hj=>by
  simp only [List.map_cons,vE,Bool.and_eq_true,Bool.not_eq_true'] at hn
  have hmem:∀ {L:List Nat} {x:Nat},x ∈ L→sW L x=true:=by
   intro L
   induction L with
   | nil=>intro x h; cases h
   | cons y L ih =>
    intro x h
    simp only [sW]
    rcases List.mem_cons.1 h with rfl | h
    ·
     simp
    ·
     rw [ih h]; cases Nat.beq y x <;> rfl
  have hno:∀ {k:Nat},(k,p.2) ∉ l:=fun {k} hk=>by
   have:sW (l.map (·.2)) p.2=true:=hmem (List.mem_map.2 ⟨(k,p.2),hk,rfl⟩)
   rw [hn.1] at this; cases this
  rcases List.mem_cons.1 hi with hi' | hi' <;> rcases List.mem_cons.1 hj with hj' | hj'
  ·
   rw [← hj'] at hi'; exact (Prod.mk.inj hi').1
  ·
   exact absurd (by rw [← hi']; exact hj') (hno (k:=j))
  ·
   exact absurd (by rw [← hj']; exact hi') (hno (k:=i))
  ·
   exact qg hn.2 hi' hj'
structure l8 (n0:Nat) (l:AL Nat) (S S':St):Prop where
 lo:∀ j,j < n0→rn l j=j
 hi:∀ j,AL.has l j=true→n0 ≤ rn l j
 nx:n0 ≤ S'.nx
 inj:∀ i j,AL.has l i=true→AL.has l j=true→rn l i=rn l j→i=j
 hH:∀ j b,S'.H.get j=some b→j < S'.nx∧(j < n0∨AL.has l j=true)∧S.H.get (rn l j)=some (b.ren l)
 hT:∀ j n,S'.T.get j=some n→j < S'.nx∧(j < n0∨AL.has l j=true)∧S.T.get (rn l j)=some n
 below:fK S'.nx S'.H=true
theorem xM {n0:Nat} {l:AL Nat} {e e':Env} {S S':St} (h:yX n0 l e S e' S'=true) :
  l8 n0 l S S'∧∀ t x,AL.get e' t=some x→x.under S'.nx=true∧AL.get e t=some (x.ren l):=by
 simp only [yX,Bool.and_eq_true,List.all_eq_true] at h
 obtain ⟨⟨⟨⟨⟨⟨h1,h2⟩,h3⟩,h4⟩,h5⟩,h6⟩,h7⟩:=h
 have hval:∀ j,AL.has l j=true→∃ i,AL.get l j=some i∧rn l j=i∧(j,i) ∈ l:=fun j hj=>by
  obtain ⟨i,hi⟩:=AL.mh hj
  exact ⟨i,hi,by simp [rn,hi],AL.gI hi⟩
 refine ⟨⟨fun j hj=>?_,fun j hj=>?_,Nat.le_of_ble_eq_true h3,fun i j hi hj hq=>?_,fun j b hb=>?_,fun j n hn=>?_,h5⟩,fun t x hx=>?_⟩
 ·
  unfold rn
  cases hg:AL.get l j with
  | none=>rfl
  | some i =>
   have:=(h1 _ (AL.gI hg)).1
   have:=Nat.le_of_ble_eq_true this
   simp at this; omega
 ·
  obtain ⟨i,_,hi,hm⟩:=hval j hj
  rw [hi]
  exact Nat.le_of_ble_eq_true (h1 _ hm).2
 ·
  obtain ⟨a,_,ha,hma⟩:=hval i hi
  obtain ⟨b,_,hb,hmb⟩:=hval j hj
  rw [ha,hb] at hq
  subst hq
  exact qg h2 hma hmb
 ·
  have:=h6 _ (AL.gI hb)
  simp only [Bool.or_eq_true] at this
  obtain ⟨⟨q1,q2⟩,q3⟩:=this
  refine ⟨Nat.le_of_ble_eq_true q1,q2.imp (fun z=>Nat.le_of_ble_eq_true z) id,?_⟩
  split at q3
  ·
   rename_i b' hb'; rw [hb',qN q3]
  ·
   cases q3
 ·
  have:=h7 _ (AL.gI hn)
  simp only [Bool.or_eq_true] at this
  obtain ⟨⟨q1,q2⟩,q3⟩:=this
  refine ⟨Nat.le_of_ble_eq_true q1,q2.imp (fun z=>Nat.le_of_ble_eq_true z) id,?_⟩
  split at q3
  ·
   rename_i b' hb'; rw [hb',Nat.eq_of_beq_eq_true q3]
  ·
   cases q3
 ·
  have:=h4 _ (AL.gI hx)
  refine ⟨this.1,?_⟩
  have q3:=this.2
  split at q3
  ·
   rename_i y hy
   simp only at hy
   rw [hy,AV.same_eq _ _ q3]
  ·
   cases q3
def Cx.pull (cx:Cx) (l:AL Nat):Cx:={ bm:=fun j=>cx.bm (rn l j),fp:=fun j=>cx.fp (rn l j),tsz:=fun j=>cx.tsz (rn l j),tot:=fun j=>cx.tot (rn l j),fr:=cx.fr }
section
variable {R:aM} {cx cx0:Cx} {S S' S0:St} {w w0:World} {n0:Nat} {l:AL Nat}
theorem l8.cur (f:l8 n0 l S S') (hS:aB R cx S w) {j g:Nat} (h:Ev.cur S' j=some g):Ev.cur S (rn l j)=some g:=by
 unfold Ev.cur at h ⊢
 cases hb:S'.H.get j with
 | some b =>
  rw [hb] at h
  rw [(f.hH j b hb).2.2]
  cases b <;> exact h
 | none =>
  rw [hb] at h
  simp only at h
  have hT:=(f.hT j g h).2.2
  cases hq:S.H.get (rn l j) with
  | some b=>have:=hS.kC _ b hq; rw [this] at hT; cases hT
  | none=>exact hT
theorem l8.live (f:l8 n0 l S S') {j:Nat} (h:Ev.cur S' j ≠ none):j < S'.nx∧(j < n0∨AL.has l j=true):=by
 unfold Ev.cur at h
 cases hb:S'.H.get j with
 | some b=>exact ⟨(f.hH j b hb).1,(f.hH j b hb).2.1⟩
 | none =>
  rw [hb] at h
  simp only at h
  cases hT:S'.T.get j with
  | none=>exact absurd hT h
  | some n=>exact ⟨(f.hT j n hT).1,(f.hT j n hT).2.1⟩
theorem l8.isIt (f:l8 n0 l S S') {j g:Nat} (h:Ev.isIt S' j g):Ev.isIt S (rn l j) g:=by
 unfold Ev.isIt at h ⊢
 rw [(f.hH j _ h).2.2]; rfl
theorem l8.uniq (f:l8 n0 l S S') {i j:Nat} (hi:Ev.cur S' i ≠ none) (hj:Ev.cur S' j ≠ none) (h:rn l i=rn l j):i=j:=by
 rcases (f.live hi).2 with a | a <;> rcases (f.live hj).2 with b | b
 ·
  rw [f.lo i a,f.lo j b] at h; exact h
 ·
  rw [f.lo i a] at h; have:=f.hi j b; omega
 ·
  rw [f.lo j b] at h; have:=f.hi i a; omega
 ·
  exact f.inj i j a b h
theorem l8.Ct (f:l8 n0 l S S') (hS:aB R cx S w) {y:AV} {v:Value} (h:av cx S w y v):∀ x:AV,x.ren l=y→x.under S'.nx=true→av (cx.pull l) S' w x v:=by
 have nm:∀ {j g:Nat},Names S (rn l j) g→j < S'.nx→Names S' j g:=fun hn hlt=>⟨hlt,fun g' hg=>hn.2 g' (f.cur hS hg)⟩
 have lst:∀ {ys:List AV} {vs:List Value} {xs:List AV},(∀ (i:Nat) (y:AV) (v:Value),ys[i]? = some y→vs[i]? = some v→∀ x:AV,x.ren l=y→x.under S'.nx=true→av (cx.pull l) S' w x v)→sO l xs=ys→belows S'.nx xs=true →
   ∀ (i:Nat) (x:AV) (v:Value),xs[i]? = some x→vs[i]? = some v→av (cx.pull l) S' w x v:=fun ih hq hb i x v hx hv=>by
  refine ih i (x.ren l) v ?_ hv x rfl (dL hb x (List.mem_of_getElem? hx))
  rw [← hq,iO,List.getElem?_map,hx]; rfl
 induction h with
 | d y v h =>
  intro x hx hu
  cases x <;> first | (cases hx; done) | skip
  case d z=>simp only [AV.ren,AV.d.injEq] at hx; subst hx; exact .d _ v h
  case it k g id s sn st=>cases id <;> cases hx
 | tsl ys tok b off cap hn h hp =>
  intro x hx hu
  cases x <;> first | (cases hx; done) | skip
  case tsl zs t =>
   simp only [AV.ren,AV.tsl.injEq] at hx
   obtain ⟨rfl,rfl⟩:=hx
   simp only [AV.under] at hu
   exact .tsl _ t b off cap (nm hn (Nat.le_of_ble_eq_true hu)) h (fun hc=>hp (f.cur hS hc))
  case it k g id s sn st=>cases id <;> cases hx
 | ptr id g off b hn hp =>
  intro x hx hu
  cases x <;> first | (cases hx; done) | skip
  case ptr t g' o' =>
   simp only [AV.ren,AV.ptr.injEq] at hx
   obtain ⟨rfl,rfl,rfl⟩:=hx
   simp only [AV.under] at hu
   exact .ptr t _ _ b (nm hn (Nat.le_of_ble_eq_true hu)) (fun hc=>hp (f.cur hS hc))
  case it k g id s sn st=>cases id <;> cases hx
 | msl id g off len lim sz b cap hn hl hcap h63 hp =>
  intro x hx hu
  cases x <;> first | (cases hx; done) | skip
  case msl t g' o' a1 a2 a3 =>
   simp only [AV.ren,AV.msl.injEq] at hx
   obtain ⟨rfl,rfl,rfl,rfl,rfl,rfl⟩:=hx
   simp only [AV.under] at hu
   exact .msl t _ _ _ _ _ b cap (nm hn (Nat.le_of_ble_eq_true hu)) hl hcap h63 (fun hc=>hp (f.cur hS hc))
  case it k g id s sn st=>cases id <;> cases hx
 | eptr y off b o vs h hc =>
  intro x hx hu
  cases x <;> first | (cases hx; done) | skip
  case eptr z o'=>simp only [AV.ren,AV.eptr.injEq] at hx; obtain ⟨rfl,rfl⟩:=hx; exact .eptr _ _ b o vs h hc
  case it k g id s sn st=>cases id <;> cases hx
 | map id b hn hp =>
  intro x hx hu
  cases x <;> first | (cases hx; done) | skip
  case map t =>
   simp only [AV.ren,AV.map.injEq] at hx
   subst hx
   simp only [AV.under] at hu
   exact .map t b (nm hn (Nat.le_of_ble_eq_true hu)) (fun hc=>hp (f.cur hS hc))
  case it k g id s sn st=>cases id <;> cases hx
 | asl id g off len sz b hn h63 hp =>
  intro x hx hu
  cases x <;> first | (cases hx; done) | skip
  case asl t g' o' a1 a2 =>
   simp only [AV.ren,AV.asl.injEq] at hx
   obtain ⟨rfl,rfl,rfl,rfl,rfl⟩:=hx
   simp only [AV.under] at hu
   exact .asl t _ _ _ _ b (nm hn (Nat.le_of_ble_eq_true hu)) h63 (fun hc=>hp (f.cur hS hc))
  case it k g id s sn st=>cases id <;> cases hx
 | fn g cs vs hl h ih =>
  intro x hx hu
  cases x <;> first | (cases hx; done) | skip
  case fn g' xs =>
   simp only [AV.ren,AV.fn.injEq] at hx
   obtain ⟨rfl,hq⟩:=hx
   simp only [AV.under] at hu
   exact .fn _ xs vs (by rw [hl,← hq,iO]; simp) (lst ih hq hu)
  case it k g id s sn st=>cases id <;> cases hx
 | agg ys vs hl ho h ih =>
  intro x hx hu
  cases x <;> first | (cases hx; done) | skip
  case agg xs =>
   simp only [AV.ren,AV.agg.injEq] at hx
   simp only [AV.under] at hu
   exact .agg xs vs (by rw [hl,← hx,iO]; simp) ho (lst ih hx hu)
  case it k g id s sn st=>cases id <;> cases hx
 | tup ys vs hl h ih =>
  intro x hx hu
  cases x <;> first | (cases hx; done) | skip
  case tup xs =>
   simp only [AV.ren,AV.tup.injEq] at hx
   simp only [AV.under] at hu
   exact .tup xs vs (by rw [hl,← hx,iO]; simp) (lst ih hx hu)
  case it k g id s sn st=>cases id <;> cases hx
 | any v =>
  intro x hx hu
  cases x <;> first | (cases hx; done) | skip
  case any=>exact .any v
  case it k g id s sn st=>cases id <;> cases hx
 | it0 k g since st b seen hn hp =>
  intro x hx hu
  cases x <;> first | (cases hx; done) | skip
  case it k' g' id' s sn st' =>
   cases id' with
   | some i=>cases hx
   | none =>
    simp only [AV.ren,AV.it.injEq,true_and] at hx
    obtain ⟨rfl,rfl,rfl,rfl,rfl⟩:=hx
    simp only [AV.under] at hu
    refine .it0 k' _ _ _ b _ (nm hn (Nat.le_of_ble_eq_true hu)) (fun hk=>?_)
    obtain ⟨p1,p2,p3,p4⟩:=hp (f.isIt hk)
    exact ⟨p1,p2,fun i hi hf=>f.uniq hi (by rw [fV hk]; simp) (p3 _ (by
     cases hc:Ev.cur S' i with
     | none=>exact absurd hc hi
     | some g=>rw [f.cur hS hc]; simp) hf),p4⟩
 | it k g id since st b m seen hn hni hm hp =>
  intro x hx hu
  cases x <;> first | (cases hx; done) | skip
  case it k' g' id' s sn st' =>
   cases id' with
   | none=>cases hx
   | some i' =>
    simp only [AV.ren,AV.it.injEq,Option.some.injEq] at hx
    obtain ⟨rfl,rfl,rfl,rfl,rfl,rfl⟩:=hx
    simp only [AV.under,Bool.and_eq_true] at hu
    refine .it k' _ i' _ _ b m _ (nm hn (Nat.le_of_ble_eq_true hu.1)) (nm hni (Nat.le_of_ble_eq_true hu.2)) (fun hc=>hm (f.cur hS hc)) (fun hk=>?_)
    obtain ⟨p1,p2,p3,p4⟩:=hp (f.isIt hk)
    exact ⟨p1,p2,fun i hi hf=>f.uniq hi (by rw [fV hk]; simp) (p3 _ (by
     cases hc:Ev.cur S' i with
     | none=>exact absurd hc hi
     | some g=>rw [f.cur hS hc]; simp) hf),p4⟩
theorem l8.D6 (f:l8 n0 l S S') (hS:aB R cx S w):aB R (cx.pull l) S' w:=by
 have hlive:∀ {j},Ev.live S' j→Ev.live S (rn l j):=fun {j} hj=>by
  unfold Ev.live at *
  cases hc:Ev.cur S' j with
  | none=>exact absurd hc hj
  | some g=>rw [f.cur hS hc]; simp
 refine ⟨fun id hl=>(f.live hl).1,fun id b hi=>?_,fun id g cs hi=>?_,fun id es hi=>?_,fun id k x hi=>?_,fun id en hi=>?_,fun id id' b a1 a2 f1 f2=>?_,hS.lt,hS.stat⟩
 ·
  cases hT:S'.T.get id with
  | none=>rfl
  | some n=>have:=(f.hT id n hT).2.2; rw [hS.kC _ _ (f.hH id b hi).2.2] at this; cases this
 ·
  obtain ⟨c1,c2,arr,el,c3,c4,c5⟩:=hS.cells (rn l id) g (sO l cs) (f.hH id _ hi).2.2
  have hln:(sO l cs).length=cs.length:=by rw [iO,List.length_map]
  rw [hln] at c4
  have hb:=(iZ f.below id _ hi).1 g cs rfl
  refine ⟨c1,c2,arr,el,c3,c4,fun i x hx=>?_⟩
  obtain ⟨v,v1,v2,v3⟩:=c5 i (x.ren l) (by rw [iO,List.getElem?_map,hx]; rfl)
  exact ⟨v,v1,f.Ct hS v2 x rfl (dL hb x (List.mem_of_getElem? hx)),v3⟩
 ·
  obtain ⟨c1,c2,ms,clk,c3,c4,c5⟩:=hS.maps (rn l id) { es with es:=es.es.map fun (p:D × AV × Nat)=>(p.1,p.2.1.ren l,p.2.2) } (f.hH id _ hi).2.2
  obtain ⟨c4,c4',c4''⟩:=c4
  have hb:=(iZ f.below id _ hi).2 es rfl
  have hget:∀ (i:Nat) (p:D × AV × Nat),es.es[i]? = some p→(es.es.map fun (p:D × AV × Nat)=>(p.1,p.2.1.ren l,p.2.2))[i]? = some (p.1,p.2.1.ren l,p.2.2):=fun i p hp=>by
   rw [List.getElem?_map,hp]; rfl
  refine ⟨c1,c2,ms,clk,c3,⟨by simpa using c4,c4',fun i p m hp hm=>by have:=c4'' i _ m (hget i p hp) hm; exact this⟩,fun i p m hp hm=>?_⟩
  obtain ⟨v1,v2⟩:=c5 i _ m (hget i p hp) hm
  exact ⟨v1,f.Ct hS v2 _ rfl (hb p (List.mem_of_getElem? hp))⟩
 ·
  exact hS.objs _ k x (f.hH id _ hi).2.2
 ·
  obtain ⟨c1,c2,c3⟩:=hS.toks _ _ (f.hT id _ hi).2.2
  exact ⟨c1,c2,c3⟩
 ·
  exact f.uniq a1 a2 (hS.sep _ _ b (hlive a1) (hlive a2) f1 f2)
theorem l8.ext (f:l8 S0.nx l S S') (hS:aB R cx S w) (e:Ext cx0 S0 w0 cx S w):Ext cx0 S0 w0 (cx.pull l) S' w where
 size:=e.size
 os:=e.os
 tape:=e.tape
 output:=e.output
 nx:=f.nx
 prot:=e.prot
 other:=fun b hb hn=>e.other b hb (fun id hl hf=>by
  obtain ⟨q1,g,q2,q3⟩:=hn id hl hf
  have:=f.isIt q3
  rw [f.lo id q1] at this
  exact ⟨q1,g,q2,this⟩)
 own:=fun id b hl hf=>by
  have hl':Ev.live S (rn l id):=by
   unfold Ev.live at *
   cases hc:Ev.cur S' id with
   | none=>exact absurd hc hl
   | some g=>rw [f.cur hS hc]; simp
  obtain ⟨p,q⟩:=e.own _ b hl' hf
  refine ⟨fun h=>?_,fun h=>?_⟩
  ·
   rw [f.lo id h] at p; exact p h
  ·
   rcases (f.live hl).2 with z | z
   ·
    omega
   ·
    exact q (f.hi id z)
 back:=fun id g hid hi=>by
  have:=f.isIt hi
  rw [f.lo id hid] at this
  exact e.back id g hid this
 keep:=fun id g b hid h0 hi hf=>by
  have:=f.isIt hi
  rw [f.lo id hid] at this
  have:=e.keep id g b hid h0 this hf
  show cx.fp (rn l id) b
  rw [f.lo id hid]; exact this
 curs:=fun id g hid hg=>by
  have:=f.cur hS hg
  rw [f.lo id hid] at this
  obtain ⟨g0,h0,h1,h2⟩:=e.curs id g hid this
  refine ⟨g0,h0,h1,fun hq=>?_⟩
  show cx.bm (rn l id)=_∧cx.tsz (rn l id)=_∧cx.tot (rn l id)=_
  rw [f.lo id hid]; exact h2 hq
theorem vQ {nt:Nat} {e:Env} {a:Act} (S0:St) (hS:aB R cx S w) (x:Ext cx0 S0 w0 cx S w) (he:bW cx S w nt e a) :
  ∃ cx',aB R cx' (canon S0 nt e S).2 w∧Ext cx0 S0 w0 cx' (canon S0 nt e S).2 w∧bW cx' (canon S0 nt e S).2 w nt (canon S0 nt e S).1 a:=by
 unfold canon
 simp only
 cases hr:yX S0.nx (uH S0 nt e S).1 e S (uH S0 nt e S).2.1 (uH S0 nt e S).2.2 with
 | false=>exact ⟨cx,hS,x,he⟩
 | true =>
  simp only [cond_true]
  obtain ⟨f,g⟩:=xM hr
  refine ⟨cx.pull _,f.D6 hS,f.ext hS x,he.size,fun t y hy=>?_⟩
  obtain ⟨g1,g2⟩:=g t y hy
  obtain ⟨v,v1,v2⟩:=he.rel t _ g2
  exact ⟨v,v1,f.Ct hS v2 y rfl g1⟩
end
end
end Go.Ev

namespace Go.Ev
noncomputable section
set_option linter.unusedVariables false
set_option linter.unusedSimpArgs false
theorem wK:∀ {x y:AL iU},yE x y=true→x=y
 | [],[],_=>rfl
 | [],_ :: _,h=>by cases h
 | _ :: _,[],h=>by cases h
 | (k,b) :: l,(k',b') :: l',h=>by
  simp only [yE,Bool.and_eq_true] at h
  rw [Nat.eq_of_beq_eq_true h.1.1,qN h.1.2,wK h.2]
theorem wJ:∀ {x y:AL Nat},yJ x y=true→x=y
 | [],[],_=>rfl
 | [],_ :: _,h=>by cases h
 | _ :: _,[],h=>by cases h
 | (k,b) :: l,(k',b') :: l',h=>by
  simp only [yJ,Bool.and_eq_true] at h
  rw [Nat.eq_of_beq_eq_true h.1.1,Nat.eq_of_beq_eq_true h.1.2,wJ h.2]
theorem vI:∀ {x y:Env},yR x y=true→x=y
 | [],[],_=>rfl
 | [],_ :: _,h=>by cases h
 | _ :: _,[],h=>by cases h
 | (k,b) :: l,(k',b') :: l',h=>by
  simp only [yR,Bool.and_eq_true] at h
  rw [Nat.eq_of_beq_eq_true h.1.1,AV.same_eq _ _ h.1.2,vI h.2]
theorem wR {x y:St} (h:yZ x y=true):x=y:=by
 obtain ⟨H,T,nx⟩:=x
 obtain ⟨H',T',nx'⟩:=y
 simp only [yZ,Bool.and_eq_true] at h
 rw [Nat.eq_of_beq_eq_true h.1.1,wJ h.1.2,wK h.2]
theorem vK {x y:Item} (h:kL x y=true):x=y:=by
 obtain ⟨l,e,S⟩:=x
 obtain ⟨l',e',S'⟩:=y
 simp only [kL,Bool.and_eq_true] at h
 rw [eq_of_beq h.1.1,vI h.1.2,wR h.2]
theorem j6:∀ {l:List Item},∀ x ∈ l,x ∈ nE l
 | [],x,hx=>by cases hx
 | y :: l,x,hx=>by
  simp only [nE]
  rcases List.mem_cons.1 hx with rfl | hx
  ·
   cases hh:l.any (kL x) with
   | false=>simp
   | true =>
    simp only [cond_true]
    rw [List.any_eq_true] at hh
    obtain ⟨z,hz,hs⟩:=hh
    have:=vK hs
    subst this
    exact j6 x hz
  ·
   cases hh:l.any (kL y) with
   | false=>exact List.mem_cons_of_mem _ (j6 x hx)
   | true=>exact j6 x hx
theorem wD {R:aM} {C:bN} (hR:dZ R C) {h:gu} (hh:jl R C.P h) {nt:Nat} {ops:Array Oper} {S0:St} {cx0:Cx} {w0:World} {Q:Exit→Act→World→Prop} {df:List Deferred} :
  ∀ (n:Nat) (l rs:List Item),wQ C h nt ops S0 n l=some rs→∀ x ∈ l,∀ (cx:Cx) (w:World) (a:Act),aB R cx x.S w→Ext cx0 S0 w0 cx x.S w→bW cx x.S w nt x.e a→a.defers=df →
  (∀ y ∈ rs,∀ cx' a' w',aB R cx' y.S w'→Ext cx0 S0 w0 cx' y.S w'→bW cx' y.S w' nt y.e a'→a'.defers=df→Q .normal a' w')→wpAny C.P .any ops Q n x.listed a w:=by
 intro n
 induction n with
 | zero =>
  intro l rs hd x hx cx w a hS hE he hdf hk
  simp only [wQ] at hd
  cases ha:(l.all fun x=>(Region.ready .any ops x.listed).isEmpty) with
  | false=>rw [ha] at hd; cases hd
  | true =>
   rw [ha] at hd
   simp only [cond_true,Option.some.injEq] at hd
   subst hd
   have:=List.all_eq_true.1 ha x hx
   exact ⟨List.isEmpty_iff.1 this,hk x hx cx a w hS hE he hdf⟩
 | succ n ih =>
  intro l rs hd x hx cx w a hS hE he hdf hk
  simp only [wQ] at hd
  split at hd
  ·
   rename_i l' hl'
   obtain ⟨ys,hy1,hy2⟩:=iI hl' x hx
   unfold expand at hy1
   split at hy1
   ·
    cases hy1
   ·
    rename_i rd hrd
    refine ⟨fun hnil=>absurd hnil hrd,fun i hi=>?_⟩
    obtain ⟨zs,hz1,hz2⟩:=iI hy1 i hi
    split at hz1
    ·
     rename_i o ho
     split at hz1
     ·
      rename_i rs' hst
      refine oH hR hh hst hS he (fun r hr=>?_) ho
      obtain ⟨it,hi1,hi2⟩:=jQ hz1 r hr
      cases r with
      | stop v S'=>cases hi1
      | go e' S' =>
       simp only [Option.some.injEq] at hi1
       subst hi1
       intro cx1 a1 w1 s1 x1 er1 d1
       obtain ⟨cx2,t1,t2,t3⟩:=vQ (nt:=nt) S0 s1 (hE.trans x1) er1
       exact ih (nE l') rs hd _ (j6 _ (hy2 _ (hz2 _ hi2))) cx2 w1 a1 t1 t2 t3 (d1.trans hdf) hk
     ·
      cases hz1
    ·
     cases hz1
  ·
   cases hd
end
end Go.Ev

namespace Go.Ev
noncomputable section
set_option linter.unusedVariables false
set_option linter.unusedSimpArgs false
theorem AL.qa {α:Type}:∀ (l:AL α) (seen:List Nat) (n:Nat),AL.get (AL.tidy l seen) n=if seen.contains n then none else AL.get l n
 | [],seen,n=>by simp [AL.tidy,AL.get]
 | (k,v) :: l,seen,n=>by
  simp only [AL.tidy]
  cases hk:seen.contains k with
  | true =>
   simp only [cond_true]
   rw [AL.qa l seen n,AL.bF]
   by_cases hn:k=n
   ·
    subst hn; rw [hk]; simp
   ·
    simp [hn]
  | false =>
   simp only [cond_false]
   rw [AL.bF,AL.bF,AL.qa l (k :: seen) n]
   by_cases hn:k=n
   ·
    subst hn; rw [hk]; simp
   ·
    simp [hn,Ne.symm hn,List.contains_cons]
theorem AL.dC {α:Type}:∀ (l m:AL α) (n:Nat) (x:α),AL.get (AL.over l m) n=some x→AL.get m n=some x∧AL.get l n ≠ none
 | [],m,n,x,h=>by simp [AL.over,AL.get] at h
 | (k,v) :: l,m,n,x,h=>by
  simp only [AL.over] at h
  rw [AL.bF]
  cases hm:AL.get m k with
  | none =>
   rw [hm] at h
   have:=AL.dC l m n x h
   refine ⟨this.1,?_⟩
   by_cases hn:k=n
   ·
    simp [hn]
   ·
    simp [hn]; exact this.2
  | some y =>
   rw [hm] at h
   simp only [AL.bF] at h
   by_cases hn:k=n
   ·
    subst hn; simp at h; subst h; exact ⟨hm,by simp⟩
   ·
    rw [if_neg hn] at h
    have:=AL.dC l m n x h
    exact ⟨this.1,by simp [hn]; exact this.2⟩
theorem nR (n j:Nat):(Array.replicate n false).getD j false=false:=by
 unfold Array.getD; split <;> simp
theorem qp {n:Nat}:∀ {e:Env},rD n e=true→∀ t x,AL.get e t=some x→x.under n=true
 | [],_,t,x,h=>by simp [AL.get] at h
 | (k,v) :: l,hb,t,x,h=>by
  simp only [rD,Bool.and_eq_true] at hb
  rw [AL.bF] at h
  by_cases hk:k=t
  ·
   rw [if_pos hk] at h; cases h; exact hb.1
  ·
   rw [if_neg hk] at h; exact qp hb.2 t x h
def gm (S0 S:St):St:={ H:=AL.over S0.H S.H,T:=AL.over S0.T S.T,nx:=S0.nx }
theorem fD {R:aM} {cx:Cx} {S0 S:St} {w:World} (h:aB R cx S w) {id g:Nat} (hc:cur (gm S0 S) id=some g):cur S id=some g:=by
 unfold cur at hc ⊢
 unfold gm at hc
 simp only at hc
 cases hH:AL.get (AL.over S0.H S.H) id with
 | some b =>
  rw [hH] at hc
  rw [(AL.dC _ _ _ _ hH).1]
  cases b <;> exact hc
 | none =>
  rw [hH] at hc
  simp only at hc
  have hT:=(AL.dC _ _ _ _ hc).1
  cases hS:S.H.get id with
  | some b=>have:=h.kC id b hS; rw [this] at hT; cases hT
  | none=>exact hT
theorem zm {S0 S:St} {id:Nat} (hl:live (gm S0 S) id):live S0 id:=by
 unfold live cur at hl ⊢
 unfold gm at hl
 simp only at hl
 cases hH:AL.get (AL.over S0.H S.H) id with
 | some b =>
  have:=(AL.dC _ _ _ _ hH).2
  cases h0:S0.H.get id with
  | none=>exact absurd h0 this
  | some b0=>cases b0 <;> simp
 | none =>
  rw [hH] at hl
  simp only at hl
  cases hT:AL.get (AL.over S0.T S.T) id with
  | none=>exact absurd hT hl
  | some en =>
   have:=(AL.dC _ _ _ _ hT).2
   cases h0:S0.H.get id with
   | none=>exact this
   | some b0=>cases b0 <;> simp
theorem jG {S0 S:St} {k g:Nat} (h:isIt (gm S0 S) k g):isIt S k g:=(AL.dC _ _ _ _ h).1
theorem qM {R:aM} {cx:Cx} {S0 S:St} {w:World} (h:aB R cx S w) {i:Nat} (hi:cur (gm S0 S) i ≠ none):cur S i ≠ none:=by
 cases hc:cur (gm S0 S) i with
 | none=>exact absurd hc hi
 | some g=>rw [fD h hc]; simp
theorem av.drop {R:aM} {cx:Cx} {S0 S:St} {w:World} (h:aB R cx S w) {x:AV} {v:Value} (hx:av cx S w x v) (hu:x.under S0.nx=true):av cx (gm S0 S) w x v:=by
 have nm:∀ {id g:Nat},Names S id g→id < S0.nx→Names (gm S0 S) id g:=fun hn hlt=>⟨hlt,fun g' hg=>hn.2 g' (fD h hg)⟩
 induction hx with
 | d x v hd=>exact .d x v hd
 | tsl xs tok b off cap hn hd hp =>
  simp only [AV.under] at hu
  exact .tsl xs tok b off cap (nm hn (Nat.le_of_ble_eq_true hu)) hd (fun hc=>hp (fD h hc))
 | ptr id g off b hn hp =>
  simp only [AV.under] at hu
  exact .ptr id g off b (nm hn (Nat.le_of_ble_eq_true hu)) (fun hc=>hp (fD h hc))
 | msl id g off len lim sz b cap hn hl hcap h63 hp =>
  simp only [AV.under] at hu
  exact .msl id g off len lim sz b cap (nm hn (Nat.le_of_ble_eq_true hu)) hl hcap h63 (fun hc=>hp (fD h hc))
 | any v=>exact .any v
 | eptr x off b o vs hd hc=>exact .eptr x off b o vs hd hc
 | map id b hn hp =>
  simp only [AV.under] at hu
  exact .map id b (nm hn (Nat.le_of_ble_eq_true hu)) (fun hc=>hp (fD h hc))
 | asl id g off len sz b hn h63 hp =>
  simp only [AV.under] at hu
  exact .asl id g off len sz b (nm hn (Nat.le_of_ble_eq_true hu)) h63 (fun hc=>hp (fD h hc))
 | fn f cs vs hl hr ih=>exact .fn f cs vs hl (fun i x v hx hv=>ih i x v hx hv (by simp only [AV.under] at hu; exact dL hu x (List.mem_of_getElem? hx)))
 | agg xs vs hl ho hr ih=>exact .agg xs vs hl ho (fun i x v hx hv=>ih i x v hx hv (by simp only [AV.under] at hu; exact dL hu x (List.mem_of_getElem? hx)))
 | tup xs vs hl hr ih=>exact .tup xs vs hl (fun i x v hx hv=>ih i x v hx hv (by simp only [AV.under] at hu; exact dL hu x (List.mem_of_getElem? hx)))
 | it0 k g since st b seen hn hp =>
  simp only [AV.under] at hu
  refine .it0 k g since st b seen (nm hn (Nat.le_of_ble_eq_true hu)) (fun hk=>?_)
  obtain ⟨p1,p2,p3,p4⟩:=hp (jG hk)
  exact ⟨p1,p2,fun i hi hf=>p3 i (qM h hi) hf,p4⟩
 | it k g id since st b m seen hn hni hm hp =>
  simp only [AV.under,Bool.and_eq_true] at hu
  refine .it k g id since st b m seen (nm hn (Nat.le_of_ble_eq_true hu.1)) (nm hni (Nat.le_of_ble_eq_true hu.2)) (fun hc=>hm (fD h hc)) (fun hk=>?_)
  obtain ⟨p1,p2,p3,p4⟩:=hp (jG hk)
  exact ⟨p1,p2,fun i hi hf=>p3 i (qM h hi) hf,p4⟩
theorem qD {R:aM} {cx0 cx:Cx} {S0 S:St} {w0 w:World} (wf0:∀ id,live S0 id→id < S0.nx) (h:aB R cx S w) (e:Ext cx0 S0 w0 cx S w) (hb:fK S0.nx (AL.over S0.H S.H)=true) :
  aB R cx (gm S0 S) w∧Ext cx0 S0 w0 cx (gm S0 S) w:=by
 have hlS:∀ id,live (gm S0 S) id→live S id:=fun id hl=>by
  unfold live at *
  cases hc:cur (gm S0 S) id with
  | none=>exact absurd hc hl
  | some g=>rw [fD h hc]; simp
 refine ⟨⟨fun id hl=>wf0 id (zm hl),fun id b hi=>?_,fun id g cs hi=>?_,fun id es hi=>?_,fun id k x hi=>?_,fun id en hi=>?_,fun id id' b a1 a2=>h.sep id id' b (hlS id a1) (hlS id' a2),h.lt,h.stat⟩,?_⟩
 ·
  have hS:=(AL.dC _ _ _ _ hi).1
  cases hT:(gm S0 S).T.get id with
  | none=>rfl
  | some en=>have:=(AL.dC _ _ _ _ hT).1; rw [h.kC id b hS] at this; cases this
 ·
  obtain ⟨c1,c2,arr,el,c3,c4,c5⟩:=h.cells id g cs (AL.dC _ _ _ _ hi).1
  have hbl:=(iZ hb id _ hi).1 g cs rfl
  refine ⟨c1,c2,arr,el,c3,c4,fun i x hx=>?_⟩
  obtain ⟨v,v1,v2,v3⟩:=c5 i x hx
  exact ⟨v,v1,v2.drop h (dL hbl x (List.mem_of_getElem? hx)),v3⟩
 ·
  obtain ⟨c1,c2,ms,clk,c3,c4,c5⟩:=h.maps id es (AL.dC _ _ _ _ hi).1
  have hbl:=(iZ hb id _ hi).2 es rfl
  refine ⟨c1,c2,ms,clk,c3,c4,fun i p m hp hm=>?_⟩
  obtain ⟨v1,v2⟩:=c5 i p m hp hm
  exact ⟨v1,v2.drop h (hbl p (List.mem_of_getElem? hp))⟩
 ·
  exact h.objs id k x (AL.dC _ _ _ _ hi).1
 ·
  exact h.toks id en (AL.dC _ _ _ _ hi).1
 ·
  refine ⟨e.size,e.os,e.tape,e.output,Nat.le_refl _,e.prot,fun b hb hn=>e.other b hb (fun id hl hf=>by
   obtain ⟨q1,g,q2,q3⟩:=hn id hl hf
   exact ⟨q1,g,q2,jG q3⟩),fun id b hl hf=>?_,fun id g hid hi=>e.back id g hid (jG hi),fun id g b hid h0 hi hf=>e.keep id g b hid h0 (jG hi) hf,fun id g hid hg=>e.curs id g hid (fD h hg)⟩
  exact e.own id b (hlS id hl) hf
def Fin (R:aM) (cx:Cx) (S:St) (w:World) (nt:Nat) (a:Act) (Q:Exit→Act→World→Prop) (r:Ec × Env × St):Prop :=
 match r.1 with
 | .normal=>∀ cx' a' w',aB R cx' r.2.2 w'→Ext cx S w cx' r.2.2 w'→bW cx' r.2.2 w' nt r.2.1 a'→a'.defers=a.defers→Q .normal a' w'
 | .exit id=>∀ cx' a' w',aB R cx' r.2.2 w'→Ext cx S w cx' r.2.2 w'→bW cx' r.2.2 w' nt r.2.1 a'→a'.defers=a.defers→Q (.exit id) a' w'
 | .ret=>∀ cx' a' w',aB R cx' r.2.2 w'→Ext cx S w cx' r.2.2 w'→bW cx' r.2.2 w' nt r.2.1 a'→a'.defers=a.defers→Q .ret a' w'
 | .panic v=>∀ cx' a' w' u,aB R cx' r.2.2 w'→Ext cx S w cx' r.2.2 w'→av cx' r.2.2 w' v u→a'.defers=a.defers→Q (.panic [{ v:=u,recovered:=false }]) a' w'
theorem Fin.trans {R:aM} {cx cx1:Cx} {S S1:St} {w w1:World} {nt:Nat} {a a1:Act} {Q:Exit→Act→World→Prop} {r:Ec × Env × St} (x:Ext cx S w cx1 S1 w1) (d:a1.defers=a.defers) (h:Fin R cx S w nt a Q r):Fin R cx1 S1 w1 nt a1 Q r:=by
 unfold Fin at *
 split at h
 ·
  exact fun cx' a' w' q1 q2 q3 q4=>h cx' a' w' q1 (x.trans q2) q3 (q4.trans d)
 ·
  exact fun cx' a' w' q1 q2 q3 q4=>h cx' a' w' q1 (x.trans q2) q3 (q4.trans d)
 ·
  exact fun cx' a' w' q1 q2 q3 q4=>h cx' a' w' q1 (x.trans q2) q3 (q4.trans d)
 ·
  exact fun cx' a' w' u q1 q2 q3 q4=>h cx' a' w' u q1 (x.trans q2) q3 (q4.trans d)
def codeOk:Code→Bool
 | .region _ ops draw=>!draw || kR ops
 | .seq a b=>codeOk a && codeOk b
 | .cond _ a b=>codeOk a && codeOk b
 | .block _ a=>codeOk a
 | .loop a=>codeOk a
 | _=>true
def Sound (R:aM) (P:Program) (nt:Nat) (c:Code) (f:Env→St→Option (List jR)):Prop :=
 ∀ (cx:Cx) (S:St) (w:World) (e:Env) (a:Act) (rs:List jR) (Q:Exit→Act→World→Prop),f e S=some rs→aB R cx S w→bW cx S w nt e a→(∀ r ∈ rs,Fin R cx S w nt a Q r)→c.wp P Q a w
theorem bW.over {cx:Cx} {S:St} {w:World} {nt:Nat} {e0 e:Env} {a:Act} (h:bW cx S w nt e a):bW cx S w nt (AL.over e0 e) a :=
 ⟨h.size,fun t x hx=>h.rel t x (AL.dC _ _ _ _ hx).1⟩
theorem yA {R:aM} {P:Program} {nt:Nat} {c:Code} {f:Env→St→Option (List jR)} (hf:Sound R P nt c f):∀ (n:Nat) (cx:Cx) (S:St) (w:World) (e:Env) (a:Act) (rs:List jR) (Q:Exit→Act→World→Prop),
  uh f n e S=some rs→aB R cx S w→bW cx S w nt e a→(∀ r ∈ rs,Fin R cx S w nt a Q r)→∀ (b:Frame) (k:List Go.Item) (cs:List Frame),
   ∃ x a' w',Q x a' w'∧Arrives P (lone (b.at a (.code c :: .inLoop c :: k)) cs w) b k cs x a' w':=by
 intro n
 induction n with
 | zero=>intro cx S w e a rs Q h; simp [uh] at h
 | succ n ih =>
  intro cx S w e a rs Q h hS he hk b k cs
  simp only [uh] at h
  have wf:=hS.wf
  let Q':Exit→Act→World→Prop:=fun x a' w'=>match x with
   | .normal=>∃ cx1 e1 S1 rs1,aB R cx1 S1 w'∧bW cx1 S1 w' nt e1 a'∧Ext cx S w cx1 S1 w'∧a'.defers=a.defers∧uh f n e1 S1=some rs1∧∀ r ∈ rs1,r ∈ rs
   | x=>Q x a' w'
  have hround:c.wp P Q' a w:=by
   split at h
   ·
    rename_i rs0 hb
    refine hf cx S w e a rs0 Q' hb hS he (fun r hr=>?_)
    obtain ⟨rs1,h1,h2⟩:=iI h r hr
    obtain ⟨x,e',S'⟩:=r
    cases x with
    | normal =>
     intro cx' a' w' q1 q2 q3 q4
     simp only [roundEnd] at h1 q1 q2 q3
     by_cases hc:(rD S.nx (AL.over e e') && fK S.nx (AL.over S.H S'.H))=true
     ·
      rw [if_pos hc] at h1
      simp only [Bool.and_eq_true] at hc
      obtain ⟨d1,d2⟩:=qD wf q1 q2 hc.2
      exact ⟨cx',_,_,rs1,d1,⟨q3.size,fun t x hx=>by
       obtain ⟨v,v1,v2⟩:=q3.rel t x (AL.dC _ _ _ _ hx).1
       exact ⟨v,v1,v2.drop q1 (qp hc.1 t x hx)⟩⟩,d2,q4,h1,h2⟩
     ·
      rw [if_neg hc] at h1
      exact ⟨cx',_,S',rs1,q1,q3.over,q2,q4,h1,h2⟩
    | exit id =>
     simp only [Option.some.injEq] at h1
     subst h1
     have hk':=hk _ (h2 _ (List.mem_singleton.2 rfl))
     unfold Fin at hk' ⊢
     exact fun cx' a' w' q1 q2 q3 q4=>hk' cx' a' w' q1 q2 q3.over q4
    | ret =>
     simp only [Option.some.injEq] at h1
     subst h1
     have hk':=hk _ (h2 _ (List.mem_singleton.2 rfl))
     unfold Fin at hk' ⊢
     exact fun cx' a' w' q1 q2 q3 q4=>hk' cx' a' w' q1 q2 q3.over q4
    | panic v =>
     simp only [Option.some.injEq] at h1
     subst h1
     have hk':=hk _ (h2 _ (List.mem_singleton.2 rfl))
     unfold Fin at hk' ⊢
     exact fun cx' a' w' u q1 q2 q3 q4=>hk' cx' a' w' u q1 q2 q3 q4
   ·
    cases h
  obtain ⟨x,a₁,w₁,hq,harr⟩:=hround b (.inLoop c :: k) cs
  cases x with
  | normal =>
   obtain ⟨cx1,e1,S1,rs1,s1,er1,x1,d1,hl,hsub⟩:=hq
   obtain ⟨x2,a₂,w₂,hq₂,harr₂⟩:=ih cx1 S1 w₁ e1 a₁ rs1 Q hl s1 er1 (fun r hr=>(hk r (hsub r hr)).trans x1 d1) b k cs
   exact ⟨x2,a₂,w₂,hq₂,.of_steps (Steps.trans harr (.one step_inLoop)) harr₂⟩
  | exit id=>exact ⟨_,a₁,w₁,hq,.pass (x:=.inLoop c) rfl (fun _ _=>.inl (by simp)) harr⟩
  | goto l=>exact ⟨_,a₁,w₁,hq,.pass (x:=.inLoop c) rfl (fun _ _=>.inl (by simp)) harr⟩
  | ret=>exact ⟨_,a₁,w₁,hq,.pass (x:=.inLoop c) rfl (fun _ _=>.inl (by simp)) harr⟩
  | panic ch=>exact ⟨_,a₁,w₁,hq,.pass (x:=.inLoop c) rfl (fun _ _=>.inl (by simp)) harr⟩
  | outgrown=>exact ⟨_,a₁,w₁,hq,.pass (x:=.inLoop c) rfl (fun _ _=>.inl (by simp)) harr⟩
theorem gL {R:aM} {C:bN} (hR:dZ R C) (hm:C.P.follows .mixedOrders=true) {h:gu} (hh:jl R C.P h) (hp:qw (BA h)) {n nt:Nat}:∀ (c:Code),codeOk c=true→Sound R C.P nt c (si C h n nt c)
 | .skip,_=>by
  intro cx S w e a rs Q hv hS he hk
  simp only [si,Option.some.injEq] at hv; subst hv
  exact wp_skip (hk (.normal,e,S) (by simp) cx a w hS (Ext.refl w hS.wf) he rfl)
 | .exit id,_=>by
  intro cx S w e a rs Q hv hS he hk
  simp only [si,Option.some.injEq] at hv; subst hv
  exact wp_exit (hk (.exit id,e,S) (by simp) cx a w hS (Ext.refl w hS.wf) he rfl)
 | .ret,_=>by
  intro cx S w e a rs Q hv hS he hk
  simp only [si,Option.some.injEq] at hv; subst hv
  exact wp_ret (hk (.ret,e,S) (by simp) cx a w hS (Ext.refl w hS.wf) he rfl)
 | .region id ops false,hok=>by
  intro cx S w e a rs Q hv hS he hk
  simp only [si] at hv
  refine wp_region ?_
  simp only [Option.map_eq_some_iff] at hv
  obtain ⟨rs0,hev,rfl⟩:=hv
  have:=r9 hR hh (Q:=Q) (nt:=nt) (ops:=ops) ops.toList 0 (by simp) hev hS he (fun r hr=>by
   have hk':=hk (Af e r) (List.mem_map.2 ⟨r,hr,rfl⟩)
   cases r with
   | go e' S'=>exact fun cx' a' w' q1 q2 q3 q4=>hk' cx' a' w' q1 q2 q3 q4
   | stop v S'=>exact fun cx' a' w' u q1 q2 q3 q4=>hk' cx' a' w' u q1 q2 q3 q4)
  simpa using this
 | .region id ops true,hok=>by
  intro cx S w e a rs Q hv hS he hk
  simp only [si] at hv
  have every:yK C h nt ops e S=some rs→(Code.region id ops true).wp C.P Q a w:=fun hd=>by
   unfold yK at hd
   simp only [Option.map_eq_some_iff] at hd
   obtain ⟨ls,hd,rfl⟩:=hd
   obtain ⟨d1,d2⟩:=gK hR.toObjOk hS
   refine wp_region_any hm ?_
   exact wD hR hh (S0:=S) (cx0:=cx) (w0:=w) (df:=a.defers) ops.size _ ls hd _ (List.mem_singleton.2 rfl) cx w.drew a d1 d2 (he.mono d2) rfl
    (fun y hy cx' a' w' q1 q2 q3 q4=>hk (.normal,y.e,y.S) (List.mem_map.2 ⟨y,hy,rfl⟩) cx' a' w' q1 q2 q3 q4)
  split at hv
  ·
   rename_i ks e' S' hev
   cases hpk:uw ops ks with
   | false=>rw [hpk] at hv; exact every hv
   | true =>
    rw [hpk] at hv
    simp only [cond_true,Option.some.injEq] at hv; subst hv
    simp only [codeOk,Bool.not_true,Bool.false_or] at hok
    obtain ⟨d1,d2⟩:=gK hR.toObjOk hS
    refine wp_region_any hm ?_
    have hkj:∀ j d,ks[j]? = some d→(kinds ks).getD j 2=kindOf ((ks.map (·.ids)).flatten) d:=fun j d hj=>by
     simp only [kinds,List.getD,List.getElem?_map,hj,Option.map_some,Option.getD_some]
     rfl
    obtain ⟨hi,hlen⟩:=qc (K:=fun i=>(kinds ks).getD i 2) (I:=(ks.map (·.ids)).flatten) hp ops.toList 0 (by simp) hev (fun j d hj=>by rw [Nat.zero_add]; exact hkj j d hj) (fun d hd id hid=>List.mem_flatten.2 ⟨d.ids,List.mem_map.2 ⟨d,hd,rfl⟩,hid⟩)
    have hfl:((List.range ops.size).filter fun i=>!(Array.replicate ops.size false).getD i false)=List.range ops.size:=by
     rw [List.filter_eq_self]; intro i hi; rw [nR]; rfl
    have hK:∀ i k,k < i→i < ops.size→((Region.before ops).getD i 0).testBit k=true∨CY ((kinds ks).getD k 2) ((kinds ks).getD i 2)=true:=by
     intro i k hk hi
     unfold uw at hpk
     simp only [Bool.or_eq_true] at hpk
     rcases hpk with q | q
     ·
      right
      have hle:∀ j,j < ops.size→(kinds ks).getD j 2 ≤ 1:=fun j hj=>by
       have hjl:j < ks.length:=by rw [hlen]; simpa using hj
       have hk1:=Nat.le_of_ble_eq_true (List.all_eq_true.1 q ks[j] (List.getElem_mem hjl))
       rw [hkj j _ (List.getElem?_eq_getElem hjl)]
       unfold kindOf
       cases hb:Nat.beq ks[j].k 2 with
       | false=>exact hk1
       | true=>have:=Nat.eq_of_beq_eq_true hb; omega
      have h1:=hle k (by omega)
      have h2:=hle i hi
      generalize (kinds ks).getD k 2=x at h1 ⊢
      generalize (kinds ks).getD i 2=y at h2 ⊢
      match x,y,h1,h2 with
      | 0,_,_,_=>rfl
      | 1,0,_,_=>rfl
      | 1,1,_,_=>rfl
     ·
      have:=List.all_eq_true.1 q i (List.mem_range.2 hi)
      have:=List.all_eq_true.1 this k (List.mem_range.2 hk)
      simpa only [Bool.or_eq_true] using this
    refine Ap hR (CP hh) hok hK ops.size (Array.replicate ops.size false) (cx:=cx) (S:=S) (S':=S') (w:=w.drew) (e:=e) (e':=e') (by simp) (fun j hj=>by rw [nR] at hj; cases hj) (by rw [hfl]; simp) (by rw [hfl]; simpa using hi) d1 (he.mono d2) (fun cx' a' w' e'' q1 q2 q3 q4 q5=>?_)
    exact hk (.normal,e',S') (by simp) cx' a' w' q1 (d2.trans q2) ⟨q3.size,fun t x hx=>q3.rel t x (by rw [q4 t]; exact hx)⟩ q5
  ·
   exact every hv
 | .seq x y,hok=>by
  simp only [codeOk,Bool.and_eq_true] at hok
  intro cx S w e a rs Q hv hS he hk
  simp only [si] at hv
  refine wp_seq ?_
  split at hv
  ·
   rename_i rs0 hx
   refine gL hR hm hh hp x hok.1 cx S w e a rs0 _ hx hS he (fun r hr=>?_)
   obtain ⟨rs1,h1,h2⟩:=iI hv r hr
   obtain ⟨x1,e',S'⟩:=r
   cases x1 with
   | normal =>
    intro cx' a' w' q1 q2 q3 q4
    exact gL hR hm hh hp y hok.2 cx' S' w' e' a' rs1 Q h1 q1 q3 (fun r hr=>(hk r (h2 r hr)).trans q2 q4)
   | exit id=>simp only [Option.some.injEq] at h1; subst h1; exact hk _ (h2 _ (List.mem_singleton.2 rfl))
   | ret=>simp only [Option.some.injEq] at h1; subst h1; exact hk _ (h2 _ (List.mem_singleton.2 rfl))
   | panic v=>simp only [Option.some.injEq] at h1; subst h1; exact hk _ (h2 _ (List.mem_singleton.2 rfl))
  ·
   cases hv
 | .cond c x y,hok=>by
  simp only [codeOk,Bool.and_eq_true] at hok
  intro cx S w e a rs Q hv hS he hk
  simp only [si] at hv
  split at hv
  ·
   rename_i hc
   exact wp_cond_true ((he.eval c _ hc).bool) (gL hR hm hh hp x hok.1 cx S w e a rs Q hv hS he hk)
  ·
   rename_i hc
   exact wp_cond_false ((he.eval c _ hc).bool) (gL hR hm hh hp y hok.2 cx S w e a rs Q hv hS he hk)
  ·
   cases hv
 | .block id c,hok=>by
  simp only [codeOk] at hok
  intro cx S w e a rs Q hv hS he hk
  simp only [si,Option.map_eq_some_iff] at hv
  obtain ⟨rs0,hx,rfl⟩:=hv
  refine wp_block ?_
  refine gL hR hm hh hp c hok cx S w e a rs0 _ hx hS he (fun r hr=>?_)
  have hk':=hk _ (List.mem_map.2 ⟨r,hr,rfl⟩)
  obtain ⟨x1,e',S'⟩:=r
  cases x1 with
  | normal=>exact hk'
  | exit j =>
   simp only at hk'
   by_cases hj:j=id
   ·
    subst hj
    rw [if_pos rfl] at hk'
    intro cx' a' w' q1 q2 q3 q4
    simp only [Exit.inBlock,if_true]
    exact hk' cx' a' w' q1 q2 q3 q4
   ·
    rw [if_neg hj] at hk'
    intro cx' a' w' q1 q2 q3 q4
    simp only [Exit.inBlock,if_neg hj]
    exact hk' cx' a' w' q1 q2 q3 q4
  | ret=>exact hk'
  | panic v=>exact hk'
 | .loop c,hok=>by
  simp only [codeOk] at hok
  intro cx S w e a rs Q hv hS he hk b k cs
  simp only [si] at hv
  have he':bW cx S w nt (AL.tidy e []) a:=⟨he.size,fun t x hx=>he.rel t x (by rw [AL.qa] at hx; simpa using hx)⟩
  obtain ⟨x,a',w',q,harr⟩:=yA (gL hR hm hh hp c hok) n cx S w _ a rs Q hv hS he' hk b k cs
  exact ⟨x,a',w',q,.of_steps (.one step_loop) harr⟩
 | .rangeFunc _ _ _ _,_=>by intro cx S w e a rs Q hv; simp [si] at hv
 | .scope _,_=>by intro cx S w e a rs Q hv; simp [si] at hv
 | .label _,_=>by intro cx S w e a rs Q hv; simp [si] at hv
 | .goto _,_=>by intro cx S w e a rs Q hv; simp [si] at hv
 | .refuse _,_=>by intro cx S w e a rs Q hv; simp [si] at hv
end
end Go.Ev

namespace Go.Ev
noncomputable section
set_option linter.unusedVariables false
set_option linter.unusedSimpArgs false
theorem l7:∀ (l:List AV) (k t:Nat),AL.get (iT k l) t=if k ≤ t then l[t - k]? else none
 | [],k,t=>by simp [iT,AL.get]
 | v :: l,k,t=>by
  simp only [iT]
  rw [AL.bF,l7 l (k + 1) t]
  by_cases h:k=t
  ·
   subst h; simp
  ·
   by_cases h2:k ≤ t
   ·
    rw [if_neg h,if_pos (by omega),if_pos h2,show t - k=(t - (k + 1)) + 1 by omega]; simp
   ·
    rw [if_neg h,if_neg (by omega),if_neg h2]
def nA (tmps:Array Value):ResultVar→Sem Value
 | .tmp t=>pure (tmps.getD t undef)
 | .cell b t=>do loadVar t (← asAddr (tmps.getD b undef))
theorem zL {R:aM} {C:bN} {cx:Cx} {S:St} {w:World} (hS:aB R cx S w) {nt:Nat} {e:Env} {a:Act} (he:bW cx S w nt e a) {rv:ResultVar} {v:AV} (h:wU C e S rv=some v) :
  ∃ u,(nA a.tmps rv).run C.P w=.ok u w∧av cx S w v u:=by
 cases rv with
 | tmp t =>
  simp only [wU] at h
  obtain ⟨u,h1,h2⟩:=he.rel t v h
  exact ⟨u,by simp [nA,h1],h2⟩
 | cell b t =>
  simp only [wU] at h
  split at h
  ·
   rename_i p hp
   obtain ⟨u,h1,h2⟩:=he.rel b p hp
   obtain ⟨z,z1,z2⟩:=rT (C:=C) hS h h2
   refine ⟨z,?_,z2⟩
   have hu:a.tmps.getD b undef=u:=by simp [h1]
   simp only [nA,hu]
   unfold iP at h
   cases h2 with
   | ptr id g off bb hn hq=>simp only [asAddr,Sem.run_bind,Sem.run_pure,Result.andThen_ok]; rw [jY] at z1; exact z1
   | eptr x off bb o vs hc hm=>simp only [asAddr,Sem.run_bind,Sem.run_pure,Result.andThen_ok]; rw [jY] at z1; exact z1
   | _=>simp at h
  ·
   cases h
theorem gQ {R:aM} {C:bN} {cx:Cx} {S:St} {w:World} (hS:aB R cx S w) {nt:Nat} {e:Env} {a:Act} (he:bW cx S w nt e a) {fn:Func} {v:AV} (h:jI C fn e S=some v) :
  ∃ u,(results fn a.tmps).run C.P w=.ok u w∧av cx S w v u:=by
 unfold jI at h
 have key:∀ {l:List ResultVar} {vs:List AV},dG (wU C e S) l=some vs→∃ us:List Value,us.length=vs.length∧(l.mapM (nA a.tmps)).run C.P w=.ok us w∧∀ (i:Nat) (x:AV) (u:Value),vs[i]? = some x→us[i]? = some u→av cx S w x u:=by
  intro l
  induction l with
  | nil=>intro vs h; simp [dG] at h; subst h; exact ⟨[],rfl,by simp,by simp⟩
  | cons rv l ih =>
   intro vs h
   simp only [dG] at h
   split at h
   ·
    rename_i y hy
    simp only [Option.map_eq_some_iff] at h
    obtain ⟨ys,hys,rfl⟩:=h
    obtain ⟨us,u1,u2,u3⟩:=ih hys
    obtain ⟨u,r1,r2⟩:=zL hS he hy
    refine ⟨u :: us,by simp [u1],?_,fun i x z hx hz=>?_⟩
    ·
     rw [List.mapM_cons]
     simp only [Sem.run_bind]
     rw [r1]
     simp only [Result.andThen_ok]
     rw [u2]
     rfl
    ·
     cases i with
     | zero=>simp at hx hz; subst hx; subst hz; exact r2
     | succ i=>exact u3 i x z (by simpa using hx) (by simpa using hz)
   ·
    cases h
 have run:∀ {us:List Value},(fn.results.toList.mapM (nA a.tmps)).run C.P w=.ok us w→(results fn a.tmps).run C.P w=.ok (if h:us.toArray.size=1 then us.toArray[0] else .tuple us.toArray) w:=by
  intro us hu
  have hres:results fn a.tmps=(do let vs ← fn.results.mapM (nA a.tmps); pure (if h:vs.size=1 then vs[0] else .tuple vs)):=rfl
  rw [hres,Array.mapM_eq_mapM_toList]
  simp only [Sem.run_bind,Sem.run_map,hu,Result.andThen_ok]
  rfl
 split at h
 ·
  rename_i x hx
  simp only [Option.some.injEq] at h; subst h
  obtain ⟨us,u1,u2,u3⟩:=key hx
  match us,u1 with
  | [u],_=>exact ⟨u,by rw [run u2]; rfl,u3 0 x u rfl rfl⟩
 ·
  rename_i vs hne hx
  simp only [Option.some.injEq] at h; subst h
  obtain ⟨us,u1,u2,u3⟩:=key hx
  refine ⟨.tuple us.toArray,?_,.tup vs us u1 u3⟩
  rw [run u2,dif_neg]
  intro q
  simp at q
  rw [u1] at q
  match vs,q with
  | [x],_=>exact hne x rfl
 ·
  cases h
structure uo (R:aM) (C:bN):Prop where
 obj:dZ R C
 mixed:C.P.follows .mixedOrders=true
 code:∀ f fn c,C.good f=true→C.P.funcs[f]? = some fn→fn.body=some c→codeOk c=true∧fn.name ≠ "runtime.NumGoroutine"
 primPure:∀ f args S v S',C.hasPrim f=true→C.prim f args S=some (v,S')→(fA args).isSome=true→(kH v).isSome=true→∀ S2,C.prim f args S2=some (v,S2)
 prim:∀ f args S v S',C.hasPrim f=true→C.prim f args S=some (v,S')→(∃ fn,C.P.funcs[f]? = some fn∧fn.body.isSome=true∧fn.name ≠ "runtime.NumGoroutine") ∧
  ∀ cx w (us:List Value),aB R cx S w→us.length=args.length→(∀ (i:Nat) (x:AV) (u:Value),args[i]? = some x→us[i]? = some u→av cx S w x u) →
  Calls C.P f us.toArray w (fun e w'=>∃ cx',aB R cx' S' w'∧Ext cx S w cx' S' w'∧∃ u,e=.returned u∧av cx' S' w' v u)
theorem l9 {R:aM} {C:bN} (ok:uo R C) {h:gu} (hh:jl R C.P h) (hpu:qw (BA h)) (n:Nat) {f:Nat} {args:List AV} {S:St} {os:List Out} (hb:vN C h n f args S=some os) :
  (∃ fn,C.P.funcs[f]? = some fn∧fn.body.isSome=true∧fn.name ≠ "runtime.NumGoroutine") ∧
  ∀ cx w (us:List Value),aB R cx S w→us.length=args.length→(∀ (i:Nat) (x:AV) (u:Value),args[i]? = some x→us[i]? = some u→av cx S w x u) →
  Calls C.P f us.toArray w (fun e w'=>∃ r ∈ os,∃ cx',aB R cx' r.2.2 w'∧Ext cx S w cx' r.2.2 w' ∧
   mK cx' r.2.2 w' r.1 r.2.1 e):=by
 unfold vN at hb
 split at hb
 ·
  rename_i fn hf
  split at hb
  ·
   rename_i c hc
   cases hg:(C.good f && Nat.ble args.length fn.ntmps) with
   | false=>rw [hg] at hb; cases hb
   | true =>
    rw [hg] at hb
    simp only [cond_true] at hb
    simp only [Bool.and_eq_true] at hg
    obtain ⟨hg,hle⟩:=hg
    have hle:=Nat.le_of_ble_eq_true hle
    obtain ⟨hcode,hname⟩:=ok.code f fn c hg hf hc
    refine ⟨⟨fn,hf,by simp [hc],hname⟩,fun cx w us hS hl hr=>?_⟩
    refine calls_of_wp hf hc ?_
    have he:bW cx S w fn.ntmps (iT 0 args) { tmps:=us.toArray ++ Array.replicate (fn.ntmps - us.toArray.size) undef,defers:=[] }:=by
     refine ⟨by simp; omega,fun t x hx=>?_⟩
     rw [l7] at hx
     simp only [Nat.zero_le,if_true,Nat.sub_zero] at hx
     have hlt:t < us.length:=by rw [hl]; exact (List.getElem?_eq_some_iff.1 hx).1
     have hu:=List.getElem?_eq_getElem hlt
     exact ⟨us[t],by rw [Array.getElem?_append_left (by simpa using hlt)]; simp,hr t x _ hx hu⟩
    split at hb
    ·
     rename_i rs hev
     refine gL ok.obj ok.mixed hh hpu c hcode cx S w _ _ rs _ hev hS he (fun r hr=>?_)
     obtain ⟨out,ho,hm⟩:=jQ hb r hr
     obtain ⟨x,e,S1⟩:=r
     cases x with
     | normal =>
      simp only [vL,Option.map_eq_some_iff] at ho
      obtain ⟨rv,hrv,rfl⟩:=ho
      intro cx' a' w' q1 q2 q3 q4
      obtain ⟨u,r1,r2⟩:=gQ q1 q3 hrv
      exact ⟨q4,u,r1,_,hm,cx',q1,q2,u,rfl,r2⟩
     | ret =>
      simp only [vL,Option.map_eq_some_iff] at ho
      obtain ⟨rv,hrv,rfl⟩:=ho
      intro cx' a' w' q1 q2 q3 q4
      obtain ⟨u,r1,r2⟩:=gQ q1 q3 hrv
      exact ⟨q4,u,r1,_,hm,cx',q1,q2,u,rfl,r2⟩
     | panic pv =>
      simp only [vL,Option.some.injEq] at ho
      subst ho
      intro cx' a' w' u q1 q2 q3 q4
      exact ⟨q4,_,hm,cx',q1,q2,u,rfl,q3⟩
     | exit id=>simp [vL] at ho
    ·
     cases hb
  ·
   cases hb
 ·
  cases hb
theorem p8 {x y:Option AV} (h:pO x y=true):x=y:=by
 unfold pO at h
 split at h
 ·
  rfl
 ·
  rw [AV.same_eq _ _ h]
 ·
  cases h
theorem lu:∀ {l:List (Option AV × AV)},∀ x ∈ l,x ∈ dedup l
 | [],x,hx=>by cases hx
 | y :: l,x,hx=>by
  simp only [dedup]
  rcases List.mem_cons.1 hx with rfl | hx
  ·
   cases hh:uQ l x with
   | false=>simp
   | true =>
    simp only [cond_true]
    unfold uQ at hh
    rw [List.any_eq_true] at hh
    obtain ⟨z,hz,hs⟩:=hh
    simp only [Bool.and_eq_true] at hs
    have:x=z:=Prod.ext (p8 hs.1) (AV.same_eq _ _ hs.2)
    subst this
    exact lu x hz
  ·
   cases hh:uQ l y with
   | false=>exact List.mem_cons_of_mem _ (lu x hx)
   | true=>exact lu x hx
theorem qf {R:aM} {cx:Cx} {S:St} {w:World} (h:aB R cx S w):aB R cx aG w where
 wf:=fun id hl=>absurd rfl hl
 kC:=fun id b hb=>by simp [aG,AL.get] at hb
 cells:=fun id g cs hb=>by simp [aG,AL.get] at hb
 maps:=fun id es hb=>by simp [aG,AL.get] at hb
 objs:=fun id k x hb=>by simp [aG,AL.get] at hb
 toks:=fun id en hb=>by simp [aG,AL.get] at hb
 sep:=fun id id' b hl=>absurd rfl hl
 stat:=h.stat
 lt:=h.lt
theorem lD {R:aM} (hR:ObjOk R) {cx cx1:Cx} {S S1:St} {w w1:World} (h:aB R cx S w) (e:Ext cx aG w cx1 S1 w1) :
  aB R cx S w1∧Ext cx S w cx S w1∧∀ x v,aJ w1 cx1.fr x v→aJ w1 cx.fr x v:=by
 have hb:∀ b,b < w.heap.size→w1.heap[b]? = w.heap[b]?∧∀ o,(cx1.fr b o↔cx.fr b o):=fun b hb=>e.other b hb (fun id hl=>absurd rfl hl)
 have ex:Ext cx S w cx S w1:=Ext.old h e.size (fun b q=>(hb b q).1) e.os e.tape e.output
 refine ⟨aB.old hR h e.size (fun b q=>(hb b q).1) ex,ex,fun x v hd=>hd.mono (fun b o v hf hc=>⟨hc,fun q=>?_⟩)⟩
 have hlt:=h.lt b o q
 exact hf (((hb b hlt).2 o).2 q)
theorem xQ {x y:Out} (h:mR x y=true):x=y:=by
 obtain ⟨p,v,S⟩:=x
 obtain ⟨p',v',S'⟩:=y
 simp only [mR,Bool.and_eq_true] at h
 rw [p8 h.1.1,AV.same_eq _ _ h.1.2,wR h.2]
theorem kg:∀ {l:List Out},∀ x ∈ l,x ∈ qP l
 | [],x,hx=>by cases hx
 | y :: l,x,hx=>by
  simp only [qP]
  rcases List.mem_cons.1 hx with rfl | hx
  ·
   cases hh:l.any (mR x) with
   | false=>simp
   | true =>
    simp only [cond_true]
    rw [List.any_eq_true] at hh
    obtain ⟨z,hz,hs⟩:=hh
    have:=xQ hs
    subst this
    exact kg x hz
  ·
   cases hh:l.any (mR y) with
   | false=>exact List.mem_cons_of_mem _ (kg x hx)
   | true=>exact kg x hx
theorem jU {cx cx':Cx} {S S':St} {w w':World} {v v':AV} {u:Value} (hv:kH v=some v') (h:av cx S w v u) (hd:∀ x z,aJ w cx.fr x z→aJ w' cx'.fr x z):av cx' S' w' v' u:=by
 unfold kH at hv
 split at hv
 ·
  rename_i vs
  simp only [Option.map_eq_some_iff] at hv
  obtain ⟨xs,hxs,rfl⟩:=hv
  obtain ⟨x1,x2⟩:=iH hxs
  cases h with
  | tup _ us' hl' hr' =>
   refine .tup _ us' (by simp [hl',x1]) (fun i x z hx hz=>?_)
   simp only [List.getElem?_map,Option.map_eq_some_iff] at hx
   obtain ⟨y,hy,rfl⟩:=hx
   have hlt:i < vs.length:=by rw [← x1]; exact (List.getElem?_eq_some_iff.1 hy).1
   have ha:=List.getElem?_eq_getElem hlt
   exact .d y z (hd _ _ (dQ (x2 i _ y ha hy) (hr' i _ z ha hz)))
 ·
  simp only [Option.map_eq_some_iff] at hv
  obtain ⟨x,hx,rfl⟩:=hv
  exact .d x u (hd _ _ (dQ hx h))
theorem vo {R:aM} {cx:Cx} {S:St} {w:World} (wf:∀ id,live S id→id < S.nx) {e:Ending} {w':World} {rs:List Out} (h:∃ r ∈ rs,∃ cx',aB R cx' r.2.2 w'∧Ext cx S w cx' r.2.2 w'∧mK cx' r.2.2 w' r.1 r.2.1 e) :
  ∃ r ∈ gather S rs,∃ cx',aB R cx' r.2.2 w'∧Ext cx S w cx' r.2.2 w'∧mK cx' r.2.2 w' r.1 r.2.1 e:=by
 unfold gather
 split
 ·
  exact h
 ·
  obtain ⟨r,hr,cx',h1,h2,h3⟩:=h
  refine ⟨uZ S r,kg _ (List.mem_map.2 ⟨r,hr,rfl⟩),?_⟩
  obtain ⟨p,v,S'⟩:=r
  unfold uZ
  split
  ·
   rename_i v S' heq
   cases heq
   split
   ·
    rename_i v' hv
    cases hb:fK S.nx (AL.over S.H S'.H) with
    | false=>exact ⟨cx',h1,h2,h3⟩
    | true =>
     obtain ⟨d1,d2⟩:=qD wf h1 h2 hb
     obtain ⟨u,rfl,k3⟩:=h3
     exact ⟨cx',d1,d2,u,rfl,jU hv k3 (fun _ _ q=>q)⟩
   ·
    exact ⟨cx',h1,h2,h3⟩
  ·
   exact ⟨cx',h1,h2,h3⟩
theorem wF {α:Type} {b:Bool} {x y:α} (h:(bif b then some x else none)=some y):b=true∧x=y:=by
 cases b
 ·
  cases h
 ·
  exact ⟨rfl,Option.some.inj h⟩
theorem y5 {h:gu} {f:Nat} {args:List AV} {S:St} {r:Out} (hd:BA h f args S=some r):h f args S=some [r]:=by
 unfold BA at hd
 split at hd
 ·
  rename_i r' hr
  simp only [Option.some.injEq] at hd
  subst hd
  exact hr
 ·
  cases hd
theorem ru {R:aM} {C:bN} (ok:uo R C):∀ n,qw (BA (zn C n))
 | 0=>fun f args S v S' h=>by have:=y5 h; simp [zn] at this
 | n + 1=>by
  intro f args S v S' h ha hv S2
  have h:=y5 h
  have goal:∀ {r:Out},zn C (n + 1) f args S2=some [r]→BA (zn C (n + 1)) f args S2=some r:=fun hq=>by unfold BA; rw [hq]
  refine goal ?_
  simp only [zn] at h ⊢
  split at h
  ·
   rename_i hp
   rw [if_pos hp]
   simp only [Option.map_eq_some_iff,List.cons.injEq,and_true,Prod.mk.injEq,true_and] at h ⊢
   obtain ⟨⟨v1,S1⟩,h1,rfl,rfl⟩:=h
   exact ⟨(v1,S2),ok.primPure f args S v1 S1 hp h1 ha hv S2,rfl,rfl⟩
  ·
   rename_i hp
   rw [if_neg hp]
   obtain ⟨ds,hds⟩:=Option.isSome_iff_exists.1 ha
   simp only [hds] at h ⊢
   split at h
   ·
    rename_i rs hb
    split at h
    ·
     rename_i os hos
     simp only [Option.some.injEq] at h
     match hdd:dedup os,h with
     | [o],h =>
      simp only [List.map_cons,List.map_nil,List.cons.injEq,and_true,Prod.mk.injEq] at h ⊢
      rw [h.1,h.2.1]
     | [],h=>simp at h
     | _ :: _ :: _,h=>simp at h
    ·
     exfalso
     split at h
     ·
      rename_i rs2 hb2
      obtain ⟨hall,rfl⟩:=wF h
      simp at hall
      rw [hall] at hv; cases hv
     ·
      cases h
   ·
    cases h
theorem tY {R:aM} {C:bN} (ok:uo R C):∀ n,jl R C.P (zn C n)
 | 0=>fun f args S os h=>by simp [zn] at h
 | n + 1=>by
  have ih:=tY ok n
  intro f args S os h
  simp only [zn] at h
  split at h
  ·
   rename_i hp
   simp only [Option.map_eq_some_iff] at h
   obtain ⟨⟨v1,S1⟩,h1,rfl⟩:=h
   obtain ⟨h2,h3⟩:=ok.prim f args S v1 S1 hp h1
   exact ⟨h2,fun cx w us hS hl hr=>(h3 cx w us hS hl hr).mono fun e w' he=>⟨_,List.mem_singleton.2 rfl,he⟩⟩
  ·
   split at h
   ·
    rename_i ds hds
    obtain ⟨d1,d2⟩:=iH hds
    have hargs:∀ {cx:Cx} {w:World} {us:List Value},us.length=args.length→(∀ (i:Nat) (x:AV) (u:Value),args[i]? = some x→us[i]? = some u→av cx S w x u) →
      us.length=(ds.map AV.d).length∧∀ (i:Nat) (x:AV) (u:Value),(ds.map AV.d)[i]? = some x→us[i]? = some u→av cx aG w x u:=by
     intro cx w us hl hr
     refine ⟨by simp [hl,d1],fun i x u hx hu=>?_⟩
     simp only [List.getElem?_map,Option.map_eq_some_iff] at hx
     obtain ⟨y,hy,rfl⟩:=hx
     have hlt:i < args.length:=by rw [← d1]; exact (List.getElem?_eq_some_iff.1 hy).1
     have ha:=List.getElem?_eq_getElem hlt
     exact .d y u (dQ (d2 i _ y ha hy) (hr i _ u ha hu))
    split at h
    ·
     rename_i rs hb
     split at h
     ·
      rename_i os' hos
      simp only [Option.some.injEq] at h
      subst h
      obtain ⟨b1,b2⟩:=l9 ok ih (ru ok n) n hb
      refine ⟨b1,fun cx w us hS hl hr=>?_⟩
      obtain ⟨a1,a2⟩:=hargs hl hr
      refine (b2 cx w us (qf hS) a1 a2).mono (fun e w' he=>?_)
      obtain ⟨⟨p,v1,S1⟩,hr1,cx1,k1,k2,k3⟩:=he
      obtain ⟨m1,m2,m3⟩:=lD ok.obj.toObjOk hS k2
      obtain ⟨o,ho,hom⟩:=jQ hos _ hr1
      refine ⟨(o.1,o.2,S),List.mem_map.2 ⟨o,lu o hom,rfl⟩,cx,m1,m2,?_⟩
      cases p with
      | none =>
       obtain ⟨u,rfl,k3⟩:=k3
       simp only [rC,Option.map_eq_some_iff] at ho
       obtain ⟨v2,hv,rfl⟩:=ho
       refine ⟨u,rfl,?_⟩
       unfold kH at hv
       split at hv
       ·
        rename_i vs
        simp only [Option.map_eq_some_iff] at hv
        obtain ⟨xs,hxs,rfl⟩:=hv
        obtain ⟨x1,x2⟩:=iH hxs
        cases k3 with
        | tup _ us' hl' hr' =>
         refine .tup _ us' (by simp [hl',x1]) (fun i x z hx hz=>?_)
         simp only [List.getElem?_map,Option.map_eq_some_iff] at hx
         obtain ⟨y,hy,rfl⟩:=hx
         have hlt:i < vs.length:=by rw [← x1]; exact (List.getElem?_eq_some_iff.1 hy).1
         have ha:=List.getElem?_eq_getElem hlt
         exact .d y z (m3 _ _ (dQ (x2 i _ y ha hy) (hr' i _ z ha hz)))
       ·
        simp only [Option.map_eq_some_iff] at hv
        obtain ⟨x,hx,rfl⟩:=hv
        exact .d x u (m3 _ _ (dQ hx k3))
      | some pv =>
       obtain ⟨u,rfl,k3⟩:=k3
       simp only [rC,Option.map_eq_some_iff] at ho
       obtain ⟨x,hx,rfl⟩:=ho
       exact ⟨u,rfl,.d x u (m3 _ _ (dQ hx k3))⟩
     ·
      refine l9 ok ih (ru ok n) n ?_
      split at h
      ·
       rename_i rs2 hb2
       obtain ⟨_,rfl⟩:=wF h
       exact hb2
      ·
       cases h
    ·
     cases h
   ·
    simp only [Option.map_eq_some_iff] at h
    obtain ⟨rs,hb,rfl⟩:=h
    obtain ⟨b1,b2⟩:=l9 ok ih (ru ok n) n hb
    exact ⟨b1,fun cx w us hS hl hr=>(b2 cx w us hS hl hr).mono fun e w' he=>vo hS.wf he⟩
end
end Go.Ev

namespace Go.Ev
noncomputable section
set_option linter.unusedVariables false
set_option linter.unusedSimpArgs false
variable {R:aM} {C:bN}
def cB (R:aM) (P:Program) (f:Nat) (args:List AV) (S:St) (Q:Out→Prop):Prop :=
 (∃ fn,P.funcs[f]? = some fn∧fn.body.isSome=true∧fn.name ≠ "runtime.NumGoroutine") ∧
 ∀ cx w (us:List Value),aB R cx S w→us.length=args.length→(∀ (i:Nat) (x:AV) (u:Value),args[i]? = some x→us[i]? = some u→av cx S w x u) →
  Calls P f us.toArray w (fun e w'=>∃ r,Q r∧∃ cx',aB R cx' r.2.2 w'∧Ext cx S w cx' r.2.2 w'∧mK cx' r.2.2 w' r.1 r.2.1 e)
theorem cB.mono {P:Program} {f:Nat} {args:List AV} {S:St} {Q Q':Out→Prop} (h:cB R P f args S Q) (hq:∀ r,Q r→Q' r):cB R P f args S Q' :=
 ⟨h.1,fun cx w us h1 h2 h3=>(h.2 cx w us h1 h2 h3).mono fun e w' ⟨r,q,k⟩=>⟨r,hq r q,k⟩⟩
theorem cB.BS {P:Program} {h:gu} (hh:jl R P h) {f:Nat} {args:List AV} {S:St} {rs:List Out} (he:h f args S=some rs):cB R P f args S (· ∈ rs) :=
 ⟨(hh f args S rs he).1,fun cx w us h1 h2 h3=>((hh f args S rs he).2 cx w us h1 h2 h3).mono fun e w' ⟨r,q,k⟩=>⟨r,q,k⟩⟩
theorem cB.Cb (ok:uo R C) {n f:Nat} {args:List AV} {S:St} {rs:List Out} (he:zn C n f args S=some rs):cB R C.P f args S (· ∈ rs) :=
 .BS (tY ok n) he
def aD (R:aM) (P:Program) (nt:Nat) (c:Code) (e:Env) (S:St) (Q:jR→Prop):Prop :=
 ∀ (cx:Cx) (w:World) (a:Act) (K:Exit→Act→World→Prop),aB R cx S w→bW cx S w nt e a→(∀ r,Q r→Fin R cx S w nt a K r)→c.wp P K a w
def nQ (R:aM) (P:Program) (nt:Nat) (c:Code) (e:Env) (S:St) (Q:jR→Prop):Prop :=
 ∀ (cx:Cx) (w:World) (a:Act) (K:Exit→Act→World→Prop),aB R cx S w→bW cx S w nt e a→(∀ r,Q r→Fin R cx S w nt a K r) →
  ∀ (b:Frame) (k:List Go.Item) (cs:List Frame),∃ x a' w',K x a' w'∧Arrives P (lone (b.at a (.code c :: .inLoop c :: k)) cs w) b k cs x a' w'
variable {P:Program} {nt:Nat}
theorem aD.mono {c:Code} {e:Env} {S:St} {Q Q':jR→Prop} (h:aD R P nt c e S Q) (hq:∀ r,Q r→Q' r):aD R P nt c e S Q' :=
 fun cx w a K h1 h2 h3=>h cx w a K h1 h2 (fun r q=>h3 r (hq r q))
theorem aD.skip {e:Env} {S:St} {Q:jR→Prop} (h:Q (.normal,e,S)):aD R P nt .skip e S Q :=
 fun cx w a K h1 h2 h3=>wp_skip (h3 _ h cx a w h1 (Ext.refl w h1.wf) h2 rfl)
theorem aD.exit {id:Nat} {e:Env} {S:St} {Q:jR→Prop} (h:Q (.exit id,e,S)):aD R P nt (.exit id) e S Q :=
 fun cx w a K h1 h2 h3=>wp_exit (h3 _ h cx a w h1 (Ext.refl w h1.wf) h2 rfl)
theorem aD.ret {e:Env} {S:St} {Q:jR→Prop} (h:Q (.ret,e,S)):aD R P nt .ret e S Q :=
 fun cx w a K h1 h2 h3=>wp_ret (h3 _ h cx a w h1 (Ext.refl w h1.wf) h2 rfl)
def wX (k:Env→St→Prop) (Q:jR→Prop):jR→Prop
 | (.normal,e,S)=>k e S
 | r=>Q r
theorem aD.seq {x y:Code} {e:Env} {S:St} {Q:jR→Prop} (h:aD R P nt x e S (wX (fun e' S'=>aD R P nt y e' S' Q) Q)):aD R P nt (.seq x y) e S Q:=by
 intro cx w a K h1 h2 h3
 refine wp_seq (h cx w a _ h1 h2 (fun r hr=>?_))
 obtain ⟨x1,e',S'⟩:=r
 cases x1 with
 | normal =>
  intro cx' a' w' q1 q2 q3 q4
  exact hr cx' w' a' K q1 q3 (fun r q=>(h3 r q).trans q2 q4)
 | exit id=>exact h3 _ hr
 | ret=>exact h3 _ hr
 | panic v=>exact h3 _ hr
theorem aD.cond {c:Operand} {x y:Code} {e:Env} {S:St} {Q:jR→Prop} {b:Bool} (hc:bA e c=some (.d (.bool b))) (h1:b=true→aD R P nt x e S Q) (h2:b=false→aD R P nt y e S Q):aD R P nt (.cond c x y) e S Q:=by
 intro cx w a K hS he hk
 cases b with
 | true=>exact wp_cond_true ((he.eval c _ hc).bool) (h1 rfl cx w a K hS he hk)
 | false=>exact wp_cond_false ((he.eval c _ hc).bool) (h2 rfl cx w a K hS he hk)
def Az (id:Nat) (Q:jR→Prop):jR→Prop
 | (.exit j,e,S)=>bif Nat.beq j id then Q (.normal,e,S) else Q (.exit j,e,S)
 | r=>Q r
theorem aD.block {id:Nat} {c:Code} {e:Env} {S:St} {Q:jR→Prop} (h:aD R P nt c e S (Az id Q)):aD R P nt (.block id c) e S Q:=by
 intro cx w a K h1 h2 h3
 refine wp_block (h cx w a _ h1 h2 (fun r hr=>?_))
 obtain ⟨x1,e',S'⟩:=r
 cases x1 with
 | normal=>exact h3 _ hr
 | exit j =>
  simp only [Az] at hr
  by_cases hj:j=id
  ·
   have hb:Nat.beq j id=true:=by rw [hj]; exact Nat.beq_refl id
   rw [hb] at hr
   intro cx' a' w' q1 q2 q3 q4
   simp only [Exit.inBlock,if_pos hj]
   exact h3 _ hr cx' a' w' q1 q2 q3 q4
  ·
   have hb:Nat.beq j id=false:=by
    cases hb:Nat.beq j id
    ·
     rfl
    ·
     exact absurd (Nat.eq_of_beq_eq_true hb) hj
   rw [hb] at hr
   intro cx' a' w' q1 q2 q3 q4
   simp only [Exit.inBlock,if_neg hj]
   exact h3 _ hr cx' a' w' q1 q2 q3 q4
 | ret=>exact h3 _ hr
 | panic v=>exact h3 _ hr
theorem aD.loop {c:Code} {e:Env} {S:St} {Q:jR→Prop} (h:nQ R P nt c e S Q):aD R P nt (.loop c) e S Q:=by
 intro cx w a K h1 h2 h3 b k cs
 obtain ⟨x,a',w',q,harr⟩:=h cx w a K h1 h2 h3 b k cs
 exact ⟨x,a',w',q,.of_steps (.one step_loop) harr⟩
theorem nQ.round {c:Code} {e:Env} {S:St} {Q:jR→Prop} (h:aD R P nt c e S (wX (fun e' S'=>nQ R P nt c e' S' Q) Q)):nQ R P nt c e S Q:=by
 intro cx w a K hS he hk b k cs
 let K':Exit→Act→World→Prop:=fun x a' w'=>match x with
  | .normal=>∃ cx1 e1 S1,aB R cx1 S1 w'∧bW cx1 S1 w' nt e1 a'∧Ext cx S w cx1 S1 w'∧a'.defers=a.defers∧nQ R P nt c e1 S1 Q
  | x=>K x a' w'
 have hround:c.wp P K' a w:=by
  refine h cx w a K' hS he (fun r hr=>?_)
  obtain ⟨x,e',S'⟩:=r
  cases x with
  | normal=>exact fun cx' a' w' q1 q2 q3 q4=>⟨cx',e',S',q1,q3,q2,q4,hr⟩
  | exit id=>exact hk _ hr
  | ret=>exact hk _ hr
  | panic v=>exact hk _ hr
 obtain ⟨x,a₁,w₁,hq,harr⟩:=hround b (.inLoop c :: k) cs
 cases x with
 | normal =>
  obtain ⟨cx1,e1,S1,s1,er1,x1,d1,hl⟩:=hq
  obtain ⟨x2,a₂,w₂,hq₂,harr₂⟩:=hl cx1 w₁ a₁ K s1 er1 (fun r hr=>(hk r hr).trans x1 d1) b k cs
  exact ⟨x2,a₂,w₂,hq₂,.of_steps (Steps.trans harr (.one step_inLoop)) harr₂⟩
 | exit id=>exact ⟨_,a₁,w₁,hq,.pass (x:=.inLoop c) rfl (fun _ _=>.inl (by simp)) harr⟩
 | goto l=>exact ⟨_,a₁,w₁,hq,.pass (x:=.inLoop c) rfl (fun _ _=>.inl (by simp)) harr⟩
 | ret=>exact ⟨_,a₁,w₁,hq,.pass (x:=.inLoop c) rfl (fun _ _=>.inl (by simp)) harr⟩
 | panic ch=>exact ⟨_,a₁,w₁,hq,.pass (x:=.inLoop c) rfl (fun _ _=>.inl (by simp)) harr⟩
 | outgrown=>exact ⟨_,a₁,w₁,hq,.pass (x:=.inLoop c) rfl (fun _ _=>.inl (by simp)) harr⟩
def Less (y x:AV):Prop:=∀ (cx:Cx) (S:St) (w:World) (v:Value),av cx S w x v→av cx S w y v
theorem Less.refl (x:AV):Less x x:=fun _ _ _ _ h=>h
theorem Less.trans {x y z:AV} (a:Less z y) (b:Less y x):Less z x:=fun cx S w v h=>a cx S w v (b cx S w v h)
def aa (e2 e:Env):Prop:=∀ t x,AL.get e2 t=some x→∃ y,AL.get e t=some y∧Less x y
theorem aa.refl (e:Env):aa e e:=fun _ x h=>⟨x,h,.refl x⟩
theorem aa.trans {e1 e2 e3:Env} (a:aa e1 e2) (b:aa e2 e3):aa e1 e3:=fun t x h=>by
 obtain ⟨y,h1,h2⟩:=a t x h
 obtain ⟨z,h3,h4⟩:=b t y h1
 exact ⟨z,h3,h2.trans h4⟩
theorem aa.top {e:Env} {t:Nat} {x y:AV} (h:Less y x):aa ((t,y) :: e) ((t,x) :: e):=fun u z hz=>by
 rw [AL.bF] at hz ⊢
 by_cases hu:t=u
 ·
  rw [if_pos hu] at hz ⊢; cases hz; exact ⟨x,rfl,h⟩
 ·
  rw [if_neg hu] at hz ⊢; exact ⟨z,hz,.refl z⟩
theorem aa.nil {e:Env}:aa [] e:=fun _ _ h=>by simp [AL.get] at h
theorem aa.cons {t:Nat} {x y:AV} {e2 e:Env} (h:AL.get e t=some y) (hl:Less x y) (k:aa e2 e):aa ((t,x) :: e2) e:=fun u z hz=>by
 rw [AL.bF] at hz
 by_cases hu:t=u
 ·
  subst hu; rw [if_pos rfl] at hz; cases hz; exact ⟨y,h,hl⟩
 ·
  rw [if_neg hu] at hz; exact k u z hz
theorem bW.weak {cx:Cx} {S:St} {w:World} {e2 e:Env} {a:Act} (h:bW cx S w nt e a) (s:aa e2 e):bW cx S w nt e2 a :=
 ⟨h.size,fun t x hx=>by
  obtain ⟨y,h1,h2⟩:=s t x hx
  obtain ⟨v,v1,v2⟩:=h.rel t y h1
  exact ⟨v,v1,h2 _ _ _ _ v2⟩⟩
theorem aD.weak {c:Code} {e2 e:Env} {S:St} {Q:jR→Prop} (s:aa e2 e) (h:aD R P nt c e2 S Q):aD R P nt c e S Q :=
 fun cx w a K h1 h2 h3=>h cx w a K h1 (h2.weak s) h3
theorem nQ.weak {c:Code} {e2 e:Env} {S:St} {Q:jR→Prop} (s:aa e2 e) (h:nQ R P nt c e2 S Q):nQ R P nt c e S Q :=
 fun cx w a K h1 h2 h3=>h cx w a K h1 (h2.weak s) h3
def vG (R:aM) (C:bN) (nt:Nat) (dst:Option Nat) (op:Op) (e:Env) (S:St) (Q:Stp→Prop):Prop :=
 (∃ v S' e',oper C (bA e) S op=some (.val v S')∧e.put nt dst v=some e'∧Q (.go e' S')) ∨
 (∃ S',oper C (bA e) S op=some (.skip S')∧dst=none∧Q (.go e S')) ∨
 (∃ f args,oper C (bA e) S op=some (.call f args)∧cB R C.P f args S (fun r=>match r with
  | (none,v,S')=>∃ e',e.put nt dst v=some e'∧Q (.go e' S')
  | (some p,_,S')=>Q (.stop p S'))) ∨
 (∃ t x y ty xs b el,op=.binOp .eql t x y ty∧bA e x=some (.d (.sl xs b))∧bA e y=some (.d .di)∧C.P.underlying t=some (.slice el) ∧
  ∀ bb:Bool,(bb=true→xs=[])→∃ e',e.put nt dst (.d (.bool bb))=some e'∧Q (.go e' S))
theorem vG.mono {dst:Option Nat} {op:Op} {e:Env} {S:St} {Q Q':Stp→Prop} (h:vG R C nt dst op e S Q) (hq:∀ r,Q r→Q' r):vG R C nt dst op e S Q':=by
 rcases h with ⟨v,S',e',h1,h2,h3⟩ | ⟨S',h1,h2,h3⟩ | ⟨f,args,h1,h2⟩ | ⟨t,x,y,ty,xs,b,el,h1,h2,h3,h4,h5⟩
 ·
  exact .inl ⟨v,S',e',h1,h2,hq _ h3⟩
 ·
  exact .inr (.inl ⟨S',h1,h2,hq _ h3⟩)
 ·
  exact .inr (.inr (.inl ⟨f,args,h1,h2.mono fun r hr=>by
   obtain ⟨p,v,S'⟩:=r
   cases p with
   | none=>obtain ⟨e',a,b⟩:=hr; exact ⟨e',a,hq _ b⟩
   | some p=>exact hq _ hr⟩))
 ·
  exact .inr (.inr (.inr ⟨t,x,y,ty,xs,b,el,h1,h2,h3,h4,fun bb hb=>let ⟨e',a,c⟩:=h5 bb hb; ⟨e',a,hq _ c⟩⟩))
theorem wI {w:World} {fr:Nat→Nat→Prop} {xs:List D} {b:Bool} {v:Value} (h:aJ w fr (.sl xs b) v):∃ a n c,v=.slice a n c∧(a=none→xs=[]):=by
 have h1:=h.val rfl
 cases h1 with
 | sl0 a cap _ _=>exact ⟨a,0,cap,rfl,fun _=>rfl⟩
 | sl _ _ b off cap sz vs hne hcap ht hsz hlen hx hc=>exact ⟨_,_,_,rfl,fun h=>by cases h⟩
def nD (R:aM) (C:bN) (nt:Nat) (ops:Array Oper) (o:Oper) (e:Env) (S:St) (Q:Stp→Prop):Prop :=
 (∃ t rs,o.op=.next (.tmp t) false∧y7 nt o t e S=some rs∧∀ r ∈ rs,Q r) ∨
 (∃ e2,aa e2 e∧bf ops e o=some true∧vG R C nt o.dst o.op e2 S Q) ∨
 (∃ e2 e',aa e2 e∧bf ops e o=some false∧(match o.dst with | none=>e'=e2 | some t=>e2.put nt (some t) (.tup [])=some e')∧Q (.go e' S))
theorem nD.mono {ops:Array Oper} {o:Oper} {e:Env} {S:St} {Q Q':Stp→Prop} (h:nD R C nt ops o e S Q) (hq:∀ r,Q r→Q' r):nD R C nt ops o e S Q':=by
 rcases h with ⟨t,rs,h1,h2,h3⟩ | ⟨e2,h1,h2,h3⟩ | ⟨e2,e',h1,h2,h3,h4⟩
 ·
  exact .inl ⟨t,rs,h1,h2,fun r hr=>hq r (h3 r hr)⟩
 ·
  exact .inr (.inl ⟨e2,h1,h2,h3.mono hq⟩)
 ·
  exact .inr (.inr ⟨e2,e',h1,h2,h3,hq _ h4⟩)
theorem uA (hR:dZ R C) {ops:Array Oper} {o:Oper} {e:Env} {S:St} {Q:Stp→Prop} (h:nD R C nt ops o e S Q) {cx:Cx} {w:World} {a:Act} (hS:aB R cx S w) (he:bW cx S w nt e a)
  {K:Act→World→Prop} {Kx:Exit→Act→World→Prop} (hk:∀ r,Q r→After R cx S w nt a K Kx r) {i:Nat} (hi:ops[i]? = some o):wpOp C.P ops Kx i K a w:=by
 have hrefl:=Ext.refl (cx:=cx) w hS.wf
 rcases h with ⟨t,rs,h1,h2,h3⟩ | ⟨e2,hw,h1,h2⟩ | ⟨e2,e',hw,h1,h2,h3⟩
 ·
  exact p9 hR h1 h2 hS he (fun r hr=>hk r (h3 r hr)) hi
 ·
  have he2:=he.weak hw
  unfold wpOp
  rw [hi]
  simp only
  rw [if_pos (bJ he h1)]
  left
  rcases h2 with ⟨v,S',e',h1,h2,h3⟩ | ⟨S',h1,h2,h3⟩ | ⟨f,args,h1,h2⟩ | ⟨t,x,y,ty,xs,b,el,hop,hx,hy,hu,hq⟩
  rotate_left 3
  ·
   have rx:=he2.eval x _ hx
   have ry:=he2.eval y _ hy
   obtain ⟨a0,n,c,ex,hnil⟩:=wI rx.dd
   have ey:a.eval y=.slice none 0 0:=by
    have:=ry.dd.val rfl
    generalize a.eval y=z at this
    cases this
    rfl
   have hrun:(execOp a.eval o).run C.P w=.ok (.value (.bool a0.isNone)) w:=by
    obtain ⟨dst,op,ty',pos,after,guard⟩:=o
    simp only at hop
    subst hop
    exact kV (by
     rw [ex,ey]
     have hg:(eqGuard .eql t x y (.slice a0 n c) (.slice none 0 0)).run C.P w=.ok () w:=cO rfl
     simp only [Sem.run_bind,hg,Result.andThen_ok]
     exact Lib.run_eql_slice_nil w t el a0 n c 0 0 hu)
   obtain ⟨e',hp,hk'⟩:=hq a0.isNone (fun h=>hnil (by cases a0 with | none=>rfl | some a=>cases h))
   unfold Oper.wp
   rw [hrun]
   exact hk _ hk' cx _ w hS hrefl (he2.put hp (.of_bool _)) (put_defers _ _ _)
  ·
   obtain ⟨cx',w',u,k1,k2,k3,k4⟩:=bU hR hS he2.eval o h1
   unfold Oper.wp
   rw [k1]
   exact hk _ h3 cx' _ w' k2 k3 ((he2.mono k3).put h2 k4) (put_defers _ _ _)
  ·
   obtain ⟨cx',w',k1,k2,k3⟩:=bU hR hS he2.eval o h1
   unfold Oper.wp
   rw [k1]
   show K (a.put o.dst undef) w'
   rw [h2]
   exact hk _ h3 cx' _ w' k2 k3 (he2.mono k3) rfl
  ·
   obtain ⟨us,k1,k2,k3⟩:=bU hR hS he2.eval o h1
   obtain ⟨⟨fn,f1,f2,f3⟩,hcalls⟩:=h2
   unfold Oper.wp
   rw [k3 fn f1 f2 f3]
   refine (hcalls cx w us hS k1 k2).mono (fun en w' hen=>?_)
   obtain ⟨⟨p,v,S'⟩,hq,cx',m1,m2,m3⟩:=hen
   cases p with
   | none =>
    obtain ⟨u,rfl,m3⟩:=m3
    obtain ⟨e',hp,hq⟩:=hq
    exact hk _ hq cx' _ w' m1 m2 ((he2.mono m2).put hp m3) (put_defers _ _ _)
   | some p =>
    obtain ⟨u,rfl,m3⟩:=m3
    exact hk _ hq cx' w' u m1 m2 m3
 ·
  have he2:=he.weak hw
  unfold wpOp
  rw [hi]
  simp only
  rw [if_neg (by rw [bJ he h1]; simp)]
  split at h2
  ·
   rename_i hd
   subst h2
   rw [hd]
   exact hk _ h3 cx _ w hS hrefl he2 rfl
  ·
   rename_i t hd
   rw [hd]
   exact hk _ h3 cx _ w hS hrefl (he2.put h2 (.tup [] [] rfl (fun i x v hx=>by simp at hx))) (put_defers _ _ _)
def iy (R:aM) (nt:Nat) (e:Env) (S:St) (e2:Env) (S2:St):Prop :=
 ∀ cx w a,aB R cx S w→bW cx S w nt e a→∃ cx2,aB R cx2 S2 w∧Ext cx S w cx2 S2 w∧bW cx2 S2 w nt e2 a
theorem iy.refl (e:Env) (S:St):iy R nt e S e S:=fun cx w a h1 h2=>⟨cx,h1,Ext.refl w h1.wf,h2⟩
theorem iy.weak {e2 e:Env} (S:St) (s:aa e2 e):iy R nt e S e2 S:=fun cx w a h1 h2=>⟨cx,h1,Ext.refl w h1.wf,h2.weak s⟩
theorem iy.trans {e1 e2 e3:Env} {S1 S2 S3:St} (a:iy R nt e1 S1 e2 S2) (b:iy R nt e2 S2 e3 S3):iy R nt e1 S1 e3 S3:=fun cx w ac h1 h2=>by
 obtain ⟨c2,q1,q2,q3⟩:=a cx w ac h1 h2
 obtain ⟨c3,r1,r2,r3⟩:=b c2 w ac q1 q3
 exact ⟨c3,r1,q2.trans r2,r3⟩
def ah (R:aM) (C:bN) (nt:Nat) (ops:Array Oper):List Oper→Env→St→(Stp→Prop)→Prop
 | [],e,S,Q=>∃ e2,aa e2 e∧Q (.go e2 S)
 | o :: rest,e,S,Q=>∃ e2 S2,iy R nt e S e2 S2∧nD R C nt ops o e2 S2 (fun r=>match r with
  | .go e' S'=>ah R C nt ops rest e' S' Q
  | .stop v S'=>Q (.stop v S'))
theorem ah.weak {ops:Array Oper} {l:List Oper} {e2 e:Env} {S:St} {Q:Stp→Prop} (s:aa e2 e) (h:ah R C nt ops l e2 S Q):ah R C nt ops l e S Q:=by
 cases l with
 | nil=>obtain ⟨e3,h1,h2⟩:=h; exact ⟨e3,h1.trans s,h2⟩
 | cons o l=>obtain ⟨e3,S3,h1,h2⟩:=h; exact ⟨e3,S3,(iy.weak S s).trans h1,h2⟩
theorem ah.ghost {ops:Array Oper} {o:Oper} {l:List Oper} {e2 e:Env} {S S2:St} {Q:Stp→Prop} (g:iy R nt e S e2 S2) (h:ah R C nt ops (o :: l) e2 S2 Q):ah R C nt ops (o :: l) e S Q:=by
 obtain ⟨e3,S3,h1,h2⟩:=h
 exact ⟨e3,S3,g.trans h1,h2⟩
theorem tH (hR:dZ R C) {ops:Array Oper} {Kx:Exit→Act→World→Prop}:∀ (l:List Oper) (k:Nat) {cx:Cx} {S:St} {w:World} {e:Env} {a:Act} {Q:Stp→Prop},
  (∀ j,l[j]? = ops[k + j]?)→ah R C nt ops l e S Q→aB R cx S w→bW cx S w nt e a →
  (∀ r,Q r→match r with
   | .go e' S'=>∀ cx' a' w',aB R cx' S' w'→Ext cx S w cx' S' w'→bW cx' S' w' nt e' a'→a'.defers=a.defers→Kx .normal a' w'
   | .stop v S'=>∀ cx' a' w' u,aB R cx' S' w'→Ext cx S w cx' S' w'→av cx' S' w' v u→a'.defers=a.defers→Kx (.panic [{ v:=u,recovered:=false }]) a' w') →
  wpOps C.P ops Kx ((List.range l.length).map (k + ·)) a w
 | [],k,cx,S,w,e,a,Q,hl,⟨e2,hs,hev⟩,hS,he,hk=>hk (.go e2 S) hev cx a w hS (Ext.refl w hS.wf) (he.weak hs) rfl
 | o :: l,k,cx,S,w,e,a,Q,hl,⟨e2,S2,hs,hev⟩,hS,he,hk=>by
  obtain ⟨c2,hS,x0,he⟩:=hs cx w a hS he
  replace hk:∀ r,Q r→match r with
   | .go e' S'=>∀ cx' a' w',aB R cx' S' w'→Ext c2 S2 w cx' S' w'→bW cx' S' w' nt e' a'→a'.defers=a.defers→Kx .normal a' w'
   | .stop v S'=>∀ cx' a' w' u,aB R cx' S' w'→Ext c2 S2 w cx' S' w'→av cx' S' w' v u→a'.defers=a.defers→Kx (.panic [{ v:=u,recovered:=false }]) a' w':=fun r hr=>by
   have hk:=hk r hr
   cases r with
   | go e' S'=>exact fun cx' a' w' q1 q2 q3 q4=>hk cx' a' w' q1 (x0.trans q2) q3 q4
   | stop v S'=>exact fun cx' a' w' u q1 q2 q3 q4=>hk cx' a' w' u q1 (x0.trans q2) q3 q4
  have h0:ops[k]? = some o:=by simpa using (hl 0).symm
  rw [List.length_cons,List.range_succ_eq_map,List.map_cons,wpOps_cons,Nat.add_zero]
  refine uA hR hev hS he (fun r hr=>?_) h0
  cases r with
  | go e' S' =>
   intro cx1 a1 w1 s1 x1 er1 d1
   have ih:=tH hR (Kx:=Kx) l (k + 1) (cx:=cx1) (S:=S') (w:=w1) (e:=e') (a:=a1) (Q:=Q) (fun j=>by have:=hl (j + 1); simpa [Nat.add_assoc,Nat.add_comm 1 j] using this) hr s1 er1 (fun r hr=>by
    have hk':=hk r hr
    cases r with
    | go e2 S2=>exact fun cx' a' w' q1 q2 q3 q4=>hk' cx' a' w' q1 (x1.trans q2) q3 (q4.trans d1)
    | stop v S2=>exact fun cx' a' w' u q1 q2 q3 q4=>hk' cx' a' w' u q1 (x1.trans q2) q3 (q4.trans d1))
   rw [List.map_map]
   have:((fun x=>k + x) ∘ Nat.succ)=(fun x=>k + 1 + x):=by funext x; simp; omega
   rw [this]; exact ih
  | stop v S'=>exact fun cx1 w1 u s1 x1 r1=>hk (.stop v S') hr cx1 a w1 u s1 x1 r1 rfl
theorem aD.region (hR:dZ R C) {id:Nat} {ops:Array Oper} {l:List Oper} (hl:ops.toList=l) {e:Env} {S:St} {Q:jR→Prop} (h:ah R C nt ops l e S (fun r=>Q (Af e r))):aD R C.P nt (.region id ops false) e S Q:=by
 intro cx w a K h1 h2 h3
 refine wp_region ?_
 have:=tH hR (Kx:=K) ops.toList 0 (by simp) (hl ▸ h) h1 h2 (fun r hr=>by
  have hk':=h3 _ hr
  cases r with
  | go e' S'=>exact fun cx' a' w' q1 q2 q3 q4=>hk' cx' a' w' q1 q2 q3 q4
  | stop v S'=>exact fun cx' a' w' u q1 q2 q3 q4=>hk' cx' a' w' u q1 q2 q3 q4)
 simpa using this
inductive Fact where
 | pure (f:Nat) (args:List AV) (v:AV)
 | full (f:Nat) (args:List AV) (S:St) (v:AV) (S':St)
def AB (R:aM) (P:Program) (f:Nat) (args:List AV) (v:AV):Prop:=∀ S,cB R P f args S (fun r=>r=(none,v,S))
open Classical in
def BD (C:bN) (fn:Func) (Q:Out→Prop):jR→Prop
 | (.normal,e,S)=>∃ v,jI C fn e S=some v∧Q (none,v,S)
 | (.ret,e,S)=>∃ v,jI C fn e S=some v∧Q (none,v,S)
 | (.panic v,_,S)=>Q (some v,.d (.bool false),S)
 | _=>False
theorem cB.of_wp {f:Nat} {fn:Func} {c:Code} (hf:C.P.funcs[f]? = some fn) (hc:fn.body=some c) (hn:(fn.name == "runtime.NumGoroutine")=false) {args:List AV} (hle:args.length ≤ fn.ntmps) {S:St} {Q:Out→Prop}
  (h:aD R C.P fn.ntmps c (iT 0 args) S (BD C fn Q)):cB R C.P f args S Q:=by
 refine ⟨⟨fn,hf,by simp [hc],by simpa using hn⟩,fun cx w us hS hl hr=>?_⟩
 refine calls_of_wp hf hc ?_
 have he:bW cx S w fn.ntmps (iT 0 args) { tmps:=us.toArray ++ Array.replicate (fn.ntmps - us.toArray.size) undef,defers:=[] }:=by
  refine ⟨by simp; omega,fun t x hx=>?_⟩
  rw [l7] at hx
  simp only [Nat.zero_le,if_true,Nat.sub_zero] at hx
  have hlt:t < us.length:=by rw [hl]; exact (List.getElem?_eq_some_iff.1 hx).1
  have hu:=List.getElem?_eq_getElem hlt
  exact ⟨us[t],by rw [Array.getElem?_append_left (by simpa using hlt)]; simp,hr t x _ hx hu⟩
 refine h cx w _ _ hS he (fun r hr=>?_)
 obtain ⟨x,e,S1⟩:=r
 cases x with
 | normal =>
  obtain ⟨rv,hrv,hq⟩:=hr
  intro cx' a' w' q1 q2 q3 q4
  obtain ⟨u,r1,r2⟩:=gQ q1 q3 hrv
  exact ⟨q4,u,r1,_,hq,cx',q1,q2,u,rfl,r2⟩
 | ret =>
  obtain ⟨rv,hrv,hq⟩:=hr
  intro cx' a' w' q1 q2 q3 q4
  obtain ⟨u,r1,r2⟩:=gQ q1 q3 hrv
  exact ⟨q4,u,r1,_,hq,cx',q1,q2,u,rfl,r2⟩
 | panic pv =>
  intro cx' a' w' u q1 q2 q3 q4
  exact ⟨q4,_,hr,cx',q1,q2,u,rfl,q3⟩
 | exit id=>exact hr.elim
theorem AB.of (hR:ObjOk R) {f:Nat} {ds:List D} {args:List AV} {v:AV} (ha:fA args=some ds) (h:cB R P f (ds.map .d) aG (fun r=>r.1=none∧kH r.2.1=some v)):AB R P f args v:=by
 intro S
 obtain ⟨d1,d2⟩:=iH ha
 refine ⟨h.1,fun cx w us hS hl hr=>?_⟩
 refine (h.2 cx w us (qf hS) (by simp [hl,d1]) (fun i x u hx hu=>?_)).mono (fun e w' he=>?_)
 ·
  simp only [List.getElem?_map,Option.map_eq_some_iff] at hx
  obtain ⟨y,hy,rfl⟩:=hx
  have hlt:i < args.length:=by rw [← d1]; exact (List.getElem?_eq_some_iff.1 hy).1
  have ha:=List.getElem?_eq_getElem hlt
  exact .d y u (dQ (d2 i _ y ha hy) (hr i _ u ha hu))
 ·
  obtain ⟨⟨p,v1,S1⟩,⟨hp,hv⟩,cx1,k1,k2,k3⟩:=he
  simp only at hp hv
  subst hp
  obtain ⟨m1,m2,m3⟩:=lD hR hS k2
  obtain ⟨u,rfl,k3⟩:=k3
  exact ⟨_,rfl,cx,m1,m2,u,rfl,jU hv k3 m3⟩
end
end Go.Ev

namespace Go.Ev
noncomputable section
set_option linter.unusedVariables false
set_option linter.unusedSimpArgs false
variable {R:aM} {C:bN} {P:Program} {nt:Nat}
def iU.under (n:Nat):iU→Prop
 | .cells _ cs=>∀ x ∈ cs,x.under n=true
 | .map m=>∀ p ∈ m.es,p.2.1.under n=true
 | .obj _ _=>True
structure qX (S0 S S2:St):Prop where
 nx:S2.nx=S0.nx
 H:∀ id b,S2.H.get id=some b→S.H.get id=some b∧live S0 id∧b.under S0.nx
 T:∀ id n,S2.T.get id=some n→S.T.get id=some n∧live S0 id
theorem rV {n:Nat}:∀ {l:List AV},(∀ x ∈ l,x.under n=true)→belows n l=true
 | [],_=>rfl
 | x :: l,h=>by simp only [belows,h x List.mem_cons_self,rV (fun y hy=>h y (List.mem_cons_of_mem _ hy)),Bool.and_self]
theorem lY {n:Nat} {xs:List AV} {vs:List Value} (hl:vs.length=xs.length) (h:∀ (i:Nat) (x:AV) (v:Value),xs[i]? = some x→vs[i]? = some v→x.under n=true):belows n xs=true :=
 rV fun x hx=>by
  obtain ⟨i,hi,rfl⟩:=List.getElem_of_mem hx
  exact h i xs[i] vs[i] (List.getElem?_eq_getElem hi) (List.getElem?_eq_getElem (by omega))
theorem av.under {cx:Cx} {S:St} {w:World} {x:AV} {v:Value} (h:av cx S w x v):x.under S.nx=true:=by
 have bl:∀ {a b:Nat},a < b→Nat.blt a b=true:=fun h=>Nat.ble_eq_true_of_le h
 induction h with
 | d x v h=>rfl
 | tsl xs tok b off cap hn h hp=>exact bl hn.1
 | ptr id g off b hn hp=>exact bl hn.1
 | msl id g off len lim sz b cap hn hl hcap h63 hp=>exact bl hn.1
 | asl id g off len sz b hn h63 hp=>exact bl hn.1
 | eptr x off b o vs h hc=>rfl
 | map id b hn hp=>exact bl hn.1
 | fn f cs vs hl h ih=>simp only [AV.under]; exact lY hl ih
 | agg xs vs hl ho h ih=>simp only [AV.under]; exact lY hl ih
 | tup xs vs hl h ih=>simp only [AV.under]; exact lY hl ih
 | any v=>rfl
 | it0 k g since st b seen hn hp=>exact bl hn.1
 | it k g id since st b m seen hn hni hm hp=>simp only [AV.under,bl hn.1,bl hni.1,Bool.and_self]
theorem aB.under {cx:Cx} {S:St} {w:World} (h:aB R cx S w) {id:Nat} {b:iU} (hb:S.H.get id=some b):b.under S.nx:=by
 cases b with
 | cells g cs =>
  obtain ⟨_,_,arr,el,_,_,h3⟩:=h.cells id g cs hb
  intro x hx
  obtain ⟨i,hi,rfl⟩:=List.getElem_of_mem hx
  obtain ⟨v,_,h4,_⟩:=h3 i cs[i] (List.getElem?_eq_getElem hi)
  exact h4.under
 | map m =>
  obtain ⟨_,_,ms,clk,_,⟨h2,_,_⟩,h3⟩:=h.maps id m hb
  intro p hp
  obtain ⟨i,hi,rfl⟩:=List.getElem_of_mem hp
  exact (h3 i m.es[i] ms[i] (List.getElem?_eq_getElem hi) (Array.getElem?_eq_getElem (by omega))).2.under
 | obj k x=>trivial
theorem iG {cx:Cx} {S0 S S2:St} {w:World} (h:aB R cx S w) (s:qX S0 S S2) {id g:Nat} (hc:cur S2 id=some g):cur S id=some g:=by
 unfold cur at hc ⊢
 cases hH:AL.get S2.H id with
 | some b =>
  rw [hH] at hc
  rw [(s.H id b hH).1]
  cases b <;> exact hc
 | none =>
  rw [hH] at hc
  simp only at hc
  have hT:=(s.T _ _ hc).1
  cases hS:S.H.get id with
  | some b=>have:=h.kC id b hS; rw [this] at hT; cases hT
  | none=>exact hT
theorem Bw {S0 S S2:St} (s:qX S0 S S2) {id:Nat} (hl:live S2 id):live S0 id:=by
 cases hH:AL.get S2.H id with
 | some b=>exact (s.H id b hH).2.1
 | none =>
  cases hT:AL.get S2.T id with
  | none=>exact absurd (by unfold cur; rw [hH]; exact hT) hl
  | some en=>exact (s.T id en hT).2
theorem kG {S0 S S2:St} (s:qX S0 S S2) {k g:Nat} (h:isIt S2 k g):isIt S k g:=(s.H _ _ h).1
theorem nJ {cx:Cx} {S0 S S2:St} {w:World} (h:aB R cx S w) (s:qX S0 S S2) {i:Nat} (hi:cur S2 i ≠ none):cur S i ≠ none:=by
 cases hc:cur S2 i with
 | none=>exact absurd hc hi
 | some g=>rw [iG h s hc]; simp
theorem av.sub {cx:Cx} {S0 S S2:St} {w:World} (h:aB R cx S w) (s:qX S0 S S2) {x:AV} {v:Value} (hx:av cx S w x v) (hu:x.under S0.nx=true):av cx S2 w x v:=by
 have nm:∀ {id g:Nat},Names S id g→id < S0.nx→Names S2 id g:=fun hn hlt=>⟨by rw [s.nx]; exact hlt,fun g' hg=>hn.2 g' (iG h s hg)⟩
 induction hx with
 | d x v hd=>exact .d x v hd
 | tsl xs tok b off cap hn hd hp =>
  simp only [AV.under] at hu
  exact .tsl xs tok b off cap (nm hn (Nat.le_of_ble_eq_true hu)) hd (fun hc=>hp (iG h s hc))
 | ptr id g off b hn hp =>
  simp only [AV.under] at hu
  exact .ptr id g off b (nm hn (Nat.le_of_ble_eq_true hu)) (fun hc=>hp (iG h s hc))
 | msl id g off len lim sz b cap hn hl hcap h63 hp =>
  simp only [AV.under] at hu
  exact .msl id g off len lim sz b cap (nm hn (Nat.le_of_ble_eq_true hu)) hl hcap h63 (fun hc=>hp (iG h s hc))
 | any v=>exact .any v
 | eptr x off b o vs hd hc=>exact .eptr x off b o vs hd hc
 | map id b hn hp =>
  simp only [AV.under] at hu
  exact .map id b (nm hn (Nat.le_of_ble_eq_true hu)) (fun hc=>hp (iG h s hc))
 | asl id g off len sz b hn h63 hp =>
  simp only [AV.under] at hu
  exact .asl id g off len sz b (nm hn (Nat.le_of_ble_eq_true hu)) h63 (fun hc=>hp (iG h s hc))
 | fn f cs vs hl hr ih=>exact .fn f cs vs hl (fun i x v hx hv=>ih i x v hx hv (by simp only [AV.under] at hu; exact dL hu x (List.mem_of_getElem? hx)))
 | agg xs vs hl ho hr ih=>exact .agg xs vs hl ho (fun i x v hx hv=>ih i x v hx hv (by simp only [AV.under] at hu; exact dL hu x (List.mem_of_getElem? hx)))
 | tup xs vs hl hr ih=>exact .tup xs vs hl (fun i x v hx hv=>ih i x v hx hv (by simp only [AV.under] at hu; exact dL hu x (List.mem_of_getElem? hx)))
 | it0 k g since st b seen hn hp =>
  simp only [AV.under] at hu
  refine .it0 k g since st b seen (nm hn (Nat.le_of_ble_eq_true hu)) (fun hk=>?_)
  obtain ⟨p1,p2,p3,p4⟩:=hp (kG s hk)
  exact ⟨p1,p2,fun i hi hf=>p3 i (nJ h s hi) hf,p4⟩
 | it k g id since st b m seen hn hni hm hp =>
  simp only [AV.under,Bool.and_eq_true] at hu
  refine .it k g id since st b m seen (nm hn (Nat.le_of_ble_eq_true hu.1)) (nm hni (Nat.le_of_ble_eq_true hu.2)) (fun hc=>hm (iG h s hc)) (fun hk=>?_)
  obtain ⟨p1,p2,p3,p4⟩:=hp (kG s hk)
  exact ⟨p1,p2,fun i hi hf=>p3 i (nJ h s hi) hf,p4⟩
theorem zI {cx0 cx:Cx} {S0 S S2:St} {w0 w:World} (wf0:∀ id,live S0 id→id < S0.nx) (h:aB R cx S w) (e:Ext cx0 S0 w0 cx S w) (s:qX S0 S S2) :
  aB R cx S2 w∧Ext cx0 S0 w0 cx S2 w:=by
 have hlS:∀ id,live S2 id→live S id:=fun id hl=>nJ h s hl
 refine ⟨⟨fun id hl=>by rw [s.nx]; exact wf0 id (Bw s hl),fun id b hi=>?_,fun id g cs hi=>?_,fun id es hi=>?_,fun id k x hi=>?_,fun id en hi=>?_,fun id id' b a1 a2=>h.sep id id' b (hlS id a1) (hlS id' a2),h.lt,h.stat⟩,?_⟩
 ·
  have hS:=(s.H _ _ hi).1
  cases hT:S2.T.get id with
  | none=>rfl
  | some en=>have:=(s.T _ _ hT).1; rw [h.kC id b hS] at this; cases this
 ·
  obtain ⟨hS,_,hbl⟩:=s.H _ _ hi
  obtain ⟨c1,c2,arr,el,c3,c4,c5⟩:=h.cells id g cs hS
  refine ⟨c1,c2,arr,el,c3,c4,fun i x hx=>?_⟩
  obtain ⟨v,v1,v2,v3⟩:=c5 i x hx
  exact ⟨v,v1,v2.sub h s (hbl x (List.mem_of_getElem? hx)),v3⟩
 ·
  obtain ⟨hS,_,hbl⟩:=s.H _ _ hi
  obtain ⟨c1,c2,ms,clk,c3,c4,c5⟩:=h.maps id es hS
  refine ⟨c1,c2,ms,clk,c3,c4,fun i p m hp hm=>?_⟩
  obtain ⟨v1,v2⟩:=c5 i p m hp hm
  exact ⟨v1,v2.sub h s (hbl p (List.mem_of_getElem? hp))⟩
 ·
  exact h.objs id k x (s.H _ _ hi).1
 ·
  exact h.toks id en (s.T _ _ hi).1
 ·
  refine ⟨e.size,e.os,e.tape,e.output,by rw [s.nx]; exact Nat.le_refl _,e.prot,fun b hb hn=>e.other b hb (fun id hl hf=>by
   obtain ⟨q1,g,q2,q3⟩:=hn id hl hf
   exact ⟨q1,g,q2,kG s q3⟩),fun id b hl hf=>?_,fun id g hid hi=>e.back id g hid (kG s hi),fun id g b hid h0 hi hf=>e.keep id g b hid h0 (kG s hi) hf,fun id g hid hg=>e.curs id g hid (iG h s hg)⟩
  exact e.own id b (hlS id hl) hf
structure eu (S S':St):Prop where
 nx:S.nx ≤ S'.nx
 H:∀ id b,S.H.get id=some b→S'.H.get id=some b
 T:∀ id n,S.T.get id=some n→S'.T.get id=some n
theorem eu.refl (S:St):eu S S:=⟨Nat.le_refl _,fun _ _ h=>h,fun _ _ h=>h⟩
theorem eu.sub {cx:Cx} {S S':St} {w:World} (h:aB R cx S w) (k:eu S S'):qX S S' S where
 nx:=rfl
 H:=fun id b hb=>⟨k.H id b hb,by unfold live cur; rw [hb]; cases b <;> simp,h.under hb⟩
 T:=fun id n hn=>⟨k.T id n hn,by
  unfold live cur
  cases hH:S.H.get id with
  | none=>simp only [hn]; simp
  | some b=>cases b <;> simp⟩
def St.Wf (S:St):Prop:=∀ id,live S id→id < S.nx
theorem St.Wf.H {S:St} (h:S.Wf) {id:Nat} {b:iU} (hb:S.H.get id=some b):id < S.nx:=h id (by unfold live cur; rw [hb]; cases b <;> simp)
theorem St.Wf.fresh {S:St} (h:S.Wf) {id:Nat} (hi:S.nx ≤ id):S.H.get id=none:=by
 cases hb:S.H.get id with
 | none=>rfl
 | some b=>have:=h.H hb; omega
theorem ah.nil {ops:Array Oper} {e:Env} {S:St} {Q:Stp→Prop} (h:Q (.go e S)):ah R C nt ops [] e S Q:=⟨e,.refl e,h⟩
end
end Go.Ev

namespace Go.Ev
noncomputable section
set_option linter.unusedVariables false
set_option linter.unusedSimpArgs false
variable {R:aM} {C:bN} {P:Program} {nt:Nat}
mutual
def D.cn:D→D
 | .di=>.sl [] false
 | .sl xs _=>.sl (D.Dp xs) false
 | .agg xs=>.agg (D.Dp xs)
 | .iface t x=>.iface t (D.cn x)
 | x=>x
def D.Dp:List D→List D
 | []=>[]
 | x :: xs=>D.cn x :: D.Dp xs
end
theorem D.BZ:∀ (l:List D),D.Dp l=l.map D.cn
 | []=>rfl
 | x :: l=>by rw [D.Dp,D.BZ l]; rfl
def gU (y x:D):Prop:=∀ (w:World) (fr:Nat→Nat→Prop) (v:Value),aJ w fr x v→aJ w fr y v
theorem gU.refl (x:D):gU x x:=fun _ _ _ h=>h
theorem gU.less {x y:D} (h:gU y x):Less (.d y) (.d x):=fun cx S w v hr=>.d _ _ (h _ _ _ hr.dd)
inductive gG:List D→List D→Prop
 | nil:gG [] []
 | cons {y x:D} {ys xs:List D} (h:gU y x) (k:gG ys xs):gG (y :: ys) (x :: xs)
theorem gG.len {ys xs:List D} (h:gG ys xs):ys.length=xs.length:=by
 induction h with
 | nil=>rfl
 | cons _ _ ih=>simp [ih]
theorem gG.get {ys xs:List D} (h:gG ys xs):∀ {i:Nat} {y x:D},ys[i]? = some y→xs[i]? = some x→gU y x:=by
 induction h with
 | nil=>intro i y x h; simp at h
 | cons h k ih =>
  intro i y x h1 h2
  cases i with
  | zero=>simp at h1 h2; subst h1; subst h2; exact h
  | succ i=>exact ih (by simpa using h1) (by simpa using h2)
theorem gG.refl:∀ (l:List D),gG l l
 | []=>.nil
 | x :: l=>.cons (.refl x) (.refl l)
def aH (args:List AV) (ds:List D):Prop:=∃ ds',fA args=some ds'∧gG ds ds'
def eF (R:aM) (P:Program) (f:Nat) (ds:List D) (v:AV):Prop:=∀ args S,aH args ds→cB R P f args S (fun r=>r=(none,v,S))
inductive xX:AV→AV→Prop
 | one {y x:D} (h:gU y x):xX (.d y) (.d x)
 | tup {ys xs:List D} (h:gG ys xs):xX (.tup (ys.map .d)) (.tup (xs.map .d))
theorem xX.rel {y x:AV} (h:xX y x) {cx:Cx} {S:St} {w:World} {v:Value} (hr:av cx S w x v):av cx S w y v:=by
 cases h with
 | one h=>exact h.less cx S w v hr
 | tup h =>
  cases hr with
  | tup _ us hl hr =>
   refine .tup _ us (by rw [hl]; simp [h.len]) (fun i x z hx hz=>?_)
   simp only [List.getElem?_map,Option.map_eq_some_iff] at hx
   obtain ⟨y,hy,rfl⟩:=hx
   rename_i xs
   have hlt:i < xs.length:=by rw [← h.len]; exact (List.getElem?_eq_some_iff.1 hy).1
   have hx':=List.getElem?_eq_getElem hlt
   exact .d _ _ (h.get hy hx' _ _ _ (hr i (.d xs[i]) z (by simp [hx']) hz).dd)
theorem eF.of_wp (hR:ObjOk R) {f:Nat} {fn:Func} {c:Code} (hf:C.P.funcs[f]? = some fn) (hc:fn.body=some c) (hn:(fn.name == "runtime.NumGoroutine")=false) {ds:List D} (hle:Nat.ble ds.length fn.ntmps=true) {v:AV}
  (h:aD R C.P fn.ntmps c (iT 0 (ds.map .d)) aG (BD C fn (fun r=>r.1=none∧∃ v',kH r.2.1=some v'∧xX v v'))):eF R C.P f ds v:=by
 intro args S ⟨ds',ha,hds⟩
 obtain ⟨d1,d2⟩:=iH ha
 have hlen:ds.length=args.length:=by rw [hds.len,d1]
 have hs:=cB.of_wp hf hc hn (args:=ds.map .d) (by simpa using Nat.le_of_ble_eq_true hle) h
 refine ⟨hs.1,fun cx w us hS hl hr=>?_⟩
 refine (hs.2 cx w us (qf hS) (by simp [hl,hlen]) (fun i x u hx hu=>?_)).mono (fun e w' he=>?_)
 ·
  simp only [List.getElem?_map,Option.map_eq_some_iff] at hx
  obtain ⟨y,hy,rfl⟩:=hx
  have hlt:i < args.length:=by rw [← hlen]; exact (List.getElem?_eq_some_iff.1 hy).1
  have ha:=List.getElem?_eq_getElem hlt
  have hz:=List.getElem?_eq_getElem (show i < ds'.length by rw [← hds.len,hlen]; exact hlt)
  exact .d _ u (hds.get hy hz _ _ _ (dQ (d2 i _ _ ha hz) (hr i _ u ha hu)))
 ·
  obtain ⟨⟨p,v1,S1⟩,⟨hp,v',hv,hcn⟩,cx1,k1,k2,k3⟩:=he
  simp only at hp hv
  subst hp
  obtain ⟨m1,m2,m3⟩:=lD hR hS k2
  obtain ⟨u,rfl,k3⟩:=k3
  exact ⟨_,rfl,cx,m1,m2,u,rfl,hcn.rel (jU hv k3 (cx':=cx) (S':=S) (w':=w') m3)⟩
inductive bP:List AV→List AV→Prop
 | nil:bP [] []
 | cons {y x:AV} {ys xs:List AV} (h:Less y x) (k:bP ys xs):bP (y :: ys) (x :: xs)
theorem bP.len {ys xs:List AV} (h:bP ys xs):ys.length=xs.length:=by
 induction h with
 | nil=>rfl
 | cons _ _ ih=>simp [ih]
theorem bP.get {ys xs:List AV} (h:bP ys xs):∀ {i:Nat} {y x:AV},ys[i]? = some y→xs[i]? = some x→Less y x:=by
 induction h with
 | nil=>intro i y x h; simp at h
 | cons h k ih =>
  intro i y x h1 h2
  cases i with
  | zero=>simp at h1 h2; subst h1; subst h2; exact h
  | succ i=>exact ih (by simpa using h1) (by simpa using h2)
theorem bP.refl:∀ (l:List AV),bP l l
 | []=>.nil
 | x :: l=>.cons (.refl x) (.refl l)
inductive bC where
 | box (id:Nat) (cs:List AV)
 | grow (v:AV) (xs:List D)
 | obj (id k:Nat) (x:D)
 | map (id:Nat) (m:sN)
 | row (sz:Nat) (v:AV) (xs:List D)
 | abs (ids:List Nat) (p:St→Prop)
def eD:List D→Bool
 | []=>true
 | x :: l=>!x.isAgg && eD l
def bC.fp:bC→List Nat
 | .box id _=>[id]
 | .grow (.tsl _ tok) _=>[tok]
 | .grow _ _=>[]
 | .obj id _ _=>[id]
 | .map id _=>[id]
 | .row _ (.msl id _ _ _ _ _) _=>[id]
 | .row _ _ _=>[]
 | .abs ids _=>ids
def bC.ok (S:St):bC→Prop
 | .box id cs=>S.H.get id=some (.cells 0 cs)
 | .grow v xs=>match v with
  | .d .di=>xs=[]
  | .d (.sl ys true)=>ys=xs
  | .tsl ys tok=>ys=xs∧xs ≠ []∧S.T.get tok=some xs.length∧S.H.get tok=none
  | _=>False
 | .obj id k x=>S.H.get id=some (.obj k x)
 | .map id m=>S.H.get id=some (.map m)
 | .row sz v xs=>match v with
  | .d .di=>xs=[]
  | .d (.sl [] true)=>xs=[]
  | .msl id g off len lim sz'=>off=0∧len=xs.length∧lim=xs.length∧sz'=sz∧0 < sz∧(∀ x ∈ xs,x.cells.length=sz∧eD x.cells=true)∧∃ cs,bP ((xs.map D.cells).flatten.map .d) cs∧S.H.get id=some (.cells g cs)
  | _=>False
 | .abs ids p=>(∀ id ∈ ids,∃ b,S.H.get id=some b)∧∀ S',(∀ id ∈ ids,S'.H.get id=S.H.get id)→p S'
structure Has (B S:St) (l:List bC):Prop where
 wf:S.Wf
 ok:∀ a ∈ l,a.ok S
 nd:(l.map bC.fp).flatten.Nodup
 bwf:B.Wf
 keeps:eu B S
 out:∀ a ∈ l,∀ id ∈ a.fp,B.H.get id=none∧B.T.get id=none
theorem qm {S:St} {id n:Nat} (h:S.T.get id=some n):live S id:=by
 unfold live cur
 cases hH:S.H.get id with
 | none=>simp only [h]; simp
 | some b=>cases b <;> simp
theorem iX {S:St} {id:Nat} {b:iU} (h:S.H.get id=some b):live S id:=by
 unfold live cur; rw [h]; cases b <;> simp
theorem bC.lt {S:St} (wf:S.Wf) {a:bC} (h:a.ok S):∀ id ∈ a.fp,id < S.nx:=by
 intro id hid
 cases a with
 | box i cs=>simp only [bC.fp,List.mem_singleton] at hid; subst hid; exact wf _ (iX h)
 | grow v xs =>
  cases v <;> simp only [bC.fp,List.not_mem_nil,List.mem_singleton] at hid
  subst hid
  exact wf _ (qm h.2.2.1)
 | obj i k x=>simp only [bC.fp,List.mem_singleton] at hid; subst hid; exact wf _ (iX h)
 | map i m=>simp only [bC.fp,List.mem_singleton] at hid; subst hid; exact wf _ (iX h)
 | row sz v xs =>
  cases v <;> simp only [bC.fp,List.not_mem_nil,List.mem_singleton] at hid
  subst hid
  obtain ⟨_,_,hc⟩:=h.2.2.2.2.2.2; exact wf _ (iX hc)
 | abs ids p =>
  obtain ⟨b,hb⟩:=h.1 id hid
  exact wf _ (iX hb)
theorem bC.keep {S S':St} {a:bC} (h:a.ok S) (hH:∀ id ∈ a.fp,S'.H.get id=S.H.get id) (hT:∀ id ∈ a.fp,S'.T.get id=S.T.get id):a.ok S':=by
 cases a with
 | box i cs=>simp only [bC.ok] at h ⊢; rw [hH i (by simp [bC.fp])]; exact h
 | grow v xs =>
  cases v with
  | tsl ys tok=>simp only [bC.ok] at h ⊢; rw [hH tok (by simp [bC.fp]),hT tok (by simp [bC.fp])]; exact h
  | d x=>cases x with
   | sl ys t=>cases t <;> exact h
   | _=>exact h
  | _=>exact h
 | obj i k x=>simp only [bC.ok] at h ⊢; rw [hH i (by simp [bC.fp])]; exact h
 | map i m=>simp only [bC.ok] at h ⊢; rw [hH i (by simp [bC.fp])]; exact h
 | row sz v xs =>
  cases v with
  | msl id g off len lim sz=>simp only [bC.ok] at h ⊢; rw [hH id (by simp [bC.fp])]; exact h
  | d x=>cases x with
   | sl ys t=>cases ys <;> cases t <;> exact h
   | _=>exact h
  | _=>exact h
 | abs ids p=>exact ⟨fun id hid=>by rw [hH id hid]; exact h.1 id hid,fun S2 h2=>h.2 S2 (fun id hid=>(h2 id hid).trans (hH id hid))⟩
theorem bC.DI {S S':St} {ids:List Nat} {p:St→Prop} (h:(bC.abs ids p).ok S) (k:∀ id b,id ∈ ids→S.H.get id=some b→S'.H.get id=some b):(bC.abs ids p).ok S' :=
 have e:∀ id ∈ ids,S'.H.get id=S.H.get id:=fun id hid=>by obtain ⟨b,hb⟩:=h.1 id hid; rw [k id b hid hb,hb]
 ⟨fun id hid=>by rw [e id hid]; exact h.1 id hid,fun S2 h2=>h.2 S2 (fun id hid=>(h2 id hid).trans (e id hid))⟩
theorem Has.start {S:St} (wf:S.Wf):Has S S []:=⟨wf,(fun a h=>by cases h),by simp,wf,.refl S,(fun a h=>by cases h)⟩
theorem Has.pure:Has aG aG []:=.start fun id h=>absurd rfl h
theorem AJ {α β:Type} (f:α→List β) {l' l:List α} (s:l'.Sublist l):(l'.map f).flatten.Sublist (l.map f).flatten:=by
 induction s with
 | slnil=>exact List.Sublist.refl _
 | cons a _ ih=>exact ih.trans (by simp)
 | cons_cons a _ ih=>simpa using ih.append_left (f a)
theorem Has.new {B S:St} {l:List bC} (h:Has B S l) (b:iU) {a:bC} (hf:a.fp=[S.nx]) (ha:a.ok (aP S b)):Has B (aP S b) (a :: l):=by
 have hlt:∀ x ∈ l,∀ id ∈ x.fp,id < S.nx:=fun x hx=>bC.lt h.wf (h.ok x hx)
 refine ⟨fun id hl=>?_,fun x hx=>?_,?_,h.bwf,⟨Nat.le_trans h.keeps.nx (Nat.le_succ _),fun id b' hb'=>?_,fun id n hn=>h.keeps.T id n hn⟩,fun x hx id hid=>?_⟩
 rotate_left 3
 ·
  have:=h.bwf.H hb'
  have:=h.keeps.nx
  simp only [aP,AL.aF]
  rw [if_neg (by omega)]; exact h.keeps.H id b' hb'
 ·
  rcases List.mem_cons.1 hx with rfl | hx
  ·
   rw [hf,List.mem_singleton] at hid
   subst hid
   have hnl:¬ live B S.nx:=fun hl=>by have:=h.bwf _ hl; have:=h.keeps.nx; omega
   refine ⟨?_,?_⟩
   ·
    cases hB:B.H.get S.nx with
    | none=>rfl
    | some b'=>exact (hnl (iX hB)).elim
   ·
    cases hB:B.T.get S.nx with
    | none=>rfl
    | some b'=>exact (hnl (qm hB)).elim
  ·
   exact h.out x hx id hid
 ·
  show id < S.nx + 1
  unfold live cur at hl
  simp only [aP,AL.aF] at hl
  by_cases hi:S.nx=id
  ·
   omega
  ·
   rw [if_neg hi] at hl
   have:=h.wf id hl
   omega
 ·
  rcases List.mem_cons.1 hx with rfl | hx
  ·
   exact ha
  ·
   refine bC.keep (h.ok x hx) (fun id hid=>?_) (fun id hid=>rfl)
   have:=hlt x hx id hid
   simp only [aP,AL.aF]
   rw [if_neg (by omega)]
 ·
  rw [List.map_cons,List.flatten_cons,hf,List.singleton_append,List.nodup_cons]
  refine ⟨fun hm=>?_,h.nd⟩
  obtain ⟨CG,hfps,hid⟩:=List.mem_flatten.1 hm
  obtain ⟨x,hx,rfl⟩:=List.mem_map.1 hfps
  have:=hlt x hx _ hid
  omega
theorem Has.box {B S:St} {l:List bC} (h:Has B S l) (cs:List AV):Has B (aP S (.cells 0 cs)) (.box S.nx cs :: l) :=
 h.new _ rfl (by simp [bC.ok,aP,AL.aF])
theorem Has.xL {B S:St} {l:List bC} (h:Has B S l):AL.has S.H S.nx=false:=by
 cases hb:AL.has S.H S.nx with
 | false=>rfl
 | true =>
  obtain ⟨b,hb⟩:=AL.mh hb
  have:=h.wf _ (iX hb)
  omega
theorem rz {l:List bC} (hn:(l.map bC.fp).flatten.Nodup) {i j:Nat} {a b:bC} (ha:l[i]? = some a) (hb:l[j]? = some b) (hij:i ≠ j) {id:Nat} (h1:id ∈ a.fp) (h2:id ∈ b.fp):False:=by
 induction l generalizing i j with
 | nil=>simp at ha
 | cons x l ih =>
  rw [List.map_cons,List.flatten_cons,List.nodup_append] at hn
  obtain ⟨n1,n2,n3⟩:=hn
  cases i with
  | zero =>
   cases j with
   | zero=>exact hij rfl
   | succ j =>
    simp only [List.getElem?_cons_zero,Option.some.injEq] at ha
    subst ha
    simp only [List.getElem?_cons_succ] at hb
    exact n3 id h1 id (List.mem_flatten.2 ⟨_,List.mem_map.2 ⟨b,List.mem_of_getElem? hb,rfl⟩,h2⟩) rfl
  | succ i =>
   simp only [List.getElem?_cons_succ] at ha
   cases j with
   | zero =>
    simp only [List.getElem?_cons_zero,Option.some.injEq] at hb
    subst hb
    exact n3 id h2 id (List.mem_flatten.2 ⟨_,List.mem_map.2 ⟨a,List.mem_of_getElem? ha,rfl⟩,h1⟩) rfl
   | succ j =>
    simp only [List.getElem?_cons_succ] at hb
    exact ih n2 ha hb (by omega)
theorem Has.set {B S S':St} {l:List bC} (h:Has B S l) {i:Nat} {a a':bC} (hi:l[i]? = some a) (hf:a'.fp=a.fp) (ha:a'.ok S') (wf:S'.Wf)
  (hH:∀ id,id ∉ a.fp→S'.H.get id=S.H.get id) (hT:∀ id,id ∉ a.fp→S'.T.get id=S.T.get id) (hnx:S'.nx=S.nx):Has B S' (l.set i a'):=by
 have hil:i < l.length:=(List.getElem?_eq_some_iff.1 hi).1
 have hma:=List.mem_of_getElem? hi
 refine ⟨wf,fun x hx=>?_,?_,h.bwf,⟨by rw [hnx]; exact h.keeps.nx,fun id b hb=>?_,fun id n hn=>?_⟩,fun x hx id hid=>?_⟩
 rotate_left 2
 ·
  rw [hH id (fun q=>by rw [(h.out a hma id q).1] at hb; cases hb)]; exact h.keeps.H id b hb
 ·
  rw [hT id (fun q=>by rw [(h.out a hma id q).2] at hn; cases hn)]; exact h.keeps.T id n hn
 ·
  rcases List.mem_or_eq_of_mem_set hx with hx | rfl
  ·
   exact h.out x hx id hid
  ·
   rw [hf] at hid; exact h.out a hma id hid
 ·
  obtain ⟨j,hj,rfl⟩:=List.getElem_of_mem hx
  rw [List.length_set] at hj
  by_cases hij:i=j
  ·
   subst hij; rw [List.getElem_set_self]; exact ha
  ·
   rw [List.getElem_set_ne hij]
   have hlj:l[j]? = some l[j]:=List.getElem?_eq_getElem hj
   refine bC.keep (h.ok l[j] (List.getElem_mem hj)) (fun id hid=>hH id (fun q=>rz h.nd hi hlj hij q hid)) (fun id hid=>hT id (fun q=>rz h.nd hi hlj hij q hid))
 ·
  have:(l.set i a').map bC.fp=l.map bC.fp:=by
   apply List.ext_getElem?
   intro j
   rw [List.getElem?_map,List.getElem?_map,List.getElem?_set]
   by_cases hij:i=j
   ·
    subst hij; have:=(List.getElem?_eq_some_iff.1 hi).2; simp [hil,hf,this]
   ·
    simp [hij]
  rw [this]; exact h.nd
theorem Has.at {B S:St} {l:List bC} (h:Has B S l) {i:Nat} {a:bC} (hi:l[i]? = some a):a.ok S:=h.ok a (List.mem_of_getElem? hi)
theorem Has.write {B S:St} {l:List bC} (h:Has B S l) {i id:Nat} {cs cs':List AV} (hi:l[i]? = some (.box id cs)):Has B { S with H:=S.H.set id (.cells 0 cs') } (l.set i (.box id cs')):=by
 have hid:=h.at hi
 refine h.set hi rfl (by simp [bC.ok,AL.aF]) (fun j hl=>?_) (fun j hj=>?_) (fun j hj=>rfl) rfl
 ·
  refine h.wf j ?_
  unfold live cur at hl ⊢
  simp only [AL.aF] at hl
  by_cases hij:id=j
  ·
   subst hij; rw [show S.H.get id=_ from hid]; simp
  ·
   rw [if_neg hij] at hl; exact hl
 ·
  simp only [bC.fp,List.mem_singleton] at hj
  simp only [AL.aF]
  rw [if_neg (fun q=>hj q.symm)]
end
end Go.Ev

namespace Go.Ev
noncomputable section
set_option linter.unusedVariables false
set_option linter.unusedSimpArgs false
variable {R:aM} {C:bN} {P:Program} {nt:Nat}
def iE:Option iU→Option iU→Prop
 | some (.cells g' cs'),some (.cells g cs)=>g'=g∧bP cs' cs
 | a,b=>a=b
theorem iE.refl (a:Option iU):iE a a:=by
 cases a with
 | none=>rfl
 | some b=>cases b with
  | cells g cs=>exact ⟨rfl,.refl _⟩
  | map m=>rfl
  | obj k x=>rfl
structure fE (S2 S:St):Prop where
 nx:S2.nx=S.nx
 T:∀ id,S2.T.get id=S.T.get id
 H:∀ id,iE (S2.H.get id) (S.H.get id)
theorem iE.cases {a b:Option iU} (h:iE a b):a=b∨∃ g cs' cs,a=some (.cells g cs')∧b=some (.cells g cs)∧bP cs' cs:=by
 unfold iE at h
 split at h
 ·
  obtain ⟨rfl,h⟩:=h; exact .inr ⟨_,_,_,rfl,rfl,h⟩
 ·
  exact .inl h
theorem fE.cur {S2 S:St} (k:fE S2 S) (id:Nat):cur S2 id=cur S id:=by
 unfold Ev.cur
 rcases (k.H id).cases with h | ⟨g,cs',cs,h1,h2,_⟩
 ·
  rw [h,k.T]
 ·
  rw [h1,h2]
theorem fE.isIt {S2 S:St} (k:fE S2 S) {id g:Nat}:isIt S2 id g↔isIt S id g:=by
 unfold Ev.isIt
 rcases (k.H id).cases with h | ⟨g,cs',cs,h1,h2,_⟩
 ·
  rw [h]
 ·
  rw [h1,h2]; simp
theorem fE.live {S2 S:St} (k:fE S2 S) {id:Nat}:live S2 id↔live S id:=by unfold Ev.live; rw [k.cur]
theorem fE.refl (S:St):fE S S:=⟨rfl,fun _=>rfl,fun _=>iE.refl _⟩
theorem av.dw {cx:Cx} {S2 S:St} {w:World} (k:fE S2 S) {x:AV} {v:Value} (h:av cx S w x v):av cx S2 w x v:=by
 have nm:∀ {id g:Nat},Names S id g→Names S2 id g:=fun h=>⟨by rw [k.nx]; exact h.1,fun g' hg=>h.2 g' (by rw [← k.cur]; exact hg)⟩
 have cr:∀ {id:Nat} {o:Option Nat},cur S2 id=o→cur S id=o:=fun h=>by rw [← k.cur]; exact h
 induction h with
 | d x v hd=>exact .d x v hd
 | tsl xs tok b off cap hn hd hp=>exact .tsl xs tok b off cap (nm hn) hd (fun hc=>hp (cr hc))
 | ptr id g off b hn hp=>exact .ptr id g off b (nm hn) (fun hc=>hp (cr hc))
 | msl id g off len lim sz b cap hn hl hcap h63 hp=>exact .msl id g off len lim sz b cap (nm hn) hl hcap h63 (fun hc=>hp (cr hc))
 | any v=>exact .any v
 | eptr x off b o vs hd hc=>exact .eptr x off b o vs hd hc
 | map id b hn hp=>exact .map id b (nm hn) (fun hc=>hp (cr hc))
 | asl id g off len sz b hn h63 hp=>exact .asl id g off len sz b (nm hn) h63 (fun hc=>hp (cr hc))
 | fn f cs vs hl hr ih=>exact .fn f cs vs hl ih
 | agg xs vs hl ho hr ih=>exact .agg xs vs hl ho ih
 | tup xs vs hl hr ih=>exact .tup xs vs hl ih
 | it0 k' g since st b seen hn hp =>
  exact .it0 k' g since st b seen (nm hn) (fun hk=>by
   obtain ⟨p1,p2,p3,p4⟩:=hp (k.isIt.1 hk)
   exact ⟨p1,p2,fun i hi hf=>p3 i (by rw [← k.cur]; exact hi) hf,p4⟩)
 | it k' g id since st b m seen hn hni hm hp =>
  exact .it k' g id since st b m seen (nm hn) (nm hni) (fun hc=>hm (cr hc)) (fun hk=>by
   obtain ⟨p1,p2,p3,p4⟩:=hp (k.isIt.1 hk)
   exact ⟨p1,p2,fun i hi hf=>p3 i (by rw [← k.cur]; exact hi) hf,p4⟩)
theorem aB.dw {cx:Cx} {S2 S:St} {w:World} (h:aB R cx S w) (k:fE S2 S):aB R cx S2 w where
 wf:=fun id hl=>by rw [k.nx]; exact h.wf id (k.live.1 hl)
 kC:=fun id b hb=>by
  rw [k.T]
  rcases (k.H id).cases with q | ⟨g,cs',cs,h1,h2,_⟩
  ·
   rw [q] at hb; exact h.kC id b hb
  ·
   exact h.kC id _ h2
 cells:=fun id g cs hb=>by
  rcases (k.H id).cases with q | ⟨g',cs',ds,h1,h2,h3⟩
  ·
   rw [q] at hb
   obtain ⟨c1,c2,arr,el,c3,c4,c5⟩:=h.cells id g cs hb
   refine ⟨c1,c2,arr,el,c3,c4,fun i x hx=>?_⟩
   obtain ⟨v,v1,v2,v3⟩:=c5 i x hx
   exact ⟨v,v1,v2.dw k,v3⟩
  ·
   rw [h1] at hb; cases hb
   obtain ⟨c1,c2,arr,el,c3,c4,c5⟩:=h.cells id _ ds h2
   refine ⟨c1,c2,arr,el,c3,by rw [h3.len]; exact c4,fun i x hx=>?_⟩
   have hlt:i < ds.length:=by rw [← h3.len]; exact (List.getElem?_eq_some_iff.1 hx).1
   have hy:=List.getElem?_eq_getElem hlt
   obtain ⟨v,v1,v2,v3⟩:=c5 i _ hy
   exact ⟨v,v1,(h3.get hx hy _ _ _ _ v2).dw k,v3⟩
 maps:=fun id es hb=>by
  rcases (k.H id).cases with q | ⟨g',cs',ds,h1,h2,h3⟩
  ·
   rw [q] at hb
   obtain ⟨c1,c2,ms,clk,c3,c4,c5⟩:=h.maps id es hb
   refine ⟨c1,c2,ms,clk,c3,c4,fun i p m hp hm=>?_⟩
   obtain ⟨v1,v2⟩:=c5 i p m hp hm
   exact ⟨v1,v2.dw k⟩
  ·
   rw [h1] at hb; cases hb
 objs:=fun id kd x hb=>by
  rcases (k.H id).cases with q | ⟨g',cs',ds,h1,h2,h3⟩
  ·
   rw [q] at hb; exact h.objs id kd x hb
  ·
   rw [h1] at hb; cases hb
 toks:=fun id en hb=>h.toks id en (by rw [← k.T]; exact hb)
 sep:=fun id id' b a1 a2=>h.sep id id' b (k.live.1 a1) (k.live.1 a2)
 lt:=h.lt
 stat:=h.stat
theorem Ext.dw {cx cx':Cx} {S2 S S':St} {w w':World} (k:fE S2 S) (e:Ext cx S2 w cx' S' w'):Ext cx S w cx' S' w' where
 size:=e.size
 os:=e.os
 tape:=e.tape
 output:=e.output
 nx:=by rw [← k.nx]; exact e.nx
 prot:=e.prot
 other:=fun b hb hn=>e.other b hb (fun id hl hf=>by
  obtain ⟨q1,g,q2,q3⟩:=hn id (k.live.1 hl) hf
  exact ⟨by rw [k.nx]; exact q1,g,k.isIt.2 q2,q3⟩)
 own:=fun id b hl hf=>by
  obtain ⟨q1,q2⟩:=e.own id b hl hf
  rw [k.nx] at q1 q2
  exact ⟨fun h=>⟨k.live.1 (q1 h).1,(q1 h).2⟩,q2⟩
 back:=fun id g hid hi=>by
  obtain ⟨g',h⟩:=e.back id g (by rw [k.nx]; exact hid) hi
  exact ⟨g',k.isIt.1 h⟩
 keep:=fun id g b hid h0 hi hf=>e.keep id g b (by rw [k.nx]; exact hid) (k.isIt.2 h0) hi hf
 curs:=fun id g hid hg=>by
  obtain ⟨g0,h0,h1⟩:=e.curs id g (by rw [k.nx]; exact hid) hg
  exact ⟨g0,by rw [← k.cur]; exact h0,h1⟩
theorem Fin.dw {cx:Cx} {S2 S:St} {w:World} {a:Act} {K:Exit→Act→World→Prop} (k:fE S2 S) {r:jR} (h:Fin R cx S w nt a K r):Fin R cx S2 w nt a K r:=by
 obtain ⟨x,e,S'⟩:=r
 cases x with
 | normal=>exact fun cx' a' w' q1 q2 q3 q4=>h cx' a' w' q1 (q2.dw k) q3 q4
 | exit id=>exact fun cx' a' w' q1 q2 q3 q4=>h cx' a' w' q1 (q2.dw k) q3 q4
 | ret=>exact fun cx' a' w' q1 q2 q3 q4=>h cx' a' w' q1 (q2.dw k) q3 q4
 | panic v=>exact fun cx' a' w' u q1 q2 q3 q4=>h cx' a' w' u q1 (q2.dw k) q3 q4
theorem bW.dw {cx:Cx} {S2 S:St} {w:World} {e:Env} {a:Act} (k:fE S2 S) (h:bW cx S w nt e a):bW cx S2 w nt e a :=
 ⟨h.size,fun t x hx=>let ⟨v,v1,v2⟩:=h.rel t x hx; ⟨v,v1,v2.dw k⟩⟩
theorem aD.dw {c:Code} {e:Env} {S2 S:St} {Q:jR→Prop} (k:fE S2 S) (h:aD R P nt c e S2 Q):aD R P nt c e S Q :=
 fun cx w a K h1 h2 h3=>h cx w a K (h1.dw k) (h2.dw k) (fun r q=>(h3 r q).dw k)
theorem nQ.dw {c:Code} {e:Env} {S2 S:St} {Q:jR→Prop} (k:fE S2 S) (h:nQ R P nt c e S2 Q):nQ R P nt c e S Q :=
 fun cx w a K h1 h2 h3=>h cx w a K (h1.dw k) (h2.dw k) (fun r q=>(h3 r q).dw k)
theorem aD.ghost {c:Code} {e e2:Env} {S S2:St} {Q:jR→Prop} (g:iy R nt e S e2 S2) (h:aD R P nt c e2 S2 Q):aD R P nt c e S Q:=fun cx w a K h1 h2 h3=>by
 obtain ⟨c2,q1,q2,q3⟩:=g cx w a h1 h2
 exact h c2 w a K q1 q3 (fun r q=>(h3 r q).trans q2 rfl)
theorem nQ.ghost {c:Code} {e e2:Env} {S S2:St} {Q:jR→Prop} (g:iy R nt e S e2 S2) (h:nQ R P nt c e2 S2 Q):nQ R P nt c e S Q:=fun cx w a K h1 h2 h3=>by
 obtain ⟨c2,q1,q2,q3⟩:=g cx w a h1 h2
 exact h c2 w a K q1 q3 (fun r q=>(h3 r q).trans q2 rfl)
end
end Go.Ev

namespace Go.Ev
noncomputable section
set_option linter.unusedVariables false
set_option linter.unusedSimpArgs false
variable {B:St}
section steps
variable {R:aM} {C:bN} {nt:Nat} {ops:Array Oper} {rest:List Oper} {e:Env} {S S':St} {Q:Stp→Prop} {l l':List bC} {t ty:Nat} {p:String} {af:Array Edge} {g:Option (Nat × Bool)}
theorem ah.one {o:Oper} (hw:bf ops e o=some true) (h:vG R C nt o.dst o.op e S (fun r=>match r with
  | .go e' S'=>ah R C nt ops rest e' S' Q
  | .stop v S'=>Q (.stop v S'))):ah R C nt ops (o :: rest) e S Q:=⟨e,S,.refl e S,.inr (.inl ⟨e,.refl e,hw,h⟩)⟩
theorem ah.val {op:Op} {v:AV} (hw:bf ops e { dst:=some t,op:=op,type:=ty,pos:=p,after:=af,guard:=g }=some true) (ho:oper C (bA e) S op=some (.val v S')) (ht:Nat.blt t nt=true) (k:ah R C nt ops rest ((t,v) :: e) S' Q) :
  ah R C nt ops ({ dst:=some t,op:=op,type:=ty,pos:=p,after:=af,guard:=g } :: rest) e S Q :=
 ah.one hw (.inl ⟨v,S',_,ho,by simp only [Env.put,ht,cond_true],k⟩)
theorem ah.skip {op:Op} (hw:bf ops e { dst:=none,op:=op,type:=ty,pos:=p,after:=af,guard:=g }=some true) (ho:oper C (bA e) S op=some (.skip S')) (k:ah R C nt ops rest e S' Q) :
  ah R C nt ops ({ dst:=none,op:=op,type:=ty,pos:=p,after:=af,guard:=g } :: rest) e S Q :=
 ah.one hw (.inr (.inl ⟨S',ho,rfl,k⟩))
theorem ah.ret {op:Op} {f:Nat} {args:List AV} {v:AV} (hw:bf ops e { dst:=some t,op:=op,type:=ty,pos:=p,after:=af,guard:=g }=some true) (ho:oper C (bA e) S op=some (.call f args)) (hs:cB R C.P f args S (fun r=>r=(none,v,S'))) (ht:Nat.blt t nt=true) (k:ah R C nt ops rest ((t,v) :: e) S' Q) :
  ah R C nt ops ({ dst:=some t,op:=op,type:=ty,pos:=p,after:=af,guard:=g } :: rest) e S Q :=
 ah.one hw (.inr (.inr (.inl ⟨f,args,ho,hs.mono fun r hr=>by subst hr; exact ⟨_,by simp only [Env.put,ht,cond_true],k⟩⟩)))
theorem ah.no {op:Op} (hw:bf ops e { dst:=some t,op:=op,type:=ty,pos:=p,after:=af,guard:=g }=some false) (ht:Nat.blt t nt=true)
  (k:ah R C nt ops rest ((t,.tup []) :: e) S Q) :
  ah R C nt ops ({ dst:=some t,op:=op,type:=ty,pos:=p,after:=af,guard:=g } :: rest) e S Q :=
 ⟨e,S,.refl e S,.inr (.inr ⟨e,_,.refl e,hw,(by simp only [Env.put,ht,cond_true]),k⟩)⟩
theorem ah.app:∀ (l1:List Oper) {l2:List Oper} {e:Env} {S:St} {Q:Stp→Prop},ah R C nt ops l1 e S (fun r=>match r with | .go e' S'=>ah R C nt ops l2 e' S' Q | .stop v S'=>Q (.stop v S'))→ah R C nt ops (l1 ++ l2) e S Q
 | [],l2,e,S,Q,⟨e2,hs,h⟩=>ah.weak hs h
 | o :: l1,l2,e,S,Q,⟨e2,S2,hs,h⟩=>⟨e2,S2,hs,h.mono fun r hr=>by
   cases r with
   | go e' S'=>exact ah.app l1 hr
   | stop v S'=>exact hr⟩
theorem ah.mono:∀ {L:List Oper} {e:Env} {S:St} {Q Q':Stp→Prop},ah R C nt ops L e S Q→(∀ r,Q r→Q' r)→ah R C nt ops L e S Q'
 | [],e,S,Q,Q',⟨e2,hs,h⟩,hq=>⟨e2,hs,hq _ h⟩
 | o :: l1,e,S,Q,Q',⟨e2,S2,hs,h⟩,hq=>⟨e2,S2,hs,h.mono fun r hr=>by
   cases r with
   | go e' S'=>exact ah.mono hr hq
   | stop v S'=>exact hq _ hr⟩
end steps
section opers
variable {C:bN} {e:Env} {ρ:Operand→Option AV} {S:St} {l l':List bC} {v:AV} {x y:Operand} {t:Nat}
theorem aj (h:ρ x=some v):oper C ρ S (.assign x)=some (.val v S):=by simp only [oper,h,Option.map_some]
theorem ae (h:ρ x=some v):oper C ρ S (.move x)=some (.val v S):=by simp only [oper,h,Option.map_some]
theorem aT {c:Operand} {b:Bool} (hc:ρ c=some (.d (.bool b))) (h:ρ (if b then x else y)=some v):oper C ρ S (.pick c x y)=some (.val v S):=by simp only [oper,hc,h,Option.map_some]
theorem Am (H:Has B S l) {cs:List AV} (h:ρ x=some v) (hp:v.plain=true) (hc:v.cells=cs):oper C ρ S (.box t x)=some (.val (.ptr S.nx 0 0) (aP S (.cells 0 cs))):=by
 subst hc
 simp only [oper,h,hp,if_true,H.xL,cond_false]; rfl
theorem xP (H:Has B S l) {z:D} {cs:List AV} (ho:C.objT t=none) (hz:zeroOf C.P t=some z) (hc:(AV.d z).cells=cs):oper C ρ S (.alloc t)=some (.val (.ptr S.nx 0 0) (aP S (.cells 0 cs))):=by
 subst hc
 simp only [oper,ho,hz,Option.map_some,H.xL,cond_false]; rfl
theorem aK {s fld id g off fo ft o':Nat} (h:ρ x=some (.ptr id g off)) (hf:cu C.P s fld=some (fo,ft)) (hz:Nat.beq (au C.P ft) 0=false) (ho:off + fo=o'):oper C ρ S (.fieldAddr s x fld)=some (.val (.ptr id g o') S):=by
 subst ho
 simp only [oper,h,hf]
 rw [if_neg (fun q=>by rw [q] at hz; simp at hz)]
theorem bT {s fld off fo ft o':Nat} {d:D} (h:ρ x=some (.eptr d off)) (hf:cu C.P s fld=some (fo,ft)) (hz:Nat.beq (au C.P ft) 0=false) (ho:off + fo=o'):oper C ρ S (.fieldAddr s x fld)=some (.val (.eptr d o') S):=by
 subst ho
 simp only [oper,h,hf]
 rw [if_neg (fun q=>by rw [q] at hz; simp at hz)]
theorem cK {P:Program} {cs:List AV} {off:Nat} (ha:dA P t=some false) (h:cs[off]? = some v):part P t cs off=some v:=by simp only [part,ha,h]
theorem mV {P:Program} {cs:List AV} {off n:Nat} (ha:dA P t=some true) (hz:au P t=n) (hl:Nat.ble (off + n) cs.length=true):part P t cs off=some (fF ((cs.drop off).take n)):=by
 subst hz
 simp only [part,ha]; rw [if_pos (Nat.le_of_ble_eq_true hl)]
theorem bH {P:Program} {cs:List D} {off:Nat} {d:D} (ha:dA P t=some false) (h:cs[off]? = some d):dJ P t cs off=some d:=by simp only [dJ,ha,h]
theorem uj {P:Program} {cs:List D} {off n:Nat} (ha:dA P t=some true) (hz:au P t=n) (hl:Nat.ble (off + n) cs.length=true):dJ P t cs off=some (.agg ((cs.drop off).take n)):=by
 subst hz
 simp only [dJ,ha]; rw [if_pos (Nat.le_of_ble_eq_true hl)]
theorem bM (H:Has B S l) {i id off:Nat} {cs:List AV} (h:ρ x=some (.ptr id 0 off)) (hi:l[i]? = some (.box id cs)) (hp:part C.P t cs off=some v):oper C ρ S (.load t x)=some (.val v S):=by
 have hb:S.H.get id=some (.cells 0 cs):=H.at hi
 simp only [oper,h,iP,St.look,hb,Nat.beq_refl,cond_true,hp,Option.map_some]
theorem bq {off:Nat} {d r:D} (h:ρ x=some (.eptr d off)) (hp:dJ C.P t d.cells off=some r):oper C ρ S (.load t x)=some (.val (.d r) S):=by
 simp only [oper,h,iP,hp,Option.map_some]
theorem xA (H:Has B S l) {i id off n:Nat} {cs cv:List AV} (ha:ρ x=some (.ptr id 0 off)) (hy:ρ y=some v) (hcv:v.cells=cv) (hn:cv.length=n) (hz:au C.P t=n) (hp:v.plain=true) (hag:(dA C.P t).isSome=true) (hi:l[i]? = some (.box id cs)) (hb:Nat.ble (off + n) cs.length=true) :
  oper C ρ S (.store t x y)=some (.skip { S with H:=S.H.set id (.cells 0 (setAt cs off cv)) }):=by
 subst hcv
 subst hn
 have hg:S.H.get id=some (.cells 0 cs):=H.at hi
 simp only [oper,ha,hy,mE,hg]
 rw [if_pos ⟨hz.symm,hp,hag⟩,if_pos trivial,if_pos (Nat.le_of_ble_eq_true hb)]
 rfl
theorem rY {tt:Nat} {n:Nat} (h:ρ x=some v) (ht:kz C tt v=true) (hn:fQ v S=some n):oper C ρ S (.call { callee:=.builtin .len,args:=#[x],argTypes:=#[tt] })=some (.val (.d (.int .i64 (n:Int))) S):=by
 have:dG ρ [x]=some [v]:=by simp only [dG,h,Option.map_some]
 simp only [oper,this,dH,List.getElem?_toArray,List.getElem?_cons_zero,ht,if_true,hn,Option.map_some]
theorem ay {op:BinOp} {ty:Nat} {a b:AV} {r:D} (hx:ρ x=some a) (hy:ρ y=some b) (hb:eQ C.P t op a b=some r):oper C ρ S (.binOp op t x y ty)=some (.val (.d r) S):=by
 simp only [oper,hx,hy,hb,Option.map_some]
theorem Aa {b:Bool} (hx:ρ x=some (.d (.bool b))):oper C ρ S (.unOp .not t x)=some (.val (.d (.bool (!b))) S):=by simp only [oper,hx]
theorem sF {src dst:Nat} {k k':IntKind} {n:Int} (hx:ρ x=some (.d (.int k n))) (hs:(C.P.underlying src).isSome=true) (hk:zi C.P dst=some k'):oper C ρ S (.convert src dst x)=some (.val (.d (.int k' (k'.wrap n))) S):=by
 simp only [oper,hx,rM,hs,if_true,hk,Option.map_some]
theorem aN {f:Nat} {as_:Array Operand} {ts:Array Nat} {args:List AV} (ha:dG ρ as_.toList=some args) (hf:ρ (.func f)=some (.fn f [])):oper C ρ S (.call { callee:=.value (.func f),args:=as_,argTypes:=ts })=some (.call f args):=by
 simp only [oper,hf,ha,List.append_nil]
theorem bK {n:Int} {k:IntKind} {r:AV} (hx:ρ x=some v) (hy:ρ y=some (.d (.int k n))) (hi:dx C t v (.d (.int k n))=some r):oper C ρ S (.indexAddr t x y)=some (.val r S):=by simp only [oper,hx,hy,hi,Option.map_some]
theorem dU {P:Program} {k:IntKind} {a b:Int}:eQ P t .add (.d (.int k a)) (.d (.int k b))=some (.int k (k.wrap (a + b))):=by simp only [eQ,if_true,fU]
theorem dI {P:Program} {k:IntKind} {a b:Int}:eQ P t .sub (.d (.int k a)) (.d (.int k b))=some (.int k (k.wrap (a - b))):=by simp only [eQ,if_true,fU]
theorem Ay {P:Program} {k:IntKind} {a b:Int} (h:b ≠ 0):eQ P t .quo (.d (.int k a)) (.d (.int k b))=some (.int k (k.wrap (a.tdiv b))):=by simp only [eQ,if_true,fU,if_neg h]
theorem Ab {P:Program} {k:IntKind} {a b:Int} (h:b ≠ 0):eQ P t .rem (.d (.int k a)) (.d (.int k b))=some (.int k (a.tmod b)):=by simp only [eQ,if_true,fU,if_neg h]
def dm (k:IntKind) (a b:Int):Int:=k.wrap (BitVec.ofInt k.bits a &&& BitVec.ofInt k.bits b).toNat
theorem qG {P:Program} {k:IntKind} {a b:Int}:eQ P t .and (.d (.int k a)) (.d (.int k b))=some (.int k (dm k a b)):=by simp only [eQ,if_true,fU]; rfl
theorem ib {P:Program} {k:IntKind} {a b:Int}:eQ P t .eql (.d (.int k a)) (.d (.int k b))=some (.bool (a == b)):=by simp only [eQ,if_true,fU]
theorem rF {P:Program} {k:IntKind} {a b:Int}:eQ P t .neq (.d (.int k a)) (.d (.int k b))=some (.bool (a != b)):=by simp only [eQ,if_true,fU]
theorem dS {P:Program} {k:IntKind} {a b:Int}:eQ P t .lss (.d (.int k a)) (.d (.int k b))=some (.bool (decide (a < b))):=by simp only [eQ,if_true,fU]
theorem AZ {P:Program} {k:IntKind} {a b:Int}:eQ P t .leq (.d (.int k a)) (.d (.int k b))=some (.bool (decide (a ≤ b))):=by simp only [eQ,if_true,fU]
theorem qV {P:Program} {k:IntKind} {a b:Int}:eQ P t .gtr (.d (.int k a)) (.d (.int k b))=some (.bool (decide (b < a))):=by simp only [eQ,if_true,fU]
theorem iM {P:Program} {k:IntKind} {a b:Int}:eQ P t .geq (.d (.int k a)) (.d (.int k b))=some (.bool (decide (b ≤ a))):=by simp only [eQ,if_true,fU]
theorem Be {P:Program} {a b:List UInt8} (h:a.length + b.length ≤ 4611686018427387904):eQ P t .add (.d (.str a)) (.d (.str b))=some (.str (a ++ b)):=by simp only [eQ,rW,if_pos h]
theorem zq {P:Program} {a b:List UInt8}:eQ P t .eql (.d (.str a)) (.d (.str b))=some (.bool (a == b)):=by simp only [eQ,rW]
theorem Aq {xs:List D} {b:Bool} (h:(aS C.P t).isSome=true):kz C t (.d (.sl xs b))=true:=by
 unfold aS at h
 unfold kz
 split at h
 ·
  rename_i hu; simp only [hu]
 ·
  cases h
def idx {α:Type} (l:List α) (n:Int):Option α:=if 0 ≤ n then l[n.toNat]? else none
theorem jc {α:Type} {l:List α} {n:Int} {x:α} (h:idx l n=some x):0 ≤ n∧l[n.toNat]? = some x:=by
 unfold idx at h
 split at h
 ·
  rename_i hn; exact ⟨hn,h⟩
 ·
  cases h
theorem dn {α:Type} {enc:α→D} {l:List α} {n:Int} {k:IntKind} {z:α} {el:Nat} {b:Bool} (h:idx l n=some z) (he:aS C.P t=some el) (ha:(dA C.P el).isSome=true) (hz:(enc z).cells.length=au C.P el) :
  dx C t (.d (.sl (l.map enc) b)) (.d (.int k n))=some (.eptr (enc z) 0):=by
 obtain ⟨h0,h1⟩:=jc h
 have:(l.map enc)[n.toNat]? = some (enc z):=by rw [List.getElem?_map,h1]; rfl
 simp only [dx,he,h0,ha,decide_true,Bool.and_self,if_true,this,hz]
end opers
theorem aH.nil:aH [] []:=⟨[],rfl,.nil⟩
theorem aH.rH {x:AV} {d d':D} {xs:List AV} {ds:List D} (h:qO x=some d') (hc:gU d d') (k:aH xs ds):aH (x :: xs) (d :: ds):=by
 obtain ⟨ds',k1,k2⟩:=k
 exact ⟨d' :: ds',by simp only [fA,h,k1,Option.map_some],.cons hc k2⟩
theorem aH.eq {d:D} {xs:List AV} {ds:List D} (k:aH xs ds):aH (.d d :: xs) (d :: ds):=.rH rfl (.refl d) k
theorem fw {α:Type} {c:Bool} {x y:α} {r:α} (hb:c=true) (h:(if c=true then x else y)=r):x=r:=by rw [if_pos hb] at h; exact h
theorem fB {α:Type} {c:Bool} {x y:α} {r:α} (hb:c=false) (h:(if c=true then x else y)=r):y=r:=by rw [if_neg (by rw [hb]; simp)] at h; exact h
theorem bind_some {α β:Type} {o:Option α} {f:α→Option β} {r:β} (h:o.bind f=some r):∃ z,o=some z∧f z=some r:=Option.bind_eq_some_iff.1 h
section code
variable {R:aM} {P:Program} {nt:Nat}
def At (R:aM) (nt:Nat) (B:St) {α:Type} (sem:α→Prop) (env:α→Env) (shape:α→List bC) (e:Env) (S:St):Prop:=∃ a e1 S1 S2,iy R nt e S e1 S1∧fE S2 S1∧aa (env a) e1∧Has B S2 (shape a)∧sem a
theorem aD.join {α:Type} (sem:α→Prop) (env:α→Env) (shape:α→List bC) {x y:Code} {e:Env} {S:St} {Q:jR→Prop}
  (hj:∀ a S',Has B S' (shape a)→sem a→aD R P nt y (env a) S' Q)
  (hx:aD R P nt x e S (wX (At R nt B sem env shape) Q)):aD R P nt (.seq x y) e S Q :=
 aD.seq (hx.mono fun r hr=>by
  obtain ⟨q,e',S'⟩:=r
  cases q with
  | normal=>obtain ⟨a,e1,S1,S2,hg,h0,h1,h2,h3⟩:=hr; exact (((hj a S2 h2 h3).weak h1).dw h0).ghost hg
  | exit id=>exact hr
  | ret=>exact hr
  | panic v=>exact hr)
theorem nQ.ind {α:Type} (sem:Nat→α→Prop) (env:α→Env) (shape:α→List bC) {c:Code} {Q:jR→Prop} (h0:∀ a,¬ sem 0 a)
  (step:∀ k a S,Has B S (shape a)→sem (k + 1) a→aD R P nt c (env a) S (wX (At R nt B (sem k) env shape) Q)) :
  ∀ k a S,Has B S (shape a)→sem k a→nQ R P nt c (env a) S Q
 | 0,a,S,_,h=>(h0 a h).elim
 | k + 1,a,S,hH,h=>nQ.round ((step k a S hH h).mono fun r hr=>by
   obtain ⟨q,e',S'⟩:=r
   cases q with
   | normal=>obtain ⟨a',e1,S1,S2,hg,h4,h1,h2,h3⟩:=hr; exact (((nQ.ind sem env shape h0 step k a' S2 h2 h3).weak h1).dw h4).ghost hg
   | exit id=>exact hr
   | ret=>exact hr
   | panic v=>exact hr)
theorem nQ.start {α:Type} (sem:Nat→α→Prop) (env:α→Env) (shape:α→List bC) {c:Code} {e:Env} {S:St} {Q:jR→Prop} (h0:∀ a,¬ sem 0 a)
  (step:∀ k a S,Has B S (shape a)→sem (k + 1) a→aD R P nt c (env a) S (wX (At R nt B (sem k) env shape) Q))
  (k:Nat) (hat:At R nt B (sem k) env shape e S):aD R P nt (.loop c) e S Q:=by
 obtain ⟨a,e1,S1,S2,hg,h4,hs,hH,h⟩:=hat
 exact aD.loop ((((nQ.ind sem env shape h0 step k a S2 hH h).weak hs).dw h4).ghost hg)
end code
theorem Has.EL {S:St} {l:List bC} (h:Has B S l) (is:List Nat) (hn:is.Nodup) {l':List bC} (hl:is.map (fun i=>l[i]?)=l'.map some):Has B S l':=by
 have hget:∀ (j:Nat) (a:bC),l'[j]? = some a→∃ i,is[j]? = some i∧l[i]? = some a:=fun j a hj=>by
  have:(is.map (fun i=>l[i]?))[j]? = some (some a):=by rw [hl,List.getElem?_map,hj]; rfl
  rw [List.getElem?_map,Option.map_eq_some_iff] at this
  exact this
 refine ⟨h.wf,fun a ha=>?_,?_,h.bwf,h.keeps,fun a ha=>?_⟩
 rotate_left 2
 ·
  obtain ⟨j,hj,rfl⟩:=List.getElem_of_mem ha
  obtain ⟨i,_,hi⟩:=hget j _ (List.getElem?_eq_getElem hj)
  exact h.out _ (List.mem_of_getElem? hi)
 ·
  obtain ⟨j,hj,rfl⟩:=List.getElem_of_mem ha
  obtain ⟨i,_,hi⟩:=hget j _ (List.getElem?_eq_getElem hj)
  exact h.at hi
 ·
  clear hl
  induction l' generalizing is with
  | nil=>simp
  | cons a l' ih =>
   cases is with
   | nil=>obtain ⟨i,hi,_⟩:=hget 0 a rfl; simp at hi
   | cons i is =>
    have hn':=List.nodup_cons.1 hn
    have hi:l[i]? = some a:=by
     obtain ⟨i',h1,h2⟩:=hget 0 a rfl
     simp at h1; subst h1; exact h2
    rw [List.map_cons,List.flatten_cons,List.nodup_append]
    have own:a.fp.Nodup:=by
     cases a with
     | grow v xs=>cases v <;> simp [bC.fp]
     | row sz v xs=>cases v <;> simp [bC.fp]
     | abs ids p=>exact h.nd.sublist (List.sublist_flatten_of_mem (List.mem_map.2 ⟨_,List.mem_of_getElem? hi,rfl⟩))
     | _=>simp [bC.fp]
    refine ⟨own,ih is hn'.2 (fun j b hj=>?_),fun x hx y hy hxy=>?_⟩
    ·
     obtain ⟨i',h1,h2⟩:=hget (j + 1) b (by simpa using hj)
     exact ⟨i',by simpa using h1,h2⟩
    ·
     subst hxy
     obtain ⟨CG,hfps,hid⟩:=List.mem_flatten.1 hy
     obtain ⟨b,hb,rfl⟩:=List.mem_map.1 hfps
     obtain ⟨j,hj,rfl⟩:=List.getElem_of_mem hb
     obtain ⟨i',h1,h2⟩:=hget (j + 1) l'[j] (by simp)
     refine rz h.nd hi h2 (fun q=>?_) hx hid
     subst q
     exact hn'.1 (List.mem_of_getElem? (by simpa using h1))
end
end Go.Ev

namespace Go.Ev
noncomputable section
set_option linter.unusedVariables false
set_option linter.unusedSimpArgs false
variable {B:St}
theorem gU.pM (xs:List D) (t:Bool):gU (.sl xs false) (.sl xs t):=fun w fr v h=>by
 refine ⟨?_,h.2⟩
 have h1:=h.1
 generalize hcs:v.cells.toList=cs at h1 ⊢
 cases h1 with
 | sl0 a cap _ _=>exact .sl0 a cap false (fun h=>by cases h)
 | sl _ _ b off cap sz vs hne hcap ht hsz hlen hx hc=>exact .sl xs false b off cap sz vs hne hcap (fun h=>by cases h) hsz hlen hx hc
theorem gU.di (b:Bool):gU (.sl [] b) .di:=fun w fr v h=>by
 refine ⟨?_,h.2⟩
 have h1:=h.1
 generalize hcs:v.cells.toList=cs at h1 ⊢
 cases h1
 exact .sl0 none 0 b (fun _=>rfl)
theorem CL {S:St} {v:AV} {xs:List D} (h:(bC.grow v xs).ok S):∃ d,qO v=some d∧gU (.sl xs false) d:=by
 simp only [bC.ok] at h
 split at h
 ·
  subst h; exact ⟨_,rfl,.di false⟩
 ·
  subst h; exact ⟨_,rfl,.pM _ _⟩
 ·
  obtain ⟨rfl,_,_⟩:=h; exact ⟨_,rfl,.refl _⟩
 ·
  exact h.elim
theorem xz {C:bN} {S:St} {l:List bC} (H:Has B S l) {i t:Nat} {v:AV} {xs:List D} (hi:l[i]? = some (.grow v xs)) (h:(aS C.P t).isSome=true):kz C t v=true:=by
 have hg:=H.at hi
 unfold aS at h
 unfold kz
 split at h
 ·
  rename_i hu
  simp only [hu]
  simp only [bC.ok] at hg
  split at hg
  ·
   rfl
  ·
   rfl
  ·
   rfl
  ·
   exact hg.elim
 ·
  cases h
theorem yD {S S':St} {l:List bC} (H:Has B S l) {i:Nat} {v:AV} {xs:List D} (hi:l[i]? = some (.grow v xs)):fQ v S'=some xs.length:=by
 have hg:=H.at hi
 simp only [bC.ok] at hg
 split at hg
 ·
  subst hg; rfl
 ·
  subst hg; rfl
 ·
  obtain ⟨rfl,_⟩:=hg; rfl
 ·
  exact hg.elim
theorem iF {C:bN} {α:Type} {enc:α→D} {S:St} {l:List bC} (H:Has B S l) {i t:Nat} {v:AV} {xs:List α} (hi:l[i]? = some (.grow v (xs.map enc))) {n:Int} {k:IntKind} {z:α} {el:Nat} (h:idx xs n=some z) (he:aS C.P t=some el) (ha:(dA C.P el).isSome=true) (hz:(enc z).cells.length=au C.P el) :
  dx C t v (.d (.int k n))=some (.eptr (enc z) 0):=by
 obtain ⟨h0,h1⟩:=jc h
 have hm:(xs.map enc)[n.toNat]? = some (enc z):=by rw [List.getElem?_map,h1]; rfl
 have hg:=H.at hi
 simp only [bC.ok] at hg
 split at hg
 ·
  rw [hg] at hm; simp at hm
 ·
  rw [hg]
  simp only [dx,he,h0,ha,decide_true,Bool.and_self,if_true,hm,hz]
 ·
  rw [hg.1]
  simp only [dx,he,h0,ha,decide_true,Bool.and_self,if_true,hm,hz]
 ·
  exact hg.elim
theorem Has.Bl {S:St} {l:List bC} (H:Has B S l) {a:bC} (hf:a.fp=[]) (ha:a.ok S):Has B S (a :: l) where
 wf:=H.wf
 ok:=fun x hx=>by
  rcases List.mem_cons.1 hx with rfl | hx
  ·
   exact ha
  ·
   exact H.ok x hx
 nd:=by rw [List.map_cons,List.flatten_cons,hf,List.nil_append]; exact H.nd
 bwf:=H.bwf
 keeps:=H.keeps
 out:=fun x hx id hid=>by
  rcases List.mem_cons.1 hx with rfl | hx
  ·
   rw [hf] at hid; cases hid
  ·
   exact H.out x hx id hid
theorem Has.Ed {S:St} {l:List bC} (H:Has B S l):Has B S (.grow (.d .di) [] :: l):=H.Bl rfl rfl
theorem Has.AA {S:St} {l:List bC} (H:Has B S l) (xs:List D):Has B S (.grow (.d (.sl xs true)) xs :: l):=H.Bl rfl rfl
theorem Has.Ag {S S':St} {l:List bC} (h:Has B S l) {i:Nat} {a a':bC} (hi:l[i]? = some a) (hf0:a.fp=[]) (hf:a'.fp=[S.nx]) (ha:a'.ok S') (wf:S'.Wf)
  (hH:∀ id,id < S.nx→S'.H.get id=S.H.get id) (hT:∀ id,id < S.nx→S'.T.get id=S.T.get id) (hnx:S.nx ≤ S'.nx):Has B S' (l.set i a'):=by
 have hil:i < l.length:=(List.getElem?_eq_some_iff.1 hi).1
 have hlt:∀ x ∈ l,∀ id ∈ x.fp,id < S.nx:=fun x hx=>bC.lt h.wf (h.ok x hx)
 have hBlt:∀ id b,B.H.get id=some b→id < S.nx:=fun id b hb=>Nat.lt_of_lt_of_le (h.bwf.H hb) h.keeps.nx
 have hBltT:∀ id n,B.T.get id=some n→id < S.nx:=fun id b hb=>Nat.lt_of_lt_of_le (h.bwf _ (qm hb)) h.keeps.nx
 refine ⟨wf,fun x hx=>?_,?_,h.bwf,⟨Nat.le_trans h.keeps.nx hnx,fun id b hb=>?_,fun id n hn=>?_⟩,fun x hx id hid=>?_⟩
 rotate_left 2
 ·
  rw [hH id (hBlt id b hb)]; exact h.keeps.H id b hb
 ·
  rw [hT id (hBltT id n hn)]; exact h.keeps.T id n hn
 ·
  rcases List.mem_or_eq_of_mem_set hx with hx | rfl
  ·
   exact h.out x hx id hid
  ·
   rw [hf,List.mem_singleton] at hid
   subst hid
   refine ⟨?_,?_⟩
   ·
    cases hB:B.H.get S.nx with
    | none=>rfl
    | some b'=>have:=hBlt _ _ hB; omega
   ·
    cases hB:B.T.get S.nx with
    | none=>rfl
    | some b'=>have:=hBltT _ _ hB; omega
 ·
  obtain ⟨j,hj,rfl⟩:=List.getElem_of_mem hx
  rw [List.length_set] at hj
  by_cases hij:i=j
  ·
   subst hij; rw [List.getElem_set_self]; exact ha
  ·
   rw [List.getElem_set_ne hij]
   exact bC.keep (h.ok l[j] (List.getElem_mem hj)) (fun id hid=>hH id (hlt _ (List.getElem_mem hj) id hid)) (fun id hid=>hT id (hlt _ (List.getElem_mem hj) id hid))
 ·
  have hperm:∀ (l:List bC) (i:Nat),l[i]? = some a→(∀ x ∈ l,∀ id ∈ x.fp,id < S.nx)→(l.map bC.fp).flatten.Nodup→((l.set i a').map bC.fp).flatten.Nodup∧∀ id ∈ ((l.set i a').map bC.fp).flatten,id=S.nx∨id ∈ (l.map bC.fp).flatten:=by
   intro l
   induction l with
   | nil=>intro i hi; simp at hi
   | cons x l ih =>
    intro i hi hlt hnd
    rw [List.map_cons,List.flatten_cons,List.nodup_append] at hnd
    obtain ⟨n1,n2,n3⟩:=hnd
    cases i with
    | zero =>
     simp only [List.getElem?_cons_zero,Option.some.injEq] at hi
     subst hi
     simp only [List.set_cons_zero,List.map_cons,List.flatten_cons,hf,hf0,List.nil_append,List.singleton_append,List.nodup_cons]
     refine ⟨⟨fun hm=>?_,n2⟩,fun id hid=>?_⟩
     ·
      obtain ⟨CG,hfps,hid⟩:=List.mem_flatten.1 hm
      obtain ⟨y,hy,rfl⟩:=List.mem_map.1 hfps
      have:=hlt y (List.mem_cons_of_mem _ hy) _ hid
      omega
     ·
      rcases List.mem_cons.1 hid with rfl | hid
      ·
       exact .inl rfl
      ·
       exact .inr hid
    | succ i =>
     simp only [List.getElem?_cons_succ] at hi
     obtain ⟨m1,m2⟩:=ih i hi (fun y hy=>hlt y (List.mem_cons_of_mem _ hy)) n2
     simp only [List.set_cons_succ,List.map_cons,List.flatten_cons]
     refine ⟨List.nodup_append.2 ⟨n1,m1,fun u hu v hv huv=>?_⟩,fun id hid=>?_⟩
     ·
      subst huv
      rcases m2 u hv with rfl | hv
      ·
       have:=hlt x List.mem_cons_self _ hu; omega
      ·
       exact n3 u hu u hv rfl
     ·
      rcases List.mem_append.1 hid with hid | hid
      ·
       exact .inr (List.mem_append.2 (.inl hid))
      ·
       rcases m2 id hid with rfl | hid
       ·
        exact .inl rfl
       ·
        exact .inr (List.mem_append.2 (.inr hid))
  exact (hperm l i hi hlt h.nd).1
def app {α:Type} (nb:Nat) (l ys:List α):Option (List α):=if (l.length + ys.length) * nb ≤ bound then some (l ++ ys) else none
theorem wO {α:Type} {nb:Nat} {l ys r:List α} (h:app nb l ys=some r):(l.length + ys.length) * nb ≤ bound∧r=l ++ ys:=by
 unfold app at h
 split at h
 ·
  rename_i hb; exact ⟨hb,(Option.some.inj h).symm⟩
 ·
  cases h
theorem fM {α:Type} {enc:α→D} {n:Nat} (h:∀ z,(enc z).cells.length=n):∀ (l:List α),sizes n (l.map enc)=true
 | []=>rfl
 | x :: l=>by simp only [List.map_cons,sizes,h,Nat.beq_refl,fM h l,Bool.and_self]
theorem vT {C:bN} {S:St} {l:List bC} (H:Has B S l) {i:Nat} {v:AV} {xs ys:List D} (hi:l[i]? = some (.grow v xs)) {el nb:Nat} (hb:(xs.length + ys.length) * nb ≤ bound) (hnb:bytesOf C.P el=nb) (h0:(Nat.blt 0 nb && Nat.ble nb 65536)=true)
  (hx:sizes (au C.P el) xs=true) (hy:sizes (au C.P el) ys=true) (hz:dD C el=true):∃ v' S',dV C el S v ys=some (v',S')∧Has B S' (l.set i (.grow v' (xs ++ ys))):=by
 subst hnb
 simp only [Bool.and_eq_true] at h0
 have h1:=Nat.le_of_ble_eq_true h0.1
 have h2:=Nat.le_of_ble_eq_true h0.2
 have h1:0 < bytesOf C.P el:=h1
 have hinfo:(C.P.info? el).isSome=true:=by
  unfold dD at hz
  cases hq:C.P.info? el with
  | none=>rw [hq] at hz; cases hz
  | some x=>rfl
 have hil:i < l.length:=(List.getElem?_eq_some_iff.1 hi).1
 have hg:=H.at hi
 by_cases hne:ys.length=0
 ·
  have:ys=[]:=List.eq_nil_of_length_eq_zero hne
  subst this
  refine ⟨v,S,?_,?_⟩
  ·
   simp only [bC.ok] at hg
   split at hg <;> simp_all [dV]
  ·
   rw [List.append_nil]
   have:l.set i (.grow v xs)=l:=by
    apply List.ext_getElem?
    intro j
    rw [List.getElem?_set]
    by_cases hij:i=j
    ·
     subst hij; simp [hil]; exact (List.getElem?_eq_some_iff.1 hi).2.symm
    ·
     simp [hij]
   rw [this]; exact H
 ·
  have fresh:S.H.get S.nx=none:=H.wf.fresh (Nat.le_refl _)
  have new:∀ zs:List D,zs ≠ []→(bC.grow v xs).fp=[]→Has B { S with T:=S.T.set S.nx zs.length,nx:=S.nx + 1 } (l.set i (.grow (.tsl zs S.nx) zs)):=fun zs hzs hfp=>by
   refine H.Ag hi hfp rfl ⟨rfl,hzs,by simp [AL.aF],fresh⟩ (fun id hl=>?_) (fun id hid=>rfl) (fun id hid=>by simp only [AL.aF]; rw [if_neg (by omega)]) (Nat.le_succ _)
   show id < S.nx + 1
   unfold live cur at hl
   cases hH:S.H.get id with
   | some b=>have:=H.wf.H hH; omega
   | none =>
    simp only [hH,AL.aF] at hl
    by_cases hq:S.nx=id
    ·
     omega
    ·
     rw [if_neg hq] at hl
     cases hT:S.T.get id with
     | none=>exact absurd hT hl
     | some n=>have:=H.wf id (qm hT); omega
  simp only [bC.ok] at hg
  split at hg
  ·
   subst hg
   refine ⟨_,_,?_,new ys (fun q=>hne (by rw [q]; rfl)) rfl⟩
   simp only [List.length_nil,Nat.zero_add] at hb
   simp only [dV,if_neg hne,if_pos (show ys.length * bytesOf C.P el ≤ bound∧0 < bytesOf C.P el∧bytesOf C.P el ≤ 65536∧sizes (au C.P el) ys=true∧dD C el=true from ⟨hb,h1,h2,hy,hz⟩)]
  ·
   rename_i zs
   subst hg
   refine ⟨_,_,?_,new (zs ++ ys) (fun q=>hne (by simp at q; simp [q.2])) rfl⟩
   simp only [dV,if_neg hne,if_pos (show (zs.length + ys.length) * bytesOf C.P el ≤ bound∧0 < bytesOf C.P el∧bytesOf C.P el ≤ 65536∧sizes (au C.P el) ys=true∧sizes (au C.P el) zs=true∧dD C el=true from ⟨hb,h1,h2,hy,hx,hz⟩),if_true,List.length_append]
  ·
   rename_i zs tok
   obtain ⟨rfl,hne2,hT,hHt⟩:=hg
   have hpos:0 < zs.length:=List.length_pos_iff.2 hne2
   refine ⟨.tsl (zs ++ ys) tok,{ S with T:=S.T.set tok (zs.length + ys.length) },?_,?_⟩
   ·
    simp only [dV,if_neg hne,if_pos (show (zs.length + ys.length) * bytesOf C.P el ≤ bound∧0 < bytesOf C.P el∧bytesOf C.P el ≤ 65536∧sizes (au C.P el) ys=true∧sizes (au C.P el) zs=true∧dD C el=true from ⟨hb,h1,h2,hy,hx,hz⟩),hT]
    rw [if_pos ⟨trivial,hpos⟩]
   ·
    refine H.set hi rfl ⟨rfl,by simp [hne2],by simp [AL.aF],hHt⟩ (fun id hl=>?_) (fun id hid=>rfl) (fun id hid=>?_) rfl
    ·
     show id < S.nx
     refine H.wf id ?_
     unfold live cur at hl ⊢
     cases hH:S.H.get id with
     | some b=>cases b <;> simp
     | none =>
      simp only [hH,AL.aF] at hl ⊢
      by_cases hq:tok=id
      ·
       subst hq; rw [hT]; simp
      ·
       rw [if_neg hq] at hl; exact hl
    ·
     simp only [bC.fp,List.mem_singleton] at hid
     simp only [AL.aF]; rw [if_neg (fun q=>hid q.symm)]
  ·
   exact hg.elim
theorem wM {C:bN} {ρ:Operand→Option AV} {x y:Operand} {S:St} {l:List bC} (H:Has B S l) {i t u:Nat} {v vy:AV} {xs ys:List D} (hx:ρ x=some v) (hy:ρ y=some vy) (hi:l[i]? = some (.grow v xs)) (hd:eH vy=some ys) (hnr:C.rowT t=false) (hu:dR C u=true) {el nb:Nat} (he:aS C.P t=some el)
  (hb:(xs.length + ys.length) * nb ≤ bound) (hnb:bytesOf C.P el=nb) (h0:(Nat.blt 0 nb && Nat.ble nb 65536)=true) (hsx:sizes (au C.P el) xs=true) (hsy:sizes (au C.P el) ys=true) (hz:dD C el=true) :
  ∃ v' S',oper C ρ S (.call { callee:=.builtin .append,args:=#[x,y],argTypes:=#[t,u] })=some (.val v' S')∧Has B S' (l.set i (.grow v' (xs ++ ys))):=by
 obtain ⟨v',S',h1,h2⟩:=vT (C:=C) H hi hb hnb h0 hsx hsy hz
 refine ⟨v',S',?_,h2⟩
 have hm:dG ρ [x,y]=some [v,vy]:=by simp only [dG,hx,hy,Option.map_some]
 have hg:=H.at hi
 simp only [oper,hm,dH,List.getElem?_toArray,List.getElem?_cons_zero,List.getElem?_cons_succ,hu,if_true,he]
 simp only [bC.ok] at hg
 split at hg
 ·
  simp only [hnr,cond_false,hd,h1,Option.map_some]
 ·
  simp only [hnr,cond_false,hd,h1,Option.map_some]
 ·
  simp only [hnr,cond_false,hd,h1,Option.map_some]
 ·
  exact hg.elim
def cut {α:Type} (l:List α) (lo hi:Int):Option (List α):=if 0 ≤ lo∧lo ≤ hi∧hi ≤ l.length then some ((l.take hi.toNat).drop lo.toNat) else none
theorem qC {α:Type} {l r:List α} {lo hi:Int} (h:cut l lo hi=some r):(0 ≤ lo∧lo ≤ hi∧hi ≤ l.length)∧r=(l.take hi.toNat).drop lo.toNat:=by
 unfold cut at h
 split at h
 ·
  rename_i hb; exact ⟨hb,(Option.some.inj h).symm⟩
 ·
  cases h
end
end Go.Ev

namespace Go.Ev
noncomputable section
set_option linter.unusedVariables false
set_option linter.unusedSimpArgs false
variable {B:St}
section steps
variable {R:aM} {C:bN} {nt:Nat} {ops:Array Oper} {rest:List Oper} {e:Env} {S S':St} {Q:Stp→Prop} {l l':List bC} {t ty:Nat} {p:String} {af:Array Edge} {g:Option (Nat × Bool)} {v:AV} {x y:Operand}
theorem ah.box {bt:Nat} {cs:List AV} (H:Has B S l) (hw:bf ops e { dst:=some t,op:=.box bt x,type:=ty,pos:=p,after:=af,guard:=g }=some true) (hx:bA e x=some v) (hp:v.plain=true) (hc:v.cells=cs) (ht:Nat.blt t nt=true)
  (k:∀ b S',Has B S' (.box b cs :: l)→ah R C nt ops rest ((t,.ptr b 0 0) :: e) S' Q) :
  ah R C nt ops ({ dst:=some t,op:=.box bt x,type:=ty,pos:=p,after:=af,guard:=g } :: rest) e S Q :=
 ah.val hw (Am H hx hp hc) ht (k _ _ (H.box cs))
theorem ah.alloc {bt:Nat} {z:D} {cs:List AV} (H:Has B S l) (hw:bf ops e { dst:=some t,op:=.alloc bt,type:=ty,pos:=p,after:=af,guard:=g }=some true) (ho:C.objT bt=none) (hz:zeroOf C.P bt=some z) (hc:(AV.d z).cells=cs) (ht:Nat.blt t nt=true)
  (k:∀ b S',Has B S' (.box b cs :: l)→ah R C nt ops rest ((t,.ptr b 0 0) :: e) S' Q) :
  ah R C nt ops ({ dst:=some t,op:=.alloc bt,type:=ty,pos:=p,after:=af,guard:=g } :: rest) e S Q :=
 ah.val hw (xP H ho hz hc) ht (k _ _ (H.box cs))
theorem ah.store {bt i id off n:Nat} {cs cv cs':List AV} (H:Has B S l) (hw:bf ops e { dst:=none,op:=.store bt x y,type:=ty,pos:=p,after:=af,guard:=g }=some true) (ha:bA e x=some (.ptr id 0 off)) (hy:bA e y=some v) (hi:l[i]? = some (.box id cs)) (hcv:v.cells=cv) (hn:cv.length=n) (hz:au C.P bt=n) (hp:v.plain=true) (hag:(dA C.P bt).isSome=true) (hb:Nat.ble (off + n) cs.length=true)
  (hs:setAt cs off cv=cs') (hl:l.set i (.box id cs')=l') (k:∀ S',Has B S' l'→ah R C nt ops rest e S' Q) :
  ah R C nt ops ({ dst:=none,op:=.store bt x y,type:=ty,pos:=p,after:=af,guard:=g } :: rest) e S Q:=by
 subst hs
 subst hl
 exact ah.skip hw (xA H ha hy hcv hn hz hp hag hi hb) (k _ (H.write hi))
theorem ah.append {t1 u i:Nat} {vy:AV} {xs ys zs:List D} {el nb:Nat} (H:Has B S l) (hw:bf ops e { dst:=some t,op:=.call { callee:=.builtin .append,args:=#[x,y],argTypes:=#[t1,u] },type:=ty,pos:=p,after:=af,guard:=g }=some true)
  (hx:bA e x=some v) (hy:bA e y=some vy) (hi:l[i]? = some (.grow v xs)) (hd:eH vy=some ys) (hnr:C.rowT t1=false) (hu:dR C u=true) (he:aS C.P t1=some el) (hb:(xs.length + ys.length) * nb ≤ bound) (hnb:bytesOf C.P el=nb) (h0:(Nat.blt 0 nb && Nat.ble nb 65536)=true)
  (hsx:sizes (au C.P el) xs=true) (hsy:sizes (au C.P el) ys=true) (hz:dD C el=true) (ht:Nat.blt t nt=true) (hzs:xs ++ ys=zs)
  (k:∀ v' S',Has B S' (l.set i (.grow v' zs))→ah R C nt ops rest ((t,v') :: e) S' Q) :
  ah R C nt ops ({ dst:=some t,op:=.call { callee:=.builtin .append,args:=#[x,y],argTypes:=#[t1,u] },type:=ty,pos:=p,after:=af,guard:=g } :: rest) e S Q:=by
 subst hzs
 obtain ⟨v',S',h1,h2⟩:=wM (ρ:=bA e) H hx hy hi hd hnr hu he hb hnb h0 hsx hsy hz
 exact ah.val hw h1 ht (k v' S' h2)
theorem aa.put {t:Nat} {x y:AV} {e2 e:Env} (h:aa e2 e) (hl:Less y x):aa ((t,y) :: e2) ((t,x) :: e):=fun u z hz=>by
 rw [AL.bF] at hz ⊢
 by_cases hu:t=u
 ·
  rw [if_pos hu] at hz ⊢; cases hz; exact ⟨x,rfl,hl⟩
 ·
  rw [if_neg hu] at hz ⊢; exact h u z hz
def yU (t:Nat):Env→Bool
 | []=>true
 | (k,_) :: l=>!(Nat.beq k t) && yU t l
theorem tQ {t:Nat}:∀ {e:Env},yU t e=true→AL.get e t=none
 | [],_=>rfl
 | (k,v) :: l,h=>by
  simp only [yU,Bool.and_eq_true,Bool.not_eq_true'] at h
  rw [AL.bF,if_neg (fun q=>by subst q; rw [Nat.beq_refl] at h; cases h.1)]
  exact tQ h.2
theorem aa.push {t:Nat} {x:AV} {e2 e:Env} (hk:yU t e2=true) (h:aa e2 e):aa e2 ((t,x) :: e):=fun u z hz=>by
 have:t ≠ u:=fun q=>by subst q; rw [tQ hk] at hz; cases hz
 rw [AL.bF,if_neg this]
 exact h u z hz
theorem ah.fG {L:List Oper} (n t:Nat) (v:AV) (h:ah R C nt ops (L.take n) e S (fun r=>∃ e',r=.go e' S∧aa ((t,v) :: e) e')) (k:ah R C nt ops (L.drop n) ((t,v) :: e) S Q):ah R C nt ops L e S Q:=by
 have:=ah.app (R:=R) (C:=C) (nt:=nt) (ops:=ops) (L.take n) (l2:=L.drop n) (e:=e) (S:=S) (Q:=Q) (h.mono fun r hr=>by obtain ⟨e',rfl,hw⟩:=hr; exact ah.weak hw k)
 rwa [List.take_append_drop] at this
theorem ah.bool {b c:Bool} (hb:b=c) (k:ah R C nt ops rest ((t,.d (.bool c)) :: e) S Q):ah R C nt ops rest ((t,.d (.bool b)) :: e) S Q:=by subst hb; exact k
theorem ah.less {y':AV} (h:Less y' v) (k:ah R C nt ops rest ((t,y') :: e) S Q):ah R C nt ops rest ((t,v) :: e) S Q:=ah.weak (aa.top h) k
end steps
theorem Less.eq {x y:AV} (h:x=y):Less x y:=by subst h; exact .refl x
theorem Ae:∀ (l:List D),fA (l.map .d)=some l
 | []=>rfl
 | x :: l=>by simp [fA,qO,Ae l]
theorem sS:∀ {cs:List AV} {xs:List D},oZ cs=some xs→fA cs=some xs
 | [],xs,h=>by simp only [oZ,Option.some.injEq] at h; subst h; rfl
 | .d x :: l,xs,h=>by
  simp only [oZ,Option.map_eq_some_iff] at h
  obtain ⟨ys,h1,rfl⟩:=h
  simp [fA,qO,sS h1]
theorem Ah {ys xs:List D} (h:gG ys xs) (hy:∀ y ∈ ys,y.isAgg=false) (hx:∀ x ∈ xs,x.isAgg=false):gU (.agg ys) (.agg xs):=fun w fr v hr=>by
 refine ⟨?_,hr.2⟩
 have h1:=hr.1
 generalize hcs:v.cells.toList=cs at h1 ⊢
 cases h1 with
 | agg _ _ hl ho hn hh =>
  refine .agg ys cs (by rw [hl,h.len]) ho hy (fun i y u hi hu=>?_)
  have hlt:i < xs.length:=by rw [← h.len]; exact (List.getElem?_eq_some_iff.1 hi).1
  have hx':=List.getElem?_eq_getElem hlt
  have ho':=ho u (List.mem_of_getElem? hu)
  have:=hh i _ u hx' hu
  have hcell:u.cells = #[u]∧mG u=false:=by
   cases u <;> simp_all [Value.oneCell',Value.cells,mG]
  have hd:aJ w fr xs[i] u:=⟨by rw [hcell.1]; exact this,by rw [hcell.2]; exact hx _ (List.mem_of_getElem? hx')⟩
  have:=(h.get hi hx' w fr u hd).1
  rw [hcell.1] at this
  exact this
def aO (cs:List AV) (ds:List D):Prop:=∃ ds',fA cs=some ds'∧gG ds ds'∧(∀ d ∈ ds,d.isAgg=false)∧∀ d ∈ ds',d.isAgg=false
theorem aO.nil:aO [] []:=⟨[],rfl,.nil,by simp,by simp⟩
theorem aO.rH {x:AV} {d d':D} {xs:List AV} {ds:List D} (h:qO x=some d') (hc:gU d d') (h1:d.isAgg=false) (h2:d'.isAgg=false) (k:aO xs ds):aO (x :: xs) (d :: ds):=by
 obtain ⟨ds',k1,k2,k3,k4⟩:=k
 exact ⟨d' :: ds',by simp only [fA,h,k1,Option.map_some],.cons hc k2,fun y hy=>by rcases List.mem_cons.1 hy with rfl | hy; exact h1; exact k3 y hy,fun y hy=>by rcases List.mem_cons.1 hy with rfl | hy; exact h2; exact k4 y hy⟩
theorem aO.eq {d:D} {xs:List AV} {ds:List D} (h:d.isAgg=false) (k:aO xs ds):aO (.d d :: xs) (d :: ds):=.rH rfl (.refl d) h h k
theorem aO.pack {cs:List AV} {ds:List D} (h:aO cs ds):aH [fF cs] [.agg ds]:=by
 obtain ⟨ds',h1,h2,h3,h4⟩:=h
 refine ⟨[.agg ds'],?_,.cons (Ah h2 h3 h4) .nil⟩
 have:qO (fF cs)=some (.agg ds'):=by
  unfold fF
  split
  ·
   rename_i xs hx
   have:=sS hx
   rw [h1] at this
   cases this
   rfl
  ·
   show (fA cs).map D.agg=_
   rw [h1]; rfl
 simp only [fA,this,Option.map_some]
theorem aH.less {x:AV} {d:D} (h:aH [x] [d]):Less (.d d) x:=by
 obtain ⟨ds',h1,h2⟩:=h
 simp only [fA] at h1
 split at h1
 ·
  rename_i y hy
  simp only [Option.map_some,Option.some.injEq] at h1
  subst h1
  cases h2 with
  | cons h _=>exact fun cx S w v hr=>.d _ _ (h _ _ _ (dQ hy hr))
 ·
  cases h1
theorem Less.fF {cs:List AV} {ds:List D} (h:aO cs ds):Less (.d (.agg ds)) (fF cs):=h.pack.less
theorem aH.grow {α:Type} {enc:α→D} {S:St} {l:List bC} (H:Has B S l) {i:Nat} {v:AV} {xs:List α} (hi:l[i]? = some (.grow v (xs.map enc))) {vs:List AV} {ds:List D} (k:aH vs ds):aH (v :: vs) (.sl (xs.map enc) false :: ds):=by
 obtain ⟨d,h1,h2⟩:=CL (H.at hi)
 exact aH.rH h1 h2 k
theorem kF {v:AV} {d:D} (h:aH [v] [d]):∃ v',kH v=some v'∧xX (.d d) v':=by
 obtain ⟨ds',h1,h2⟩:=h
 simp only [fA] at h1
 split at h1
 ·
  rename_i y hy
  simp only [Option.map_some,Option.some.injEq] at h1
  subst h1
  cases h2 with
  | cons h2 _ =>
  refine ⟨.d y,?_,.one h2⟩
  unfold kH
  split
  ·
   simp [qO] at hy
  ·
   rw [hy]; rfl
 ·
  cases h1
end
end Go.Ev

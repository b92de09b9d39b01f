import Derived.Test.YtddhgnleekcbiaaGreatDoorPartA
import Derived.MapKept
import Derived.Orders
import Derived.Laws.IdiomRangeMap
import Derived.Below
import Derived.Lib.SliceRun
namespace Go.Ev
noncomputable section
set_option linter.unusedVariables false
set_option linter.unusedSimpArgs false
theorem xm {R:aR} (hR:ObjOk R) {cx:Cx} {S:St} {w w':World} (h:aD R cx S w) {id:Nat} {M M':p8} (hg:S.H.get id=some (.map M))
  (hs:w'.heap.size=w.heap.size) (ho:∀ b,b ≠ cx.bm id→w'.heap[b]? = w.heap[b]?) (h1:w'.os=w.os) (h2:w'.tape=w.tape) (h3:w'.output=w.output)
  {ms':Array MapEntry} {clk':Nat} (hb:w'.heap[cx.bm id]? = some (.map ms' clk')) (hd:ms'.size=M'.es.length∧clk'=M'.clk∧∀ (i:Nat) (p:D × AV × Nat) (m:MapEntry),M'.es[i]? = some p→ms'[i]? = some m→m.born=p.2.2)
  (hv:∀ (i:Nat) (p:D × AV × Nat) (m:MapEntry),M'.es[i]? = some p→ms'[i]? = some m→aQ w cx.fr p.1 m.key∧ay cx S w p.2.1 m.val) :
  aD R cx { S with H:=S.H.set id (.map M') } w'∧Ext cx S w cx { S with H:=S.H.set id (.map M') } w':=by
 obtain ⟨c1,c2,ms0,clk0,c3,c4,c5⟩:=h.maps id M hg
 have hlive:live S id:=by simp [live,cur,hg]
 have hcur:∀ i,cur { S with H:=S.H.set id (.map M') } i=cur S i:=fun i=>by
  unfold cur
  simp only [AL.aG]
  by_cases hi:id=i
  ·
   subst hi; simp [hg]
  ·
   simp [hi]
 have e:Ext cx S w cx { S with H:=S.H.set id (.map M') } w':=by
  refine ⟨by omega,h1,h2,h3,Nat.le_refl _,fun b o v hf hc=>?_,fun b hlt hn=>?_,fun i b hl hf=>?_,fun i gi _ hi=>⟨gi,by
   unfold isIt at *
   simp only [AL.aG] at hi
   split at hi
   ·
    cases hi
   ·
    exact hi⟩,fun _ _ _ _ _ _ hf=>hf,fun i g' hi hg'=>?_⟩
  ·
   have hne:b ≠ cx.bm id:=fun q=>hf (by rw [q]; exact c2 o)
   exact ⟨jL (ho b hne) hc,hf⟩
  ·
   have hne:b ≠ cx.bm id:=fun q=>yT hg (by simp) (hn id hlive ((c1 b).2 q))
   exact ⟨ho b hne,fun _=>Iff.rfl⟩
  ·
   have hl':live S i:=by unfold live at *; rwa [hcur i] at hl
   exact ⟨fun _=>⟨hl',.inl hf⟩,fun hge=>absurd (h.wf i hl') (by show ¬ i < S.nx; omega)⟩
  ·
   rw [hcur i] at hg'
   exact ⟨g',hg',Nat.le_refl _,fun _=>⟨rfl,rfl,rfl⟩⟩
 have hl':∀ i,live { S with H:=S.H.set id (.map M') } i→live S i:=fun i hl=>by unfold live at *; rwa [hcur i] at hl
 have hne:∀ i,live S i→i ≠ id→∀ b,cx.fp i b→b ≠ cx.bm id:=fun i hi hne b hf hq=>hne (h.sep i id b hi hlive hf ((c1 b).2 hq))
 refine ⟨⟨fun i hi=>h.wf i (hl' i hi),fun i b hi=>?_,fun i g' cs1 hi=>?_,fun i es hi=>?_,fun i k x hi=>?_,fun i en hi=>?_,fun i i' b a1 a2 f1 f2=>h.sep i i' b (hl' i a1) (hl' i' a2) f1 f2,fun b o hf=>by rw [hs]; exact h.lt b o hf,hR.stat _ _ _ _ h.stat e.prot⟩,e⟩
 ·
  simp only [AL.aG] at hi
  by_cases q:id=i
  ·
   subst q; exact h.lU id _ hg
  ·
   rw [if_neg q] at hi; exact h.lU i b hi
 ·
  simp only [AL.aG] at hi
  by_cases q:id=i
  ·
   subst q; simp at hi
  ·
   rw [if_neg q] at hi
   obtain ⟨d1,d2,arr2,el2,d3,d4,d5⟩:=h.cells i g' cs1 hi
   refine ⟨d1,d2,arr2,el2,?_,d4,fun j x hx=>by
    obtain ⟨v,v1,v2,v3⟩:=d5 j x hx
    exact ⟨v,v1,v2.mono e,v3⟩⟩
   rw [ho _ (hne i (by simp [live,cur,hi]) (Ne.symm q) _ ((d1 _).2 rfl))]; exact d3
 ·
  simp only [AL.aG] at hi
  by_cases q:id=i
  ·
   subst q
   simp only [if_true,Option.some.injEq,jI.map.injEq] at hi
   subst hi
   exact ⟨c1,c2,ms',clk',hb,hd,fun j p m hp hm=>by
    obtain ⟨v1,v2⟩:=hv j p m hp hm
    exact ⟨v1.mono e.prot,v2.mono e⟩⟩
  ·
   rw [if_neg q] at hi
   obtain ⟨d1,d2,ms,clk,d3,d4,d5⟩:=h.maps i es hi
   refine ⟨d1,d2,ms,clk,?_,d4,fun j p m hp hm=>by
    obtain ⟨v1,v2⟩:=d5 j p m hp hm
    exact ⟨v1.mono e.prot,v2.mono e⟩⟩
   rw [ho _ (hne i (by simp [live,cur,hi]) (Ne.symm q) _ ((d1 _).2 rfl))]; exact d3
 ·
  simp only [AL.aG] at hi
  by_cases q:id=i
  ·
   subst q; simp at hi
  ·
   rw [if_neg q] at hi
   obtain ⟨d1,d2⟩:=h.objs i k x hi
   exact ⟨hR.frame k x w w' _ _ d1 (fun c hc=>ho c (hne i (by simp [live,cur,hi]) (Ne.symm q) c hc)),d2⟩
 ·
  obtain ⟨d1,d2,arr2,el2,fz,d3,d4,d5,d6⟩:=h.toks i en hi
  have q:i ≠ id:=fun q=>by subst q; have:=h.lU i _ hg; rw [this] at hi; cases hi
  have hli:live S i:=by
   unfold live cur
   cases hH:S.H.get i with
   | some b=>have:=h.lU i b hH; rw [this] at hi; cases hi
   | none=>simp [hi]
  refine ⟨d1,d2,arr2,el2,fz,?_,d4,d5,d6⟩
  rw [ho _ (hne i hli q _ ((d1 _).2 rfl))]; exact d3
theorem wT {R:aR} (hR:ObjOk R) {cx:Cx} {S:St} {w:World} (h:aD R cx S w) :
  ∃ cx',aD R cx' { S with H:=S.H.set S.nx (.map { es:=[],clk:=0 }),nx:=S.nx + 1 } (w.alloc (.map #[] 0))∧Ext cx S w cx' { S with H:=S.H.set S.nx (.map { es:=[],clk:=0 }),nx:=S.nx + 1 } (w.alloc (.map #[] 0)) ∧
   ay cx' { S with H:=S.H.set S.nx (.map { es:=[],clk:=0 }),nx:=S.nx + 1 } (w.alloc (.map #[] 0)) (.map S.nx) (.map (some w.heap.size)):=by
 obtain ⟨nH,nT⟩:=iW h
 generalize hS':({ S with H:=S.H.set S.nx (.map { es:=[],clk:=0 }),nx:=S.nx + 1 }:St)=S'
 have hH:∀ id,id ≠ S.nx→S'.H.get id=S.H.get id:=fun id hid=>by rw [← hS']; simp [AL.aG,Ne.symm hid]
 have hT:∀ id,id ≠ S.nx→S'.T.get id=S.T.get id:=fun id hid=>by rw [← hS']
 have hnx:S'.nx=S.nx + 1:=by rw [← hS']
 have nT':S'.T.get S.nx=none:=by rw [← hS']; exact nT
 have hc:∀ id,id ≠ S.nx→cur S' id=cur S id:=fun id hid=>by unfold cur; rw [hH id hid,hT id hid]
 have hnew:S'.H.get S.nx=some (.map { es:=[],clk:=0 }):=by rw [← hS']; simp [AL.aG]
 have e:=Ext.fresh (S':=S') h (.map #[] 0) 0 0 (fun _=>True) hnx hc hH
 refine ⟨cx.new S.nx w.heap.size 0 0 (fun _=>True),aD.fresh hR h _ 0 0 _ hnx hH hT (fun b _=>nT') (fun g cs' hg=>?_) (fun es hg=>?_) (fun k x hg=>?_) (fun en hg=>?_),e,?_⟩
 ·
  rw [hnew] at hg; cases hg
 ·
  rw [hnew] at hg
  simp only [Option.some.injEq,jI.map.injEq] at hg
  subst hg
  exact ⟨fun c=>by simp [Cx.new],fun o=>by simp [Cx.new],#[],0,by simp only [Cx.new,if_true]; exact heap_alloc_new w _,⟨rfl,rfl,fun i p m hp=>by simp at hp⟩,fun i p m hp=>by simp at hp⟩
 ·
  rw [hnew] at hg; cases hg
 ·
  rw [nT'] at hg; cases hg
 ·
  exact .map S.nx w.heap.size ⟨by rw [hnx]; exact Nat.lt_succ_self _,fun g' _=>Nat.zero_le _⟩ (fun _=>by simp [Cx.new])
theorem iE {C:bQ} {t k e:Nat} (h:nz C t=some (k,e)):C.P.underlying t=some (.map k e):=by
 unfold nz at h
 split at h
 ·
  rename_i k' e' hu
  simp only [Option.some.injEq,Prod.mk.injEq] at h
  rw [hu,h.1,h.2]
 ·
  cases h
theorem mM {R:aR} {cx:Cx} {S:St} {w:World} (hS:aD R cx S w) {id:Nat} {M:p8} (hg:S.H.get id=some (.map M)) {b:Nat} (hx:ay cx S w (.map id) (.map (some b))) :
  b=cx.bm id∧∃ ms,w.heap[cx.bm id]? = some (.map ms M.clk)∧Ed w cx.fr M.es ms.toList∧(∀ (i:Nat) (p:D × AV × Nat) (m:MapEntry),M.es[i]? = some p→ms[i]? = some m→m.born=p.2.2∧aQ w cx.fr p.1 m.key∧ay cx S w p.2.1 m.val)∧ms.size=M.es.length:=by
 obtain ⟨c1,c2,ms,clk,c3,⟨c4,c4',c4''⟩,c5⟩:=hS.maps id M hg
 subst c4'
 cases hx with
 | map _ _ hn hp =>
  refine ⟨hp (by simp [cur,hg]),ms,c3,⟨by simpa using c4,fun i p m hp hm=>(c5 i p m hp (by simpa using hm)).1⟩,fun i p m hp hm=>⟨c4'' i p m hp hm,(c5 i p m hp hm).1,(c5 i p m hp hm).2⟩,c4⟩
theorem mU {cx:Cx} {S:St} {w:World} {P:Program} {t:Nat} {k:D} {es:List (D × AV × Nat)} {ms:Array MapEntry} (hval:∀ (i:Nat) (p:D × AV × Nat) (m:MapEntry),es[i]? = some p→ms[i]? = some m→ay cx S w p.2.1 m.val) {i:Nat} {v:AV} {o:Option (Nat × Value)}
  (hf:gZ P t k es 0=some (some (i,v))) (ho:Found ms.toList 0 (some (i,v)) o):∃ b m,es[i]? = some (k,v,b)∧ms[i]? = some m∧o=some (i,m.val)∧ay cx S w v m.val:=by
 obtain ⟨b,_,h2⟩:=tY hf
 obtain ⟨m,_,m2,m3⟩:=ho
 rw [Nat.sub_zero] at h2 m2
 have m2':ms[i]? = some m:=by simpa using m2
 exact ⟨b,m,h2,m2',m3,hval i _ m h2 m2'⟩
theorem wR {R:aR} {C:bQ} {cx:Cx} {S:St} {w:World} (hS:aD R cx S w) {t:Nat} {m v:AV} {k:D} {ok:Bool} {mv kv:Value} (h:iX C t S m k ok=some v) (hm:ay cx S w m mv) (hk:aQ w cx.fr k kv) :
  ∃ u,(Instr.lookup t mv kv ok).run C.P w=.ok u w∧ay cx S w v u:=by
 unfold iX at h
 split at h
 ·
  rename_i kt et M hkt hM
  have hu:=iE hkt
  split at h
  ·
   rename_i hkey
   have hchk:=mW hkey hk
   have fin:∀ (ms:Array MapEntry),Ed w cx.fr M.es ms.toList→(∀ (i:Nat) (p:D × AV × Nat) (m:MapEntry),M.es[i]? = some p→ms[i]? = some m→ay cx S w p.2.1 m.val) →
     ∃ u:Value × Bool,∃ o,(Instr.findKey kt kv ms.toList).run C.P w=.ok o w∧ay cx S w v (if ok then .tuple #[u.1,.bool u.2] else u.1) ∧
      ((∃ i,o=some (i,u.1)∧u.2=true)∨(o=none∧(zeroValue et).run C.P w=.ok u.1 w∧u.2=false)):=by
    intro ms hE hval
    have two:∀ {y:AV} {x:Value} {b:Bool},ay cx S w y x→ay cx S w (if ok=true then .tup [y,.d (.bool b)] else y) (if ok=true then .tuple #[x,.bool b] else x):=by
     intro y x b hy
     cases ok
     ·
      exact hy
     ·
      refine .tup [y,.d (.bool b)] [x,.bool b] rfl (fun i a c ha hc=>?_)
      match i,ha,hc with
      | 0,ha,hc=>simp at ha hc; subst ha; subst hc; exact hy
      | 1,ha,hc=>simp at ha hc; subst ha; subst hc; exact .of_bool b
    split at h
    ·
     rename_i i y hf
     simp only [Option.some.injEq] at h; subst h
     obtain ⟨o,o1,o2⟩:=dK (P:=C.P) hkey hk hE hf
     obtain ⟨b,m',_,_,q3,q4⟩:=mU hval hf o2
     exact ⟨(m'.val,true),o,o1,two q4,.inl ⟨i,q3,rfl⟩⟩
    ·
     rename_i hf
     simp only [Option.map_eq_some_iff] at h
     obtain ⟨z,hz,rfl⟩:=h
     obtain ⟨o,o1,o2⟩:=dK (P:=C.P) hkey hk hE hf
     obtain ⟨zv,z1,z2⟩:=gN hz w cx.fr
     have:o=none:=o2
     exact ⟨(zv,false),o,o1,two (.d z zv z2),.inr ⟨this,z1,rfl⟩⟩
    ·
     cases h
   have go:∀ (ms:Array MapEntry) (u:Value × Bool) (o:Option (Nat × Value)),(Instr.findKey kt kv ms.toList).run C.P w=.ok o w→((∃ i,o=some (i,u.1)∧u.2=true)∨(o=none∧(zeroValue et).run C.P w=.ok u.1 w∧u.2=false)) →
     ((mv=.map none∧ms = #[])∨∃ r c,mv=.map (some r)∧w.heap[r]? = some (.map ms c))→(Instr.lookup t mv kv ok).run C.P w=.ok (if ok then .tuple #[u.1,.bool u.2] else u.1) w:=by
    intro ms u o ho hor hmv
    obtain ⟨u1,u2⟩:=u
    rcases hmv with ⟨rfl,rfl⟩ | ⟨r,c,rfl,hr⟩ <;> rcases hor with ⟨i,rfl,hb⟩ | ⟨rfl,hz,hb⟩ <;> simp only at hb <;> subst hb
    ·
     simp only [Instr.lookup,Sem.run_bind,aF w hu,Result.andThen_ok,Sem.run_pure,hchk,ho]
    ·
     simp only at hz
     simp only [Instr.lookup,Sem.run_bind,aF w hu,Result.andThen_ok,Sem.run_pure,hchk,ho,hz]
    ·
     simp only [Instr.lookup,Sem.run_bind,aF w hu,Result.andThen_ok,Sem.run_pure,hchk,ho,MapKept.run_getObj_map hr]
    ·
     simp only at hz
     simp only [Instr.lookup,Sem.run_bind,aF w hu,Result.andThen_ok,Sem.run_pure,hchk,ho,hz,MapKept.run_getObj_map hr]
   unfold mapOf at hM
   split at hM
   ·
    simp only [Option.some.injEq] at hM; subst hM
    have:=hm.dd.val rfl; cases this
    obtain ⟨u,o,f1,f2,f3⟩:=fin #[] ⟨rfl,by simp⟩ (by simp)
    exact ⟨_,go #[] u o f1 f3 (.inl ⟨rfl,rfl⟩),f2⟩
   ·
    rename_i id
    split at hM
    ·
     rename_i M' hg
     simp only [Option.some.injEq] at hM; subst hM
     cases hm with
     | map _ b hn hp =>
      obtain ⟨p1,ms,p2,p3,p4,p5⟩:=mM hS hg (.map id b hn hp)
      subst p1
      obtain ⟨u,o,f1,f2,f3⟩:=fin ms p3 (fun i p m hp hm=>(p4 i p m hp hm).2.2)
      exact ⟨_,go ms u o f1 f3 (.inr ⟨_,_,rfl,p2⟩),f2⟩
    ·
     cases hM
   ·
    cases hM
  ·
   cases h
 ·
  cases h
theorem fq {R:aR} (hR:ObjOk R) {P:Program} {cx:Cx} {S:St} {w:World} (h:aD R cx S w) {id:Nat} {M M':p8} (hg:S.H.get id=some (.map M)) {ms ms':Array MapEntry} {c c':Nat} (hb:w.heap[cx.bm id]? = some (.map ms c))
  (hd:ms'.size=M'.es.length∧c'=M'.clk)
  (hv:∀ (i:Nat) (p:D × AV × Nat) (m:MapEntry),M'.es[i]? = some p→ms'[i]? = some m→m.born=p.2.2∧aQ w cx.fr p.1 m.key∧ay cx S w p.2.1 m.val) :
  ∃ w',(setObj (cx.bm id) (.map ms' c')).run P w=.ok () w'∧aD R cx { S with H:=S.H.set id (.map M') } w'∧Ext cx S w cx { S with H:=S.H.set id (.map M') } w':=by
 have hlt:cx.bm id < w.heap.size:=by
  rcases Nat.lt_or_ge (cx.bm id) w.heap.size with q | q
  ·
   exact q
  ·
   rw [Array.getElem?_eq_none q] at hb; cases hb
 refine ⟨_,MapKept.run_setObj_map _ hb,xm hR h hg (by simp) (fun b hne=>?_) rfl rfl rfl (ms':=ms') (clk':=c') ?_ ⟨hd.1,hd.2,fun i p m hp hm=>(hv i p m hp hm).1⟩ (fun i p m hp hm=>(hv i p m hp hm).2)⟩
 ·
  simp only [Array.getElem?_setIfInBounds]
  rw [if_neg (Ne.symm hne)]
 ·
  simp only [Array.getElem?_setIfInBounds,hlt,if_true]
theorem qM {P:Program} {w:World} {fr:Nat→Nat→Prop} {t:Nat} {k:D} {v u:Value} (hk:j5 P t k=true) (h1:aQ w fr k v) (h2:aQ w fr k u):(Instr.keyThatStays v u).run P w=.ok u w:=by
 have:=Ep hk h1 h2; subst this
 unfold Instr.keyThatStays
 rw [if_pos (Ck hk h1 9999)]
 rfl
theorem oI {cx:Cx} {S:St} {w:World} {es:List (D × AV × Nat)} {ms:Array MapEntry} {p0:D × AV × Nat} {m0:MapEntry} (hsz:ms.size=es.length) (h:∀ (i:Nat) (p:D × AV × Nat) (m:MapEntry),es[i]? = some p→ms[i]? = some m→m.born=p.2.2∧aQ w cx.fr p.1 m.key∧ay cx S w p.2.1 m.val)
  (h0:m0.born=p0.2.2∧aQ w cx.fr p0.1 m0.key∧ay cx S w p0.2.1 m0.val):∀ (i:Nat) (p:D × AV × Nat) (m:MapEntry),(es ++ [p0])[i]? = some p→(ms.push m0)[i]? = some m→m.born=p.2.2∧aQ w cx.fr p.1 m.key∧ay cx S w p.2.1 m.val:=by
 intro i p m hp hm
 rw [Array.getElem?_push] at hm
 rw [List.getElem?_append] at hp
 by_cases hi:i=ms.size
 ·
  rw [if_pos hi] at hm
  rw [if_neg (by omega),show i - es.length=0 by omega] at hp
  simp at hp hm; subst hp; subst hm; exact h0
 ·
  rw [if_neg hi] at hm
  have hlt:i < ms.size:=(Array.getElem?_eq_some_iff.1 hm).1
  rw [if_pos (by omega)] at hp
  exact h i p m hp hm
theorem jO {cx:Cx} {S:St} {w:World} {es:List (D × AV × Nat)} {ms:Array MapEntry} {j:Nat} {f:D × AV × Nat→D × AV × Nat} {g:MapEntry→MapEntry} (h:∀ (i:Nat) (p:D × AV × Nat) (m:MapEntry),es[i]? = some p→ms[i]? = some m→m.born=p.2.2∧aQ w cx.fr p.1 m.key∧ay cx S w p.2.1 m.val)
  (h0:∀ (p:D × AV × Nat) (m:MapEntry),es[j]? = some p→ms[j]? = some m→(g m).born=(f p).2.2∧aQ w cx.fr (f p).1 (g m).key∧ay cx S w (f p).2.1 (g m).val):∀ (i:Nat) (p:D × AV × Nat) (m:MapEntry),(es.modify j f)[i]? = some p→(ms.modify j g)[i]? = some m→m.born=p.2.2∧aQ w cx.fr p.1 m.key∧ay cx S w p.2.1 m.val:=by
 intro i p m hp hm
 rw [Array.getElem?_modify] at hm
 rw [List.getElem?_modify] at hp
 by_cases hi:j=i
 ·
  subst hi
  simp only [if_true,Option.map_eq_map,Option.map_eq_some_iff] at hp hm
  obtain ⟨p1,q1,q2⟩:=hp
  obtain ⟨m1,r1,r2⟩:=hm
  have q2':f p1=p:=by simpa using q2
  subst q2'; subst r2
  exact h0 p1 m1 q1 r1
 ·
  rw [if_neg hi] at hm
  simp only [Option.map_eq_map,Option.map_eq_some_iff] at hp
  obtain ⟨p1,q1,q2⟩:=hp
  have q2':p1=p:=by simpa [hi] using q2
  subst q2'
  exact h i p1 m q1 hm
theorem o5 {R:aR} (hR:ObjOk R) {C:bQ} {cx:Cx} {S S':St} {w:World} (hS:aD R cx S w) {t:Nat} {m v:AV} {k:D} {mv kv vv:Value} (h:mE C t S m k v=some S') (hm:ay cx S w m mv) (hk:aQ w cx.fr k kv) (hv:ay cx S w v vv) :
  ∃ w',(Instr.mapUpdate t mv kv vv).run C.P w=.ok () w'∧aD R cx S' w'∧Ext cx S w cx S' w':=by
 unfold mE at h
 split at h
 ·
  rename_i kt et id hkt
  have hu:=iE hkt
  split at h
  ·
   rename_i M hg
   split at h
   ·
    rename_i hc
    simp only [Bool.and_eq_true] at hc
    obtain ⟨hkey,hpl⟩:=hc
    have hchk:=mW hkey hk false
    cases hm with
    | map _ b hn hp =>
    obtain ⟨p1,ms,p2,p3,p4,p5⟩:=mM hS hg (.map id b hn hp)
    subst p1
    split at h
    ·
     rename_i i y hf
     simp only [Option.some.injEq] at h; subst h
     obtain ⟨o,o1,o2⟩:=dK (P:=C.P) hkey hk p3 hf
     obtain ⟨bn,m',q1,q2,q3,q4⟩:=mU (fun i p m hp hm=>(p4 i p m hp hm).2.2) hf o2
     subst q3
     obtain ⟨w',k1,k2,k3⟩:=fq hR (P:=C.P) (M':={ M with es:=M.es.modify i fun p=>(k,v,p.2.2) }) (ms':=ms.modify i fun e=>{ e with key:=kv,val:=vv }) (c':=M.clk) hS hg p2 ⟨by simp [p5],rfl⟩
      (jO p4 (fun p m hp hm=>⟨(p4 i p m hp hm).1,hk,hv⟩))
     refine ⟨w',?_,k2,k3⟩
     have hst:=qM hkey (p4 i _ m' q1 q2).2.1 hk
     simp only [Instr.mapUpdate,Sem.run_bind,aF w hu,Result.andThen_ok,MapKept.run_getObj_map p2,hchk,o1,q2,Option.map_some,Option.getD_some,hst]
     exact k1
    ·
     rename_i hf
     simp only [Option.some.injEq] at h; subst h
     obtain ⟨o,o1,o2⟩:=dK (P:=C.P) hkey hk p3 hf
     have:o=none:=o2
     subst this
     obtain ⟨w',k1,k2,k3⟩:=fq hR (P:=C.P) (M':={ es:=M.es ++ [(k,v,M.clk)],clk:=M.clk + 1 }) (ms':=ms.push { key:=kv,val:=vv,born:=M.clk }) (c':=M.clk + 1) hS hg p2 ⟨by simp [p5],rfl⟩
      (oI p5 p4 ⟨rfl,hk,hv⟩)
     refine ⟨w',?_,k2,k3⟩
     simp only [Instr.mapUpdate,Sem.run_bind,aF w hu,Result.andThen_ok,MapKept.run_getObj_map p2,hchk,o1]
     exact k1
    ·
     cases h
   ·
    cases h
  ·
   cases h
 ·
  cases h
theorem yx {R:aR} {cx:Cx} {S:St} {w w':World} {id:Nat} {b:jI} (hg:S.H.get id=some b) (h1:aD R cx { S with H:=S.H.set id b } w') (h2:Ext cx S w cx { S with H:=S.H.set id b } w'):aD R cx S w'∧Ext cx S w cx S w':=by
 have hH:∀ i,({ S with H:=S.H.set id b }:St).H.get i=S.H.get i:=fun i=>by
  simp only [AL.aG]
  by_cases q:id=i
  ·
   subst q; simp [hg]
  ·
   simp [q]
 have hcur:∀ i,cur { S with H:=S.H.set id b } i=cur S i:=fun i=>by unfold cur; rw [hH i]
 have hl:∀ i,live { S with H:=S.H.set id b } i↔live S i:=fun i=>by unfold live; rw [hcur i]
 have e2:Ext cx { S with H:=S.H.set id b } w' cx S w':=by
  refine ⟨Nat.le_refl _,rfl,rfl,rfl,Nat.le_refl _,fun _ _ _ q1 q2=>⟨q2,q1⟩,fun _ _ _=>⟨rfl,fun _=>Iff.rfl⟩,fun i b hi hf=>⟨fun _=>⟨(hl i).2 hi,.inl hf⟩,fun hge=>absurd (h1.wf i ((hl i).2 hi)) (by show ¬ i < S.nx; exact Nat.not_lt.2 hge)⟩,fun i g _ hi=>⟨g,by unfold isIt at *; rw [hH i]; exact hi⟩,fun _ _ _ _ _ _ hf=>hf,fun i g hi hg'=>⟨g,by rw [hcur i]; exact hg',Nat.le_refl _,fun _=>⟨rfl,rfl,rfl⟩⟩⟩
 refine ⟨⟨fun i hi=>h1.wf i ((hl i).2 hi),fun i b hi=>h1.lU i b (by rw [hH i]; exact hi),fun i g cs hi=>?_,fun i es hi=>?_,fun i k x hi=>h1.objs i k x (by rw [hH i]; exact hi),fun i n hi=>h1.toks i n hi,fun i i' b a1 a2=>h1.sep i i' b ((hl i).2 a1) ((hl i').2 a2),h1.lt,h1.stat⟩,h2.trans e2⟩
 ·
  obtain ⟨d1,d2,arr2,el2,d3,d4,d5⟩:=h1.cells i g cs (by rw [hH i]; exact hi)
  exact ⟨d1,d2,arr2,el2,d3,d4,fun j x hx=>by
   obtain ⟨v,v1,v2,v3⟩:=d5 j x hx
   exact ⟨v,v1,v2.mono e2,v3⟩⟩
 ·
  obtain ⟨d1,d2,ms,clk,d3,d4,d5⟩:=h1.maps i es (by rw [hH i]; exact hi)
  exact ⟨d1,d2,ms,clk,d3,d4,fun j p m hp hm=>by
   obtain ⟨v1,v2⟩:=d5 j p m hp hm
   exact ⟨v1,v2.mono e2⟩⟩
theorem xS {R:aR} (hR:ObjOk R) {C:bQ} {cx:Cx} {S:St} {w:World} (hS:aD R cx S w) {t:Nat} {m:AV} {k:D} {r:AV × St} {mv kv:Value} (h:wE C t S m k=some r) (hm:ay cx S w m mv) (hk:aQ w cx.fr k kv) :
  ∃ w' u,(Instr.mapEntry t mv kv).run C.P w=.ok u w'∧aD R cx r.2 w'∧Ext cx S w cx r.2 w'∧ay cx r.2 w' r.1 u:=by
 have two:∀ {S':St} {w':World} {y:AV} {x:Value} {n:Nat},ay cx S' w' y x→ay cx S' w' (.tup [y,.d (.int .i64 (n:Nat))]) (.tuple #[x,goInt n]):=by
  intro S' w' y x n hy
  refine .tup [y,.d (.int .i64 n)] [x,goInt n] rfl (fun i a c ha hc=>?_)
  match i,ha,hc with
  | 0,ha,hc=>simp at ha hc; subst ha; subst hc; exact hy
  | 1,ha,hc=>simp at ha hc; subst ha; subst hc; exact .of_int _ _
 unfold wE at h
 split at h
 ·
  rename_i kt et id hkt
  have hu:=iE hkt
  split at h
  ·
   rename_i M hg
   split at h
   ·
    rename_i hkey
    have hchk:=mW hkey hk false
    cases hm with
    | map _ b hn hp =>
    obtain ⟨p1,ms,p2,p3,p4,p5⟩:=mM hS hg (.map id b hn hp)
    subst p1
    split at h
    ·
     rename_i i y hf
     split at h
     ·
      rename_i p hpi
      simp only [Option.some.injEq] at h; subst h
      obtain ⟨o,o1,o2⟩:=dK (P:=C.P) hkey hk p3 hf
      obtain ⟨bn,m',q1,q2,q3,q4⟩:=mU (fun i p m hp hm=>(p4 i p m hp hm).2.2) hf o2
      subst q3
      rw [hpi] at q1
      simp only [Option.some.injEq] at q1; subst q1
      have hsame:M.es.modify i (fun p=>(k,p.2.1,p.2.2))=M.es:=by
       apply List.ext_getElem?
       intro j
       rw [List.getElem?_modify]
       by_cases hj:i=j
       ·
        subst hj; rw [hpi]; simp
       ·
        simp [hj]
      obtain ⟨w',k1,k2,k3⟩:=fq hR (P:=C.P) (M':={ M with es:=M.es.modify i fun p=>(k,p.2.1,p.2.2) }) (ms':=ms.modify i fun e=>{ e with key:=kv }) (c':=M.clk) hS hg p2 ⟨by simp [p5],rfl⟩
       (jO p4 (fun p m hp hm=>⟨(p4 i p m hp hm).1,hk,(p4 i p m hp hm).2.2⟩))
      rw [hsame] at k2 k3
      have hback:aD R cx S w'∧Ext cx S w cx S w':=yx hg k2 k3
      have hborn:=(p4 i _ m' hpi q2).1
      refine ⟨w',.tuple #[m'.val,goInt m'.born],?_,hback.1,hback.2,?_⟩
      ·
       have hst:=qM hkey (p4 i _ m' hpi q2).2.1 hk
       simp only [Instr.mapEntry,Sem.run_bind,aF w hu,Result.andThen_ok,MapKept.run_getObj_map p2,hchk,o1,q2,Option.map_some,Option.getD_some,hst]
       rw [k1]; rfl
      ·
       rw [hborn]
       exact two (q4.mono hback.2)
     ·
      cases h
    ·
     rename_i hf
     simp only [Option.map_eq_some_iff] at h
     obtain ⟨z,hz,rfl⟩:=h
     obtain ⟨o,o1,o2⟩:=dK (P:=C.P) hkey hk p3 hf
     have:o=none:=o2
     subst this
     obtain ⟨zv,z1,z2⟩:=gN hz w cx.fr
     obtain ⟨w',k1,k2,k3⟩:=fq hR (P:=C.P) (M':={ es:=M.es ++ [(k,.d z,M.clk)],clk:=M.clk + 1 }) (ms':=ms.push { key:=kv,val:=zv,born:=M.clk }) (c':=M.clk + 1) hS hg p2 ⟨by simp [p5],rfl⟩
      (oI p5 p4 ⟨rfl,hk,.d z zv z2⟩)
     refine ⟨w',.tuple #[zv,goInt M.clk],?_,k2,k3,two ((ay.d z zv z2).mono k3)⟩
     simp only [Instr.mapEntry,Sem.run_bind,aF w hu,Result.andThen_ok,MapKept.run_getObj_map p2,hchk,o1,z1]
     rw [k1]; rfl
    ·
     cases h
   ·
    cases h
  ·
   cases h
 ·
  cases h
theorem kG {n:Nat}:∀ {es:List (D × AV × Nat)} {i0 i:Nat},jE n es i0=some i→i0 ≤ i∧(∃ p,es[i - i0]? = some p∧p.2.2=n)∧∀ j p,i0 ≤ j→j < i→es[j - i0]? = some p→p.2.2 ≠ n
 | [],i0,i,h=>by simp [jE] at h
 | (x,v,b) :: l,i0,i,h=>by
  simp only [jE] at h
  cases hb:Nat.beq b n with
  | true =>
   rw [hb] at h
   simp only [cond_true,Option.some.injEq] at h
   subst h
   exact ⟨Nat.le_refl _,⟨(x,v,b),by simp,Nat.eq_of_beq_eq_true hb⟩,fun j p h1 h2=>by omega⟩
  | false =>
   rw [hb] at h
   simp only [cond_false] at h
   obtain ⟨h1,⟨p,h2,h3⟩,h4⟩:=kG h
   refine ⟨by omega,⟨p,?_,h3⟩,fun j q hj1 hj2 hq=>?_⟩
   ·
    rw [show i - i0=(i - (i0 + 1)) + 1 by omega]; simpa using h2
   ·
    by_cases hj:j=i0
    ·
     subst hj
     simp at hq; subst hq
     intro e
     simp only at e
     rw [e] at hb
     simp at hb
    ·
     refine h4 j q (by omega) hj2 ?_
     rw [show j - i0=(j - (i0 + 1)) + 1 by omega] at hq
     simpa using hq
theorem pV {R:aR} (hR:ObjOk R) {C:bQ} {cx:Cx} {S S':St} {w:World} (hS:aD R cx S w) {t:Nat} {m v:AV} {st:D} {mv sv vv:Value} (h:lL S m st v=some S') (hm:ay cx S w m mv) (hs:aQ w cx.fr st sv) (hv:ay cx S w v vv) :
  ∃ w',(Instr.entryStore t mv sv vv).run C.P w=.ok () w'∧aD R cx S' w'∧Ext cx S w cx S' w':=by
 unfold lL at h
 split at h
 ·
  rename_i id n
  split at h
  ·
   rename_i M hg
   split at h
   ·
    rename_i hc
    obtain ⟨hn0,hpl⟩:=hc
    have:=hs.val rfl; cases this
    cases hm with
    | map _ b hn hp =>
    obtain ⟨p1,ms,p2,p3,p4,p5⟩:=mM hS hg (.map id b hn hp)
    subst p1
    split at h
    ·
     rename_i i hf
     simp only [Option.some.injEq] at h; subst h
     obtain ⟨_,⟨p,f2,f3⟩,f4⟩:=kG hf
     rw [Nat.sub_zero] at f2
     have hil:i < ms.size:=by rw [p5]; exact (List.getElem?_eq_some_iff.1 f2).1
     have hidx:ms.findIdx? (fun e=>(e.born:Int) == n)=some i:=by
      rw [Array.findIdx?_eq_some_iff_getElem]
      refine ⟨hil,?_,fun j hj=>?_⟩
      ·
       have:=(p4 i p ms[i] f2 (by simp [hil])).1
       rw [this,f3]
       simp [Int.toNat_of_nonneg hn0]
      ·
       have hjl:j < M.es.length:=by omega
       have hq:=List.getElem?_eq_getElem hjl
       have hb:=(p4 j M.es[j] ms[j] hq (by simp [show j < ms.size by omega])).1
       have hne:=f4 j M.es[j] (Nat.zero_le _) hj (by rw [Nat.sub_zero]; exact hq)
       simp only [beq_iff_eq]
       rw [hb]
       intro e
       apply hne
       omega
     obtain ⟨w',k1,k2,k3⟩:=fq hR (P:=C.P) (M':={ M with es:=M.es.modify i fun p=>(p.1,v,p.2.2) }) (ms':=ms.modify i fun e=>{ e with val:=vv }) (c':=M.clk) hS hg p2 ⟨by simp [p5],rfl⟩
      (jO p4 (fun p m hp hm=>⟨(p4 i p m hp hm).1,(p4 i p m hp hm).2.1,hv⟩))
     refine ⟨w',?_,k2,k3⟩
     have hint:(asInt (.int .i64 n)).run C.P w=.ok n w:=by simp [asInt,asIntOf]
     simp only [Instr.entryStore,Sem.run_bind,Sem.run_pure,Result.andThen_ok,MapKept.run_getObj_map p2,hint,hidx]
     exact k1
    ·
     cases h
   ·
    cases h
  ·
   cases h
 ·
  cases h
theorem uW {cx:Cx} {S:St} {w:World} {es:List (D × AV × Nat)} {ms:Array MapEntry} {j:Nat} (h:∀ (i:Nat) (p:D × AV × Nat) (m:MapEntry),es[i]? = some p→ms[i]? = some m→m.born=p.2.2∧aQ w cx.fr p.1 m.key∧ay cx S w p.2.1 m.val) :
  ∀ (i:Nat) (p:D × AV × Nat) (m:MapEntry),(es.eraseIdx j)[i]? = some p→(ms.eraseIdxIfInBounds j)[i]? = some m→m.born=p.2.2∧aQ w cx.fr p.1 m.key∧ay cx S w p.2.1 m.val:=by
 intro i p m hp hm
 have hm':(ms.toList.eraseIdx j)[i]? = some m:=by
  rw [← Array.getElem?_toList] at hm
  simpa using hm
 rw [List.getElem?_eraseIdx] at hp hm'
 split at hp
 ·
  rename_i hlt
  rw [if_pos hlt] at hm'
  exact h i p m hp (by simpa using hm')
 ·
  rename_i hlt
  rw [if_neg hlt] at hm'
  exact h (i + 1) p m hp (by simpa using hm')
theorem wW {R:aR} (hR:ObjOk R) {C:bQ} {cx:Cx} {S S':St} {w:World} (hS:aD R cx S w) {t ty:Nat} {m:AV} {k:D} {mv kv:Value} (h:rO C t S m k=some S') (hm:ay cx S w m mv) (hk:aQ w cx.fr k kv) :
  ∃ w',(Builtin.delete_ #[t] ty #[mv,kv]).run C.P w=.ok (.tuple #[]) w'∧aD R cx S' w'∧Ext cx S w cx S' w':=by
 unfold rO at h
 split at h
 ·
  rename_i kt et id hkt
  have hu:=iE hkt
  split at h
  ·
   rename_i M hg
   split at h
   ·
    rename_i hkey
    cases hm with
    | map _ b hn hp =>
    obtain ⟨p1,ms,p2,p3,p4,p5⟩:=mM hS hg (.map id b hn hp)
    subst p1
    have hchk:=mW hkey hk ms.isEmpty
    split at h
    ·
     rename_i i y hf
     simp only [Option.some.injEq] at h; subst h
     obtain ⟨o,o1,o2⟩:=dK (P:=C.P) hkey hk p3 hf
     obtain ⟨bn,m',q1,q2,q3,q4⟩:=mU (fun i p m hp hm=>(p4 i p m hp hm).2.2) hf o2
     subst q3
     obtain ⟨w',k1,k2,k3⟩:=fq hR (P:=C.P) (M':={ M with es:=M.es.eraseIdx i }) (ms':=ms.eraseIdxIfInBounds i) (c':=M.clk) hS hg p2 ⟨by
       have e1:(ms.eraseIdxIfInBounds i).toList=ms.toList.eraseIdx i:=by simp
       rw [← Array.length_toList,e1,List.length_eraseIdx,List.length_eraseIdx,Array.length_toList,p5],rfl⟩ (uW p4)
     refine ⟨w',?_,k2,k3⟩
     simp only [Builtin.delete_,List.getElem?_toArray,List.getElem?_cons_zero,List.getElem?_cons_succ,Sem.run_bind,aF w hu,Result.andThen_ok,MapKept.run_getObj_map p2,hchk,o1,k1,Sem.run_pure]
    ·
     rename_i hf
     simp only [Option.some.injEq] at h; subst h
     obtain ⟨o,o1,o2⟩:=dK (P:=C.P) hkey hk p3 hf
     have:o=none:=o2
     subst this
     obtain ⟨w',k1,k2,k3⟩:=fq hR (P:=C.P) (M':=M) (ms':=ms) (c':=M.clk) hS hg p2 ⟨p5,rfl⟩ p4
     obtain ⟨k2,k3⟩:=yx hg k2 k3
     refine ⟨w',?_,k2,k3⟩
     simp only [Builtin.delete_,List.getElem?_toArray,List.getElem?_cons_zero,List.getElem?_cons_succ,Sem.run_bind,aF w hu,Result.andThen_ok,MapKept.run_getObj_map p2,hchk,o1,k1,Sem.run_pure]
    ·
     cases h
   ·
    cases h
  ·
   cases h
 ·
  cases h
end
end Go.Ev

namespace Go.Ev
noncomputable section
set_option linter.unusedVariables false
set_option linter.unusedSimpArgs false
theorem qc {R:aR} (hR:ObjOk R) {cx cx':Cx} {S S':St} {w w':World} (h:aD R cx S w) {id k0:Nat} {x0:D} (hg:S.H.get id=some (.obj k0 x0)) (hmo:∀ k x,S'.H.get id=some (.obj k x)→qy x0 ≤ qy x) (hbk:∀ g,isIt S' id g→∃ g',isIt S id g') (hdi:∀ g,isIt S id g→¬ isIt S' id g)
  (hT:S'.T=S.T) (hnx:S'.nx=S.nx) (hH:∀ i,i ≠ id→S'.H.get i=S.H.get i) (hHid:S'.H.get id=none∨∃ k x,S'.H.get id=some (.obj k x)∧R.rel k x w' (cx'.bm id) (cx'.fp id))
  (hs:w.heap.size ≤ w'.heap.size) (h1:w'.os=w.os) (h2:w'.tape=w.tape) (h3:w'.output=w.output)
  (hoth:∀ b,b < w.heap.size→¬ cx.fp id b→w'.heap[b]? = w.heap[b]?)
  (hbm:∀ i,cx'.bm i=cx.bm i) (hfp:∀ i,i ≠ id→∀ b,(cx'.fp i b↔cx.fp i b)) (htsz:∀ i,cx'.tsz i=cx.tsz i) (htot:∀ i,cx'.tot i=cx.tot i)
  (hfpt:∀ b,cx'.fp id b→cx.fp id b∨(w.heap.size ≤ b∧b < w'.heap.size)) (hfpf:∀ b o,cx'.fp id b→cx'.fr b o)
  (hfr1:∀ b o,¬ cx.fr b o→b < w.heap.size→¬ cx'.fr b o) (hfr2:∀ b o,cx.fr b o→cx'.fr b o) (hfr3:∀ b o,cx'.fr b o→b < w'.heap.size) :
  aD R cx' S' w'∧Ext cx S w cx' S' w':=by
 obtain ⟨t1,t2⟩:=h.objs id k0 x0 hg
 have hlive:live S id:=by simp [live,cur,hg]
 have hcur:∀ i,i ≠ id→cur S' i=cur S i:=fun i hi=>by
  unfold cur; rw [hH i hi,hT]
 have hcurt:∀ g,cur S' id=some g→qy x0 ≤ g:=fun g hc=>by
  unfold cur at hc
  rcases hHid with q | ⟨k,x,q,_⟩
  ·
   rw [q,hT,h.lU id _ hg] at hc; cases hc
  ·
   have:=hmo k x q
   rw [q] at hc
   simp only [Option.some.injEq] at hc
   omega
 have hl':∀ i,live S' i→live S i:=fun i hl=>by
  by_cases hi:i=id
  ·
   subst hi; exact hlive
  ·
   unfold live at *; rwa [hcur i hi] at hl
 have e:Ext cx S w cx' S' w':=by
  refine ⟨hs,h1,h2,h3,by rw [hnx]; exact Nat.le_refl _,fun b o v hf hcl=>⟨?_,hfr1 b o hf (kr hcl)⟩,fun b hb hn=>?_,fun i b hl hf=>?_,fun i gi _ hi=>?_,fun i gi b _ h0 h2 hf=>?_,fun i gg hi hgg=>?_⟩
  ·
   exact jL (hoth b (kr hcl) (fun q=>hf (t2 b o q))) hcl
  ·
   exact ⟨hoth b hb (fun q=>by obtain ⟨_,g,z1,z2⟩:=hn id hlive q; exact hdi g z1 z2),fun o=>⟨fun q=>Classical.byContradiction fun q'=>hfr1 b o q' hb q,hfr2 b o⟩⟩
  ·
   refine ⟨fun _=>⟨hl' i hl,?_⟩,fun hge=>absurd (h.wf i (hl' i hl)) (by show ¬ i < S.nx; omega)⟩
   by_cases hi:i=id
   ·
    subst hi
    rcases hfpt b hf with q | q
    ·
     exact .inl q
    ·
     exact .inr q.1
   ·
    exact .inl ((hfp i hi b).1 hf)
  ·
   by_cases q:i=id
   ·
    subst q; exact hbk gi hi
   ·
    exact ⟨gi,by unfold isIt at *; rwa [hH i q] at hi⟩
  ·
   have q:i ≠ id:=fun q=>by subst q; exact hdi gi h0 h2
   exact (hfp i q b).2 hf
  ·
   by_cases hi':i=id
   ·
    subst hi'
    have:=hcurt gg hgg
    exact ⟨qy x0,by simp [cur,hg],this,fun _=>⟨hbm i,htsz i,htot i⟩⟩
   ·
    rw [hcur i hi'] at hgg
    exact ⟨gg,hgg,Nat.le_refl _,fun _=>⟨hbm i,htsz i,htot i⟩⟩
 have hne:∀ i,live S i→i ≠ id→∀ b,cx.fp i b→¬ cx.fp id b:=fun i hi hne b hf hq=>hne (h.sep i id b hi hlive hf hq)
 refine ⟨⟨fun i hi=>by rw [hnx]; exact h.wf i (hl' i hi),fun i b hi=>?_,fun i gg cs2 hi=>?_,fun i es hi=>?_,fun i k x hi=>?_,fun i n hi=>?_,fun i i' b a1 a2 f1 f2=>?_,hfr3,hR.stat _ _ _ _ h.stat e.prot⟩,e⟩
 ·
  rw [hT]
  by_cases q:i=id
  ·
   subst q; exact h.lU i _ hg
  ·
   rw [hH i q] at hi; exact h.lU i b hi
 ·
  by_cases q:i=id
  ·
   subst q
   rcases hHid with z | ⟨k,x,z,_⟩
   ·
    rw [z] at hi; cases hi
   ·
    rw [z] at hi; cases hi
  ·
   rw [hH i q] at hi
   obtain ⟨d1,d2,arr2,el2,d3,d4,d5⟩:=h.cells i gg cs2 hi
   have hb:=hne i (by simp [live,cur,hi]) q _ ((d1 _).2 rfl)
   refine ⟨fun b=>by rw [hfp i q,hbm i]; exact d1 b,fun o=>by rw [hbm i]; exact hfr2 _ _ (d2 o),arr2,el2,?_,by rw [htsz i,htot i]; exact d4,fun j x hx=>by
    obtain ⟨v,v1,v2,v3⟩:=d5 j x hx
    exact ⟨v,v1,v2.mono e,v3⟩⟩
   rw [hbm i,hoth _ (h.lt _ 0 (d2 0)) hb]; exact d3
 ·
  by_cases q:i=id
  ·
   subst q
   rcases hHid with z | ⟨k,x,z,_⟩
   ·
    rw [z] at hi; cases hi
   ·
    rw [z] at hi; cases hi
  ·
   rw [hH i q] at hi
   obtain ⟨d1,d2,ms,clk,d3,d4,d5⟩:=h.maps i es hi
   have hb:=hne i (by simp [live,cur,hi]) q _ ((d1 _).2 rfl)
   refine ⟨fun b=>by rw [hfp i q,hbm i]; exact d1 b,fun o=>by rw [hbm i]; exact hfr2 _ _ (d2 o),ms,clk,?_,d4,fun j p m hp hm=>by
    obtain ⟨v1,v2⟩:=d5 j p m hp hm
    exact ⟨v1.mono e.prot,v2.mono e⟩⟩
   rw [hbm i,hoth _ (h.lt _ 0 (d2 0)) hb]; exact d3
 ·
  by_cases q:i=id
  ·
   subst q
   rcases hHid with z | ⟨k',x',z,hr⟩
   ·
    rw [z] at hi; cases hi
   ·
    rw [z] at hi; cases hi
    exact ⟨hr,hfpf⟩
  ·
   rw [hH i q] at hi
   obtain ⟨d1,d2⟩:=h.objs i k x hi
   have hf:cx'.fp i=cx.fp i:=funext fun b=>propext (hfp i q b)
   rw [hbm i,hf]
   have hb:=hne i (by simp [live,cur,hi]) q
   exact ⟨hR.frame k x w w' _ _ d1 (fun c hc=>hoth c ((hR.lt k x w _ _ d1).1 c hc) (hb c hc)),fun b o hbf=>hfr2 b o (d2 b o hbf)⟩
 ·
  rw [hT] at hi
  have q:i ≠ id:=fun q=>by subst q; have:=h.lU i _ hg; rw [this] at hi; cases hi
  obtain ⟨hci,hHi⟩:=yK h hi
  obtain ⟨d1,d2,arr2,el2,fz,d3,d4,d5,d6⟩:=h.toks i n hi
  have hb:=hne i (by simp [live,hci]) q _ ((d1 _).2 rfl)
  have hlt:cx.bm i < w.heap.size:=h.lt _ _ (d2 _ (Nat.le_refl _))
  refine ⟨fun b=>by rw [hfp i q,hbm i]; exact d1 b,fun o ho=>?_,arr2,el2,fz,?_,?_,?_,?_⟩
  ·
   rw [htsz i] at ho; rw [hbm i]; exact hfr2 _ _ (d2 o ho)
  ·
   rw [hbm i,hoth _ hlt hb]; exact d3
  ·
   rw [htsz i,htot i]; exact d4
  ·
   rw [htot i]; exact d5
  ·
   rw [htsz i]; exact d6
 ·
  by_cases q:i=id <;> by_cases q':i'=id
  ·
   omega
  ·
   exfalso
   subst q
   have f2':=(hfp i' q' b).1 f2
   rcases hfpt b f1 with z | z
   ·
    exact hne i' (hl' i' a2) q' b f2' z
   ·
    have:=h.qK hR (hl' i' a2) f2'; omega
  ·
   exfalso
   subst q'
   have f1':=(hfp i q b).1 f1
   rcases hfpt b f2 with z | z
   ·
    exact hne i (hl' i a1) q b f1' z
   ·
    have:=h.qK hR (hl' i a1) f1'; omega
  ·
   exact h.sep i i' b (hl' i a1) (hl' i' a2) ((hfp i q b).1 f1) ((hfp i' q' b).1 f2)
theorem qJ {R:aR} (hR:ObjOk R) {cx:Cx} {S:St} {w:World} (hS:aD R cx S w) (m:Option Nat) (since st:Nat) (seen:Array Nat) :
  ∃ cx',aD R cx' (aS S (.obj 3 (.int .i64 0))) (w.alloc (.mapIter m since seen st))∧Ext cx S w cx' (aS S (.obj 3 (.int .i64 0))) (w.alloc (.mapIter m since seen st)) ∧
   Names (aS S (.obj 3 (.int .i64 0))) S.nx 0∧(w.heap.size=cx'.bm S.nx∧cx'.fp S.nx w.heap.size∧(∀ i,cur (aS S (.obj 3 (.int .i64 0))) i ≠ none→cx'.fp i w.heap.size→i=S.nx) ∧
    (w.alloc (.mapIter m since seen st)).heap[w.heap.size]? = some (.mapIter m since seen st)):=by
 obtain ⟨cx',k1,k2,k3⟩:=pI hR hS 3 (.int .i64 0) (.mapIter m since seen st) rfl ((hR.it _ _ _ _).2 ⟨by rw [size_alloc]; omega,fun c=>Iff.rfl⟩)
 have hget:(aS S (.obj 3 (.int .i64 0))).H.get S.nx=some (.obj 3 (.int .i64 0)):=by simp [aS,AL.aG]
 have hcur:cur (aS S (.obj 3 (.int .i64 0))) S.nx=some 0:=by unfold cur; rw [hget]; rfl
 cases k3 with
 | ptr _ _ _ _ hn hp =>
 have hb:=hp hcur
 have hf:cx'.fp S.nx w.heap.size:=((((hR.it _ _ _ _).1 (k1.objs _ _ _ hget).1).2) _).2 hb
 exact ⟨cx',k1,k2,hn,hb,hf,fun i hi hfi=>k1.sep i S.nx _ hi (by simp [live,hcur]) hfi hf,heap_alloc_new w _⟩
theorem xI {R:aR} (hR:ObjOk R) {C:bQ} {cx:Cx} {S:St} {w:World} (hS:aD R cx S w) {t id:Nat} {kt:Nat × Nat} {M:p8} {v:Value} (ht:nz C t=some kt) (hg:S.H.get id=some (.map M)) (hx:ay cx S w (.map id) v) :
  ∃ cx' w' u,(Instr.range t v).run C.P w=.ok u w'∧aD R cx' (aS S (.obj 3 (.int .i64 0))) w'∧Ext cx S w cx' (aS S (.obj 3 (.int .i64 0))) w'∧ay cx' (aS S (.obj 3 (.int .i64 0))) w' (.it S.nx 0 (some id) M.clk [] M.clk) u:=by
 have hu:=iE (k:=kt.1) (e:=kt.2) ht
 cases hx with
 | map _ b hn hp =>
 obtain ⟨p1,ms,p2,p3,p4,p5⟩:=mM hS hg (.map id b hn hp)
 subst p1
 obtain ⟨cx',k1,k2,k3,k4⟩:=qJ hR hS (some (cx.bm id)) M.clk M.clk #[]
 refine ⟨cx',_,.pointer (some ⟨w.heap.size,0,none⟩),?_,k1,k2,?_⟩
 ·
  simp only [Instr.range,Sem.run_bind,aF w hu,Result.andThen_ok,MapKept.run_getObj_map p2,Sem.run_pure]
  rfl
 ·
  refine .it S.nx 0 id M.clk M.clk w.heap.size (cx.bm id) [] k3 (hn.mono k2) (fun hc=>?_) (fun _=>k4)
  exact (hn.pos k2 hc).2.1.symm
theorem rf {R:aR} (hR:ObjOk R) {C:bQ} {cx:Cx} {S:St} {w:World} (hS:aD R cx S w) {t:Nat} {kt:Nat × Nat} {v:Value} (ht:nz C t=some kt) (hx:ay cx S w (.d .nilm) v) :
  ∃ cx' w' u,(Instr.range t v).run C.P w=.ok u w'∧aD R cx' (aS S (.obj 3 (.int .i64 0))) w'∧Ext cx S w cx' (aS S (.obj 3 (.int .i64 0))) w'∧ay cx' (aS S (.obj 3 (.int .i64 0))) w' (.it S.nx 0 none 0 [] 0) u:=by
 have hu:=iE (k:=kt.1) (e:=kt.2) ht
 have:=hx.dd.val rfl
 cases this
 obtain ⟨cx',k1,k2,k3,k4⟩:=qJ hR hS none 0 0 #[]
 refine ⟨cx',_,.pointer (some ⟨w.heap.size,0,none⟩),?_,k1,k2,.it0 S.nx 0 0 0 w.heap.size [] k3 (fun _=>k4)⟩
 simp only [Instr.range,Sem.run_bind,aF w hu,Result.andThen_ok,Sem.run_pure]
 rfl
theorem xg {R:aR} {C:bQ} {cx:Cx} {S:St} {w:World} (hS:aD R cx S w) {k g id since st n i:Nat} {seen:List Nat} {M:p8} {p:D × AV × Nat} {v:Value} (hx:ay cx S w (.it k g (some id) since seen st) v)
  (hg:S.H.get id=some (.map M)) (hl:seen.getLast? = some n) (hk:isIt S k g) (hc:M.clk=st) (hf:jE n M.es 0=some i) (hp:M.es[i]? = some p) :
  ∃ u,(Instr.entry v).run C.P w=.ok u w∧ay cx S w (.tup [.d p.1,p.2.1]) u:=by
 cases hx with
 | it _ _ _ _ _ b m _ hn hni hm hpos =>
 obtain ⟨_,_,_,hb⟩:=hpos hk
 have hm:=hm (by simp [cur,hg])
 subst hm
 obtain ⟨c1,c2,ms,clk,c3,⟨c4,c4',c4''⟩,c5⟩:=hS.maps id M hg
 subst c4'
 have hlt:i < ms.size:=by rw [c4]; exact (List.getElem?_eq_some_iff.1 hp).1
 have hmi:ms[i]? = some ms[i]:=Array.getElem?_eq_getElem hlt
 obtain ⟨r1,r2⟩:=c5 i p _ hp hmi
 obtain ⟨_,⟨q,f2,f3⟩,f4⟩:=kG hf
 rw [Nat.sub_zero] at f2
 have hqp:q=p:=by rw [hp] at f2; exact (Option.some.inj f2).symm
 subst hqp
 have hfind:ms.find? (fun e=>e.born == n)=some ms[i]:=by
  rw [Array.find?_eq_some_iff_getElem]
  refine ⟨by simp [c4'' i q _ hp hmi,f3],i,hlt,rfl,fun j hj=>?_⟩
  have hjl:j < M.es.length:=by rw [← c4]; omega
  have hq:=List.getElem?_eq_getElem hjl
  have hbj:=c4'' j M.es[j] ms[j] hq (Array.getElem?_eq_getElem (by omega))
  have hne:=f4 j M.es[j] (Nat.zero_le _) hj (by rw [Nat.sub_zero]; exact hq)
  simp [hbj,hne]
 have hgo:(getObj b).run C.P w=.ok (.mapIter (some (cx.bm id)) since seen.toArray st) w:=by simp [getObj,Sem.run,hb]
 have hback:seen.toArray.back? = some n:=by simpa using hl
 refine ⟨.tuple #[ms[i].key,ms[i].val],?_,?_⟩
 ·
  simp only [Instr.entry,Sem.run_bind,Sem.run_pure,Result.andThen_ok,hgo,hback,MapKept.run_getObj_map c3,hc]
  rw [if_neg (by simp)]
  simp only [hfind,Sem.run_pure]
 ·
  refine .tup _ [ms[i].key,ms[i].val] rfl (fun j x u hx hu=>?_)
  match j,hx,hu with
  | 0,hx,hu=>simp at hx hu; subst hx; subst hu; exact .d _ _ r1
  | 1,hx,hu=>simp at hx hu; subst hx; subst hu; exact r2
end
end Go.Ev

namespace Go.Ev
noncomputable section
set_option linter.unusedVariables false
set_option linter.unusedSimpArgs false
def iR (R:aR) (C:bQ) (cx:Cx) (S:St) (w:World) (σ:Operand→Value) (o:Oper):nQ→Prop
 | .val v S'=>∃ cx' w' u,(execOp σ o).run C.P w=.ok (.value u) w'∧aD R cx' S' w'∧Ext cx S w cx' S' w'∧ay cx' S' w' v u
 | .skip S'=>∃ cx' w',(execOp σ o).run C.P w=.ok .skip w'∧aD R cx' S' w'∧Ext cx S w cx' S' w'
 | .call f args=>∃ us:List Value,us.length=args.length∧(∀ (i:Nat) (x:AV) (v:Value),args[i]? = some x→us[i]? = some v→ay cx S w x v) ∧
   ∀ fn,C.P.funcs[f]? = some fn→fn.body.isSome=true→fn.name ≠ "runtime.NumGoroutine" → (execOp σ o).run C.P w=.ok (.enter f us.toArray) w
 | .panic _=>False
theorem mI {P:Program} {w w':World} {s:Sem Value} {u:Value} (h:s.run P w=.ok u w'):(do pure (.value (← s)):Sem Next).run P w=.ok (.value u) w':=by
 rw [Sem.run_bind,h]; rfl
theorem FI {P:Program} {w w':World} {s:Sem Unit} (h:s.run P w=.ok () w'):(do s; pure .skip:Sem Next).run P w=.ok .skip w':=by
 rw [Sem.run_bind,h]; rfl
section
variable {R:aR} {C:bQ} {cx:Cx} {S:St} {w:World} {σ:Operand→Value} {o:Oper}
theorem iR.pure {v:AV} {u:Value} (hS:aD R cx S w) (h:(execOp σ o).run C.P w=.ok (.value u) w) (hv:ay cx S w v u):iR R C cx S w σ o (.val v S) :=
 ⟨cx,w,u,h,hS,Ext.refl w hS.wf,hv⟩
theorem Bw {x:AV} {ys:List D} {u:Value} {sz:Nat} (hd:fM x=some ys) (hx:ay cx S w x u) (hs:sizes sz ys=true) :
  (Builtin.lenOf u).run C.P w=.ok ys.length w∧∃ fs,(∀ w',w'.heap=w.heap→(Builtin.firstCells sz ys.length u).run C.P w'=.ok fs.toArray w')∧Flat w cx.fr sz ys fs:=by
 obtain ⟨tight,hr⟩:=xq hd hx
 obtain ⟨a,cap,rfl,_⟩:=wH hr
 refine ⟨rfl,?_⟩
 obtain ⟨fs,f1,f2,_⟩:=fK (P:=C.P) hr hs
 refine ⟨fs,fun w' hw=>?_,f2⟩
 have hm:aQ w' cx.fr (.sl ys tight) (.slice a ys.length cap):=hr.mono (fun b o v h1 h2=>⟨by simp only [World.cell?] at h2 ⊢; rw [hw]; exact h2,h1⟩)
 obtain ⟨gs,g1,g2,g3⟩:=fK (P:=C.P) hm hs
 rw [g1]
 congr 2
 cases a with
 | none =>
  have h0:ys=[]:=by
   obtain ⟨a',cap',hv,_,_,hm⟩:=wH hr
   simp only [Value.slice.injEq] at hv
   by_cases q:ys=[]
   ·
    exact q
   ·
    obtain ⟨b,off,sz',vs,e,_⟩:=hm q
    rw [← hv.1] at e; cases e
  subst h0
  have e1:fs=[]:=by have:=f2.len; simpa using this
  have e2:gs=[]:=by have:=g2.len; simpa using this
  rw [e1,e2]
 | some ad =>
  have hrun:(loadCells ad (ys.length * sz)).run C.P w=.ok fs.toArray w:=f1
  have hrun':(loadCells ad (ys.length * sz)).run C.P w'=.ok gs.toArray w':=g1
  by_cases q:ys=[]
  ·
   subst q
   have e1:fs=[]:=by have:=f2.len; simpa using this
   have e2:gs=[]:=by have:=g2.len; simpa using this
   rw [e1,e2]
  ·
   obtain ⟨a',cap',hv,_,_,hm⟩:=wH hr
   obtain ⟨b,off,sz',vs,e,_⟩:=hm q
   simp only [Value.slice.injEq] at hv
   rw [← hv.1] at e
   simp only [Option.some.injEq] at e; subst e
   obtain ⟨fs',f1',f2',f3'⟩:=fK (P:=C.P) hr hs
   rw [f1] at f1'
   simp only [Result.ok.injEq,and_true] at f1'
   have hff:fs=fs':=by simpa using f1'
   subst hff
   apply List.ext_getElem?
   intro i
   by_cases hi:i < gs.length
   ·
    have hg:=List.getElem?_eq_getElem hi
    have hi':i < fs.length:=by rw [f2.len,← g2.len]; exact hi
    have hf:=List.getElem?_eq_getElem hi'
    have c1:=g3 b off _ _ rfl i _ hg
    have c2:=f3' b off _ _ rfl i _ hf
    simp only [World.cell?] at c1 c2
    rw [hw] at c1
    rw [c2] at c1
    rw [hg,hf]; simpa using c1.symm
   ·
    rw [List.getElem?_eq_none (by omega),List.getElem?_eq_none (by rw [f2.len,← g2.len]; omega)]
theorem oD (hR:ObjOk R) (hS:aD R cx S w) {t t2 e ty:Nat} {x r:AV} {ys:List D} {S':St} {v u:Value} (h:eU C e S x ys=some (r,S')) (he:aV C.P t=some e) (h2:eu C t2=true) (hx:ay cx S w x v)
  (hu:(Builtin.lenOf u).run C.P w=.ok ys.length w) (hsrc:sizes (ax C.P e) ys=true→∃ fs,(∀ w',w'.heap=w.heap→(Builtin.firstCells (ax C.P e) ys.length u).run C.P w'=.ok fs.toArray w')∧Flat w cx.fr (ax C.P e) ys fs)
  (h0:ys=[]→∀ sz,(Builtin.firstCells sz 0 u).run C.P w=.ok #[] w) (hi:(C.P.info? e).isSome=true) :
  ∃ cx' w' z,(Builtin.append_ #[t,t2] ty #[v,u]).run C.P w=.ok z w'∧aD R cx' S' w'∧Ext cx S w cx' S' w'∧ay cx' S' w' r z:=by
 obtain ⟨ie,hi⟩:=Option.isSome_iff_exists.1 hi
 have nothing:∀ {xs:List D} {tight:Bool},aQ w cx.fr (.sl xs tight) v→ys.length=0→(Builtin.append_ #[t,t2] ty #[v,u]).run C.P w=.ok v w:=by
  intro xs tight hd hy
  obtain ⟨a,cap,rfl,hcap,_⟩:=wH hd
  have hy':ys=[]:=List.eq_nil_of_length_eq_zero hy
  subst hy'
  have:=run_append_fits (w:=w) (ty:=ty) (sLen:=xs.length) (sCap:=cap) (n:=0) (base:=a) (u:=u) (bu he) hi h2 hu (by omega) (new:=#[]) (h0 rfl _)
  rw [this]
  cases a with
  | none=>rfl
  | some ad=>simp [storeCells]
 unfold eU at h
 split at h
 ·
  by_cases hy:ys.length=0
  ·
   rw [if_pos hy,if_pos (by simp [hi])] at h
   simp only [Option.some.injEq,Prod.mk.injEq] at h
   obtain ⟨rfl,rfl⟩:=h
   exact ⟨cx,w,v,nothing (sV hx.dd) hy,hS,Ext.refl w hS.wf,hx⟩
  ·
   rw [if_neg hy] at h
   split at h
   ·
    rename_i hc
    obtain ⟨c1,c2,c3,c4,c6⟩:=hc
    simp only [Option.some.injEq,Prod.mk.injEq] at h
    obtain ⟨rfl,rfl⟩:=h
    obtain ⟨fs,s1,s2⟩:=hsrc c4
    have:=tO hR hS (ty:=ty) (xs:=[]) he h2 (sV hx.dd) hu s1 s2 hy (by simpa using c1) c2 c3 rfl c6
    simpa using this
   ·
    cases h
 ·
  rename_i xs tight
  by_cases hy:ys.length=0
  ·
   rw [if_pos hy,if_pos (by simp [hi])] at h
   simp only [Option.some.injEq,Prod.mk.injEq] at h
   obtain ⟨rfl,rfl⟩:=h
   exact ⟨cx,w,v,nothing hx.dd hy,hS,Ext.refl w hS.wf,hx⟩
  ·
   rw [if_neg hy] at h
   split at h
   ·
    rename_i hc
    obtain ⟨c1,c2,c3,c4,c5,c6⟩:=hc
    split at h
    ·
     rename_i ht
     subst ht
     simp only [Option.some.injEq,Prod.mk.injEq] at h
     obtain ⟨rfl,rfl⟩:=h
     obtain ⟨fs,s1,s2⟩:=hsrc c4
     exact tO hR hS he h2 hx.dd hu s1 s2 hy c1 c2 c3 c5 c6
    ·
     cases h
   ·
    cases h
 ·
  rename_i xs tok
  by_cases hy:ys.length=0
  ·
   rw [if_pos hy,if_pos (by simp [hi])] at h
   simp only [Option.some.injEq,Prod.mk.injEq] at h
   obtain ⟨rfl,rfl⟩:=h
   refine ⟨cx,w,v,?_,hS,Ext.refl w hS.wf,hx⟩
   cases hx with
   | tsl _ _ b off cap hn hd hp=>exact nothing hd hy
  ·
   rw [if_neg hy] at h
   split at h
   ·
    rename_i hc
    obtain ⟨c1,c2,c3,c4,c5,c6⟩:=hc
    split at h
    ·
     rename_i en hT
     split at h
     ·
      rename_i hen
      obtain ⟨rfl,hpos⟩:=hen
      simp only [Option.some.injEq,Prod.mk.injEq] at h
      obtain ⟨rfl,rfl⟩:=h
      obtain ⟨fs,s1,s2⟩:=hsrc c4
      exact zX hR hS he h2 hx (by intro q; subst q; simp at hpos) hT hu s1 s2 hy c1 c2 c3 c5 c6
     ·
      cases h
    ·
     cases h
   ·
    cases h
 ·
  cases h
theorem qO {A:Array Nat} {V:Array Value} {t t2 ty:Nat} {v u:Value} (h1:A[0]? = some t) (h2:A[1]? = some t2) (h3:V[0]? = some v) (h4:V[1]? = some u) :
  Builtin.append_ A ty V=Builtin.append_ #[t,t2] ty #[v,u]:=by
 unfold Builtin.append_
 simp only [h1,h2,h3,h4,List.getElem?_toArray,List.getElem?_cons_zero,List.getElem?_cons_succ]
theorem Dn {A:Array Nat} {V:Array Value} {t ty:Nat} {v:Value} (h1:A[0]? = some t) (h3:V[0]? = some v):Builtin.len_ A ty V=Builtin.len_ #[t] ty #[v]:=by
 unfold Builtin.len_
 simp only [h1,h3,List.getElem?_toArray,List.getElem?_cons_zero]
theorem yl {A:Array Nat} {V:Array Value} {t ty:Nat} {v u:Value} (h1:A[0]? = some t) (h3:V[0]? = some v) (h4:V[1]? = some u):Builtin.delete_ A ty V=Builtin.delete_ #[t] ty #[v,u]:=by
 unfold Builtin.delete_
 simp only [h1,h3,h4,List.getElem?_toArray,List.getElem?_cons_zero,List.getElem?_cons_succ]
theorem BC {A:Array Nat} {V:Array Value} {t t2 ty:Nat} {v u:Value} (h1:A[0]? = some t) (h3:V[0]? = some v) (h4:V[1]? = some u):Builtin.copy_ A ty V=Builtin.copy_ #[t,t2] ty #[v,u]:=by
 unfold Builtin.copy_
 simp only [h1,h3,h4,List.getElem?_toArray,List.getElem?_cons_zero,List.getElem?_cons_succ]
theorem zi {A:Array Nat} {V:Array Value} {t ty:Nat} {v:Value} (h1:A[0]? = some t) (h3:V[0]? = some v):Builtin.clear_ A ty V=Builtin.clear_ #[t] ty #[v]:=by
 unfold Builtin.clear_
 simp only [h1,h3,List.getElem?_toArray,List.getElem?_cons_zero]
theorem nU {ρ:Operand→Option AV} (hρ:qC cx S w ρ σ) {as_:Array Operand} {args:List AV} (h:dQ ρ as_.toList=some args) :
  (as_.map σ).toList.length=args.length∧∀ (i:Nat) (x:AV) (v:Value),args[i]? = some x→(as_.map σ).toList[i]? = some v→ay cx S w x v:=by
 obtain ⟨h1,h2⟩:=kS h
 refine ⟨by simp [h1],fun i x v hx hv=>?_⟩
 simp only [Array.toList_map,List.getElem?_map,Option.map_eq_some_iff] at hv
 obtain ⟨q,hq,rfl⟩:=hv
 exact hρ _ _ (h2 i q x hq hx)
theorem l5 {e:Nat} (h:dE C e=true):(C.P.info? e).isSome=true:=by
 obtain ⟨i,z,hi,_⟩:=jZ h; simp [hi]
theorem yL {e:Nat} {x:AV} {ys:List D} {r:AV × St} (h:eU C e S x ys=some r):(C.P.info? e).isSome=true:=by
 unfold eU at h
 split at h
 ·
  split at h
  ·
   split at h
   ·
    assumption
   ·
    cases h
  ·
   split at h
   ·
    rename_i hc; exact l5 hc.2.2.2.2
   ·
    cases h
 ·
  split at h
  ·
   split at h
   ·
    assumption
   ·
    cases h
  ·
   split at h
   ·
    rename_i hc; exact l5 hc.2.2.2.2.2
   ·
    cases h
 ·
  split at h
  ·
   split at h
   ·
    assumption
   ·
    cases h
  ·
   split at h
   ·
    rename_i hc; exact l5 hc.2.2.2.2.2
   ·
    cases h
 ·
  cases h
theorem mf (hR:ObjOk R) (hS:aD R cx S w) {A:Array Nat} {V:Array Value} {t t2 e ty:Nat} {x y r:AV} {ys:List D} {S':St} {v u:Value} (h:eU C e S x ys=some (r,S')) (he:aV C.P t=some e) (hei:(C.P.info? e).isSome=true) (h2:eu C t2=true)
  (hx:ay cx S w x v) (hy:ay cx S w y u) (hk:fM y=some ys∨∃ s,y=.d (.str s)∧ys=s.map fun c=>.int .u8 c.toNat)
  (a1:A[0]? = some t) (a2:A[1]? = some t2) (a3:V[0]? = some v) (a4:V[1]? = some u) :
  ∃ cx' w' z,(Builtin.append_ A ty V).run C.P w=.ok z w'∧aD R cx' S' w'∧Ext cx S w cx' S' w'∧ay cx' S' w' r z:=by
 rw [qO a1 a2 a3 a4]
 rcases hk with hk | ⟨s,rfl,rfl⟩
 ·
  have hlen:(Builtin.lenOf u).run C.P w=.ok ys.length w:=by
   obtain ⟨tight,hr⟩:=xq hk hy
   obtain ⟨a,cap,rfl,_⟩:=wH hr
   rfl
  refine oD hR hS h he h2 hx hlen (fun hs=>(Bw hk hy hs).2) (fun h0 sz=>?_) hei
  subst h0
  obtain ⟨tight,hr⟩:=xq hk hy
  obtain ⟨a,cap,rfl,_⟩:=wH hr
  cases a <;> simp [Builtin.firstCells,loadCells,loadCellsFrom]
 ·
  obtain ⟨b,rfl,rfl⟩:=hy.str
  have hbl:b.data.toList.length=b.size:=Array.length_toList
  refine oD hR hS h he h2 hx ?_ (fun hs=>?_) (fun h0 sz=>?_) hei
  ·
   simp only [Builtin.lenOf,List.length_map,Sem.run_pure]; rw [hbl]
  ·
   obtain ⟨fs,f1,f2⟩:=vo (P:=C.P) (w:=w) (fr:=cx.fr) b
   by_cases hne:b.data.toList=[]
   ·
    refine ⟨[],fun w' _=>?_,by simp [hne],by simp,by simp [hne],by simp [hne]⟩
    simp only [hne,List.map_nil,List.length_nil,Builtin.firstCells,Sem.run_pure]
    congr 1
    apply Array.ext'
    simp [ByteArray.data_extract]
   ·
    have hsz:ax C.P e=1:=by
     cases hb:b.data.toList with
     | nil=>exact absurd hb hne
     | cons c l=>rw [hb] at hs; simp only [List.map_cons,sizes,Bool.and_eq_true] at hs; have:=Nat.eq_of_beq_eq_true hs.1; simpa [D.cells] using this.symm
    rw [hsz]
    refine ⟨fs,fun w' _=>?_,f2⟩
    have:(Builtin.firstCells 1 b.size (.string b)).run C.P w'=.ok fs.toArray w':=by
     simp only [Builtin.firstCells,Sem.run_pure,Result.ok.injEq,and_true] at f1 ⊢
     exact f1
    simp only [List.length_map,hbl]
    exact this
  ·
   simp only [Builtin.firstCells,Sem.run_pure]
   congr 1
   apply Array.ext'
   simp [ByteArray.data_extract]
theorem nP {ρ:Operand→Option AV} (hρ:qC cx S w ρ σ) {x:Option Operand} {y:Option D} (h:nL ρ x=some y):gY cx w y (x.map σ):=by
 unfold nL at h
 split at h
 ·
  simp only [Option.some.injEq] at h; subst h; trivial
 ·
  rename_i o'
  split at h
  ·
   rename_i z hz
   simp only [Option.some.injEq] at h; subst h
   exact (hρ _ _ hz).dd
  ·
   cases h
theorem uT (hR:ObjOk R) (hS:aD R cx S w) {b:Builtin} {A:Array Nat} {args:List AV} {us:List Value} {ty:Nat} {cs:Array Bool} {nx:nQ} (h:dZ C b A S args=some nx)
  (hl:us.length=args.length) (hr:∀ (i:Nat) (x:AV) (v:Value),args[i]? = some x→us[i]? = some v→ay cx S w x v) :
  ∃ v S' cx' w' u,nx=.val v S'∧(Go.builtin b A ty cs us.toArray).run C.P w=.ok (.value u) w'∧aD R cx' S' w'∧Ext cx S w cx' S' w'∧ay cx' S' w' v u:=by
 have hrefl:=Ext.refl (cx:=cx) w hS.wf
 unfold dZ at h
 split at h
 ·
  rename_i x
  split at h
  ·
   rename_i t ht
   split at h
   ·
    rename_i hlt
    simp only [Option.map_eq_some_iff] at h
    obtain ⟨n,hn,rfl⟩:=h
    match us,hl with
    | [u],_ =>
     have:=BQ hS (ty:=ty) hlt hn (hr 0 x u rfl rfl)
     refine ⟨_,_,cx,w,.int .i64 n,rfl,?_,hS,hrefl,.of_int _ _⟩
     simp only [Go.builtin]
     rw [Dn (v:=u) ht rfl]
     exact mI this
   ·
    cases h
  ·
   cases h
 ·
  rename_i x y
  split at h
  ·
   rename_i t ht
   cases ht2:A[1]? with
   | none=>simp [ht2] at h
   | some t2 =>
    simp only [ht2] at h
    by_cases hsrc:eu C t2=true
    ·
     rw [if_pos hsrc] at h
     match us,hl with
     | [u1,u2],_ =>
      have key:∀ {e:Nat} {ys:List D} {r:AV × St},aV C.P t=some e→eU C e S x ys=some r→(fM y=some ys∨∃ s,y=.d (.str s)∧ys=s.map fun c=>.int .u8 c.toNat)→nx=.val r.1 r.2 →
        ∃ v S' cx' w' u,nx=.val v S'∧(Go.builtin .append A ty cs [u1,u2].toArray).run C.P w=.ok (.value u) w'∧aD R cx' S' w'∧Ext cx S w cx' S' w'∧ay cx' S' w' v u:=by
       intro e ys r he hop hk hnx
       by_cases hei:(C.P.info? e).isSome=true
       ·
        obtain ⟨cx',w',z,k1,k2,k3,k4⟩:=mf (ty:=ty) (A:=A) (V:=[u1,u2].toArray) hR hS (r:=r.1) (S':=r.2) hop he hei hsrc (hr 0 x u1 rfl rfl) (hr 1 y u2 rfl rfl) hk ht ht2 rfl rfl
        exact ⟨r.1,r.2,cx',w',z,hnx,mI k1,k2,k3,k4⟩
       ·
        exfalso
        exact hei (yL hop)
      have e1:Builtin.append_ A ty [u1,u2].toArray=Builtin.append_ #[t,t2] ty #[u1,u2]:=qO ht ht2 rfl rfl
      have fin:∀ {r:AV × St},nx=.val r.1 r.2→(∃ cx' w' z,(Builtin.append_ #[t,t2] ty #[u1,u2]).run C.P w=.ok z w'∧aD R cx' r.2 w'∧Ext cx S w cx' r.2 w'∧ay cx' r.2 w' r.1 z) →
        ∃ v S' cx' w' u,nx=.val v S'∧(Go.builtin .append A ty cs [u1,u2].toArray).run C.P w=.ok (.value u) w'∧aD R cx' S' w'∧Ext cx S w cx' S' w'∧ay cx' S' w' v u:=by
       intro r hnx ⟨cx',w',z,k1,k2,k3,k4⟩
       rw [← e1] at k1
       exact ⟨r.1,r.2,cx',w',z,hnx,mI k1,k2,k3,k4⟩
      split at h
      ·
       rename_i e he
       split at h
       ·
        rename_i id g off len lim sz
        simp only [Option.map_eq_some_iff] at h
        obtain ⟨r,hop,rfl⟩:=h
        exact fin rfl (qZ hR hS hop he hsrc (hr 0 _ u1 rfl rfl) (hr 1 y u2 rfl rfl))
       ·
        cases hrow:C.rowT t with
        | true =>
         simp only [hrow,cond_true] at h
         split at h
         ·
          simp only [Option.map_eq_some_iff] at h
          obtain ⟨r,hop,rfl⟩:=h
          have hn:=yI (hr 0 _ u1 rfl rfl).dd
          subst hn
          exact fin rfl (kg hR hS (xs:=[]) (cap:=0) hop he hsrc (fun sz _=>⟨[],fun w' _=>by simp [Builtin.firstCells],⟨by simp,by simp,by simp,by simp⟩⟩) rfl (hr 0 _ _ rfl rfl) (hr 1 y u2 rfl rfl))
         ·
          rename_i xs
          simp only [Option.map_eq_some_iff] at h
          obtain ⟨r,hop,rfl⟩:=h
          have hd:=(hr 0 _ u1 rfl rfl).dd
          obtain ⟨a,cap,rfl,_,hcap,_⟩:=wH hd
          exact fin rfl (kg hR hS hop he hsrc (fun sz hs=>tN hd hs) (hcap rfl) (hr 0 _ _ rfl rfl) (hr 1 y u2 rfl rfl))
         ·
          cases h
        | false =>
         simp only [hrow,cond_false] at h
         split at h
         ·
          rename_i ys hd
          simp only [Option.map_eq_some_iff] at h
          obtain ⟨r,hop,rfl⟩:=h
          exact key he hop (.inl hd) rfl
         ·
          rename_i hd
          split at h
          ·
           simp only [Option.map_eq_some_iff] at h
           obtain ⟨r,hop,rfl⟩:=h
           exact key he hop (.inr ⟨_,rfl,rfl⟩) rfl
          ·
           cases h
      ·
       cases h
    ·
     rw [if_neg hsrc] at h; cases h
  ·
   cases h
 ·
  rename_i x y
  split at h
  ·
   rename_i t ht
   split at h
   ·
    rename_i e he
    match us,hl with
    | [u1,u2],_ =>
     obtain ⟨n,S',cx',w',rfl,k1,k2,k3⟩:=zm (t2:=0) (ty:=ty) hR hS h he (hr 0 x u1 rfl rfl) (hr 1 y u2 rfl rfl)
     refine ⟨_,S',cx',w',.int .i64 n,rfl,?_,k2,k3,.of_int _ _⟩
     simp only [Go.builtin]
     rw [BC (t2:=0) (v:=u1) (u:=u2) ht rfl rfl]
     exact mI k1
   ·
    cases h
  ·
   cases h
 ·
  rename_i x
  split at h
  ·
   rename_i t ht
   split at h
   ·
    rename_i e he
    match us,hl with
    | [u],_ =>
     obtain ⟨S',cx',w',rfl,k1,k2,k3⟩:=yO (ty:=ty) hR hS h he (hr 0 x u rfl rfl)
     refine ⟨_,S',cx',w',.tuple #[],rfl,?_,k2,k3,.tup [] [] rfl (by simp)⟩
     simp only [Go.builtin]
     rw [zi (v:=u) ht rfl]
     exact mI k1
   ·
    cases h
  ·
   cases h
 ·
  rename_i m k
  split at h
  ·
   rename_i t ht
   simp only [Option.map_eq_some_iff] at h
   obtain ⟨S',hd,rfl⟩:=h
   match us,hl with
   | [u1,u2],_ =>
    obtain ⟨w',k1,k2,k3⟩:=wW (ty:=ty) hR hS hd (hr 0 m u1 rfl rfl) (hr 1 _ u2 rfl rfl).dd
    refine ⟨_,S',cx,w',.tuple #[],rfl,?_,k2,k3,.tup [] [] rfl (by simp)⟩
    simp only [Go.builtin]
    rw [yl (v:=u1) (u:=u2) ht rfl rfl]
    exact mI k1
  ·
   cases h
 ·
  simp only [Option.map_eq_some_iff] at h
  obtain ⟨r,hm,rfl⟩:=h
  obtain ⟨v,rest,k,z,e1,e2,e3⟩:=oV (P:=C.P) (cx:=cx) (S:=S) (w:=w) (g:=Builtin.min2) (fun k a b=>by simp [Builtin.min2]) _ args r us rfl hm hl hr
  subst e1; subst e2
  refine ⟨_,_,cx,w,.int k z,rfl,?_,hS,hrefl,.of_int _ _⟩
  exact mI (by simpa [Builtin.min_] using e3)
 ·
  simp only [Option.map_eq_some_iff] at h
  obtain ⟨r,hm,rfl⟩:=h
  obtain ⟨v,rest,k,z,e1,e2,e3⟩:=oV (P:=C.P) (cx:=cx) (S:=S) (w:=w) (g:=Builtin.max2) (fun k a b=>by simp [Builtin.max2]) _ args r us rfl hm hl hr
  subst e1; subst e2
  refine ⟨_,_,cx,w,.int k z,rfl,?_,hS,hrefl,.of_int _ _⟩
  exact mI (by simpa [Builtin.max_] using e3)
 ·
  cases h
end
end
end Go.Ev

namespace Go.Ev
noncomputable section
set_option linter.unusedVariables false
set_option linter.unusedSimpArgs false
section
variable {R:aR} {C:bQ} {cx:Cx} {S:St} {w:World} {σ:Operand→Value}
theorem cu (hRC:fe R C) (hS:aD R cx S w) {ρ:Operand→Option AV} (hρ:qC cx S w ρ σ) (o:Oper) {nx:nQ} (h:oper C ρ S o.op=some nx):iR R C cx S w σ o nx:=by
 have hR:=hRC.toObjOk
 obtain ⟨dst,op,type,pos,after,guard⟩:=o
 simp only at h
 cases op <;> simp only [oper] at h <;> try (cases h; done)
 case move x =>
  simp only [Option.map_eq_some_iff] at h
  obtain ⟨v,hv,rfl⟩:=h
  exact iR.pure hS rfl (hρ _ _ hv)
 case assign x =>
  simp only [Option.map_eq_some_iff] at h
  obtain ⟨v,hv,rfl⟩:=h
  exact iR.pure hS rfl (hρ _ _ hv)
 case pick c a b =>
  split at h
  ·
   rename_i t hc
   simp only [Option.map_eq_some_iff] at h
   obtain ⟨v,hv,rfl⟩:=h
   have hb:=(hρ _ _ hc).bool
   refine iR.pure (u:=σ (if t then a else b)) hS ?_ (hρ _ _ hv)
   simp only [execOp,hb,asBool,Sem.run_bind,Sem.run_pure,Result.andThen_ok]
   cases t <;> rfl
  ·
   cases h
 case alloc t =>
  cases hhas:S.H.has S.nx with
  | true=>simp [hhas] at h
  | false =>
  simp only [hhas,cond_false] at h
  split at h
  ·
   rename_i kk xx hobj
   simp only [Option.some.injEq] at h
   subst h
   obtain ⟨zv,r1,r2,r3⟩:=hRC.new t kk xx hobj
   obtain ⟨cx',k1,k2,k3⟩:=pI hR hS kk xx (.cells zv.cells t) r3 (r2 w)
   refine ⟨cx',_,_,?_,k1,k2,k3⟩
   refine mI ?_
   simp only [Instr.alloc,Sem.run_bind,r1,Result.andThen_ok,newVar,newRow,run_newObj,Sem.run_pure]
   rfl
  simp only [Option.map_eq_some_iff] at h
  obtain ⟨z,hz,rfl⟩:=h
  obtain ⟨zv,r1,r2⟩:=gN hz w cx.fr
  have hp:=gI (cx:=cx) (S:=S) (.d z zv r2) rfl
  obtain ⟨cx',k1,k2,k3⟩:=wh hR hS (AV.d z).cells zv.cells.toList t hp.1 (fun i x v hx hv=>⟨hp.2.2 i x v hx hv,hp.2.1 v (List.mem_of_getElem? hv)⟩)
  refine ⟨cx',_,_,?_,k1,k2,k3⟩
  refine mI ?_
  simp only [Instr.alloc,Sem.run_bind,r1,Result.andThen_ok,newVar,newRow,run_newObj,Sem.run_pure]
  rfl
 case box t x =>
  split at h
  ·
   rename_i v hv
   split at h
   ·
    rename_i hpl
    cases hhas:S.H.has S.nx with
    | true=>simp [hhas] at h
    | false =>
    simp only [hhas,cond_false,Option.some.injEq] at h
    subst h
    have hp:=gI (hρ _ _ hv) hpl
    obtain ⟨cx',k1,k2,k3⟩:=wh hR hS v.cells (σ x).cells.toList t hp.1 (fun i x v hx hv=>⟨hp.2.2 i x v hx hv,hp.2.1 v (List.mem_of_getElem? hv)⟩)
    refine ⟨cx',_,_,?_,k1,k2,k3⟩
    refine mI ?_
    simp only [Instr.box,Sem.run_bind,Result.andThen_ok,newVar,newRow,run_newObj,Sem.run_pure]
    rfl
   ·
    cases h
  ·
   cases h
 case build t parts =>
  split at h
  ·
   rename_i z ps hz hps
   split at h
   ·
    rename_i pl hpl
    simp only [Option.map_eq_some_iff] at h
    obtain ⟨cs,hcs,rfl⟩:=h
    obtain ⟨u,b1,b2⟩:=xM hρ hz hps hpl hcs
    exact iR.pure hS (mI b1) b2
   ·
    cases h
  ·
   cases h
 case buildSlice t len parts =>
  cases hrw:jF C t len with
  | true =>
  rw [hrw] at h
  simp only [cond_true] at h
  split at h
  ·
   rename_i ps hps
   obtain ⟨v,S',rfl,cx',u,w',b1,b2,b3,b4⟩:=uh hR hS hρ hps h
   exact ⟨cx',w',u,mI b1,b2,b3,b4⟩
  ·
   cases h
  | false =>
  rw [hrw] at h
  simp only [cond_false] at h
  split at h
  ·
   rename_i e ps he hps
   split at h
   ·
    rename_i hsm
    split at h
    ·
     rename_i z hz
     split at h
     ·
      rename_i cs hcs
      split at h
      ·
       rename_i ag hag
       simp only [Option.map_eq_some_iff] at h
       obtain ⟨xs,hxs,rfl⟩:=h
       obtain ⟨u,w',b1,b2,b3,b4⟩:=qh hR hS hρ he hps hsm hz hcs hag hxs
       exact ⟨cx,w',u,mI b1,b2,b3,b4⟩
      ·
       cases h
     ·
      cases h
    ·
     cases h
   ·
    cases h
  ·
   cases h
 case load t a =>
  split at h
  ·
   rename_i v hv
   simp only [Option.map_eq_some_iff] at h
   obtain ⟨r,hr,rfl⟩:=h
   obtain ⟨u,b1,b2⟩:=tu (C:=C) hS hr (hρ _ _ hv)
   exact iR.pure hS (mI b1) b2
  ·
   cases h
 case store t a x =>
  split at h
  ·
   rename_i p v hp hv
   simp only [Option.map_eq_some_iff] at h
   obtain ⟨S',hst,rfl⟩:=h
   obtain ⟨w',b1,b2,b3⟩:=x9 hR hS hst (hρ _ _ hp) (hρ _ _ hv)
   exact ⟨cx,w',FI b1,b2,b3⟩
  ·
   cases h
 case nilCheck x =>
  split at h
  ·
   rename_i i g o' hx
   simp only [Option.some.injEq] at h; subst h
   have:=hρ _ _ hx
   refine iR.pure (u:=σ x) hS ?_ this
   generalize hq:σ x=v at this
   cases this
   simp [execOp,hq]
  ·
   rename_i y o' hx
   simp only [Option.some.injEq] at h; subst h
   have:=hρ _ _ hx
   refine iR.pure (u:=σ x) hS ?_ this
   generalize hq:σ x=v at this
   cases this
   simp [execOp,hq]
  ·
   rename_i g cs hx
   simp only [Option.some.injEq] at h; subst h
   have:=hρ _ _ hx
   refine iR.pure (u:=σ x) hS ?_ this
   generalize hq:σ x=v at this
   cases this
   simp [execOp,hq]
  ·
   cases h
 case binOp op t x y yt =>
  split at h
  ·
   rename_i a b ha hb
   simp only [Option.map_eq_some_iff] at h
   obtain ⟨r,hr,rfl⟩:=h
   obtain ⟨u,b1,b2⟩:=zO hr (hρ _ _ ha) (hρ _ _ hb) x y
   exact iR.pure hS (mI b1) b2
  ·
   cases h
 case unOp op t x =>
  split at h
  ·
   rename_i b hx
   simp only [Option.some.injEq] at h; subst h
   have:=(hρ _ _ hx).bool
   refine iR.pure (u:=.bool (!b)) hS ?_ (.of_bool _)
   simp [execOp,this,Op.unary]
  ·
   rename_i k n hx
   simp only [Option.some.injEq] at h; subst h
   have:=(hρ _ _ hx).int
   refine iR.pure (u:=.int k (k.wrap (0 - n))) hS ?_ (.of_int _ _)
   simp [execOp,this,Op.unary,Op.intArith]
  ·
   cases h
 case convert src dst' x =>
  split at h
  ·
   rename_i v hv
   simp only [Option.map_eq_some_iff] at h
   obtain ⟨r,hr,rfl⟩:=h
   obtain ⟨u,b1,b2⟩:=Ad hr (hρ _ _ hv)
   exact iR.pure hS (mI b1) b2
  ·
   cases h
 case makeFunc fn first caps =>
  split at h
  ·
   rename_i g hf
   simp only [Option.map_eq_some_iff] at h
   obtain ⟨cs,hcs,rfl⟩:=h
   obtain ⟨h1,h2⟩:=nU hρ hcs
   have hf0:first = #[]:=Array.toList_eq_nil_iff.1 hf
   subst hf0
   refine iR.pure (u:=.func (.func g) #[] (caps.map σ)) hS (by simp [execOp,Instr.makeFunc]) ?_
   exact ay.fn (cx:=cx) (S:=S) (w:=w) g cs (caps.map σ).toList h1 h2
  ·
   cases h
 case slice t x lo hi mx =>
  split at h
  ·
   rename_i v hv
   split at h
   ·
    rename_i l hh m hl hhi hm
    simp only [Option.map_eq_some_iff] at h
    obtain ⟨r,hr,rfl⟩:=h
    obtain ⟨u,b1,b2⟩:=y7 hr (hρ _ _ hv) (nP hρ hl) (nP hρ hhi) (nP hρ hm)
    exact iR.pure hS (mI b1) b2
   ·
    cases h
  ·
   cases h
 case fieldAddr s x fld =>
  split at h
  ·
   rename_i id g off fo ft hx hf
   split at h
   ·
    cases h
   ·
    rename_i hz
    simp only [Option.some.injEq] at h; subst h
    obtain ⟨u,b1,b2⟩:=(lW (C:=C) hf hz (hρ _ _ hx)).1 _ _ _ rfl
    exact iR.pure hS (mI b1) b2
  ·
   rename_i y off fo ft hx hf
   split at h
   ·
    cases h
   ·
    rename_i hz
    simp only [Option.some.injEq] at h; subst h
    obtain ⟨u,b1,b2⟩:=(lW (C:=C) hf hz (hρ _ _ hx)).2 _ _ rfl
    exact iR.pure hS (mI b1) b2
  ·
   cases h
 case field t x fld =>
  split at h
  ·
   rename_i cs fo ft hx hf
   simp only [Option.map_eq_some_iff] at h
   obtain ⟨r,hr,rfl⟩:=h
   obtain ⟨u,b1,b2⟩:=(qL (C:=C) (r:=.d r) hf).2 cs r (hρ _ _ hx) hr
   exact iR.pure hS (mI b1) b2
  ·
   rename_i cs fo ft hx hf
   simp only [Option.map_eq_some_iff] at h
   obtain ⟨r,hr,rfl⟩:=h
   obtain ⟨u,b1,b2⟩:=(qL (C:=C) (r:=r) hf).1 cs (hρ _ _ hx) hr
   exact iR.pure hS (mI b1) b2
  ·
   cases h
 case indexAddr t x i =>
  split at h
  ·
   rename_i v n hv hn
   simp only [Option.map_eq_some_iff] at h
   obtain ⟨r,hr,rfl⟩:=h
   obtain ⟨u,b1,b2⟩:=q8 hr (hρ _ _ hv) (hρ _ _ hn)
   exact iR.pure hS (mI b1) b2
  ·
   cases h
 case index t x i =>
  split at h
  ·
   rename_i s k n hx hi
   split at h
   ·
    rename_i hc
    simp only [Bool.and_eq_true,decide_eq_true_eq] at hc
    simp only [Option.map_eq_some_iff] at h
    obtain ⟨c,hcc,rfl⟩:=h
    have hi':=(hρ _ _ hi).int
    have:=xJ (P:=C.P) (k:=k) (hρ _ _ hx) hc.1 hc.2 hcc
    refine iR.pure hS (mI ?_) (.of_int _ _)
    rw [hi']; exact this
   ·
    cases h
  ·
   cases h
 case makeMap t r =>
  split at h
  ·
   rename_i kt hkt hr
   cases hhas:S.H.has S.nx with
   | true=>simp [hhas] at h
   | false =>
   simp only [hhas,cond_false,Option.some.injEq] at h; subst h
   obtain ⟨cx',k1,k2,k3⟩:=wT hR hS
   refine ⟨cx',_,_,mI (u:=.map (some w.heap.size)) (w':=w.alloc (.map #[] 0)) ?_,k1,k2,k3⟩
   have hu:=iE hkt
   cases r with
   | none=>rfl
   | some o' =>
    simp only at hr
    split at hr
    ·
     rename_i k n hq
     have hi:=(hρ _ _ hq).int
     simp only [Option.map_some,Instr.makeMap,Sem.run_bind,aF w hu,Result.andThen_ok,hi,asInt,asIntOf,Sem.run_pure]
     rfl
    ·
     cases hr
  ·
   cases h
 case makeSlice t l c =>
  split at h
  ·
   rename_i lv cv hl hc
   simp only [Option.map_eq_some_iff] at h
   obtain ⟨r,hr,rfl⟩:=h
   obtain ⟨cx',w',u,b1,b2,b3,b4⟩:=zD hR hS hr (hρ _ _ hl).dd (hρ _ _ hc).dd
   exact ⟨cx',w',u,mI b1,b2,b3,b4⟩
  ·
   cases h
 case range t x =>
  split at h
  ·
   rename_i kt id ht hx
   split at h
   ·
    rename_i M hg
    cases hhas:S.H.has S.nx with
    | true=>simp [hhas] at h
    | false =>
    simp only [hhas,cond_false,Option.some.injEq] at h; subst h
    obtain ⟨cx',w',u,b1,b2,b3,b4⟩:=xI hR hS ht hg (hρ _ _ hx)
    exact ⟨cx',w',u,mI b1,b2,b3,b4⟩
   ·
    cases h
  ·
   rename_i kt ht hx
   cases hhas:S.H.has S.nx with
   | true=>simp [hhas] at h
   | false =>
   simp only [hhas,cond_false,Option.some.injEq] at h; subst h
   obtain ⟨cx',w',u,b1,b2,b3,b4⟩:=rf hR hS ht (hρ _ _ hx)
   exact ⟨cx',w',u,mI b1,b2,b3,b4⟩
  ·
   cases h
 case entry t =>
  split at h
  ·
   rename_i k g id since seen st hx
   split at h
   ·
    rename_i M n c hg hl hk
    split at h
    ·
     rename_i hc
     split at h
     ·
      rename_i i hf
      simp only [Option.map_eq_some_iff] at h
      obtain ⟨p,hp,rfl⟩:=h
      obtain ⟨hc1,hc2⟩:=hc
      subst hc2
      obtain ⟨u,b1,b2⟩:=xg (C:=C) hS (hρ _ _ hx) hg hl hk hc1 hf hp
      exact iR.pure hS (mI b1) b2
     ·
      cases h
    ·
     cases h
   ·
    cases h
  ·
   cases h
 case lookup t m k ok =>
  split at h
  ·
   rename_i mv kd hm hk
   simp only [Option.map_eq_some_iff] at h
   obtain ⟨v,hv,rfl⟩:=h
   obtain ⟨u,b1,b2⟩:=wR hS hv (hρ _ _ hm) (hρ _ _ hk).dd
   exact iR.pure hS (mI b1) b2
  ·
   cases h
 case mapUpdate t m k x =>
  split at h
  ·
   rename_i mv kd v hm hk hx
   simp only [Option.map_eq_some_iff] at h
   obtain ⟨S',hv,rfl⟩:=h
   obtain ⟨w',b1,b2,b3⟩:=o5 hR hS hv (hρ _ _ hm) (hρ _ _ hk).dd (hρ _ _ hx)
   exact ⟨cx,w',FI b1,b2,b3⟩
  ·
   cases h
 case insert t m k x =>
  split at h
  ·
   rename_i mv kd v hm hk hx
   simp only [Option.map_eq_some_iff] at h
   obtain ⟨S',hv,rfl⟩:=h
   obtain ⟨w',b1,b2,b3⟩:=o5 hR hS hv (hρ _ _ hm) (hρ _ _ hk).dd (hρ _ _ hx)
   exact ⟨cx,w',FI b1,b2,b3⟩
  ·
   cases h
 case mapEntry t m k =>
  split at h
  ·
   rename_i mv kd hm hk
   simp only [Option.map_eq_some_iff] at h
   obtain ⟨r,hv,rfl⟩:=h
   obtain ⟨w',u,b1,b2,b3,b4⟩:=xS hR hS hv (hρ _ _ hm) (hρ _ _ hk).dd
   exact ⟨cx,w',u,mI b1,b2,b3,b4⟩
  ·
   cases h
 case entryStore t m st x =>
  split at h
  ·
   rename_i mv sd v hm hk hx
   simp only [Option.map_eq_some_iff] at h
   obtain ⟨S',hv,rfl⟩:=h
   obtain ⟨w',b1,b2,b3⟩:=pV hR (C:=C) (t:=t) hS hv (hρ _ _ hm) (hρ _ _ hk).dd (hρ _ _ hx)
   exact ⟨cx,w',FI b1,b2,b3⟩
  ·
   cases h
 case extract t i =>
  split at h
  ·
   rename_i vs ht
   simp only [Option.map_eq_some_iff] at h
   obtain ⟨v,hv,rfl⟩:=h
   have hr:=hρ _ _ ht
   generalize hq:σ t=u at hr
   cases hr with
   | tup _ us hl hr =>
    have hlt:i < us.length:=by rw [hl]; exact (List.getElem?_eq_some_iff.1 hv).1
    have hu:=List.getElem?_eq_getElem hlt
    refine iR.pure hS (mI (u:=us[i]) ?_) (hr i v _ hv hu)
    simp [Instr.extract,hq,hlt]
  ·
   cases h
 case call c =>
  obtain ⟨callee,cargs,argTypes⟩:=c
  simp only at h
  cases callee <;> simp only at h <;> try (cases h; done)
  case value g =>
   split at h
   ·
    rename_i k caps args hg ha
    simp only [Option.some.injEq] at h; subst h
    obtain ⟨h1,h2⟩:=nU hρ ha
    have hgr:=hρ _ _ hg
    generalize hq:σ g=gv at hgr
    cases hgr with
    | fn _ _ cv hl hr =>
     refine ⟨(cargs.map σ).toList ++ cv,by rw [List.length_append,List.length_append,h1,hl],fun i x v hx hv=>?_,fun fn hf hb hn=>?_⟩
     ·
      rw [List.getElem?_append] at hx hv
      by_cases hi:i < args.length
      ·
       rw [if_pos hi] at hx; rw [if_pos (by rw [h1]; exact hi)] at hv; exact h2 i x v hx hv
      ·
       rw [if_neg hi] at hx; rw [if_neg (by rw [h1]; exact hi),h1] at hv; exact hr _ x v hx hv
     ·
      have hb':fn.body.isNone=false:=by cases hq:fn.body <;> simp_all
      have hn':(fn.name == "runtime.NumGoroutine")=false:=by simpa using hn
      simp only [execOp,resolve,hq,Deferred.ofValue,Sem.run_bind,Sem.run_pure,Result.andThen_ok,invoke,callFunc,run_program,hf,hn',hb',Bool.false_eq_true,if_false]
      congr 2
      apply Array.ext'
      simp
   ·
    cases h
  case builtin b =>
   split at h
   ·
    rename_i args ha
    obtain ⟨h1,h2⟩:=nU hρ ha
    obtain ⟨v,S',cx',w',u,rfl,b1,b2,b3,b4⟩:=uT (R:=R) (C:=C) (ty:=type) (cs:=cargs.map fun | .const _=>true | _=>false) hR hS h h1 h2
    refine ⟨cx',w',u,?_,b2,b3,b4⟩
    simp only [execOp,resolve,Sem.run_bind,Sem.run_pure,Result.andThen_ok,invoke]
    have hq:(cargs.map σ).toList.toArray=cargs.map σ:=rfl
    rw [hq] at b1
    exact b1
   ·
    cases h
end
end
end Go.Ev

namespace Go.Ev
noncomputable section
set_option linter.unusedVariables false
set_option linter.unusedSimpArgs false
structure cK (cx:Cx) (S:St) (w:World) (nt:Nat) (e:Env) (a:Act):Prop where
 size:nt ≤ a.tmps.size
 rel:∀ t x,AL.get e t=some x→∃ v,a.tmps[t]? = some v∧ay cx S w x v
theorem cK.mono {cx cx':Cx} {S S':St} {w w':World} {nt:Nat} {e:Env} {a:Act} (h:cK cx S w nt e a) (x:Ext cx S w cx' S' w'):cK cx' S' w' nt e a :=
 ⟨h.size,fun t y hy=>let ⟨v,h1,h2⟩:=h.rel t y hy; ⟨v,h1,h2.mono x⟩⟩
theorem cK.put {cx:Cx} {S:St} {w:World} {nt:Nat} {e e':Env} {a:Act} {dst:Option Nat} {x:AV} {v:Value} (h:cK cx S w nt e a) (hp:Env.put nt e dst x=some e') (hx:ay cx S w x v):cK cx S w nt e' (a.put dst v):=by
 unfold Env.put at hp
 split at hp
 ·
  rename_i t
  cases hb:Nat.blt t nt with
  | false=>rw [hb] at hp; cases hp
  | true =>
   rw [hb] at hp
   simp at hp; subst hp
   have hlt:t < nt:=Nat.le_of_ble_eq_true hb
   refine ⟨by simp [Act.put,h.size],fun u y hy=>?_⟩
   rw [AL.bJ] at hy
   by_cases hu:t=u
   ·
    subst hu
    rw [if_pos rfl] at hy
    cases hy
    refine ⟨v,?_,hx⟩
    have:=h.size
    simp [Act.put,show t < a.tmps.size by omega]
   ·
    rw [if_neg hu] at hy
    obtain ⟨z,h1,h2⟩:=h.rel u y hy
    exact ⟨z,by simpa [Act.put,Array.getElem?_setIfInBounds_ne hu] using h1,h2⟩
 ·
  simp at hp; subst hp; exact h
theorem cK.eval {cx:Cx} {S:St} {w:World} {nt:Nat} {e:Env} {a:Act} (h:cK cx S w nt e a):qC cx S w (bA e) a.eval:=by
 intro x y hy
 cases x <;> simp only [bA] at hy
 case tmp t =>
  obtain ⟨v,h1,h2⟩:=h.rel t y hy
  simpa [Act.eval,h1] using h2
 case const v =>
  simp only [Option.map_eq_some_iff] at hy
  obtain ⟨z,hz,rfl⟩:=hy
  exact .d _ _ (kF hz w cx.fr)
 case global g=>cases hy
 case func f =>
  simp at hy; subst hy
  exact ay.fn (cx:=cx) (S:=S) (w:=w) f [] [] rfl (by simp)
theorem bP {cx:Cx} {S:St} {w:World} {nt:Nat} {e:Env} {a:Act} {ops:Array Oper} {o:Oper} {b:Bool} (h:cK cx S w nt e a) (hw:bg ops e o=some b):Region.wanted o (yielded ops a.tmps)=b:=by
 unfold bg at hw
 unfold Region.wanted
 split at hw
 ·
  rename_i hg; simp at hw; subst hw; simp [hg]
 ·
  rename_i j want hg
  split at hw
  ·
   rename_i oj hj
   split at hw
   ·
    rename_i t ht
    split at hw
    ·
     rename_i c hc
     simp at hw; subst hw
     obtain ⟨v,h1,h2⟩:=h.rel t _ hc
     have:=h2.bool; subst this
     simp only [hg,yielded,hj,Option.bind_some,ht,h1]
     cases c <;> cases want <;> rfl
    ·
     rename_i hc
     simp at hw; subst hw
     obtain ⟨v,h1,h2⟩:=h.rel t _ hc
     cases h2 with
     | tup _ vs hl _ =>
      have:vs=[]:=List.eq_nil_of_length_eq_zero hl
      subst this
      simp only [hg,yielded,hj,Option.bind_some,ht,h1]
      cases want <;> rfl
    ·
     cases hw
   ·
    cases hw
  ·
   cases hw
def o7 (cx:Cx) (S:St) (w:World) (p:Option AV) (v:AV) (e:Ending):Prop :=
 match p with
 | none=>∃ u,e=.returned u∧ay cx S w v u
 | some pv=>∃ u,e=.panicked [{ v:=u,recovered:=false }]∧ay cx S w pv u
def wz (R:aR) (P:Program) (h:Hand):Prop :=
 ∀ f args S p v S',h f args S=some (p,v,S')→(∃ fn,P.funcs[f]? = some fn∧fn.body.isSome=true∧fn.name ≠ "runtime.NumGoroutine") ∧
  ∀ cx w (us:List Value),aD R cx S w→us.length=args.length→(∀ (i:Nat) (x:AV) (u:Value),args[i]? = some x→us[i]? = some u→ay cx S w x u) →
  Calls P f us.toArray w (fun e w'=>∃ cx',aD R cx' S' w'∧Ext cx S w cx' S' w' ∧
   o7 cx' S' w' p v e)
def After (R:aR) (cx:Cx) (S:St) (w:World) (nt:Nat) (a:Act) (K:Act→World→Prop) (Q:Exit→Act→World→Prop):Stp→Prop
 | .go e' S'=>∀ cx' a' w',aD R cx' S' w'→Ext cx S w cx' S' w'→cK cx' S' w' nt e' a'→a'.defers=a.defers→K a' w'
 | .stop v S'=>∀ cx' w' u,aD R cx' S' w'→Ext cx S w cx' S' w'→ay cx' S' w' v u→Q (.panic [{ v:=u,recovered:=false }]) a w'
theorem put_defers (a:Act) (d:Option Nat) (v:Value):(a.put d v).defers=a.defers:=by cases d <;> rfl
theorem tL {R:aR} {C:bQ} (hR:fe R C) {h:Hand} (hh:wz R C.P h) {cx:Cx} {S:St} {w:World} {nt:Nat} {e:Env} {a:Act} {ops:Array Oper} {o:Oper} {r:Stp}
  (hs:di C h nt ops o e S=some r) (hS:aD R cx S w) (he:cK cx S w nt e a) {K:Act→World→Prop} {Q:Exit→Act→World→Prop} (hk:After R cx S w nt a K Q r) {i:Nat} (hi:ops[i]? = some o) :
  wpOp C.P ops Q i K a w:=by
 unfold wpOp
 rw [hi]
 simp only
 unfold di at hs
 have hrefl:=Ext.refl (cx:=cx) w hS.wf
 split at hs
 ·
  rename_i hw
  rw [if_pos (bP he hw)]
  left
  split at hs
  ·
   rename_i v S' hop
   obtain ⟨cx',w',u,h1,h2,h3,h4⟩:=cu hR hS he.eval o hop
   split at hs
   ·
    rename_i e' hp
    simp only [Option.some.injEq] at hs; subst hs
    unfold Oper.wp
    rw [h1]
    exact hk cx' _ w' h2 h3 ((he.mono h3).put hp h4) (put_defers _ _ _)
   ·
    cases hs
  ·
   rename_i S' hop
   obtain ⟨cx',w',h1,h2,h3⟩:=cu hR hS he.eval o hop
   split at hs
   ·
    rename_i hd
    simp only [Option.some.injEq] at hs; subst hs
    unfold Oper.wp
    rw [h1]
    show K (a.put o.dst undef) w'
    rw [hd]
    exact hk cx' _ w' h2 h3 (he.mono h3) rfl
   ·
    cases hs
  ·
   rename_i f args hop
   obtain ⟨us,h1,h2,h3⟩:=cu hR hS he.eval o hop
   split at hs
   ·
    rename_i v S' hc
    obtain ⟨⟨fn,f1,f2,f3⟩,hcalls⟩:=hh f args S _ v S' hc
    split at hs
    ·
     rename_i e' hp
     simp only [Option.some.injEq] at hs; subst hs
     unfold Oper.wp
     rw [h3 fn f1 f2 f3]
     refine (hcalls cx w us hS h1 h2).mono (fun en w' hen=>?_)
     obtain ⟨cx',k1,k2,u,rfl,k3⟩:=hen
     exact hk cx' _ w' k1 k2 ((he.mono k2).put hp k3) (put_defers _ _ _)
    ·
     cases hs
   ·
    rename_i p v S' hc
    obtain ⟨⟨fn,f1,f2,f3⟩,hcalls⟩:=hh f args S _ v S' hc
    simp only [Option.some.injEq] at hs; subst hs
    unfold Oper.wp
    rw [h3 fn f1 f2 f3]
    refine (hcalls cx w us hS h1 h2).mono (fun en w' hen=>?_)
    obtain ⟨cx',k1,k2,u,rfl,k3⟩:=hen
    exact hk cx' w' u k1 k2 k3
   ·
    cases hs
  ·
   cases hs
  ·
   cases hs
 ·
  rename_i hw
  rw [if_neg (by rw [bP he hw]; simp)]
  split at hs
  ·
   rename_i hd
   simp only [Option.some.injEq] at hs; subst hs
   rw [hd]
   exact hk cx _ w hS hrefl he rfl
  ·
   rename_i t hd
   split at hs
   ·
    rename_i e1 hput
    simp only [Option.some.injEq] at hs; subst hs
    rw [hd]
    exact hk cx _ w hS hrefl (he.put hput (.tup [] [] rfl (fun i x v hx=>by simp at hx))) (put_defers _ _ _)
   ·
    cases hs
 ·
  cases hs
end
end Go.Ev

namespace Go.Ev
noncomputable section
set_option linter.unusedVariables false
set_option linter.unusedSimpArgs false
def isVal (S:St) (S':St) (a b:Option nQ):Prop:=∀ nx,a=some nx→∃ v,nx=.val v S∧b=some (.val v S')
theorem AL.iD {α:Type}:∀ {l:AL α} {n:Nat},AL.has l n=false→AL.get l n=none
 | [],_,_=>rfl
 | (k,v) :: l,n,h=>by
  simp only [AL.has] at h
  cases hb:Nat.beq k n with
  | true=>rw [hb] at h; cases h
  | false =>
   rw [hb] at h
   rw [AL.Al,hb,cond_false]
   exact AL.iD h
theorem zV {C:bQ} {t len:Nat} {ps:Array (Nat × Operand)} (h0:¬ cls C (.buildSlice t len ps)=0) (hc:cls C (.buildSlice t len ps) ≤ 1):False:=by
 unfold cls at h0 hc
 cases h:jF C t len <;> simp [h] at h0 hc
theorem pE {C:bQ} {t len:Nat} {S:St} {ps:List (Nat × AV)} {nx:nQ} (h:iG C t S len ps=some nx):S.H.get S.nx=none∧∃ v b,nx=.val v (aS S b):=by
 unfold iG at h
 split at h
 ·
  split at h
  ·
   split at h
   ·
    cases hh:S.H.has S.nx with
    | true=>simp [hh] at h
    | false =>
     simp only [hh,cond_false,Option.map_eq_some_iff] at h
     obtain ⟨z,_,rfl⟩:=h
     exact ⟨AL.iD hh,_,_,rfl⟩
   ·
    cases h
  ·
   cases h
 ·
  cases h
theorem zG {C:bQ} {ρ:Operand→Option AV} {op:Op} (hc:cls C op=0) (S S':St):isVal S S' (oper C ρ S op) (oper C ρ S' op):=by
 intro nx h
 cases op
 case buildSlice t len ps =>
  have hr:jF C t len=false:=by unfold cls at hc; cases hq:jF C t len <;> simp [hq] at hc ⊢
  simp only [oper,hr,cond_false] at h ⊢
  (repeat' split at h) <;> first
   | (cases h; done)
   | (simp only [Option.map_eq_some_iff] at h; obtain ⟨a,ha,rfl⟩:=h; exact ⟨_,rfl,by simp_all⟩)
 all_goals simp only [cls] at hc
 all_goals try (cases hc; done)
 case call c =>
  obtain ⟨callee,args,ats⟩:=c
  cases callee <;> try (exact absurd (show (2:Nat)=0 from hc) (by omega))
  rename_i b
  cases b <;> try (first | exact absurd (show (2:Nat)=0 from hc) (by omega) | exact absurd (show (1:Nat)=0 from hc) (by omega))
  all_goals
   simp only [oper] at h ⊢
   split at h
   ·
    simp only [dZ,Option.map_eq_some_iff] at h ⊢
    obtain ⟨a,ha,rfl⟩:=h
    exact ⟨_,rfl,by simp_all⟩
   ·
    cases h
 all_goals
  simp only [oper] at h ⊢
  (repeat' split at h) <;> first
   | (cases h; done)
   | (simp only [Option.some.injEq] at h; subst h; exact ⟨_,rfl,by simp_all⟩)
   | (simp only [Option.map_eq_some_iff] at h; obtain ⟨a,ha,rfl⟩:=h; exact ⟨_,rfl,by simp_all⟩)
theorem wS {C:bQ} {ρ:Operand→Option AV} {op:Op} (hc:cls C op ≤ 1) (S:St) {nx:nQ} (h:oper C ρ S op=some nx):∃ v,nx=.val v S:=by
 by_cases h0:cls C op=0
 ·
  obtain ⟨v,h1,_⟩:=zG h0 S S nx h; exact ⟨v,h1⟩
 ·
  cases op <;> try (first | exact absurd rfl h0 | exact absurd (show (2:Nat) ≤ 1 from hc) (by omega) | exact (zV h0 hc).elim)
  case load t a =>
   simp only [oper] at h
   split at h
   ·
    simp only [Option.map_eq_some_iff] at h
    obtain ⟨r,hr,rfl⟩:=h
    exact ⟨r,rfl⟩
   ·
    cases h
  case lookup t m k ok =>
   simp only [oper] at h
   split at h
   ·
    simp only [Option.map_eq_some_iff] at h
    obtain ⟨r,hr,rfl⟩:=h
    exact ⟨r,rfl⟩
   ·
    cases h
  case call c =>
   obtain ⟨callee,args,ats⟩:=c
   cases callee <;> try (exact absurd (show (2:Nat) ≤ 1 from hc) (by omega))
   rename_i b
   cases b <;> try (first | exact absurd rfl h0 | exact absurd (show (2:Nat) ≤ 1 from hc) (by omega))
   simp only [oper] at h
   split at h
   ·
    simp only [dZ] at h
    (repeat' split at h) <;> first
     | (cases h; done)
     | (simp only [Option.map_eq_some_iff] at h; obtain ⟨a,ha,rfl⟩:=h; exact ⟨_,rfl⟩)
     | contradiction
   ·
    cases h
theorem iA {α β:Type} {f g:α→Option β}:∀ {l:List α},(∀ x ∈ l,f x=g x)→dQ f l=dQ g l
 | [],_=>rfl
 | x :: l,h=>by
  simp only [dQ]
  rw [h x (by simp),iA (fun y hy=>h y (by simp [hy]))]
theorem oh {C:bQ} {ρ ρ':Operand→Option AV} (S:St) (op:Op) (h:∀ x ∈ op.operands,ρ x=ρ' x):oper C ρ S op=oper C ρ' S op:=by
 cases op <;> simp only [Op.operands] at h <;> simp only [oper]
 case build t ps =>
  have:jg ρ ps=jg ρ' ps:=iA fun p hp=>by rw [h p.2 (by simp; exact ⟨p.1,by simpa using hp⟩)]
  rw [this]
 case buildSlice t n ps =>
  have:jg ρ ps=jg ρ' ps:=iA fun p hp=>by rw [h p.2 (by simp; exact ⟨p.1,by simpa using hp⟩)]
  rw [this]
 case makeFunc fn first caps =>
  have:dQ ρ caps.toList=dQ ρ' caps.toList:=iA fun p hp=>h p (by simp; exact .inr (by simpa using hp))
  rw [this]
 case call c =>
  have ha:dQ ρ c.args.toList=dQ ρ' c.args.toList:=iA fun p hp=>h p (by simp only [Call.operands]; exact Array.mem_append.2 (.inr (by simpa using hp)))
  rw [ha]
  cases hc:c.callee with
  | value f=>have:ρ f=ρ' f:=h f (by simp [Call.operands,hc]); simp only [this]
  | invoke r m=>rfl
  | builtin b=>rfl
 case makeMap t r =>
  cases r with
  | none=>rfl
  | some o=>have he:ρ o=ρ' o:=h o (by simp); simp only [he]
 case slice t x lo hi mx =>
  have hx:ρ x=ρ' x:=h x (by simp)
  have hl:nL ρ lo=nL ρ' lo:=by cases lo <;> simp only [nL]; rw [h _ (by simp)]
  have hh:nL ρ hi=nL ρ' hi:=by cases hi <;> simp only [nL]; rw [h _ (by simp)]
  have hm:nL ρ mx=nL ρ' mx:=by cases mx <;> simp only [nL]; rw [h _ (by simp)]
  rw [hx,hl,hh,hm]
 case pick c a b =>
  rw [h c (by simp)]
  cases ρ' c with
  | none=>rfl
  | some v =>
   cases v <;> try rfl
   rename_i x
   cases x <;> try rfl
   rename_i t
   cases t
   ·
    simp only [Bool.false_eq_true,if_false]; rw [h b (by simp)]
   ·
    simp only [if_true]; rw [h a (by simp)]
 all_goals (first | rfl | (simp only [h _ (by simp:_ ∈ _)]; done) | (simp_all; done))
def EU (e e':Env):Prop:=∀ t,AL.get e t=AL.get e' t
def oz (e:Env) (dst:Option Nat) (x:Option AV) (e':Env):Prop:=∀ t,AL.get e' t=if dst=some t then x else AL.get e t
theorem oz.put {nt:Nat} {e e':Env} {dst:Option Nat} {v:AV} (h:Env.put nt e dst v=some e'):oz e dst (some v) e':=by
 unfold Env.put at h
 split at h
 ·
  rename_i t
  cases hb:Nat.blt t nt with
  | false=>rw [hb] at h; cases h
  | true =>
   rw [hb] at h; simp at h; subst h
   intro u; rw [AL.bJ]
   by_cases hu:t=u <;> simp [hu]
 ·
  simp at h; subst h; intro u; simp
theorem mQ {nt:Nat} {e e':Env} {dst:Option Nat} {v:AV} (h:Env.put nt e dst v=some e') (e2:Env):∃ e2',Env.put nt e2 dst v=some e2':=by
 unfold Env.put at h ⊢
 split at h
 ·
  rename_i t
  cases hb:Nat.blt t nt with
  | false=>rw [hb] at h; cases h
  | true=>exact ⟨_,rfl⟩
 ·
  exact ⟨_,rfl⟩
theorem oz.none (e:Env) (x:Option AV):oz e none x e:=by intro u; simp
theorem jV {e e2:Env} {ops:Array Oper} {o:Oper} (h:∀ t ∈ o.looksAt ops,AL.get e2 t=AL.get e t):∀ x ∈ o.op.operands,bA e x=bA e2 x:=by
 intro x hx
 cases x <;> try rfl
 rename_i t
 simp only [bA]
 exact (h t (List.mem_append_left _ (List.mem_filterMap.2 ⟨.tmp t,by simpa using hx,rfl⟩))).symm
theorem jw {e e2:Env} {ops:Array Oper} {o:Oper} (h:∀ t ∈ o.looksAt ops,AL.get e2 t=AL.get e t):bg ops e2 o=bg ops e o:=by
 unfold bg
 cases hg:o.guard with
 | none=>rfl
 | some p =>
  obtain ⟨j,want⟩:=p
  simp only
  cases hj:ops[j]? with
  | none=>rfl
  | some oj =>
   simp only
   cases ht:oj.dst with
   | none=>rfl
   | some t =>
    simp only
    rw [h t (by unfold Oper.looksAt; rw [hg]; simp [hj,ht])]
theorem fP {C:bQ} {h:Hand} {nt:Nat} {ops:Array Oper} {o:Oper} {e e' e2:Env} {S S':St} (hs:di C h nt ops o e S=some (.go e' S')) (ha:∀ t ∈ o.looksAt ops,AL.get e2 t=AL.get e t) :
  ∃ x e2',di C h nt ops o e2 S=some (.go e2' S')∧oz e o.dst x e'∧oz e2 o.dst x e2':=by
 have hop:oper C (bA e2) S o.op=oper C (bA e) S o.op:=oh S o.op (fun x hx=>(jV ha x hx).symm)
 unfold di at hs ⊢
 rw [jw ha,hop]
 split at hs
 ·
  split at hs
  ·
   rename_i v S1 ho
   split at hs
   ·
    rename_i e1 hp
    simp only [Option.some.injEq,Stp.go.injEq] at hs
    obtain ⟨rfl,rfl⟩:=hs
    obtain ⟨e2',h2⟩:=mQ hp e2
    exact ⟨some v,e2',by simp [h2],oz.put hp,oz.put h2⟩
   ·
    cases hs
  ·
   rename_i S1 ho
   split at hs
   ·
    rename_i hd
    simp only [Option.some.injEq,Stp.go.injEq] at hs
    obtain ⟨rfl,rfl⟩:=hs
    refine ⟨.none,e2,by simp,?_,?_⟩ <;> (rw [hd]; exact oz.none _ _)
   ·
    cases hs
  ·
   rename_i f args ho
   split at hs
   ·
    rename_i v S1 hc
    split at hs
    ·
     rename_i e1 hp
     simp only [Option.some.injEq,Stp.go.injEq] at hs
     obtain ⟨rfl,rfl⟩:=hs
     obtain ⟨e2',h2⟩:=mQ hp e2
     exact ⟨some v,e2',by simp [h2],oz.put hp,oz.put h2⟩
    ·
     cases hs
   ·
    cases hs
   ·
    cases hs
  ·
   cases hs
  ·
   cases hs
 ·
  split at hs
  ·
   rename_i hd
   simp only [Option.some.injEq,Stp.go.injEq] at hs
   obtain ⟨rfl,rfl⟩:=hs
   refine ⟨.none,e2,by simp,?_,?_⟩ <;> (rw [hd]; exact oz.none _ _)
  ·
   rename_i t hd
   split at hs
   ·
    rename_i e1 hput
    simp only [Option.some.injEq,Stp.go.injEq] at hs
    obtain ⟨rfl,rfl⟩:=hs
    obtain ⟨e2',h2⟩:=mQ hput e2
    refine ⟨some (.tup []),e2',by simp [h2],?_,?_⟩
    ·
     rw [hd]; exact oz.put hput
    ·
     rw [hd]; exact oz.put h2
   ·
    cases hs
 ·
  cases hs
def sO (h:Hand):Prop:=∀ f args S v S',h f args S=some (none,v,S')→(fO args).isSome=true→(lG v).isSome=true→∀ S2,h f args S2=some (none,v,S2)
def Z0 (C:bQ) (h:Hand) (nt:Nat) (ops:Array Oper) (o:Oper) (e:Env):Prop :=
 ∃ x:Option AV,∀ e2:Env,(∀ t ∈ o.looksAt ops,AL.get e2 t=AL.get e t)→∀ S2,∃ e2',di C h nt ops o e2 S2=some (.go e2' S2)∧oz e2 o.dst x e2'
theorem Z0.agree {C:bQ} {h:Hand} {nt:Nat} {ops:Array Oper} {o:Oper} {e f:Env} (z:Z0 C h nt ops o e) (ha:∀ t ∈ o.looksAt ops,AL.get f t=AL.get e t):Z0 C h nt ops o f:=by
 obtain ⟨x,hx⟩:=z
 exact ⟨x,fun e2 h2=>hx e2 (fun t ht=>(h2 t ht).trans (ha t ht))⟩
theorem xX {C:bQ} {b:Builtin} {A:Array Nat} {S:St} {args:List AV} {nx:nQ} (h:dZ C b A S args=some nx):∃ v S',nx=.val v S':=by
 have hm:∀ {α:Type} {o:Option α} {g:α→AV} {k:α→St},o.map (fun r=>nQ.val (g r) (k r))=some nx→∃ v S',nx=.val v S':=by
  intro α o g k hq
  simp only [Option.map_eq_some_iff] at hq
  obtain ⟨r,_,rfl⟩:=hq
  exact ⟨_,_,rfl⟩
 unfold dZ at h
 split at h
 ·
  split at h
  ·
   split at h
   ·
    exact hm h
   ·
    cases h
  ·
   cases h
 ·
  split at h
  ·
   rename_i t ht
   cases ht2:A[1]? with
   | none=>simp [ht2] at h
   | some t2 =>
    simp only [ht2] at h
    by_cases hsrc:eu C t2=true
    ·
     rw [if_pos hsrc] at h
     split at h
     ·
      split at h
      ·
       exact hm h
      ·
       cases hr:C.rowT t with
       | true =>
        simp only [hr,cond_true] at h
        split at h
        ·
         exact hm h
        ·
         exact hm h
        ·
         cases h
       | false =>
        simp only [hr,cond_false] at h
        split at h
        ·
         exact hm h
        ·
         split at h
         ·
          exact hm h
         ·
          cases h
     ·
      cases h
    ·
     rw [if_neg hsrc] at h; cases h
  ·
   cases h
 ·
  split at h
  ·
   split at h
   ·
    unfold xw at h
    (repeat' split at h) <;> first
     | (cases h; done)
     | (simp only [Option.some.injEq] at h; subst h; exact ⟨_,_,rfl⟩)
   ·
    cases h
  ·
   cases h
 ·
  split at h
  ·
   split at h
   ·
    unfold rF at h
    (repeat' split at h) <;> first
     | (cases h; done)
     | (simp only [Option.some.injEq] at h; subst h; exact ⟨_,_,rfl⟩)
   ·
    cases h
  ·
   cases h
 ·
  split at h
  ·
   simp only [Option.map_eq_some_iff] at h
   obtain ⟨r,_,rfl⟩:=h
   exact ⟨_,_,rfl⟩
  ·
   cases h
 ·
  exact hm h
 ·
  exact hm h
 ·
  cases h
theorem Bj {C:bQ} {ρ:Operand→Option AV} {op:Op} {S:St} {f:Nat} {args:List AV} (h:oper C ρ S op=some (.call f args)) (hc:¬ cls C op ≤ 1) (S2:St):oper C ρ S2 op=some (.call f args):=by
 cases op <;> try (first | exact absurd (show (0:Nat) ≤ 1 from Nat.zero_le 1) hc | exact absurd (show (1:Nat) ≤ 1 from Nat.le_refl 1) hc)
 case call c =>
  obtain ⟨callee,as_,ats⟩:=c
  cases callee with
  | value g=>simpa only [oper] using h
  | invoke r m=>simp only [oper] at h; cases h
  | builtin b =>
   exfalso
   simp only [oper] at h
   split at h
   ·
    rename_i args hargs
    obtain ⟨v,S',hq⟩:=xX h
    cases hq
   ·
    cases h
 case buildSlice t len ps =>
  exfalso
  have hr:jF C t len=true:=by unfold cls at hc; cases hq:jF C t len <;> simp [hq] at hc ⊢
  simp only [oper,hr,cond_true] at h
  split at h
  ·
   obtain ⟨_,v,cs,hq⟩:=pE h; cases hq
  ·
   cases h
 all_goals
  exfalso
  simp only [oper] at h
  (repeat' split at h) <;> first
   | (cases h; done)
   | (simp only [Option.map_eq_some_iff] at h; obtain ⟨a,ha,h⟩:=h; cases h; done)
   | (simp only [Option.some.injEq] at h; cases h; done)
   | (cases hh:S.H.has S.nx <;> simp [hh] at h; done)
theorem Eu {C:bQ} {h:Hand} (hp:sO h) {nt:Nat} {ops:Array Oper} {o:Oper} {e e':Env} {S S':St} (hs:di C h nt ops o e S=some (.go e' S')) (hk:C8 C ops o e e' S=0):Z0 C h nt ops o e:=by
 have skip:bg ops e o=some false→Z0 C h nt ops o e:=fun hw=>by
  refine ⟨some (.tup []),fun e2 ha S2=>?_⟩
  unfold di at hs ⊢
  rw [jw ha,hw]
  rw [hw] at hs
  cases hd:o.dst with
  | none=>exact ⟨e2,by simp,oz.none _ _⟩
  | some t =>
   simp only [hd] at hs ⊢
   split at hs
   ·
    rename_i e1 hput
    obtain ⟨e2',h2⟩:=mQ hput e2
    exact ⟨e2',by simp [h2],oz.put h2⟩
   ·
    cases hs
 have vals:∀ {v:AV},bg ops e o=some true→(∀ S2,oper C (bA e) S2 o.op=some (.val v S2))→Env.put nt e o.dst v=some e'→Z0 C h nt ops o e:=fun {v} hw hv hput=>by
  refine ⟨some v,fun e2 ha S2=>?_⟩
  have hop:oper C (bA e2) S2 o.op=oper C (bA e) S2 o.op:=oh S2 o.op (fun x hx=>(jV ha x hx).symm)
  obtain ⟨e2',h2⟩:=mQ hput e2
  refine ⟨e2',?_,oz.put h2⟩
  unfold di
  rw [jw ha,hw,hop,hv S2]
  simp [h2]
 unfold di at hs
 split at hs
 ·
  rename_i hw
  by_cases hc:cls C o.op ≤ 1
  ·
   have h0:cls C o.op=0:=by simpa [C8,hc] using hk
   split at hs
   ·
    rename_i v S1 ho
    split at hs
    ·
     rename_i e1 hput
     simp only [Option.some.injEq,Stp.go.injEq] at hs
     obtain ⟨rfl,rfl⟩:=hs
     obtain ⟨v',h1,_⟩:=zG h0 S S _ ho
     simp only [nQ.val.injEq] at h1
     obtain ⟨rfl,rfl⟩:=h1
     exact vals hw (fun S2=>by
      obtain ⟨v2,h2,h3⟩:=zG h0 S1 S2 _ ho
      simp only [nQ.val.injEq,and_true] at h2
      subst h2; exact h3) hput
    ·
     cases hs
   ·
    rename_i S1 ho; obtain ⟨v',h1,_⟩:=zG h0 S S _ ho; cases h1
   ·
    rename_i f args ho; obtain ⟨v',h1,_⟩:=zG h0 S S _ ho; cases h1
   ·
    cases hs
   ·
    cases hs
  ·
   unfold C8 at hk
   rw [if_neg hc] at hk
   split at hk
   ·
    cases hk
   ·
    unfold xP at hk
    rw [hw] at hk
    split at hs
    ·
     rename_i v S1 ho; simp only [ho] at hk; cases hk
    ·
     rename_i S1 ho; simp only [ho] at hk; cases hk
    ·
     rename_i f args ho
     simp only [ho] at hk
     cases hcond:wJ o e' args with
     | false=>rw [hcond] at hk; cases hk
     | true =>
      unfold wJ at hcond
      simp only [Bool.and_eq_true] at hcond
      obtain ⟨hargs,hres⟩:=hcond
      split at hs
      ·
       rename_i v S1 hcall
       split at hs
       ·
        rename_i e1 hput
        simp only [Option.some.injEq,Stp.go.injEq] at hs
        obtain ⟨rfl,rfl⟩:=hs
        have hv:(lG v).isSome=true:=by
         cases hd:o.dst with
         | none=>rw [hd] at hres; cases hres
         | some t =>
          have:=oz.put hput t
          rw [hd] at this hres
          simp only [if_true] at this
          simp only [this] at hres
          exact hres
        refine ⟨some v,fun e2 ha S2=>?_⟩
        have hop:oper C (bA e2) S2 o.op=oper C (bA e) S2 o.op:=oh S2 o.op (fun x hx=>(jV ha x hx).symm)
        obtain ⟨e2',h2⟩:=mQ hput e2
        refine ⟨e2',?_,oz.put h2⟩
        unfold di
        rw [jw ha,hw,hop,Bj ho hc S2]
        simp only [hp f args S v S1 hcall hargs hv S2,h2]
       ·
        cases hs
      ·
       cases hs
      ·
       cases hs
    ·
     cases hs
    ·
     cases hs
 ·
  rename_i hw; exact skip hw
 ·
  cases hs
theorem step1 {C:bQ} {h:Hand} {nt:Nat} {ops:Array Oper} {o:Oper} {e e':Env} {S S':St} (hc:cls C o.op ≤ 1) (hs:di C h nt ops o e S=some (.go e' S')):S'=S:=by
 unfold di at hs
 split at hs
 ·
  split at hs
  ·
   rename_i v S1 ho
   obtain ⟨v',h1⟩:=wS hc S ho
   simp only [nQ.val.injEq] at h1
   obtain ⟨rfl,rfl⟩:=h1
   split at hs
   ·
    simp only [Option.some.injEq,Stp.go.injEq] at hs; exact hs.2.symm
   ·
    cases hs
  ·
   rename_i S1 ho; obtain ⟨v',h1⟩:=wS hc S ho; cases h1
  ·
   rename_i f args ho; obtain ⟨v',h1⟩:=wS hc S ho; cases h1
  ·
   cases hs
  ·
   cases hs
 ·
  (repeat' split at hs) <;> first | (simp only [Option.some.injEq,Stp.go.injEq] at hs; exact hs.2.symm) | cases hs
 ·
  cases hs
theorem sJ (C:bQ) (ops:Array Oper) (o:Oper) (e e':Env) (S:St):xP C ops o e e' S=0∨xP C ops o e e' S=2:=by
 unfold xP
 split
 ·
  exact .inl rfl
 ·
  split
  ·
   rename_i args _
   cases wJ o e' args
   ·
    exact .inr rfl
   ·
    exact .inl rfl
  ·
   exact .inr rfl
theorem DK {C:bQ} {ops:Array Oper} {o:Oper} {e e':Env} {S:St} (h:C8 C ops o e e' S=1):cls C o.op ≤ 1:=by
 unfold C8 at h
 split at h
 ·
  assumption
 ·
  split at h
  ·
   omega
  ·
   rcases sJ C ops o e e' S with q | q <;> omega
theorem Dv {C:bQ} {ops:Array Oper} {o:Oper} {e e':Env} {S:St} (h:C8 C ops o e e' S=3):AY C o.op=true:=by
 unfold C8 at h
 split at h
 ·
  omega
 ·
  split at h
  ·
   assumption
  ·
   rcases sJ C ops o e e' S with q | q <;> omega
theorem Cj {C:bQ} {h:Hand} {nt:Nat} {ops:Array Oper} {o:Oper} {e e':Env} {S S':St} (hn:AY C o.op=true) (hs:di C h nt ops o e S=some (.go e' S')) :
  S'=S∨(S.H.get S.nx=none∧∃ b,S'=aS S b):=by
 unfold di at hs
 split at hs
 ·
  right
  have key:∀ {nx:nQ},oper C (bA e) S o.op=some nx→S.H.get S.nx=none∧∃ v b,nx=.val v (aS S b):=by
   intro nx ho
   obtain ⟨dst,op,ty,pos,after,guard⟩:=o
   simp only at hn ho
   cases op <;> try (cases hn; done)
   case buildSlice t len ps _ =>
    have hr:jF C t len=true:=hn
    simp only [oper,hr,cond_true] at ho
    split at ho
    ·
     exact pE ho
    ·
     cases ho
   case range t x =>
    simp only [oper] at ho
    cases hh:S.H.has S.nx with
    | true =>
     split at ho
     ·
      split at ho
      ·
       simp [hh] at ho
      ·
       cases ho
     ·
      simp [hh] at ho
     ·
      cases ho
    | false =>
     split at ho
     ·
      split at ho
      ·
       simp only [hh,cond_false,Option.some.injEq] at ho
       subst ho
       exact ⟨AL.iD hh,_,_,rfl⟩
      ·
       cases ho
     ·
      simp only [hh,cond_false,Option.some.injEq] at ho
      subst ho
      exact ⟨AL.iD hh,_,_,rfl⟩
     ·
      cases ho
   ·
    rename_i t
    simp only [oper] at ho
    cases hh:S.H.has S.nx with
    | true=>simp [hh] at ho
    | false =>
     simp only [hh,cond_false] at ho
     split at ho
     ·
      simp only [Option.some.injEq] at ho
      subst ho
      exact ⟨AL.iD hh,_,_,rfl⟩
     ·
      simp only [Option.map_eq_some_iff] at ho
      obtain ⟨z,_,rfl⟩:=ho
      exact ⟨AL.iD hh,_,_,rfl⟩
   ·
    rename_i t x
    simp only [oper] at ho
    split at ho
    ·
     split at ho
     ·
      cases hh:S.H.has S.nx with
      | true=>simp [hh] at ho
      | false =>
       simp only [hh,cond_false,Option.some.injEq] at ho
       subst ho
       exact ⟨AL.iD hh,_,_,rfl⟩
     ·
      cases ho
    ·
     cases ho
  split at hs
  ·
   rename_i v S1 ho
   obtain ⟨k1,v',cs,k2⟩:=key ho
   simp only [nQ.val.injEq] at k2
   obtain ⟨rfl,rfl⟩:=k2
   split at hs
   ·
    simp only [Option.some.injEq,Stp.go.injEq] at hs
    exact ⟨k1,cs,hs.2.symm⟩
   ·
    cases hs
  ·
   rename_i S1 ho; obtain ⟨_,v',cs,k2⟩:=key ho; cases k2
  ·
   rename_i f args ho; obtain ⟨_,v',cs,k2⟩:=key ho; cases k2
  ·
   cases hs
  ·
   cases hs
 ·
  left
  (repeat' split at hs) <;> first | (simp only [Option.some.injEq,Stp.go.injEq] at hs; exact hs.2.symm) | cases hs
 ·
  cases hs
theorem rY {S:St} {nb:jI} (hn:S.H.get S.nx=none) {id:Nat} {b:jI} (h:S.H.get id=some b):(aS S nb).H.get id=some b:=by
 simp only [aS,AL.aG]
 rw [if_neg (fun q=>by subst q; rw [hn] at h; cases h)]
 exact h
theorem BJ {S:St} {nb:jI} (hn:S.H.get S.nx=none) {x:AV} {n:Nat} (h:gT x S=some n):gT x (aS S nb)=some n:=by
 unfold gT at h
 split at h <;> first
  | exact h
  | (cases h; done)
  | (split at h; all_goals first | (cases h; done) | (rename_i hg; simp only [gT,rY hn hg]; exact h))
theorem Bf {S:St} {nb:jI} (hn:S.H.get S.nx=none) {x:AV} {M:p8} (h:mapOf S x=some M):mapOf (aS S nb) x=some M:=by
 unfold mapOf at h ⊢
 split at h
 ·
  exact h
 ·
  split at h
  ·
   rename_i hg; simp only [rY hn hg]; exact h
  ·
   cases h
 ·
  cases h
theorem Cr {C:bQ} {ρ:Operand→Option AV} {op:Op} (hc:cls C op ≤ 1) {S:St} {nb:jI} (hn:S.H.get S.nx=none) {v:AV} (h:oper C ρ S op=some (.val v S)):oper C ρ (aS S nb) op=some (.val v (aS S nb)):=by
 by_cases h0:cls C op=0
 ·
  obtain ⟨v',h1,h2⟩:=zG h0 S (aS S nb) _ h
  simp only [nQ.val.injEq,and_true] at h1
  subst h1; exact h2
 ·
  cases op <;> try (first | exact absurd rfl h0 | exact absurd (show (2:Nat) ≤ 1 from hc) (by omega) | exact (zV h0 hc).elim)
  case load t a =>
   simp only [oper] at h ⊢
   split at h
   ·
    rename_i u hu
    simp only [Option.map_eq_some_iff,nQ.val.injEq,and_true] at h ⊢
    obtain ⟨r,hr,rfl⟩:=h
    refine ⟨r,?_,rfl⟩
    unfold jJ at hr ⊢
    split at hr
    ·
     rename_i id gen off
     split at hr
     ·
      rename_i cs' hl
      have hk:∃ g,S.H.get id=some (.cells g cs'):=by
       unfold St.look at hl
       split at hl
       ·
        rename_i g' cs2 hg
        cases hb:Nat.beq g' gen with
        | true=>rw [hb] at hl; simp at hl; subst hl; exact ⟨_,hg⟩
        | false=>rw [hb] at hl; simp at hl
       ·
        cases hl
      obtain ⟨g,hk⟩:=hk
      have:(aS S nb).look id gen=some cs':=by
       unfold St.look at hl ⊢
       rw [rY hn hk]
       rw [hk] at hl
       exact hl
      rw [this]; exact hr
     ·
      cases hr
    ·
     exact hr
    ·
     cases hr
   ·
    cases h
  case lookup t m k ok =>
   simp only [oper] at h ⊢
   split at h
   ·
    simp only [Option.map_eq_some_iff,nQ.val.injEq,and_true] at h ⊢
    obtain ⟨r,hr,rfl⟩:=h
    refine ⟨r,?_,rfl⟩
    unfold iX at hr
    split at hr
    ·
     rename_i kt et M hkt hM
     have:mapOf (aS S nb) _=some M:=Bf hn hM
     unfold iX
     simp only [hkt,this]
     exact hr
    ·
     cases hr
   ·
    cases h
  case call c =>
   obtain ⟨callee,args,ats⟩:=c
   cases callee <;> try (exact absurd (show (2:Nat) ≤ 1 from hc) (by omega))
   rename_i b
   cases b <;> try (first | exact absurd rfl h0 | exact absurd (show (2:Nat) ≤ 1 from hc) (by omega))
   simp only [oper] at h ⊢
   split at h
   ·
    rename_i as_ has
    unfold dZ at h ⊢
    split at h <;> try (first | contradiction | (cases h; done))
    split at h
    ·
     rename_i t ht
     split at h
     ·
      rename_i hlt
      simp only [Option.map_eq_some_iff,nQ.val.injEq,and_true] at h
      obtain ⟨n,hn',rfl⟩:=h
      simp only [BJ hn hn',Option.map_some,hlt,if_true]
     ·
      cases h
    ·
     cases h
   ·
    cases h
theorem uV {C:bQ} {h:Hand} {nt:Nat} {ops:Array Oper} {o:Oper} {e e':Env} {S:St} {nb:jI} (hc:cls C o.op ≤ 1) (hn:S.H.get S.nx=none) (hs:di C h nt ops o e S=some (.go e' S)) :
  di C h nt ops o e (aS S nb)=some (.go e' (aS S nb)):=by
 unfold di at hs ⊢
 split at hs
 ·
  split at hs
  ·
   rename_i v S1 ho
   obtain ⟨v',h1⟩:=wS hc S ho
   simp only [nQ.val.injEq] at h1
   obtain ⟨rfl,rfl⟩:=h1
   rw [Cr hc hn ho]
   split at hs
   ·
    rename_i e1 hput
    simp only [Option.some.injEq,Stp.go.injEq,and_true] at hs
    subst hs
    simp [hput]
   ·
    cases hs
  ·
   rename_i S1 ho; obtain ⟨v',h1⟩:=wS hc S ho; cases h1
  ·
   rename_i f args ho; obtain ⟨v',h1⟩:=wS hc S ho; cases h1
  ·
   cases hs
  ·
   cases hs
 ·
  (repeat' split at hs) <;> first | (simp only [Option.some.injEq,Stp.go.injEq,and_true] at hs; subst hs; simp_all) | cases hs
 ·
  cases hs
theorem u7:∀ (l l':List (D × AV × Nat)),kD l l'=true→l=l'
 | [],l',h=>by cases l' <;> simp_all [kD]
 | (k,v,n) :: l,l',h=>by
  match l',h with
  | (k',v',n') :: l',h =>
   simp only [kD,Bool.and_eq_true] at h
   rw [Nat.eq_of_beq_eq_true h.1.1.1,D.same_eq _ _ h.1.1.2,AV.same_eq _ _ h.1.2,u7 _ _ h.2]
theorem BB {S S':St} {id:Nat} (h:sameAt S S' id=true):S'.H.get id=S.H.get id:=by
 unfold sameAt at h
 split at h
 ·
  rename_i g cs g' cs' h1 h2
  simp only [Bool.and_eq_true] at h
  rw [h1,h2,Nat.eq_of_beq_eq_true h.1,AV.fJ _ _ h.2]
 ·
  rename_i m m' h1 h2
  simp only [Bool.and_eq_true] at h
  rw [h1,h2]
  obtain ⟨es,clk⟩:=m
  obtain ⟨es',clk'⟩:=m'
  simp only at h
  rw [Nat.eq_of_beq_eq_true h.1,u7 _ _ h.2]
 ·
  rename_i h1 h2; rw [h1,h2]
 ·
  cases h
theorem yP {ρ ρ':Operand→Option AV} (op:Op) (h:∀ x ∈ op.operands,ρ x=ρ' x):lS ρ op=lS ρ' op:=by
 cases op <;> simp only [Op.operands] at h <;> try rfl
 case load t a=>simp only [lS]; rw [h a (by simp)]
 case lookup t m k ok=>simp only [lS]; rw [h m (by simp)]
 case call c =>
  obtain ⟨callee,args,ats⟩:=c
  cases callee <;> try rfl
  rename_i b
  cases b <;> try rfl
  have ha:dQ ρ args.toList=dQ ρ' args.toList:=iA fun p hp=>h p (by simp only [Call.operands]; exact Array.mem_append.2 (.inr (by simpa using hp)))
  simp only [lS]
  rw [ha]
theorem Bt {C:bQ} {ρ:Operand→Option AV} {op:Op} (hc:cls C op ≤ 1) {S S2:St} (hI:∀ id ∈ (lS ρ op).getD [],S2.H.get id=S.H.get id) {v:AV} (h:oper C ρ S op=some (.val v S)):oper C ρ S2 op=some (.val v S2):=by
 by_cases h0:cls C op=0
 ·
  obtain ⟨v',h1,h2⟩:=zG h0 S S2 _ h
  simp only [nQ.val.injEq,and_true] at h1
  subst h1; exact h2
 ·
  cases op <;> try (first | exact absurd rfl h0 | exact absurd (show (2:Nat) ≤ 1 from hc) (by omega) | exact (zV h0 hc).elim)
  case load t a =>
   simp only [oper] at h ⊢
   split at h
   ·
    rename_i u hu
    simp only [Option.map_eq_some_iff,nQ.val.injEq,and_true] at h ⊢
    obtain ⟨r,hr,rfl⟩:=h
    refine ⟨r,?_,rfl⟩
    unfold jJ at hr ⊢
    split at hr
    ·
     rename_i id gen off
     have:S2.look id gen=S.look id gen:=by
      unfold St.look
      rw [hI id (by simp [lS,hu])]
     simp only [this]; exact hr
    ·
     exact hr
    ·
     cases hr
   ·
    cases h
  case lookup t m k ok =>
   simp only [oper] at h ⊢
   split at h
   ·
    rename_i mv kd hmv hkd
    simp only [Option.map_eq_some_iff,nQ.val.injEq,and_true] at h ⊢
    obtain ⟨r,hr,rfl⟩:=h
    refine ⟨r,?_,rfl⟩
    have:mapOf S2 mv=mapOf S mv:=by
     cases mv <;> try rfl
     ·
      rename_i y; cases y <;> rfl
     ·
      rename_i id
      simp only [mapOf]
      rw [hI id (by simp [lS,hmv])]
    unfold iX at hr ⊢
    rw [this]; exact hr
   ·
    cases h
  case call c =>
   obtain ⟨callee,args,ats⟩:=c
   cases callee <;> try (exact absurd (show (2:Nat) ≤ 1 from hc) (by omega))
   rename_i b
   cases b <;> try (first | exact absurd rfl h0 | exact absurd (show (2:Nat) ≤ 1 from hc) (by omega))
   simp only [oper] at h ⊢
   split at h
   ·
    rename_i as_ has
    unfold dZ at h ⊢
    split at h <;> try (first | contradiction | (cases h; done))
    rename_i x _
    split at h
    ·
     rename_i t ht
     split at h
     ·
      rename_i hlt
      simp only [Option.map_eq_some_iff,nQ.val.injEq,and_true] at h
      obtain ⟨n,hn',rfl⟩:=h
      have:gT x S2=some n:=by
       rw [← hn']
       cases x <;> try rfl
       ·
        rename_i y; cases y <;> rfl
       ·
        rename_i id
        simp only [gT]
        rw [hI id (by simp [lS,has])]
      simp only [this,Option.map_some,hlt,if_true]
     ·
      cases h
    ·
     cases h
   ·
    cases h
theorem vP {C:bQ} {h:Hand} {nt:Nat} {ops:Array Oper} {o:Oper} {e e':Env} {S S2:St} (hc:cls C o.op ≤ 1) (hI:∀ id ∈ (lS (bA e) o.op).getD [],S2.H.get id=S.H.get id) (hs:di C h nt ops o e S=some (.go e' S)) :
  di C h nt ops o e S2=some (.go e' S2):=by
 unfold di at hs ⊢
 split at hs
 ·
  split at hs
  ·
   rename_i v S1 ho
   obtain ⟨v',h1⟩:=wS hc S ho
   simp only [nQ.val.injEq] at h1
   obtain ⟨rfl,rfl⟩:=h1
   rw [Bt hc hI ho]
   split at hs
   ·
    rename_i e1 hput
    simp only [Option.some.injEq,Stp.go.injEq,and_true] at hs
    subst hs
    simp [hput]
   ·
    cases hs
  ·
   rename_i S1 ho; obtain ⟨v',h1⟩:=wS hc S ho; cases h1
  ·
   rename_i f args ho; obtain ⟨v',h1⟩:=wS hc S ho; cases h1
  ·
   cases hs
  ·
   cases hs
 ·
  (repeat' split at hs) <;> first | (simp only [Option.some.injEq,Stp.go.injEq,and_true] at hs; subst hs; simp_all) | cases hs
 ·
  cases hs
structure DT (C:bQ) (h:Hand) (nt:Nat) (ops:Array Oper) (I:List Nat) (o:Oper) (e:Env) (k:Nat):Prop where
 zero:k=0→Z0 C h nt ops o e
 one:k=1→cls C o.op ≤ 1∧∀ id ∈ (lS (bA e) o.op).getD [],id ∈ I
 three:k=3→AY C o.op=true
theorem DT.agree {C:bQ} {h:Hand} {nt:Nat} {ops:Array Oper} {I:List Nat} {o:Oper} {e f:Env} {k:Nat} (z:DT C h nt ops I o e k) (ha:∀ t ∈ o.looksAt ops,AL.get f t=AL.get e t):DT C h nt ops I o f k :=
 ⟨fun q=>(z.zero q).agree ha,fun q=>⟨(z.one q).1,by rw [yP o.op (fun x hx=>(jV ha x hx).symm)]; exact (z.one q).2⟩,z.three⟩
def fQ (I:List Nat) (k:Nat) (S S':St):Prop:=k=4→∀ id ∈ I,S'.H.get id=S.H.get id
theorem DN {C:bQ} {h:Hand} {nt:Nat} {ops:Array Oper} {I:List Nat} {x y:Oper} {e e1 e2:Env} {S S1 S2:St} {kx ky:Nat} (hap:x.apart ops y=true) (hcl:EX kx ky=true) (zx:DT C h nt ops I x e kx) (zy:DT C h nt ops I y e1 ky)
  (px:fQ I kx S S1) (py:fQ I ky S1 S2) (hx:di C h nt ops x e S=some (.go e1 S1)) (hy:di C h nt ops y e1 S1=some (.go e2 S2)) :
  ∃ f1 T1 f2,di C h nt ops y e S=some (.go f1 T1)∧di C h nt ops x f1 T1=some (.go f2 S2)∧EU f2 e2∧DT C h nt ops I y e ky∧DT C h nt ops I x f1 kx∧fQ I ky S T1∧fQ I kx T1 S2:=by
 obtain ⟨a1,a2,a3⟩:=Oper.apart_spec hap
 obtain ⟨vx,_,_,ux,_⟩:=fP hx (e2:=e) (fun _ _=>rfl)
 have hyl:∀ t ∈ y.looksAt ops,AL.get e t=AL.get e1 t:=fun t ht=>by
  rw [ux t,if_neg (fun q=>a1 t q ht)]
 have zy':=zy.agree hyl
 have xl:∀ {vy:Option AV} {f1:Env},oz e y.dst vy f1→∀ t ∈ x.looksAt ops,AL.get f1 t=AL.get e t:=fun u t ht=>by
  rw [u t,if_neg (fun q=>a3 t q ht)]
 have fin:∀ {vy:Option AV} {f1:Env} {T:St},oz e1 y.dst vy e2→oz e y.dst vy f1→(∃ f2,di C h nt ops x f1 T=some (.go f2 S2)∧oz f1 x.dst vx f2)→∃ f2,di C h nt ops x f1 T=some (.go f2 S2)∧EU f2 e2:=by
  intro vy f1 T u1 u2 ⟨f2,q1,q2⟩
  refine ⟨f2,q1,fun t=>?_⟩
  rw [q2 t,u2 t,u1 t,ux t]
  by_cases hd:x.dst=some t
  ·
   have:y.dst ≠ some t:=a2 t hd
   simp [hd,this]
  ·
   simp [hd]
 have updx:∀ {v:Option AV} {f1 f2:Env},oz e x.dst v e1→oz f1 x.dst v f2→oz f1 x.dst vx f2:=fun u u'=>by
  intro t
  rw [u' t]
  by_cases hd:x.dst=some t
  ·
   have q1:=u t; have q2:=ux t; rw [if_pos hd] at q1 q2; simp [hd,← q1,← q2]
  ·
   simp [hd]
 simp only [EX,Bool.or_eq_true,Bool.and_eq_true] at hcl
 rcases hcl with ((q | q) | ⟨q,q2⟩) | ⟨q,q2⟩
 ·
  have hq0:=Nat.eq_of_beq_eq_true q
  obtain ⟨v0,z0⟩:=zx.zero hq0
  have hS:S1=S∧oz e x.dst v0 e1:=by
   obtain ⟨e1',g1,g2⟩:=z0 e (fun _ _=>rfl) S
   rw [hx] at g1
   simp only [Option.some.injEq,Stp.go.injEq] at g1
   exact ⟨g1.2,by rw [g1.1]; exact g2⟩
  obtain ⟨rfl,hu⟩:=hS
  obtain ⟨vy,f1,k1,k2,k3⟩:=fP hy hyl
  obtain ⟨f2,g1,g2⟩:=z0 f1 (xl k3) S2
  obtain ⟨f2',m1,m2⟩:=fin k2 k3 ⟨f2,g1,updx hu g2⟩
  exact ⟨f1,S2,f2',k1,m1,m2,zy',zx.agree (xl k3),py,fun q=>by omega⟩
 ·
  have hq0:=Nat.eq_of_beq_eq_true q
  obtain ⟨v0,z0⟩:=zy.zero hq0
  have hS:S2=S1∧oz e1 y.dst v0 e2:=by
   obtain ⟨e1',g1,g2⟩:=z0 e1 (fun _ _=>rfl) S1
   rw [hy] at g1
   simp only [Option.some.injEq,Stp.go.injEq] at g1
   exact ⟨g1.2,by rw [g1.1]; exact g2⟩
  obtain ⟨rfl,hu⟩:=hS
  obtain ⟨f1,k1,k3⟩:=z0 e hyl S
  obtain ⟨v3,f2,g1,g2,g3⟩:=fP hx (xl k3)
  obtain ⟨f2',m1,m2⟩:=fin hu k3 ⟨f2,g1,updx g2 g3⟩
  exact ⟨f1,S,f2',k1,m1,m2,zy',zx.agree (xl k3),fun q=>by omega,px⟩
 ·
  have hq1:=Nat.eq_of_beq_eq_true q
  obtain ⟨hx1,hx2'⟩:=zx.one hq1
  have e1S:=step1 hx1 hx
  subst e1S
  obtain ⟨vy,f1,k1,k2,k3⟩:=fP hy hyl
  have hx2:∃ f2,di C h nt ops x f1 S2=some (.go f2 S2)∧oz f1 x.dst vx f2:=by
   have hat:di C h nt ops x e S2=some (.go e1 S2):=by
    try simp only [Bool.or_eq_true] at q2
    rcases q2 with (q2 | q2) | q2
    ·
     have:=step1 (zy.one (Nat.eq_of_beq_eq_true q2)).1 hy
     subst this; exact hx
    ·
     rcases Cj (zy.three (Nat.eq_of_beq_eq_true q2)) hy with r | ⟨r1,cs,r2⟩
     ·
      subst r; exact hx
     ·
      subst r2; exact uV hx1 r1 hx
    ·
     exact vP hx1 (fun id hid=>py (Nat.eq_of_beq_eq_true q2) id (hx2' id hid)) hx
   obtain ⟨v3,f2,g1,g2,g3⟩:=fP hat (xl k3)
   exact ⟨f2,g1,updx g2 g3⟩
  obtain ⟨f2',m1,m2⟩:=fin k2 k3 hx2
  exact ⟨f1,S2,f2',k1,m1,m2,zy',zx.agree (xl k3),py,fun q=>by omega⟩
 ·
  have hq4:=Nat.eq_of_beq_eq_true q
  have hq1:=Nat.eq_of_beq_eq_true q2
  obtain ⟨hy1,hy2⟩:=zy'.one hq1
  have e2S:=step1 hy1 hy
  subst e2S
  obtain ⟨vy,f0,k1,k2,k3⟩:=fP hy hyl
  have hyS:di C h nt ops y e S=some (.go f0 S):=vP (S:=S2) (S2:=S) hy1 (fun id hid=>(px hq4 id (hy2 id hid)).symm) k1
  obtain ⟨v3,f2,g1,g2,g3⟩:=fP hx (xl k3)
  obtain ⟨f2',m1,m2⟩:=fin k2 k3 ⟨f2,g1,updx g2 g3⟩
  exact ⟨f0,S,f2',hyS,m1,m2,zy',zx.agree (xl k3),fun q=>by omega,px⟩
end
end Go.Ev

namespace Go.Ev
noncomputable section
set_option linter.unusedVariables false
set_option linter.unusedSimpArgs false
section
variable {C:bQ} {h:Hand} {nt:Nat} {ops:Array Oper} {I:List Nat} {K:Nat→Nat}
inductive Run (C:bQ) (h:Hand) (nt:Nat) (ops:Array Oper) (I:List Nat) (K:Nat→Nat):List Nat→Env→St→Env→St→Prop
 | nil (e:Env) (S:St):Run C h nt ops I K [] e S e S
 | cons (i:Nat) (l:List Nat) (o:Oper) (e e1 e2:Env) (S S1 S2:St) (ho:ops[i]? = some o) (hs:di C h nt ops o e S=some (.go e1 S1)) (hk:DT C h nt ops I o e (K i)) (hp:fQ I (K i) S S1) (hr:Run C h nt ops I K l e1 S1 e2 S2):Run C h nt ops I K (i :: l) e S e2 S2
theorem Run.congr:∀ (l:List Nat) {e e2 e':Env} {S S':St},EU e2 e→Run C h nt ops I K l e S e' S'→∃ e2',Run C h nt ops I K l e2 S e2' S'∧EU e2' e'
 | [],e,e2,e',S,S',hq,hv=>by cases hv; exact ⟨e2,.nil _ _,hq⟩
 | i :: l,e,e2,e',S,S',hq,hv=>by
  cases hv with
  | cons _ _ o _ e1 _ _ S1 _ ho hs hk hp hr =>
   obtain ⟨x,e3,k1,k2,k3⟩:=fP hs (e2:=e2) (fun t _=>hq t)
   obtain ⟨e4,m1,m2⟩:=Run.congr l (e2:=e3) (fun t=>by rw [k3 t,k2 t,hq t]) hr
   exact ⟨e4,.cons i l o _ _ _ _ _ _ ho k1 (hk.agree (fun t _=>hq t)) hp m1,m2⟩
theorem bubble:∀ (l1 l2:List Nat) (i:Nat) {o:Oper} {e e':Env} {S S':St},ops[i]? = some o→(∀ k ∈ l1,∀ x,ops[k]? = some x→x.apart ops o=true∧EX (K k) (K i)=true)→Run C h nt ops I K (l1 ++ i :: l2) e S e' S' →
  ∃ e1 S1 e2,di C h nt ops o e S=some (.go e1 S1)∧DT C h nt ops I o e (K i)∧fQ I (K i) S S1∧Run C h nt ops I K (l1 ++ l2) e1 S1 e2 S'∧EU e2 e'
 | [],l2,i,o,e,e',S,S',ho,_,hv=>by
  cases hv with
  | cons _ _ o' _ e1 _ _ S1 _ ho' hs hk hp hr =>
   rw [ho] at ho'; cases ho'
   exact ⟨e1,S1,e',hs,hk,hp,hr,fun _=>rfl⟩
 | k :: l1,l2,i,o,e,e',S,S',ho,hok,hv=>by
  rw [List.cons_append] at hv
  cases hv with
  | cons _ _ x _ ek _ _ Sk _ hx hs hk hp hr =>
   obtain ⟨e1,S1,e2,k1,kk,kp,k2,k3⟩:=bubble l1 l2 i ho (fun k hk=>hok k (by simp [hk])) hr
   obtain ⟨g1,g2⟩:=hok k (by simp) x hx
   obtain ⟨f1,T1,f2,c1,c2,c3,c4,c5,c6,c7⟩:=DN g1 g2 hk kk hp kp hs k1
   obtain ⟨e3,m1,m2⟩:=Run.congr (l1 ++ l2) c3 k2
   exact ⟨f1,T1,e3,c1,c4,c6,.cons k _ x _ _ _ _ _ _ hx c2 c5 c7 m1,fun t=>(m2 t).trans (k3 t)⟩
def kindOf (I:List Nat) (d:EZ):Nat:=bif Nat.beq d.k 2 then (bif I.all (sameAt d.S d.S') then 4 else 2) else d.k
theorem pY {I:List Nat} {d:EZ} {k:Nat} (h:kindOf I d=k) (h2:k ≠ 2) (h4:k ≠ 4):d.k=k:=by
 unfold kindOf at h
 cases hb:Nat.beq d.k 2 with
 | false=>rw [hb] at h; exact h
 | true =>
  rw [hb] at h
  simp only [cond_true] at h
  cases hc:I.all (sameAt d.S d.S') <;> rw [hc] at h <;> simp at h <;> omega
theorem En (C:bQ) (ops:Array Oper) (o:Oper) (e e':Env) (S:St):C8 C ops o e e' S ≠ 4:=by
 unfold C8
 split
 ·
  omega
 ·
  split
  ·
   omega
  ·
   rcases sJ C ops o e e' S with q | q <;> omega
theorem uf (hp:sO h):∀ (l:List Oper) (k:Nat) {e e':Env} {S S':St} {ks:List EZ},(∀ j,l[j]? = ops[k + j]?)→sK C h nt ops l e S=some (ks,e',S')→(∀ j d,ks[j]? = some d→K (k + j)=kindOf I d) →
  (∀ d ∈ ks,∀ id ∈ d.ids,id ∈ I)→Run C h nt ops I K ((List.range l.length).map (k + ·)) e S e' S'∧ks.length=l.length
 | [],k,e,e',S,S',ks,_,hv,hK,hI=>by
  simp only [sK,Option.some.injEq,Prod.mk.injEq] at hv
  obtain ⟨rfl,rfl,rfl⟩:=hv
  exact ⟨.nil _ _,rfl⟩
 | o :: l,k,e,e',S,S',ks,hl,hv,hK,hI=>by
  have h0:ops[k]? = some o:=by simpa using (hl 0).symm
  rw [List.length_cons,List.range_succ_eq_map,List.map_cons,Nat.add_zero,List.map_map]
  simp only [sK] at hv
  split at hv
  ·
   rename_i e1 S1 hs
   split at hv
   ·
    rename_i ks' e2 S2 hr
    simp only [Option.some.injEq,Prod.mk.injEq] at hv
    obtain ⟨rfl,rfl,rfl⟩:=hv
    have hf:((fun x=>k + x) ∘ Nat.succ)=(fun x=>k + 1 + x):=by funext x; simp; omega
    rw [hf]
    obtain ⟨r1,r2⟩:=uf hp l (k + 1) (fun j=>by have:=hl (j + 1); simpa [Nat.add_assoc,Nat.add_comm 1 j] using this) hr (fun j d hj=>by
     have:=hK (j + 1) d (by simpa using hj)
     rw [show k + 1 + j=k + (j + 1) by omega,this]) (fun d hd=>hI d (by simp [hd]))
    have hk0:=hK 0 _ rfl
    rw [Nat.add_zero] at hk0
    refine ⟨.cons k _ o _ _ _ _ _ _ h0 hs ⟨fun q=>Eu hp hs (pY (hk0.symm.trans q) (by omega) (by omega)),fun q=>⟨DK (pY (hk0.symm.trans q) (by omega) (by omega)),fun id hid=>hI _ List.mem_cons_self id hid⟩,
     fun q=>Dv (pY (hk0.symm.trans q) (by omega) (by omega))⟩ (fun q id hid=>?_) r1,by simp [r2]⟩
    have hq:=hk0.symm.trans q
    unfold kindOf at hq
    simp only at hq
    cases hb:Nat.beq (C8 C ops o e e1 S) 2 with
    | false=>rw [hb] at hq; exact absurd hq (En C ops o e e1 S)
    | true =>
     rw [hb] at hq
     simp only [cond_true] at hq
     cases hc:I.all (sameAt S S1) with
     | false=>rw [hc] at hq; cases hq
     | true=>exact BB (List.all_eq_true.1 hc id hid)
   ·
    cases hv
  ·
   cases hv
end
def mh (ops:Array Oper):Bool :=
 let B:=Region.before ops
 (List.range ops.size).all fun i=>match ops[i]? with
  | none=>false
  | some o=>Nat.blt (B.getD i 0) (2 ^ i) && (o.after.all fun e=>!Region.binds .any e || Nat.blt e.on i) &&
   (List.range i).all fun k=>match ops[k]? with
    | none=>false
    | some x=>if (B.getD i 0).testBit k then (o.after.any fun e=>Region.binds .any e && (Nat.beq e.on k || (B.getD e.on 0).testBit k)) else x.apart ops o
theorem fT {ops:Array Oper} (hr:mh ops=true) {i:Nat} {o:Oper} (hi:ops[i]? = some o) :
  (∀ e ∈ o.after,Region.binds .any e=true→e.on < i) ∧
  (∀ k x,k < i→ops[k]? = some x→if ((Region.before ops).getD i 0).testBit k=true then ∃ e ∈ o.after,Region.binds .any e=true∧(e.on=k∨((Region.before ops).getD e.on 0).testBit k=true) else x.apart ops o=true)∧∀ k,i ≤ k→((Region.before ops).getD i 0).testBit k=false:=by
 have hlt:i < ops.size:=(Array.getElem?_eq_some_iff.1 hi).1
 simp only [mh,List.all_eq_true,List.mem_range] at hr
 have h1:=hr i hlt
 rw [hi] at h1
 simp only [Bool.and_eq_true] at h1
 obtain ⟨⟨h0,h1⟩,h2⟩:=h1
 refine ⟨fun e he hb=>?_,fun k x hk hx=>?_,fun k hk=>Nat.testBit_lt_two_pow (Nat.lt_of_lt_of_le (Nat.le_of_ble_eq_true h0) (Nat.pow_le_pow_right (by omega) hk))⟩
 ·
  have:=Array.all_eq_true_iff_forall_mem.1 h1 e he
  simp only [hb,Bool.not_true,Bool.false_or] at this
  exact Nat.le_of_ble_eq_true this
 ·
  rw [List.all_eq_true] at h2
  have:=h2 k (List.mem_range.2 hk)
  rw [hx] at this
  simp only at this
  split at this
  ·
   rename_i hb
   rw [if_pos hb]
   obtain ⟨e,he,hq⟩:=Array.any_eq_true'.1 this
   simp only [Bool.and_eq_true,Bool.or_eq_true] at hq
   exact ⟨e,he,hq.1,hq.2.imp (fun q=>Nat.eq_of_beq_eq_true q) id⟩
  ·
   rename_i hb
   rw [if_neg hb]; exact this
def Closed (ops:Array Oper) (listed:Array Bool):Prop:=∀ j,listed.getD j false=true→∀ k,k < j→((Region.before ops).getD j 0).testBit k=true→listed.getD k false=true
theorem CE {R:aR} {C:bQ} (hR:fe R C) {h:Hand} (hh:wz R C.P h) {nt:Nat} {ops:Array Oper} (hr:mh ops=true) {I:List Nat} {K:Nat→Nat} (hK:∀ i k,k < i→i < ops.size→((Region.before ops).getD i 0).testBit k=true∨EX (K k) (K i)=true) {Q:Exit→Act→World→Prop} :
  ∀ (fuel:Nat) (listed:Array Bool) {cx:Cx} {S S':St} {w:World} {e e':Env} {a:Act},listed.size=ops.size→Closed ops listed →
  ((List.range ops.size).filter fun i=>!listed.getD i false).length=fuel→Run C h nt ops I K ((List.range ops.size).filter fun i=>!listed.getD i false) e S e' S'→aD R cx S w→cK cx S w nt e a →
  (∀ cx' a' w' e'',aD R cx' S' w'→Ext cx S w cx' S' w'→cK cx' S' w' nt e'' a'→EU e'' e'→a'.defers=a.defers→Q .normal a' w')→wpAny C.P .any ops Q fuel listed a w:=by
 intro fuel
 induction fuel with
 | zero =>
  intro listed cx S S' w e e' a hsz hcl hlen hev hS he hk
  have hnil:=List.eq_nil_of_length_eq_zero hlen
  rw [hnil] at hev
  cases hev
  refine ⟨?_,hk cx a w e hS (Ext.refl w hS.wf) he (fun _=>rfl) rfl⟩
  cases hq:Region.ready .any ops listed with
  | nil=>rfl
  | cons i l =>
   have hi:i ∈ Region.ready .any ops listed:=by rw [hq]; simp
   obtain ⟨h1,o,h2,_⟩:=mem_ready.1 hi
   have hlt:i < ops.size:=(Array.getElem?_eq_some_iff.1 h2).1
   have:i ∈ (List.range ops.size).filter fun i=>!listed.getD i false:=by
    rw [List.mem_filter]
    refine ⟨List.mem_range.2 hlt,?_⟩
    have hlt':i < listed.size:=by omega
    simp [hlt'] at h1 ⊢; exact h1
   rw [hnil] at this; cases this
 | succ fuel ih =>
  intro listed cx S S' w e e' a hsz hcl hlen hev hS he hk
  have step:∀ i ∈ Region.ready .any ops listed,wpOp C.P ops Q i (wpAny C.P .any ops Q fuel (listed.setIfInBounds i true)) a w:=by
   intro i hi
   obtain ⟨h1,o,h2,h3⟩:=mem_ready.1 hi
   have hlt:i < ops.size:=(Array.getElem?_eq_some_iff.1 h2).1
   have hlt':i < listed.size:=by omega
   have h1':listed.getD i false=false:=by simp [hlt'] at h1 ⊢; exact h1
   obtain ⟨r1,r2,_⟩:=fT hr h2
   have hclo:∀ k,k < i→((Region.before ops).getD i 0).testBit k=true→listed.getD k false=true:=by
    intro k hk hb
    have hkx:∃ x,ops[k]? = some x:=⟨ops[k],by simp [show k < ops.size by omega]⟩
    obtain ⟨x,hx⟩:=hkx
    have:=r2 k x hk hx
    rw [if_pos hb] at this
    obtain ⟨ed,he,hbnd,hor⟩:=this
    rcases hor with q | q
    ·
     rw [← q]; exact h3 ed he hbnd
    ·
     by_cases hke:k < ed.on
     ·
      exact hcl ed.on (h3 ed he hbnd) k hke q
     ·
      rcases Nat.lt_or_ge ed.on k with q1 | q1
      ·
       exfalso
       have hel:ed.on < ops.size:=by have:=r1 ed he hbnd; omega
       have:=(fT hr (show ops[ed.on]? = some ops[ed.on] by simp [hel])).2.2 k (by omega)
       rw [this] at q; cases q
      ·
       have:k=ed.on:=by omega
       rw [this]; exact h3 ed he hbnd
   have hmem:i ∈ (List.range ops.size).filter fun i=>!listed.getD i false:=by
    rw [List.mem_filter]; exact ⟨List.mem_range.2 hlt,by rw [h1']; rfl⟩
   obtain ⟨l1,l2,hsp⟩:=List.append_of_mem hmem
   have hpw:((List.range ops.size).filter fun i=>!listed.getD i false).Pairwise (· < ·):=List.Pairwise.filter _ List.pairwise_lt_range
   rw [hsp] at hpw
   obtain ⟨p1,p2,p3⟩:=List.pairwise_append.1 hpw
   have hlt1:∀ k ∈ l1,k < i:=fun k hk=>p3 k hk i (by simp)
   have hgt2:∀ k ∈ l2,i < k:=fun k hk=>(List.pairwise_cons.1 p2).1 k hk
   rw [hsp] at hev
   obtain ⟨e1,S1,e2,b1,_,_,b2,b3⟩:=bubble l1 l2 i h2 (fun k hk x hx=>by
    have hki:=hlt1 k hk
    have hkl:listed.getD k false=false:=by
     have:k ∈ (List.range ops.size).filter fun i=>!listed.getD i false:=by rw [hsp]; simp [hk]
     simpa using (List.mem_filter.1 this).2
    have:=r2 k x hki hx
    split at this
    ·
     rename_i hb
     have:=hclo k hki hb
     rw [hkl] at this; cases this
    ·
     rename_i hnb
     exact ⟨this,(hK i k hki hlt).resolve_left hnb⟩) hev
   have hrest:(List.range ops.size).filter (fun j=>!(listed.setIfInBounds i true).getD j false)=l1 ++ l2:=by
    have:(fun j=>!(listed.setIfInBounds i true).getD j false)=(fun j=>(!listed.getD j false) && decide (j ≠ i)):=by
     funext j
     by_cases hj:i=j
     ·
      subst hj; simp [hlt']
     ·
      rw [getD_set_ne false hj]; simp [Ne.symm hj]
    rw [this,← List.filter_filter]
    have hcomm:∀ (l:List Nat) (p q:Nat→Bool),(l.filter p).filter q=(l.filter q).filter p:=fun l p q=>by
     rw [List.filter_filter,List.filter_filter]; congr 1; funext a; exact Bool.and_comm _ _
    rw [hcomm,hsp,List.filter_append,List.filter_cons]
    simp only [ne_eq,not_true_eq_false,decide_false,Bool.false_eq_true,if_false]
    congr 1
    ·
     rw [List.filter_eq_self]; intro k hk; simp; have:=hlt1 k hk; omega
    ·
     rw [List.filter_eq_self]; intro k hk; simp; have:=hgt2 k hk; omega
   refine tL hR hh b1 hS he (fun cx1 a1 w1 s1 x1 er1 d1=>?_) h2
   refine ih (listed.setIfInBounds i true) (cx:=cx1) (S:=S1) (S':=S') (w:=w1) (e:=e1) (e':=e2) (by simpa using hsz) (fun j hj k hkj hb=>?_) ?_ (by rw [hrest]; exact b2) s1 er1 (fun cx' a' w' e'' q1 q2 q3 q4 q5=>hk cx' a' w' e'' q1 (x1.trans q2) q3 (fun t=>(q4 t).trans (b3 t)) (q5.trans d1))
   ·
    by_cases hij:i=j
    ·
     subst hij
     exact getD_set_true (hclo k hkj hb)
    ·
     rw [getD_set_ne false hij] at hj
     exact getD_set_true (hcl j hj k hkj hb)
   ·
    rw [hrest]
    have:=hlen
    rw [hsp] at this
    simp at this ⊢; omega
  refine ⟨fun hnone=>?_,step⟩
  exfalso
  cases hq:(List.range ops.size).filter fun i=>!listed.getD i false with
  | nil=>rw [hq] at hlen; simp at hlen
  | cons m l =>
   have hm:m ∈ (List.range ops.size).filter fun i=>!listed.getD i false:=by rw [hq]; simp
   obtain ⟨hm1,hm2⟩:=List.mem_filter.1 hm
   have hmlt:=List.mem_range.1 hm1
   have hmo:ops[m]? = some ops[m]:=by simp [hmlt]
   have hpw:((List.range ops.size).filter fun i=>!listed.getD i false).Pairwise (· < ·):=List.Pairwise.filter _ List.pairwise_lt_range
   rw [hq] at hpw
   have hmin:=(List.pairwise_cons.1 hpw).1
   have hready:m ∈ Region.ready .any ops listed:=by
    rw [mem_ready]
    refine ⟨by have:m < listed.size:=(by omega); simp [this] at hm2 ⊢; exact hm2,ops[m],hmo,fun ed he hb=>?_⟩
    have hon:=(fT hr hmo).1 ed he hb
    cases hc:listed.getD ed.on false with
    | true=>rfl
    | false =>
     have:ed.on ∈ (List.range ops.size).filter fun i=>!listed.getD i false:=by
      rw [List.mem_filter]; exact ⟨List.mem_range.2 (by omega),by rw [hc]; rfl⟩
     rw [hq] at this
     rcases List.mem_cons.1 this with q | q
     ·
      omega
     ·
      have:=hmin _ q; omega
   rw [hnone] at hready
   cases hready
end
end Go.Ev

namespace Go.Ev
noncomputable section
set_option linter.unusedVariables false
set_option linter.unusedSimpArgs false
theorem run_next_at {P:Program} {w:World} (ty b bm since c0:Nat) (seen:Array Nat) (es:Array MapEntry) (clock:Nat) (hb:w.heap[b]? = some (.mapIter (some bm) since seen c0)) (hm:w.heap[bm]? = some (.map es clock))
  (hold:∀ x ∈ es.toList,x.born < since) (hsc:since ≤ c0) :
  ((∀ e ∈ es.toList,seen.contains e.born=true)∧(Instr.next (.pointer (some ⟨b,0,none⟩)) false ty).run P w=.ok (.tuple #[.bool false]) w) ∨
  ∃ e ∈ es.toList,seen.contains e.born=false∧∃ w1:World,w1.heap=w.heap∧w1.os=w.os∧w1.output=w.output∧w1.tape=w.tape ∧
   (Instr.next (.pointer (some ⟨b,0,none⟩)) false ty).run P w=.ok (.tuple #[.bool true,e.key,e.val]) { w1 with heap:=w1.heap.setIfInBounds b (.mapIter (some bm) since (seen.push e.born) clock) }:=by
 simp only [Instr.next,getObj,Sem.run_bind,Sem.run,hb,hm,Result.andThen,next_test_false seen es since c0 hold hsc,Bool.false_eq_true,if_false]
 have hmem:∀ x ∈ (Array.filter (fun e=>!seen.contains e.born) es).toList,x ∈ es.toList∧seen.contains x.born=false:=fun x hx=>by
  simp at hx ⊢
  exact hx
 have hemp:Array.filter (fun e=>!seen.contains e.born) es = #[]→∀ e ∈ es.toList,seen.contains e.born=true:=fun h e he=>by
  rw [Array.filter_eq_empty_iff] at h
  have:=h e (by simpa using he)
  simpa using this
 generalize Array.filter (fun e=>!seen.contains e.born) es=L at hmem hemp ⊢
 have e1:L.filter (fun x=>decide (x.born < since))=L:=Array.filter_eq_self.2 (fun x hx=>by simpa using hold x (hmem x (by simpa using hx)).1)
 have e2:L.filter (fun x=>decide (x.born ≥ since)) = #[]:=by
  rw [Array.filter_eq_empty_iff]
  intro x hx
  have:=hold x (hmem x (by simpa using hx)).1
  simp
  omega
 simp only [e1,e2,Array.append_empty]
 by_cases h0:L.size=0
 ·
  left
  have:L = #[]:=Array.eq_empty_of_size_eq_zero h0
  subst this
  refine ⟨hemp rfl,?_⟩
  simp [choose,Sem.run,Question.forced]
 ·
  right
  have hne:L.isEmpty=false:=by simp [Array.isEmpty,h0]
  simp only [hne,Bool.false_eq_true,if_false,Array.empty_append,Array.size_map]
  have hch:∃ (j:Nat) (w1:World),j < L.size∧(w1.heap=w.heap∧w1.os=w.os∧w1.output=w.output∧w1.tape=w.tape)∧(choose (Question.mapNext L.size)).run P w=.ok j w1:=by
   by_cases hf:L.size ≤ 1
   ·
    exact ⟨0,w,by omega,⟨rfl,rfl,rfl,rfl⟩,by simp [choose,Sem.run,Question.forced,hf]⟩
   ·
    exact ⟨_,w.drew,Nat.mod_lt _ (by omega),⟨rfl,rfl,rfl,rfl⟩,by
     simp only [choose,Sem.run,Question.forced,decide_eq_true_eq,hf,if_false,Question.cut]
     rfl⟩
  obtain ⟨j,w1,hj,hal,hrun⟩:=hch
  have hLj:L[j] ∈ L.toList:=by simp
  refine ⟨L[j],(hmem _ hLj).1,(hmem _ hLj).2,w1,hal.1,hal.2.1,hal.2.2.1,hal.2.2.2,?_⟩
  have hlt:b < w1.heap.size:=by rw [hal.1]; exact (Array.getElem?_eq_some_iff.1 hb).1
  have hb1:w1.heap[b]? = some (.mapIter (some bm) since seen c0):=by rw [hal.1]; exact hb
  have hset:∀ (o':Obj),(setObj b o').run P w1=.ok () { w1 with heap:=w1.heap.setIfInBounds b o' }:=fun o'=>by
   simp only [setObj,Sem.run,hb1]
   try rfl
  simp only [hrun,Array.getElem?_map,Array.getElem?_eq_getElem hj,Option.map_some,Sem.run_bind,hset,Result.andThen]
  rfl
theorem xe {P:Program} {w:World} (ty b:Nat) (hb:w.heap[b]? = some (.mapIter none 0 #[] 0)) :
  (Instr.next (.pointer (some ⟨b,0,none⟩)) false ty).run P w=.ok (.tuple #[.bool false]) w:=by
 simp only [Instr.next,getObj,Sem.run_bind,Sem.run,hb,Result.andThen]
 rfl
def jW (R:aR) (P:Program) (h:iy):Prop :=
 ∀ f args S rs,h f args S=some rs→(∃ fn,P.funcs[f]? = some fn∧fn.body.isSome=true∧fn.name ≠ "runtime.NumGoroutine") ∧
  ∀ cx w (us:List Value),aD R cx S w→us.length=args.length→(∀ (i:Nat) (x:AV) (u:Value),args[i]? = some x→us[i]? = some u→ay cx S w x u) →
  Calls P f us.toArray w (fun e w'=>∃ r ∈ rs,∃ cx',aD R cx' r.2.2 w'∧Ext cx S w cx' r.2.2 w'∧o7 cx' r.2.2 w' r.1 r.2.1 e)
theorem BO {R:aR} {P:Program}:wz R P noHand:=fun f args S p v S' h=>by cases h
theorem EI {R:aR} {P:Program} {h:iy} (hh:jW R P h):wz R P (Du h):=by
 intro f args S p v S' hd
 unfold Du at hd
 split at hd
 ·
  rename_i r hr
  simp only [Option.some.injEq] at hd
  subst hd
  obtain ⟨h1,h2⟩:=hh f args S _ hr
  refine ⟨h1,fun cx w us hS hl hu=>(h2 cx w us hS hl hu).mono fun e w' he=>?_⟩
  obtain ⟨r',hr',cx',k⟩:=he
  simp only [List.mem_singleton] at hr'
  subst hr'
  exact ⟨cx',k⟩
 ·
  cases hd
theorem kR {α β:Type} {f:α→Option β}:∀ {l:List α} {rs:List β},dQ f l=some rs→∀ x ∈ l,∃ r,f x=some r∧r ∈ rs
 | [],_,_,x,hx=>by cases hx
 | y :: l,rs,h,x,hx=>by
  simp only [dQ] at h
  split at h
  ·
   rename_i z hz
   simp only [Option.map_eq_some_iff] at h
   obtain ⟨zs,hzs,rfl⟩:=h
   rcases List.mem_cons.1 hx with rfl | hx
   ·
    exact ⟨z,hz,by simp⟩
   ·
    obtain ⟨r,h1,h2⟩:=kR hzs x hx
    exact ⟨r,h1,List.mem_cons_of_mem _ h2⟩
  ·
   cases h
theorem jD {α β:Type} {f:α→Option (List β)}:∀ {l:List α} {rs:List β},qR f l=some rs→∀ x ∈ l,∃ r,f x=some r∧∀ y ∈ r,y ∈ rs
 | [],_,_,x,hx=>by cases hx
 | y :: l,rs,h,x,hx=>by
  simp only [qR] at h
  split at h
  ·
   rename_i z hz
   split at h
   ·
    rename_i zs hzs
    simp only [Option.some.injEq] at h
    subst h
    rcases List.mem_cons.1 hx with rfl | hx
    ·
     exact ⟨z,hz,fun y hy=>List.mem_append.2 (.inl hy)⟩
    ·
     obtain ⟨r,h1,h2⟩:=jD hzs x hx
     exact ⟨r,h1,fun y hy=>List.mem_append.2 (.inr (h2 y hy))⟩
   ·
    cases h
  ·
   cases h
theorem rV {R:aR} {C:bQ} (hR:fe R C) {cx:Cx} {S:St} {w:World} {nt:Nat} {e:Env} {a:Act} {ops:Array Oper} {o:Oper} {t:Nat} {rs:List Stp} (hop:o.op=.next (.tmp t) false)
  (hs:AP nt o t e S=some rs) (hS:aD R cx S w) (he:cK cx S w nt e a) {K:Act→World→Prop} {Q:Exit→Act→World→Prop} (hk:∀ r ∈ rs,After R cx S w nt a K Q r) {i:Nat} (hi:ops[i]? = some o) :
  wpOp C.P ops Q i K a w:=by
 unfold AP at hs
 have hrefl:=Ext.refl (cx:=cx) w hS.wf
 have enter:o.guard=none→(∃ v w',(Instr.next (a.eval (.tmp t)) false o.type).run C.P w=.ok v w'∧K (a.put o.dst v) w')→wpOp C.P ops Q i K a w:=by
  intro hg ⟨v,w',h1,h2⟩
  unfold wpOp
  rw [hi]
  simp only
  rw [if_pos (by unfold Region.wanted; rw [hg])]
  left
  unfold Oper.wp
  have hq:(execOp a.eval o).run C.P w=.ok (.value v) w':=by
   obtain ⟨dst,op,ty,pos,after,guard⟩:=o
   simp only at hop
   subst hop
   exact mI h1
  rw [hq]
  exact h2
 split at hs
 ·
  rename_i k g since seen st hg ht
  split at hs
  ·
   rename_i c hc
   split at hs
   ·
    rename_i hcg
    subst hcg
    simp only [Option.map_eq_some_iff] at hs
    obtain ⟨e',hp,rfl⟩:=hs
    obtain ⟨u,h1,h2⟩:=he.rel t _ ht
    have hev:a.eval (.tmp t)=u:=by simp [Act.eval,h1]
    cases h2 with
    | it0 _ _ _ _ b _ hn hpos =>
    obtain ⟨_,_,_,hb⟩:=hpos hc
    refine enter hg ⟨.tuple #[.bool false],w,?_,?_⟩
    ·
     rw [hev]; exact xe _ b hb
    ·
     refine hk (.go e' S) (by simp) cx _ w hS hrefl (he.put hp ?_) (put_defers _ _ _)
     refine .tup [.d (.bool false)] [.bool false] rfl (fun j x u hx hu=>?_)
     match j,hx,hu with
     | 0,hx,hu=>simp at hx hu; subst hx; subst hu; exact .of_bool _
   ·
    cases hs
  ·
   cases hs
 ·
  rename_i k g id since seen st hg ht
  split at hs
  ·
   rename_i M c hM hc
   split at hs
   ·
    rename_i hcond
    obtain ⟨hcg,hold,hsc,hnt⟩:=hcond
    subst hcg
    obtain ⟨u,h1,h2⟩:=he.rel t _ ht
    have hev:a.eval (.tmp t)=u:=by simp [Act.eval,h1]
    have hidk:id ≠ k:=fun q=>by subst q; rw [hM] at hc; cases hc
    cases h2 with
    | it _ _ _ _ _ b m _ hn hni hm hpos =>
    have hkg:isIt S k g:=hc
    obtain ⟨hbk,hfk,honly,hb⟩:=hpos hkg
    have hm:=hm (by simp [cur,hM])
    obtain ⟨c1,c2,ms,clk,c3,⟨c4,c4',c4''⟩,c5⟩:=hS.maps id M hM
    rw [← hm] at c3
    have hborn:∀ x ∈ ms.toList,∃ (j:Nat) (p:D × AV × Nat),M.es[j]? = some p∧ms[j]? = some x∧x.born=p.2.2:=fun x hx=>by
     obtain ⟨j,hj,rfl⟩:=List.getElem_of_mem hx
     have hj':j < ms.size:=by simpa using hj
     have hjm:j < M.es.length:=by rw [← c4]; exact hj'
     have hp:=List.getElem?_eq_getElem hjm
     refine ⟨j,M.es[j],hp,by simp [hj'],?_⟩
     exact c4'' j _ _ hp (by simp [hj'])
    have holdm:∀ x ∈ ms.toList,x.born < since:=fun x hx=>by
     obtain ⟨j,p,p1,p2,p3⟩:=hborn x hx
     rw [p3]
     exact Nat.le_of_ble_eq_true (List.all_eq_true.1 hold p (List.mem_of_getElem? p1))
    rcases run_next_at (P:=C.P) o.type b m since st seen.toArray ms clk hb c3 holdm hsc with ⟨r1,r2⟩ | ⟨x,r1,r2,w1,r3,r4,r5,r6,r7⟩
    ·
     have hnil:M.es.filter (fun p=>!(seen.contains p.2.2))=[]:=by
      rw [List.filter_eq_nil_iff]
      intro p hp
      obtain ⟨j,hj,rfl⟩:=List.getElem_of_mem hp
      have hjm:j < ms.size:=by rw [c4]; exact hj
      have hb2:=c4'' j _ _ (List.getElem?_eq_getElem hj) (Array.getElem?_eq_getElem hjm)
      have:=r1 ms[j] (by simp)
      rw [hb2] at this
      simpa using this
     rw [hnil] at hs
     simp only [Option.map_eq_some_iff] at hs
     obtain ⟨e',hp,rfl⟩:=hs
     refine enter hg ⟨.tuple #[.bool false],w,by rw [hev]; exact r2,?_⟩
     refine hk (.go e' S) (by simp) cx _ w hS hrefl (he.put hp ?_) (put_defers _ _ _)
     refine .tup [.d (.bool false)] [.bool false] rfl (fun j x u hx hu=>?_)
     match j,hx,hu with
     | 0,hx,hu=>simp at hx hu; subst hx; subst hu; exact .of_bool _
    ·
     obtain ⟨j,p,p1,p2,p3⟩:=hborn x r1
     have hpm:p ∈ M.es.filter (fun p=>!(seen.contains p.2.2)):=by
      rw [List.mem_filter]
      refine ⟨List.mem_of_getElem? p1,?_⟩
      rw [p3] at r2
      simpa using r2
     have hs':dQ (fun p:D × AV × Nat=>(Env.put nt ((t,.it k (g + 1) (some id) since (seen ++ [p.2.2]) M.clk) :: e) o.dst (.tup [.d (.bool true),.d p.1,p.2.1])).map fun e' =>
      Stp.go e' { S with H:=S.H.set k (.obj 3 (.int .i64 ((g + 1:Nat):Int))) }) (M.es.filter (fun p=>!(seen.contains p.2.2)))=some rs:=by
      split at hs
      ·
       rename_i hnil; rw [hnil] at hpm; cases hpm
      ·
       exact hs
     obtain ⟨rr,q1,q2⟩:=kR hs' p hpm
     simp only [Option.map_eq_some_iff] at q1
     obtain ⟨e',hp,rfl⟩:=q1
     generalize hS':({ S with H:=S.H.set k (.obj 3 (.int .i64 ((g + 1:Nat):Int))) }:St)=S' at hp q2
     generalize hw':({ w1 with heap:=w1.heap.setIfInBounds b (.mapIter (some m) since (seen.toArray.push x.born) clk) }:World)=w' at r7
     have hget:S'.H.get k=some (.obj 3 (.int .i64 ((g + 1:Nat):Int))):=by rw [← hS']; simp [AL.aG]
     have hheap:w'.heap=w.heap.setIfInBounds b (.mapIter (some m) since (seen.toArray.push x.born) clk):=by rw [← hw',← r3]
     have hblt:b < w.heap.size:=DD hb
     have hsz:w'.heap.size=w.heap.size:=by rw [hheap]; simp
     have hfpk:∀ c,cx.fp k c↔c=b:=by
      have:=((hR.toObjOk.it _ _ _ _).1 (hS.objs k 3 _ hc).1).2
      intro c; rw [this c,hbk]
     have hcurk:cur S' k=some (g + 1):=by simp [cur,hget,qy]
     have hnx:S'.nx=S.nx:=by rw [← hS']
     have hT:S'.T=S.T:=by rw [← hS']
     obtain ⟨k1,k2⟩:=qc hR.toObjOk (cx':=cx) (S':=S') (w':=w') hS hc
      (fun kk xx hx=>by rw [hget] at hx; simp only [Option.some.injEq,jI.obj.injEq] at hx; obtain ⟨_,rfl⟩:=hx; simp only [qy]; omega)
      (fun g' _=>⟨g,hkg⟩)
      (fun g' h0 h2=>by
       unfold isIt at h0 h2
       rw [hc] at h0
       rw [hget] at h2
       simp only [Option.some.injEq,jI.obj.injEq,true_and,D.int.injEq] at h0 h2
       omega)
      hT hnx (fun ii hne=>by rw [← hS']; simp only [AL.aG]; rw [if_neg (Ne.symm hne)])
      (.inr ⟨3,_,hget,(hR.toObjOk.it _ _ _ _).2 ⟨by rw [hsz,← hbk]; exact hblt,fun c=>by rw [hfpk c,hbk]⟩⟩)
      (by omega) (by rw [← hw']; exact r4) (by rw [← hw']; exact r6) (by rw [← hw']; exact r5)
      (fun c hc1 hc2=>by
       rw [hheap,Array.getElem?_setIfInBounds_ne (fun q=>hc2 ((hfpk c).2 q.symm))])
      (fun _=>rfl) (fun _ _ _=>Iff.rfl) (fun _=>rfl) (fun _=>rfl) (fun c hc1=>.inl hc1)
      (fun c oo hc1=>(hS.objs k 3 _ hc).2 c oo hc1) (fun _ _ q _=>q) (fun _ _ q=>q) (fun c oo q=>by rw [hsz]; exact hS.lt c oo q)
     have hw2:w'.heap[b]? = some (.mapIter (some m) since (seen ++ [p.2.2]).toArray M.clk):=by
      rw [hheap,Array.getElem?_setIfInBounds_self,if_pos hblt,c4',p3]
      simp
     have hlive:∀ ii,cur S' ii ≠ none→cur S ii ≠ none:=fun ii hii=>by
      by_cases q:ii=k
      ·
       subst q; rw [ic hkg]; simp
      ·
       unfold cur at hii ⊢
       have:S'.H.get ii=S.H.get ii:=by rw [← hS']; simp only [AL.aG]; rw [if_neg (Ne.symm q)]
       rw [this,hT] at hii
       exact hii
     refine enter hg ⟨.tuple #[.bool true,x.key,x.val],w',by rw [hev]; exact r7,?_⟩
     refine hk (.go e' S') q2 cx _ w' k1 k2 (cK.put (e:=(t,.it k (g + 1) (some id) since (seen ++ [p.2.2]) M.clk) :: e) ?_ hp ?_) (put_defers _ _ _)
     ·
      refine ⟨he.size,fun t' x' hx'=>?_⟩
      rw [AL.bJ] at hx'
      by_cases q:t=t'
      ·
       subst q
       rw [if_pos rfl] at hx'
       cases hx'
       refine ⟨_,h1,.it k (g + 1) id since M.clk b m _ ⟨by rw [hnx]; exact hn.1,fun g' hg'=>by rw [hcurk] at hg'; cases hg'; exact Nat.le_refl _⟩ (hni.mono k2) (fun hcur=>?_) (fun _=>⟨hbk,hfk,fun ii hii hf=>honly ii (hlive ii hii) hf,hw2⟩)⟩
       exact hm
      ·
       rw [if_neg q] at hx'
       obtain ⟨v,v1,v2⟩:=he.rel t' x' hx'
       exact ⟨v,v1,v2.mono k2⟩
     ·
      obtain ⟨d1,d2⟩:=c5 j p x p1 p2
      refine .tup [.d (.bool true),.d p.1,p.2.1] [.bool true,x.key,x.val] rfl (fun j' x' u' hx' hu'=>?_)
      match j',hx',hu' with
      | 0,hx',hu'=>simp at hx' hu'; subst hx'; subst hu'; exact .of_bool _
      | 1,hx',hu'=>simp at hx' hu'; subst hx'; subst hu'; exact .d _ _ (d1.mono k2.prot)
      | 2,hx',hu'=>simp at hx' hu'; subst hx'; subst hu'; exact d2.mono k2
   ·
    cases hs
  ·
   cases hs
 ·
  cases hs
theorem qQ {R:aR} {C:bQ} (hR:fe R C) {h:iy} (hh:jW R C.P h) {cx:Cx} {S:St} {w:World} {nt:Nat} {e:Env} {a:Act} {ops:Array Oper} {o:Oper} {rs:List Stp}
  (hs:Ar C h nt ops o e S=some rs) (hS:aD R cx S w) (he:cK cx S w nt e a) {K:Act→World→Prop} {Q:Exit→Act→World→Prop} (hk:∀ r ∈ rs,After R cx S w nt a K Q r) {i:Nat} (hi:ops[i]? = some o) :
  wpOp C.P ops Q i K a w:=by
 have one:(di C noHand nt ops o e S).map ([·])=some rs→wpOp C.P ops Q i K a w:=by
  intro h1
  simp only [Option.map_eq_some_iff] at h1
  obtain ⟨r,h1,rfl⟩:=h1
  exact tL hR BO h1 hS he (hk r (by simp)) hi
 unfold Ar at hs
 split at hs
 ·
  rename_i t hop
  exact rV hR hop hs hS he hk hi
 ·
  rename_i c hop
  split at hs
  ·
   rename_i hw
   split at hs
   ·
    rename_i f args ho
    split at hs
    ·
     rename_i os hc
     unfold wpOp
     rw [hi]
     simp only
     rw [if_pos (bP he hw)]
     left
     obtain ⟨us,h1,h2,h3⟩:=cu hR hS he.eval o ho
     obtain ⟨⟨fn,f1,f2,f3⟩,hcalls⟩:=hh f args S os hc
     unfold Oper.wp
     rw [h3 fn f1 f2 f3]
     refine (hcalls cx w us hS h1 h2).mono (fun en w' hen=>?_)
     obtain ⟨⟨p,v,S'⟩,hr,cx',k1,k2,k3⟩:=hen
     obtain ⟨rr,q1,q2⟩:=kR hs _ hr
     cases p with
     | none =>
      simp only [Option.map_eq_some_iff] at q1
      obtain ⟨e',hp,rfl⟩:=q1
      obtain ⟨u,rfl,k3⟩:=k3
      exact hk (.go e' S') q2 cx' _ w' k1 k2 ((he.mono k2).put hp k3) (put_defers _ _ _)
     | some p =>
      simp only [Option.some.injEq] at q1
      subst q1
      obtain ⟨u,rfl,k3⟩:=k3
      exact hk (.stop p S') q2 cx' w' u k1 k2 k3
    ·
     cases hs
   ·
    exact one hs
  ·
   exact one hs
 ·
  exact one hs
theorem uo {R:aR} {C:bQ} (hR:fe R C) {h:iy} (hh:jW R C.P h) {nt:Nat} {ops:Array Oper} {Q:Exit→Act→World→Prop}:∀ (l:List Oper) (k:Nat) {cx:Cx} {S:St} {w:World} {e:Env} {a:Act} {rs:List Stp},
  (∀ j,l[j]? = ops[k + j]?)→uI C h nt ops l e S=some rs→aD R cx S w→cK cx S w nt e a →
  (∀ r ∈ rs,match r with
   | .go e' S'=>∀ cx' a' w',aD R cx' S' w'→Ext cx S w cx' S' w'→cK cx' S' w' nt e' a'→a'.defers=a.defers→Q .normal a' w'
   | .stop v S'=>∀ cx' a' w' u,aD R cx' S' w'→Ext cx S w cx' S' w'→ay cx' S' w' v u→a'.defers=a.defers→Q (.panic [{ v:=u,recovered:=false }]) a' w') →
  wpOps C.P ops Q ((List.range l.length).map (k + ·)) a w
 | [],k,cx,S,w,e,a,rs,hl,hev,hS,he,hk=>by
  simp only [uI,Option.some.injEq] at hev; subst hev
  exact hk (.go e S) (by simp) cx a w hS (Ext.refl w hS.wf) he rfl
 | o :: l,k,cx,S,w,e,a,rs,hl,hev,hS,he,hk=>by
  have h0:ops[k]? = some o:=by simpa using (hl 0).symm
  rw [List.length_cons,List.range_succ_eq_map,List.map_cons,wpOps_cons,Nat.add_zero]
  simp only [uI] at hev
  split at hev
  ·
   rename_i r1 hst
   refine qQ hR hh hst hS he (fun r hr=>?_) h0
   obtain ⟨r2,b1,b2⟩:=jD hev r hr
   cases r with
   | go e' S' =>
    intro cx1 a1 w1 s1 x1 er1 d1
    simp only at b1
    have ih:=uo hR hh (Q:=Q) l (k + 1) (cx:=cx1) (S:=S') (w:=w1) (e:=e') (a:=a1) (rs:=r2) (fun j=>by have:=hl (j + 1); simpa [Nat.add_assoc,Nat.add_comm 1 j] using this) b1 s1 er1 (fun r hr=>by
     have hk':=hk r (b2 r hr)
     cases r with
     | go e2 S2=>exact fun cx' a' w' q1 q2 q3 q4=>hk' cx' a' w' q1 (x1.trans q2) q3 (q4.trans d1)
     | stop v S2=>exact fun cx' a' w' u q1 q2 q3 q4=>hk' cx' a' w' u q1 (x1.trans q2) q3 (q4.trans d1))
    rw [List.map_map]
    have:((fun x=>k + x) ∘ Nat.succ)=(fun x=>k + 1 + x):=by funext x; simp; omega
    rw [this]; exact ih
   | stop v S' =>
    simp only [Option.some.injEq] at b1
    subst b1
    exact fun cx1 w1 u s1 x1 r1=>hk (.stop v S') (b2 _ (by simp)) cx1 a w1 u s1 x1 r1 rfl
  ·
   cases hev
end
end Go.Ev

namespace Go.Ev
noncomputable section
set_option linter.unusedVariables false
set_option linter.unusedSimpArgs false
theorem eD {n:Nat}:∀ {l:List AV},belows n l=true→∀ y ∈ l,y.under n=true
 | [],_,y,hy=>by cases hy
 | x :: l,h,y,hy=>by
  simp only [belows,Bool.and_eq_true] at h
  rcases List.mem_cons.1 hy with rfl | hy
  ·
   exact h.1
  ·
   exact eD h.2 y hy
theorem jQ {n:Nat}:∀ {H:AL jI},gL n H=true→∀ id b,AL.get H id=some b→(∀ g cs,b=.cells g cs→belows n cs=true)∧(∀ es,b=.map es→∀ p ∈ es.es,p.2.1.under n=true)
 | [],_,id,b,h=>by simp [AL.get] at h
 | (k,v) :: l,hb,id,b,h=>by
  have hrest:gL n l=true:=by cases v <;> simp only [gL,Bool.and_eq_true] at hb <;> first | exact hb.2 | exact hb
  rw [AL.bJ] at h
  by_cases hk:k=id
  ·
   rw [if_pos hk] at h
   cases h
   refine ⟨fun g cs hq=>?_,fun es hq=>?_⟩
   ·
    subst hq; simp only [gL,Bool.and_eq_true] at hb; exact hb.1
   ·
    subst hq; simp only [gL,Bool.and_eq_true,List.all_eq_true] at hb; exact hb.1
  ·
   rw [if_neg hk] at h; exact jQ hrest id b h
theorem AL.iM {α:Type}:∀ {l:AL α} {k:Nat} {v:α},AL.get l k=some v→(k,v) ∈ l
 | [],k,v,h=>by simp [AL.get] at h
 | (a,x) :: l,k,v,h=>by
  rw [AL.bJ] at h
  split at h
  ·
   rename_i hk; cases h; subst hk; simp
  ·
   exact List.mem_cons_of_mem _ (AL.iM h)
theorem AL.nX {α:Type}:∀ {l:AL α} {k:Nat},AL.has l k=true→∃ v,AL.get l k=some v
 | [],k,h=>by cases h
 | (a,x) :: l,k,h=>by
  simp only [AL.has] at h
  rw [AL.bJ]
  by_cases hk:a=k
  ·
   exact ⟨x,by rw [if_pos hk]⟩
  ·
   have:Nat.beq a k=false:=by
    cases hb:Nat.beq a k
    ·
     rfl
    ·
     exact absurd (Nat.eq_of_beq_eq_true hb) hk
   rw [this] at h
   obtain ⟨v,hv⟩:=AL.nX h
   exact ⟨v,by rw [if_neg hk]; exact hv⟩
theorem sD:∀ (l l':List (D × AV × Nat)),kD l l'=true→l=l'
 | [],l',h=>by cases l' <;> simp_all [kD]
 | (k,v,n) :: l,l',h=>by
  cases l' with
  | nil=>simp [kD] at h
  | cons p l' =>
   obtain ⟨k',v',n'⟩:=p
   simp only [kD,Bool.and_eq_true] at h
   rw [Nat.eq_of_beq_eq_true h.1.1.1,D.same_eq _ _ h.1.1.2,AV.same_eq _ _ h.1.2,sD _ _ h.2]
theorem su {x y:jI} (h:rM x y=true):x=y:=by
 unfold rM at h
 split at h
 ·
  simp only [Bool.and_eq_true] at h
  rw [Nat.eq_of_beq_eq_true h.1,AV.fJ _ _ h.2]
 ·
  rename_i m m'
  simp only [Bool.and_eq_true] at h
  obtain ⟨es,c⟩:=m
  obtain ⟨es',c'⟩:=m'
  simp only at h
  rw [Nat.eq_of_beq_eq_true h.1,sD _ _ h.2]
 ·
  simp only [Bool.and_eq_true] at h
  rw [Nat.eq_of_beq_eq_true h.1,D.same_eq _ _ h.2]
 ·
  cases h
theorem jS (l:AL Nat):∀ (cs:List AV),uX l cs=cs.map (AV.ren l)
 | []=>rfl
 | x :: cs=>by simp [uX,jS l cs]
theorem sH:∀ {l:AL Nat},xB (l.map (·.2))=true→∀ {i j a:Nat},(i,a) ∈ l→(j,a) ∈ l→i=j
 | [],_,i,j,a,h,_=>by cases h
 | p :: l,hn,i,j,a,hi,hj=>by
  simp only [List.map_cons,xB,Bool.and_eq_true,Bool.not_eq_true'] at hn
  have hmem:∀ {L:List Nat} {x:Nat},x ∈ L→vZ L x=true:=by
   intro L
   induction L with
   | nil=>intro x h; cases h
   | cons y L ih =>
    intro x h
    simp only [vZ]
    rcases List.mem_cons.1 h with rfl | h
    ·
     simp
    ·
     rw [ih h]; cases Nat.beq y x <;> rfl
  have hno:∀ {k:Nat},(k,p.2) ∉ l:=fun {k} hk=>by
   have:vZ (l.map (·.2)) p.2=true:=hmem (List.mem_map.2 ⟨(k,p.2),hk,rfl⟩)
   rw [hn.1] at this; cases this
  rcases List.mem_cons.1 hi with hi' | hi' <;> rcases List.mem_cons.1 hj with hj' | hj'
  ·
   rw [← hj'] at hi'; exact (Prod.mk.inj hi').1
  ·
   exact absurd (by rw [← hi']; exact hj') (hno (k:=j))
  ·
   exact absurd (by rw [← hj']; exact hi') (hno (k:=i))
  ·
   exact sH hn.2 hi' hj'
structure nN (n0:Nat) (l:AL Nat) (S S':St):Prop where
 lo:∀ j,j < n0→rn l j=j
 hi:∀ j,AL.has l j=true→n0 ≤ rn l j
 nx:n0 ≤ S'.nx
 inj:∀ i j,AL.has l i=true→AL.has l j=true→rn l i=rn l j→i=j
 hH:∀ j b,S'.H.get j=some b→j < S'.nx∧(j < n0∨AL.has l j=true)∧S.H.get (rn l j)=some (b.ren l)
 hT:∀ j n,S'.T.get j=some n→j < S'.nx∧(j < n0∨AL.has l j=true)∧S.T.get (rn l j)=some n
 below:gL S'.nx S'.H=true
theorem ze {n0:Nat} {l:AL Nat} {e e':Env} {S S':St} (h:A8 n0 l e S e' S'=true) :
  nN n0 l S S'∧∀ t x,AL.get e' t=some x→x.under S'.nx=true∧AL.get e t=some (x.ren l):=by
 simp only [A8,Bool.and_eq_true,List.all_eq_true] at h
 obtain ⟨⟨⟨⟨⟨⟨h1,h2⟩,h3⟩,h4⟩,h5⟩,h6⟩,h7⟩:=h
 have hval:∀ j,AL.has l j=true→∃ i,AL.get l j=some i∧rn l j=i∧(j,i) ∈ l:=fun j hj=>by
  obtain ⟨i,hi⟩:=AL.nX hj
  exact ⟨i,hi,by simp [rn,hi],AL.iM hi⟩
 refine ⟨⟨fun j hj=>?_,fun j hj=>?_,Nat.le_of_ble_eq_true h3,fun i j hi hj hq=>?_,fun j b hb=>?_,fun j n hn=>?_,h5⟩,fun t x hx=>?_⟩
 ·
  unfold rn
  cases hg:AL.get l j with
  | none=>rfl
  | some i =>
   have:=(h1 _ (AL.iM hg)).1
   have:=Nat.le_of_ble_eq_true this
   simp at this; omega
 ·
  obtain ⟨i,_,hi,hm⟩:=hval j hj
  rw [hi]
  exact Nat.le_of_ble_eq_true (h1 _ hm).2
 ·
  obtain ⟨a,_,ha,hma⟩:=hval i hi
  obtain ⟨b,_,hb,hmb⟩:=hval j hj
  rw [ha,hb] at hq
  subst hq
  exact sH h2 hma hmb
 ·
  have:=h6 _ (AL.iM hb)
  simp only [Bool.or_eq_true] at this
  obtain ⟨⟨q1,q2⟩,q3⟩:=this
  refine ⟨Nat.le_of_ble_eq_true q1,q2.imp (fun z=>Nat.le_of_ble_eq_true z) id,?_⟩
  split at q3
  ·
   rename_i b' hb'; rw [hb',su q3]
  ·
   cases q3
 ·
  have:=h7 _ (AL.iM hn)
  simp only [Bool.or_eq_true] at this
  obtain ⟨⟨q1,q2⟩,q3⟩:=this
  refine ⟨Nat.le_of_ble_eq_true q1,q2.imp (fun z=>Nat.le_of_ble_eq_true z) id,?_⟩
  split at q3
  ·
   rename_i b' hb'; rw [hb',Nat.eq_of_beq_eq_true q3]
  ·
   cases q3
 ·
  have:=h4 _ (AL.iM hx)
  refine ⟨this.1,?_⟩
  have q3:=this.2
  split at q3
  ·
   rename_i y hy
   simp only at hy
   rw [hy,AV.same_eq _ _ q3]
  ·
   cases q3
def Cx.pull (cx:Cx) (l:AL Nat):Cx:={ bm:=fun j=>cx.bm (rn l j),fp:=fun j=>cx.fp (rn l j),tsz:=fun j=>cx.tsz (rn l j),tot:=fun j=>cx.tot (rn l j),fr:=cx.fr }
section
variable {R:aR} {cx cx0:Cx} {S S' S0:St} {w w0:World} {n0:Nat} {l:AL Nat}
theorem nN.cur (f:nN n0 l S S') (hS:aD R cx S w) {j g:Nat} (h:Ev.cur S' j=some g):Ev.cur S (rn l j)=some g:=by
 unfold Ev.cur at h ⊢
 cases hb:S'.H.get j with
 | some b =>
  rw [hb] at h
  rw [(f.hH j b hb).2.2]
  cases b <;> exact h
 | none =>
  rw [hb] at h
  simp only at h
  have hT:=(f.hT j g h).2.2
  cases hq:S.H.get (rn l j) with
  | some b=>have:=hS.lU _ b hq; rw [this] at hT; cases hT
  | none=>exact hT
theorem nN.live (f:nN n0 l S S') {j:Nat} (h:Ev.cur S' j ≠ none):j < S'.nx∧(j < n0∨AL.has l j=true):=by
 unfold Ev.cur at h
 cases hb:S'.H.get j with
 | some b=>exact ⟨(f.hH j b hb).1,(f.hH j b hb).2.1⟩
 | none =>
  rw [hb] at h
  simp only at h
  cases hT:S'.T.get j with
  | none=>exact absurd hT h
  | some n=>exact ⟨(f.hT j n hT).1,(f.hT j n hT).2.1⟩
theorem nN.isIt (f:nN n0 l S S') {j g:Nat} (h:Ev.isIt S' j g):Ev.isIt S (rn l j) g:=by
 unfold Ev.isIt at h ⊢
 rw [(f.hH j _ h).2.2]; rfl
theorem nN.uniq (f:nN n0 l S S') {i j:Nat} (hi:Ev.cur S' i ≠ none) (hj:Ev.cur S' j ≠ none) (h:rn l i=rn l j):i=j:=by
 rcases (f.live hi).2 with a | a <;> rcases (f.live hj).2 with b | b
 ·
  rw [f.lo i a,f.lo j b] at h; exact h
 ·
  rw [f.lo i a] at h; have:=f.hi j b; omega
 ·
  rw [f.lo j b] at h; have:=f.hi i a; omega
 ·
  exact f.inj i j a b h
theorem nN.El (f:nN n0 l S S') (hS:aD R cx S w) {y:AV} {v:Value} (h:ay cx S w y v):∀ x:AV,x.ren l=y→x.under S'.nx=true→ay (cx.pull l) S' w x v:=by
 have nm:∀ {j g:Nat},Names S (rn l j) g→j < S'.nx→Names S' j g:=fun hn hlt=>⟨hlt,fun g' hg=>hn.2 g' (f.cur hS hg)⟩
 have lst:∀ {ys:List AV} {vs:List Value} {xs:List AV},(∀ (i:Nat) (y:AV) (v:Value),ys[i]? = some y→vs[i]? = some v→∀ x:AV,x.ren l=y→x.under S'.nx=true→ay (cx.pull l) S' w x v)→uX l xs=ys→belows S'.nx xs=true →
   ∀ (i:Nat) (x:AV) (v:Value),xs[i]? = some x→vs[i]? = some v→ay (cx.pull l) S' w x v:=fun ih hq hb i x v hx hv=>by
  refine ih i (x.ren l) v ?_ hv x rfl (eD hb x (List.mem_of_getElem? hx))
  rw [← hq,jS,List.getElem?_map,hx]; rfl
 induction h with
 | d y v h =>
  intro x hx hu
  cases x <;> first | (cases hx; done) | skip
  case d z=>simp only [AV.ren,AV.d.injEq] at hx; subst hx; exact .d _ v h
  case it k g id s sn st=>cases id <;> cases hx
 | tsl ys tok b off cap hn h hp =>
  intro x hx hu
  cases x <;> first | (cases hx; done) | skip
  case tsl zs t =>
   simp only [AV.ren,AV.tsl.injEq] at hx
   obtain ⟨rfl,rfl⟩:=hx
   simp only [AV.under] at hu
   exact .tsl _ t b off cap (nm hn (Nat.le_of_ble_eq_true hu)) h (fun hc=>hp (f.cur hS hc))
  case it k g id s sn st=>cases id <;> cases hx
 | ptr id g off b hn hp =>
  intro x hx hu
  cases x <;> first | (cases hx; done) | skip
  case ptr t g' o' =>
   simp only [AV.ren,AV.ptr.injEq] at hx
   obtain ⟨rfl,rfl,rfl⟩:=hx
   simp only [AV.under] at hu
   exact .ptr t _ _ b (nm hn (Nat.le_of_ble_eq_true hu)) (fun hc=>hp (f.cur hS hc))
  case it k g id s sn st=>cases id <;> cases hx
 | msl id g off len lim sz b cap hn hl hcap h63 hp =>
  intro x hx hu
  cases x <;> first | (cases hx; done) | skip
  case msl t g' o' a1 a2 a3 =>
   simp only [AV.ren,AV.msl.injEq] at hx
   obtain ⟨rfl,rfl,rfl,rfl,rfl,rfl⟩:=hx
   simp only [AV.under] at hu
   exact .msl t _ _ _ _ _ b cap (nm hn (Nat.le_of_ble_eq_true hu)) hl hcap h63 (fun hc=>hp (f.cur hS hc))
  case it k g id s sn st=>cases id <;> cases hx
 | eptr y off b o vs h hc =>
  intro x hx hu
  cases x <;> first | (cases hx; done) | skip
  case eptr z o'=>simp only [AV.ren,AV.eptr.injEq] at hx; obtain ⟨rfl,rfl⟩:=hx; exact .eptr _ _ b o vs h hc
  case it k g id s sn st=>cases id <;> cases hx
 | map id b hn hp =>
  intro x hx hu
  cases x <;> first | (cases hx; done) | skip
  case map t =>
   simp only [AV.ren,AV.map.injEq] at hx
   subst hx
   simp only [AV.under] at hu
   exact .map t b (nm hn (Nat.le_of_ble_eq_true hu)) (fun hc=>hp (f.cur hS hc))
  case it k g id s sn st=>cases id <;> cases hx
 | asl id g off len sz b hn h63 hp =>
  intro x hx hu
  cases x <;> first | (cases hx; done) | skip
  case asl t g' o' a1 a2 =>
   simp only [AV.ren,AV.asl.injEq] at hx
   obtain ⟨rfl,rfl,rfl,rfl,rfl⟩:=hx
   simp only [AV.under] at hu
   exact .asl t _ _ _ _ b (nm hn (Nat.le_of_ble_eq_true hu)) h63 (fun hc=>hp (f.cur hS hc))
  case it k g id s sn st=>cases id <;> cases hx
 | fn g cs vs hl h ih =>
  intro x hx hu
  cases x <;> first | (cases hx; done) | skip
  case fn g' xs =>
   simp only [AV.ren,AV.fn.injEq] at hx
   obtain ⟨rfl,hq⟩:=hx
   simp only [AV.under] at hu
   exact .fn _ xs vs (by rw [hl,← hq,jS]; simp) (lst ih hq hu)
  case it k g id s sn st=>cases id <;> cases hx
 | agg ys vs hl ho h ih =>
  intro x hx hu
  cases x <;> first | (cases hx; done) | skip
  case agg xs =>
   simp only [AV.ren,AV.agg.injEq] at hx
   simp only [AV.under] at hu
   exact .agg xs vs (by rw [hl,← hx,jS]; simp) ho (lst ih hx hu)
  case it k g id s sn st=>cases id <;> cases hx
 | tup ys vs hl h ih =>
  intro x hx hu
  cases x <;> first | (cases hx; done) | skip
  case tup xs =>
   simp only [AV.ren,AV.tup.injEq] at hx
   simp only [AV.under] at hu
   exact .tup xs vs (by rw [hl,← hx,jS]; simp) (lst ih hx hu)
  case it k g id s sn st=>cases id <;> cases hx
 | any v =>
  intro x hx hu
  cases x <;> first | (cases hx; done) | skip
  case any=>exact .any v
  case it k g id s sn st=>cases id <;> cases hx
 | it0 k g since st b seen hn hp =>
  intro x hx hu
  cases x <;> first | (cases hx; done) | skip
  case it k' g' id' s sn st' =>
   cases id' with
   | some i=>cases hx
   | none =>
    simp only [AV.ren,AV.it.injEq,true_and] at hx
    obtain ⟨rfl,rfl,rfl,rfl,rfl⟩:=hx
    simp only [AV.under] at hu
    refine .it0 k' _ _ _ b _ (nm hn (Nat.le_of_ble_eq_true hu)) (fun hk=>?_)
    obtain ⟨p1,p2,p3,p4⟩:=hp (f.isIt hk)
    exact ⟨p1,p2,fun i hi hf=>f.uniq hi (by rw [ic hk]; simp) (p3 _ (by
     cases hc:Ev.cur S' i with
     | none=>exact absurd hc hi
     | some g=>rw [f.cur hS hc]; simp) hf),p4⟩
 | it k g id since st b m seen hn hni hm hp =>
  intro x hx hu
  cases x <;> first | (cases hx; done) | skip
  case it k' g' id' s sn st' =>
   cases id' with
   | none=>cases hx
   | some i' =>
    simp only [AV.ren,AV.it.injEq,Option.some.injEq] at hx
    obtain ⟨rfl,rfl,rfl,rfl,rfl,rfl⟩:=hx
    simp only [AV.under,Bool.and_eq_true] at hu
    refine .it k' _ i' _ _ b m _ (nm hn (Nat.le_of_ble_eq_true hu.1)) (nm hni (Nat.le_of_ble_eq_true hu.2)) (fun hc=>hm (f.cur hS hc)) (fun hk=>?_)
    obtain ⟨p1,p2,p3,p4⟩:=hp (f.isIt hk)
    exact ⟨p1,p2,fun i hi hf=>f.uniq hi (by rw [ic hk]; simp) (p3 _ (by
     cases hc:Ev.cur S' i with
     | none=>exact absurd hc hi
     | some g=>rw [f.cur hS hc]; simp) hf),p4⟩
theorem nN.FP (f:nN n0 l S S') (hS:aD R cx S w):aD R (cx.pull l) S' w:=by
 have hlive:∀ {j},Ev.live S' j→Ev.live S (rn l j):=fun {j} hj=>by
  unfold Ev.live at *
  cases hc:Ev.cur S' j with
  | none=>exact absurd hc hj
  | some g=>rw [f.cur hS hc]; simp
 refine ⟨fun id hl=>(f.live hl).1,fun id b hi=>?_,fun id g cs hi=>?_,fun id es hi=>?_,fun id k x hi=>?_,fun id en hi=>?_,fun id id' b a1 a2 f1 f2=>?_,hS.lt,hS.stat⟩
 ·
  cases hT:S'.T.get id with
  | none=>rfl
  | some n=>have:=(f.hT id n hT).2.2; rw [hS.lU _ _ (f.hH id b hi).2.2] at this; cases this
 ·
  obtain ⟨c1,c2,arr,el,c3,c4,c5⟩:=hS.cells (rn l id) g (uX l cs) (f.hH id _ hi).2.2
  have hln:(uX l cs).length=cs.length:=by rw [jS,List.length_map]
  rw [hln] at c4
  have hb:=(jQ f.below id _ hi).1 g cs rfl
  refine ⟨c1,c2,arr,el,c3,c4,fun i x hx=>?_⟩
  obtain ⟨v,v1,v2,v3⟩:=c5 i (x.ren l) (by rw [jS,List.getElem?_map,hx]; rfl)
  exact ⟨v,v1,f.El hS v2 x rfl (eD hb x (List.mem_of_getElem? hx)),v3⟩
 ·
  obtain ⟨c1,c2,ms,clk,c3,c4,c5⟩:=hS.maps (rn l id) { es with es:=es.es.map fun (p:D × AV × Nat)=>(p.1,p.2.1.ren l,p.2.2) } (f.hH id _ hi).2.2
  obtain ⟨c4,c4',c4''⟩:=c4
  have hb:=(jQ f.below id _ hi).2 es rfl
  have hget:∀ (i:Nat) (p:D × AV × Nat),es.es[i]? = some p→(es.es.map fun (p:D × AV × Nat)=>(p.1,p.2.1.ren l,p.2.2))[i]? = some (p.1,p.2.1.ren l,p.2.2):=fun i p hp=>by
   rw [List.getElem?_map,hp]; rfl
  refine ⟨c1,c2,ms,clk,c3,⟨by simpa using c4,c4',fun i p m hp hm=>by have:=c4'' i _ m (hget i p hp) hm; exact this⟩,fun i p m hp hm=>?_⟩
  obtain ⟨v1,v2⟩:=c5 i _ m (hget i p hp) hm
  exact ⟨v1,f.El hS v2 _ rfl (hb p (List.mem_of_getElem? hp))⟩
 ·
  exact hS.objs _ k x (f.hH id _ hi).2.2
 ·
  obtain ⟨c1,c2,c3⟩:=hS.toks _ _ (f.hT id _ hi).2.2
  exact ⟨c1,c2,c3⟩
 ·
  exact f.uniq a1 a2 (hS.sep _ _ b (hlive a1) (hlive a2) f1 f2)
theorem nN.ext (f:nN S0.nx l S S') (hS:aD R cx S w) (e:Ext cx0 S0 w0 cx S w):Ext cx0 S0 w0 (cx.pull l) S' w where
 size:=e.size
 os:=e.os
 tape:=e.tape
 output:=e.output
 nx:=f.nx
 prot:=e.prot
 other:=fun b hb hn=>e.other b hb (fun id hl hf=>by
  obtain ⟨q1,g,q2,q3⟩:=hn id hl hf
  have:=f.isIt q3
  rw [f.lo id q1] at this
  exact ⟨q1,g,q2,this⟩)
 own:=fun id b hl hf=>by
  have hl':Ev.live S (rn l id):=by
   unfold Ev.live at *
   cases hc:Ev.cur S' id with
   | none=>exact absurd hc hl
   | some g=>rw [f.cur hS hc]; simp
  obtain ⟨p,q⟩:=e.own _ b hl' hf
  refine ⟨fun h=>?_,fun h=>?_⟩
  ·
   rw [f.lo id h] at p; exact p h
  ·
   rcases (f.live hl).2 with z | z
   ·
    omega
   ·
    exact q (f.hi id z)
 back:=fun id g hid hi=>by
  have:=f.isIt hi
  rw [f.lo id hid] at this
  exact e.back id g hid this
 keep:=fun id g b hid h0 hi hf=>by
  have:=f.isIt hi
  rw [f.lo id hid] at this
  have:=e.keep id g b hid h0 this hf
  show cx.fp (rn l id) b
  rw [f.lo id hid]; exact this
 curs:=fun id g hid hg=>by
  have:=f.cur hS hg
  rw [f.lo id hid] at this
  obtain ⟨g0,h0,h1,h2⟩:=e.curs id g hid this
  refine ⟨g0,h0,h1,fun hq=>?_⟩
  show cx.bm (rn l id)=_∧cx.tsz (rn l id)=_∧cx.tot (rn l id)=_
  rw [f.lo id hid]; exact h2 hq
theorem yR {nt:Nat} {e:Env} {a:Act} (S0:St) (hS:aD R cx S w) (x:Ext cx0 S0 w0 cx S w) (he:cK cx S w nt e a) :
  ∃ cx',aD R cx' (canon S0 nt e S).2 w∧Ext cx0 S0 w0 cx' (canon S0 nt e S).2 w∧cK cx' (canon S0 nt e S).2 w nt (canon S0 nt e S).1 a:=by
 unfold canon
 simp only
 cases hr:A8 S0.nx (wF S0 nt e S).1 e S (wF S0 nt e S).2.1 (wF S0 nt e S).2.2 with
 | false=>exact ⟨cx,hS,x,he⟩
 | true =>
  simp only [cond_true]
  obtain ⟨f,g⟩:=ze hr
  refine ⟨cx.pull _,f.FP hS,f.ext hS x,he.size,fun t y hy=>?_⟩
  obtain ⟨g1,g2⟩:=g t y hy
  obtain ⟨v,v1,v2⟩:=he.rel t _ g2
  exact ⟨v,v1,f.El hS v2 y rfl g1⟩
end
end
end Go.Ev

namespace Go.Ev
noncomputable section
set_option linter.unusedVariables false
set_option linter.unusedSimpArgs false
theorem yD:∀ {x y:AL jI},Az x y=true→x=y
 | [],[],_=>rfl
 | [],_ :: _,h=>by cases h
 | _ :: _,[],h=>by cases h
 | (k,b) :: l,(k',b') :: l',h=>by
  simp only [Az,Bool.and_eq_true] at h
  rw [Nat.eq_of_beq_eq_true h.1.1,su h.1.2,yD h.2]
theorem yY:∀ {x y:AL Nat},Ah x y=true→x=y
 | [],[],_=>rfl
 | [],_ :: _,h=>by cases h
 | _ :: _,[],h=>by cases h
 | (k,b) :: l,(k',b') :: l',h=>by
  simp only [Ah,Bool.and_eq_true] at h
  rw [Nat.eq_of_beq_eq_true h.1.1,Nat.eq_of_beq_eq_true h.1.2,yY h.2]
theorem xO:∀ {x y:Env},AU x y=true→x=y
 | [],[],_=>rfl
 | [],_ :: _,h=>by cases h
 | _ :: _,[],h=>by cases h
 | (k,b) :: l,(k',b') :: l',h=>by
  simp only [AU,Bool.and_eq_true] at h
  rw [Nat.eq_of_beq_eq_true h.1.1,AV.same_eq _ _ h.1.2,xO h.2]
theorem yH {x y:St} (h:Ai x y=true):x=y:=by
 obtain ⟨H,T,nx⟩:=x
 obtain ⟨H',T',nx'⟩:=y
 simp only [Ai,Bool.and_eq_true] at h
 rw [Nat.eq_of_beq_eq_true h.1.1,yY h.1.2,yD h.2]
theorem yG {x y:Item} (h:mr x y=true):x=y:=by
 obtain ⟨l,e,S⟩:=x
 obtain ⟨l',e',S'⟩:=y
 simp only [mr,Bool.and_eq_true] at h
 rw [eq_of_beq h.1.1,xO h.1.2,yH h.2]
theorem lQ:∀ {l:List Item},∀ x ∈ l,x ∈ qg l
 | [],x,hx=>by cases hx
 | y :: l,x,hx=>by
  simp only [qg]
  rcases List.mem_cons.1 hx with rfl | hx
  ·
   cases hh:l.any (mr x) with
   | false=>simp
   | true =>
    simp only [cond_true]
    rw [List.any_eq_true] at hh
    obtain ⟨z,hz,hs⟩:=hh
    have:=yG hs
    subst this
    exact lQ x hz
  ·
   cases hh:l.any (mr y) with
   | false=>exact List.mem_cons_of_mem _ (lQ x hx)
   | true=>exact lQ x hx
theorem xL {R:aR} {C:bQ} (hR:fe R C) {h:iy} (hh:jW R C.P h) {nt:Nat} {ops:Array Oper} {S0:St} {cx0:Cx} {w0:World} {Q:Exit→Act→World→Prop} {df:List Deferred} :
  ∀ (n:Nat) (l rs:List Item),ym C h nt ops S0 n l=some rs→∀ x ∈ l,∀ (cx:Cx) (w:World) (a:Act),aD R cx x.S w→Ext cx0 S0 w0 cx x.S w→cK cx x.S w nt x.e a→a.defers=df →
  (∀ y ∈ rs,∀ cx' a' w',aD R cx' y.S w'→Ext cx0 S0 w0 cx' y.S w'→cK cx' y.S w' nt y.e a'→a'.defers=df→Q .normal a' w')→wpAny C.P .any ops Q n x.listed a w:=by
 intro n
 induction n with
 | zero =>
  intro l rs hd x hx cx w a hS hE he hdf hk
  simp only [ym] at hd
  cases ha:(l.all fun x=>(Region.ready .any ops x.listed).isEmpty) with
  | false=>rw [ha] at hd; cases hd
  | true =>
   rw [ha] at hd
   simp only [cond_true,Option.some.injEq] at hd
   subst hd
   have:=List.all_eq_true.1 ha x hx
   exact ⟨List.isEmpty_iff.1 this,hk x hx cx a w hS hE he hdf⟩
 | succ n ih =>
  intro l rs hd x hx cx w a hS hE he hdf hk
  simp only [ym] at hd
  split at hd
  ·
   rename_i l' hl'
   obtain ⟨ys,hy1,hy2⟩:=jD hl' x hx
   unfold expand at hy1
   split at hy1
   ·
    cases hy1
   ·
    rename_i rd hrd
    refine ⟨fun hnil=>absurd hnil hrd,fun i hi=>?_⟩
    obtain ⟨zs,hz1,hz2⟩:=jD hy1 i hi
    split at hz1
    ·
     rename_i o ho
     split at hz1
     ·
      rename_i rs' hst
      refine qQ hR hh hst hS he (fun r hr=>?_) ho
      obtain ⟨it,hi1,hi2⟩:=kR hz1 r hr
      cases r with
      | stop v S'=>cases hi1
      | go e' S' =>
       simp only [Option.some.injEq] at hi1
       subst hi1
       intro cx1 a1 w1 s1 x1 er1 d1
       obtain ⟨cx2,t1,t2,t3⟩:=yR (nt:=nt) S0 s1 (hE.trans x1) er1
       exact ih (qg l') rs hd _ (lQ _ (hy2 _ (hz2 _ hi2))) cx2 w1 a1 t1 t2 t3 (d1.trans hdf) hk
     ·
      cases hz1
    ·
     cases hz1
  ·
   cases hd
end
end Go.Ev

namespace Go.Ev
noncomputable section
set_option linter.unusedVariables false
set_option linter.unusedSimpArgs false
theorem AL.rQ {α:Type}:∀ (l:AL α) (seen:List Nat) (n:Nat),AL.get (AL.tidy l seen) n=if seen.contains n then none else AL.get l n
 | [],seen,n=>by simp [AL.tidy,AL.get]
 | (k,v) :: l,seen,n=>by
  simp only [AL.tidy]
  cases hk:seen.contains k with
  | true =>
   simp only [cond_true]
   rw [AL.rQ l seen n,AL.bJ]
   by_cases hn:k=n
   ·
    subst hn; rw [hk]; simp
   ·
    simp [hn]
  | false =>
   simp only [cond_false]
   rw [AL.bJ,AL.bJ,AL.rQ l (k :: seen) n]
   by_cases hn:k=n
   ·
    subst hn; rw [hk]; simp
   ·
    simp [hn,Ne.symm hn,List.contains_cons]
theorem AL.dV {α:Type}:∀ (l m:AL α) (n:Nat) (x:α),AL.get (AL.over l m) n=some x→AL.get m n=some x∧AL.get l n ≠ none
 | [],m,n,x,h=>by simp [AL.over,AL.get] at h
 | (k,v) :: l,m,n,x,h=>by
  simp only [AL.over] at h
  rw [AL.bJ]
  cases hm:AL.get m k with
  | none =>
   rw [hm] at h
   have:=AL.dV l m n x h
   refine ⟨this.1,?_⟩
   by_cases hn:k=n
   ·
    simp [hn]
   ·
    simp [hn]; exact this.2
  | some y =>
   rw [hm] at h
   simp only [AL.bJ] at h
   by_cases hn:k=n
   ·
    subst hn; simp at h; subst h; exact ⟨hm,by simp⟩
   ·
    rw [if_neg hn] at h
    have:=AL.dV l m n x h
    exact ⟨this.1,by simp [hn]; exact this.2⟩
theorem qi (n j:Nat):(Array.replicate n false).getD j false=false:=by
 unfold Array.getD; split <;> simp
theorem sW {n:Nat}:∀ {e:Env},tF n e=true→∀ t x,AL.get e t=some x→x.under n=true
 | [],_,t,x,h=>by simp [AL.get] at h
 | (k,v) :: l,hb,t,x,h=>by
  simp only [tF,Bool.and_eq_true] at hb
  rw [AL.bJ] at h
  by_cases hk:k=t
  ·
   rw [if_pos hk] at h; cases h; exact hb.1
  ·
   rw [if_neg hk] at h; exact sW hb.2 t x h
def il (S0 S:St):St:={ H:=AL.over S0.H S.H,T:=AL.over S0.T S.T,nx:=S0.nx }
theorem gD {R:aR} {cx:Cx} {S0 S:St} {w:World} (h:aD R cx S w) {id g:Nat} (hc:cur (il S0 S) id=some g):cur S id=some g:=by
 unfold cur at hc ⊢
 unfold il at hc
 simp only at hc
 cases hH:AL.get (AL.over S0.H S.H) id with
 | some b =>
  rw [hH] at hc
  rw [(AL.dV _ _ _ _ hH).1]
  cases b <;> exact hc
 | none =>
  rw [hH] at hc
  simp only at hc
  have hT:=(AL.dV _ _ _ _ hc).1
  cases hS:S.H.get id with
  | some b=>have:=h.lU id b hS; rw [this] at hT; cases hT
  | none=>exact hT
theorem Bo {S0 S:St} {id:Nat} (hl:live (il S0 S) id):live S0 id:=by
 unfold live cur at hl ⊢
 unfold il at hl
 simp only at hl
 cases hH:AL.get (AL.over S0.H S.H) id with
 | some b =>
  have:=(AL.dV _ _ _ _ hH).2
  cases h0:S0.H.get id with
  | none=>exact absurd h0 this
  | some b0=>cases b0 <;> simp
 | none =>
  rw [hH] at hl
  simp only at hl
  cases hT:AL.get (AL.over S0.T S.T) id with
  | none=>exact absurd hT hl
  | some en =>
   have:=(AL.dV _ _ _ _ hT).2
   cases h0:S0.H.get id with
   | none=>exact this
   | some b0=>cases b0 <;> simp
theorem kI {S0 S:St} {k g:Nat} (h:isIt (il S0 S) k g):isIt S k g:=(AL.dV _ _ _ _ h).1
theorem tV {R:aR} {cx:Cx} {S0 S:St} {w:World} (h:aD R cx S w) {i:Nat} (hi:cur (il S0 S) i ≠ none):cur S i ≠ none:=by
 cases hc:cur (il S0 S) i with
 | none=>exact absurd hc hi
 | some g=>rw [gD h hc]; simp
theorem ay.drop {R:aR} {cx:Cx} {S0 S:St} {w:World} (h:aD R cx S w) {x:AV} {v:Value} (hx:ay cx S w x v) (hu:x.under S0.nx=true):ay cx (il S0 S) w x v:=by
 have nm:∀ {id g:Nat},Names S id g→id < S0.nx→Names (il S0 S) id g:=fun hn hlt=>⟨hlt,fun g' hg=>hn.2 g' (gD h hg)⟩
 induction hx with
 | d x v hd=>exact .d x v hd
 | tsl xs tok b off cap hn hd hp =>
  simp only [AV.under] at hu
  exact .tsl xs tok b off cap (nm hn (Nat.le_of_ble_eq_true hu)) hd (fun hc=>hp (gD h hc))
 | ptr id g off b hn hp =>
  simp only [AV.under] at hu
  exact .ptr id g off b (nm hn (Nat.le_of_ble_eq_true hu)) (fun hc=>hp (gD h hc))
 | msl id g off len lim sz b cap hn hl hcap h63 hp =>
  simp only [AV.under] at hu
  exact .msl id g off len lim sz b cap (nm hn (Nat.le_of_ble_eq_true hu)) hl hcap h63 (fun hc=>hp (gD h hc))
 | any v=>exact .any v
 | eptr x off b o vs hd hc=>exact .eptr x off b o vs hd hc
 | map id b hn hp =>
  simp only [AV.under] at hu
  exact .map id b (nm hn (Nat.le_of_ble_eq_true hu)) (fun hc=>hp (gD h hc))
 | asl id g off len sz b hn h63 hp =>
  simp only [AV.under] at hu
  exact .asl id g off len sz b (nm hn (Nat.le_of_ble_eq_true hu)) h63 (fun hc=>hp (gD h hc))
 | fn f cs vs hl hr ih=>exact .fn f cs vs hl (fun i x v hx hv=>ih i x v hx hv (by simp only [AV.under] at hu; exact eD hu x (List.mem_of_getElem? hx)))
 | agg xs vs hl ho hr ih=>exact .agg xs vs hl ho (fun i x v hx hv=>ih i x v hx hv (by simp only [AV.under] at hu; exact eD hu x (List.mem_of_getElem? hx)))
 | tup xs vs hl hr ih=>exact .tup xs vs hl (fun i x v hx hv=>ih i x v hx hv (by simp only [AV.under] at hu; exact eD hu x (List.mem_of_getElem? hx)))
 | it0 k g since st b seen hn hp =>
  simp only [AV.under] at hu
  refine .it0 k g since st b seen (nm hn (Nat.le_of_ble_eq_true hu)) (fun hk=>?_)
  obtain ⟨p1,p2,p3,p4⟩:=hp (kI hk)
  exact ⟨p1,p2,fun i hi hf=>p3 i (tV h hi) hf,p4⟩
 | it k g id since st b m seen hn hni hm hp =>
  simp only [AV.under,Bool.and_eq_true] at hu
  refine .it k g id since st b m seen (nm hn (Nat.le_of_ble_eq_true hu.1)) (nm hni (Nat.le_of_ble_eq_true hu.2)) (fun hc=>hm (gD h hc)) (fun hk=>?_)
  obtain ⟨p1,p2,p3,p4⟩:=hp (kI hk)
  exact ⟨p1,p2,fun i hi hf=>p3 i (tV h hi) hf,p4⟩
theorem tK {R:aR} {cx0 cx:Cx} {S0 S:St} {w0 w:World} (wf0:∀ id,live S0 id→id < S0.nx) (h:aD R cx S w) (e:Ext cx0 S0 w0 cx S w) (hb:gL S0.nx (AL.over S0.H S.H)=true) :
  aD R cx (il S0 S) w∧Ext cx0 S0 w0 cx (il S0 S) w:=by
 have hlS:∀ id,live (il S0 S) id→live S id:=fun id hl=>by
  unfold live at *
  cases hc:cur (il S0 S) id with
  | none=>exact absurd hc hl
  | some g=>rw [gD h hc]; simp
 refine ⟨⟨fun id hl=>wf0 id (Bo hl),fun id b hi=>?_,fun id g cs hi=>?_,fun id es hi=>?_,fun id k x hi=>?_,fun id en hi=>?_,fun id id' b a1 a2=>h.sep id id' b (hlS id a1) (hlS id' a2),h.lt,h.stat⟩,?_⟩
 ·
  have hS:=(AL.dV _ _ _ _ hi).1
  cases hT:(il S0 S).T.get id with
  | none=>rfl
  | some en=>have:=(AL.dV _ _ _ _ hT).1; rw [h.lU id b hS] at this; cases this
 ·
  obtain ⟨c1,c2,arr,el,c3,c4,c5⟩:=h.cells id g cs (AL.dV _ _ _ _ hi).1
  have hbl:=(jQ hb id _ hi).1 g cs rfl
  refine ⟨c1,c2,arr,el,c3,c4,fun i x hx=>?_⟩
  obtain ⟨v,v1,v2,v3⟩:=c5 i x hx
  exact ⟨v,v1,v2.drop h (eD hbl x (List.mem_of_getElem? hx)),v3⟩
 ·
  obtain ⟨c1,c2,ms,clk,c3,c4,c5⟩:=h.maps id es (AL.dV _ _ _ _ hi).1
  have hbl:=(jQ hb id _ hi).2 es rfl
  refine ⟨c1,c2,ms,clk,c3,c4,fun i p m hp hm=>?_⟩
  obtain ⟨v1,v2⟩:=c5 i p m hp hm
  exact ⟨v1,v2.drop h (hbl p (List.mem_of_getElem? hp))⟩
 ·
  exact h.objs id k x (AL.dV _ _ _ _ hi).1
 ·
  exact h.toks id en (AL.dV _ _ _ _ hi).1
 ·
  refine ⟨e.size,e.os,e.tape,e.output,Nat.le_refl _,e.prot,fun b hb hn=>e.other b hb (fun id hl hf=>by
   obtain ⟨q1,g,q2,q3⟩:=hn id hl hf
   exact ⟨q1,g,q2,kI q3⟩),fun id b hl hf=>?_,fun id g hid hi=>e.back id g hid (kI hi),fun id g b hid h0 hi hf=>e.keep id g b hid h0 (kI hi) hf,fun id g hid hg=>e.curs id g hid (gD h hg)⟩
  exact e.own id b (hlS id hl) hf
def Fin (R:aR) (cx:Cx) (S:St) (w:World) (nt:Nat) (a:Act) (Q:Exit→Act→World→Prop) (r:Gs × Env × St):Prop :=
 match r.1 with
 | .normal=>∀ cx' a' w',aD R cx' r.2.2 w'→Ext cx S w cx' r.2.2 w'→cK cx' r.2.2 w' nt r.2.1 a'→a'.defers=a.defers→Q .normal a' w'
 | .exit id=>∀ cx' a' w',aD R cx' r.2.2 w'→Ext cx S w cx' r.2.2 w'→cK cx' r.2.2 w' nt r.2.1 a'→a'.defers=a.defers→Q (.exit id) a' w'
 | .ret=>∀ cx' a' w',aD R cx' r.2.2 w'→Ext cx S w cx' r.2.2 w'→cK cx' r.2.2 w' nt r.2.1 a'→a'.defers=a.defers→Q .ret a' w'
 | .panic v=>∀ cx' a' w' u,aD R cx' r.2.2 w'→Ext cx S w cx' r.2.2 w'→ay cx' r.2.2 w' v u→a'.defers=a.defers→Q (.panic [{ v:=u,recovered:=false }]) a' w'
theorem Fin.trans {R:aR} {cx cx1:Cx} {S S1:St} {w w1:World} {nt:Nat} {a a1:Act} {Q:Exit→Act→World→Prop} {r:Gs × Env × St} (x:Ext cx S w cx1 S1 w1) (d:a1.defers=a.defers) (h:Fin R cx S w nt a Q r):Fin R cx1 S1 w1 nt a1 Q r:=by
 unfold Fin at *
 split at h
 ·
  exact fun cx' a' w' q1 q2 q3 q4=>h cx' a' w' q1 (x.trans q2) q3 (q4.trans d)
 ·
  exact fun cx' a' w' q1 q2 q3 q4=>h cx' a' w' q1 (x.trans q2) q3 (q4.trans d)
 ·
  exact fun cx' a' w' q1 q2 q3 q4=>h cx' a' w' q1 (x.trans q2) q3 (q4.trans d)
 ·
  exact fun cx' a' w' u q1 q2 q3 q4=>h cx' a' w' u q1 (x.trans q2) q3 (q4.trans d)
def codeOk:Code→Bool
 | .region _ ops draw=>!draw || mh ops
 | .seq a b=>codeOk a && codeOk b
 | .cond _ a b=>codeOk a && codeOk b
 | .block _ a=>codeOk a
 | .loop a=>codeOk a
 | _=>true
def Sound (R:aR) (P:Program) (nt:Nat) (c:Code) (f:Env→St→Option (List kW)):Prop :=
 ∀ (cx:Cx) (S:St) (w:World) (e:Env) (a:Act) (rs:List kW) (Q:Exit→Act→World→Prop),f e S=some rs→aD R cx S w→cK cx S w nt e a→(∀ r ∈ rs,Fin R cx S w nt a Q r)→c.wp P Q a w
theorem cK.over {cx:Cx} {S:St} {w:World} {nt:Nat} {e0 e:Env} {a:Act} (h:cK cx S w nt e a):cK cx S w nt (AL.over e0 e) a :=
 ⟨h.size,fun t x hx=>h.rel t x (AL.dV _ _ _ _ hx).1⟩
theorem zg {R:aR} {P:Program} {nt:Nat} {c:Code} {f:Env→St→Option (List kW)} (hf:Sound R P nt c f):∀ (n:Nat) (cx:Cx) (S:St) (w:World) (e:Env) (a:Act) (rs:List kW) (Q:Exit→Act→World→Prop),
  vT f n e S=some rs→aD R cx S w→cK cx S w nt e a→(∀ r ∈ rs,Fin R cx S w nt a Q r)→∀ (b:Frame) (k:List Go.Item) (cs:List Frame),
   ∃ x a' w',Q x a' w'∧Arrives P (lone (b.at a (.code c :: .inLoop c :: k)) cs w) b k cs x a' w':=by
 intro n
 induction n with
 | zero=>intro cx S w e a rs Q h; simp [vT] at h
 | succ n ih =>
  intro cx S w e a rs Q h hS he hk b k cs
  simp only [vT] at h
  have wf:=hS.wf
  let Q':Exit→Act→World→Prop:=fun x a' w'=>match x with
   | .normal=>∃ cx1 e1 S1 rs1,aD R cx1 S1 w'∧cK cx1 S1 w' nt e1 a'∧Ext cx S w cx1 S1 w'∧a'.defers=a.defers∧vT f n e1 S1=some rs1∧∀ r ∈ rs1,r ∈ rs
   | x=>Q x a' w'
  have hround:c.wp P Q' a w:=by
   split at h
   ·
    rename_i rs0 hb
    refine hf cx S w e a rs0 Q' hb hS he (fun r hr=>?_)
    obtain ⟨rs1,h1,h2⟩:=jD h r hr
    obtain ⟨x,e',S'⟩:=r
    cases x with
    | normal =>
     intro cx' a' w' q1 q2 q3 q4
     simp only [roundEnd] at h1 q1 q2 q3
     by_cases hc:(tF S.nx (AL.over e e') && gL S.nx (AL.over S.H S'.H))=true
     ·
      rw [if_pos hc] at h1
      simp only [Bool.and_eq_true] at hc
      obtain ⟨d1,d2⟩:=tK wf q1 q2 hc.2
      exact ⟨cx',_,_,rs1,d1,⟨q3.size,fun t x hx=>by
       obtain ⟨v,v1,v2⟩:=q3.rel t x (AL.dV _ _ _ _ hx).1
       exact ⟨v,v1,v2.drop q1 (sW hc.1 t x hx)⟩⟩,d2,q4,h1,h2⟩
     ·
      rw [if_neg hc] at h1
      exact ⟨cx',_,S',rs1,q1,q3.over,q2,q4,h1,h2⟩
    | exit id =>
     simp only [Option.some.injEq] at h1
     subst h1
     have hk':=hk _ (h2 _ (List.mem_singleton.2 rfl))
     unfold Fin at hk' ⊢
     exact fun cx' a' w' q1 q2 q3 q4=>hk' cx' a' w' q1 q2 q3.over q4
    | ret =>
     simp only [Option.some.injEq] at h1
     subst h1
     have hk':=hk _ (h2 _ (List.mem_singleton.2 rfl))
     unfold Fin at hk' ⊢
     exact fun cx' a' w' q1 q2 q3 q4=>hk' cx' a' w' q1 q2 q3.over q4
    | panic v =>
     simp only [Option.some.injEq] at h1
     subst h1
     have hk':=hk _ (h2 _ (List.mem_singleton.2 rfl))
     unfold Fin at hk' ⊢
     exact fun cx' a' w' u q1 q2 q3 q4=>hk' cx' a' w' u q1 q2 q3 q4
   ·
    cases h
  obtain ⟨x,a₁,w₁,hq,harr⟩:=hround b (.inLoop c :: k) cs
  cases x with
  | normal =>
   obtain ⟨cx1,e1,S1,rs1,s1,er1,x1,d1,hl,hsub⟩:=hq
   obtain ⟨x2,a₂,w₂,hq₂,harr₂⟩:=ih cx1 S1 w₁ e1 a₁ rs1 Q hl s1 er1 (fun r hr=>(hk r (hsub r hr)).trans x1 d1) b k cs
   exact ⟨x2,a₂,w₂,hq₂,.of_steps (Steps.trans harr (.one step_inLoop)) harr₂⟩
  | exit id=>exact ⟨_,a₁,w₁,hq,.pass (x:=.inLoop c) rfl (fun _ _=>.inl (by simp)) harr⟩
  | goto l=>exact ⟨_,a₁,w₁,hq,.pass (x:=.inLoop c) rfl (fun _ _=>.inl (by simp)) harr⟩
  | ret=>exact ⟨_,a₁,w₁,hq,.pass (x:=.inLoop c) rfl (fun _ _=>.inl (by simp)) harr⟩
  | panic ch=>exact ⟨_,a₁,w₁,hq,.pass (x:=.inLoop c) rfl (fun _ _=>.inl (by simp)) harr⟩
  | outgrown=>exact ⟨_,a₁,w₁,hq,.pass (x:=.inLoop c) rfl (fun _ _=>.inl (by simp)) harr⟩
theorem iJ {R:aR} {C:bQ} (hR:fe R C) (hm:C.P.follows .mixedOrders=true) {h:iy} (hh:jW R C.P h) (hp:sO (Du h)) {n nt:Nat}:∀ (c:Code),codeOk c=true→Sound R C.P nt c (uL C h n nt c)
 | .skip,_=>by
  intro cx S w e a rs Q hv hS he hk
  simp only [uL,Option.some.injEq] at hv; subst hv
  exact wp_skip (hk (.normal,e,S) (by simp) cx a w hS (Ext.refl w hS.wf) he rfl)
 | .exit id,_=>by
  intro cx S w e a rs Q hv hS he hk
  simp only [uL,Option.some.injEq] at hv; subst hv
  exact wp_exit (hk (.exit id,e,S) (by simp) cx a w hS (Ext.refl w hS.wf) he rfl)
 | .ret,_=>by
  intro cx S w e a rs Q hv hS he hk
  simp only [uL,Option.some.injEq] at hv; subst hv
  exact wp_ret (hk (.ret,e,S) (by simp) cx a w hS (Ext.refl w hS.wf) he rfl)
 | .region id ops false,hok=>by
  intro cx S w e a rs Q hv hS he hk
  simp only [uL] at hv
  refine wp_region ?_
  simp only [Option.map_eq_some_iff] at hv
  obtain ⟨rs0,hev,rfl⟩:=hv
  have:=uo hR hh (Q:=Q) (nt:=nt) (ops:=ops) ops.toList 0 (by simp) hev hS he (fun r hr=>by
   have hk':=hk (Dp e r) (List.mem_map.2 ⟨r,hr,rfl⟩)
   cases r with
   | go e' S'=>exact fun cx' a' w' q1 q2 q3 q4=>hk' cx' a' w' q1 q2 q3 q4
   | stop v S'=>exact fun cx' a' w' u q1 q2 q3 q4=>hk' cx' a' w' u q1 q2 q3 q4)
  simpa using this
 | .region id ops true,hok=>by
  intro cx S w e a rs Q hv hS he hk
  simp only [uL] at hv
  have every:Am C h nt ops e S=some rs→(Code.region id ops true).wp C.P Q a w:=fun hd=>by
   unfold Am at hd
   simp only [Option.map_eq_some_iff] at hd
   obtain ⟨ls,hd,rfl⟩:=hd
   obtain ⟨d1,d2⟩:=iB hR.toObjOk hS
   refine wp_region_any hm ?_
   exact xL hR hh (S0:=S) (cx0:=cx) (w0:=w) (df:=a.defers) ops.size _ ls hd _ (List.mem_singleton.2 rfl) cx w.drew a d1 d2 (he.mono d2) rfl
    (fun y hy cx' a' w' q1 q2 q3 q4=>hk (.normal,y.e,y.S) (List.mem_map.2 ⟨y,hy,rfl⟩) cx' a' w' q1 q2 q3 q4)
  split at hv
  ·
   rename_i ks e' S' hev
   cases hpk:xz ops ks with
   | false=>rw [hpk] at hv; exact every hv
   | true =>
    rw [hpk] at hv
    simp only [cond_true,Option.some.injEq] at hv; subst hv
    simp only [codeOk,Bool.not_true,Bool.false_or] at hok
    obtain ⟨d1,d2⟩:=iB hR.toObjOk hS
    refine wp_region_any hm ?_
    have hkj:∀ j d,ks[j]? = some d→(kinds ks).getD j 2=kindOf ((ks.map (·.ids)).flatten) d:=fun j d hj=>by
     simp only [kinds,List.getD,List.getElem?_map,hj,Option.map_some,Option.getD_some]
     rfl
    obtain ⟨hi,hlen⟩:=uf (K:=fun i=>(kinds ks).getD i 2) (I:=(ks.map (·.ids)).flatten) hp ops.toList 0 (by simp) hev (fun j d hj=>by rw [Nat.zero_add]; exact hkj j d hj) (fun d hd id hid=>List.mem_flatten.2 ⟨d.ids,List.mem_map.2 ⟨d,hd,rfl⟩,hid⟩)
    have hfl:((List.range ops.size).filter fun i=>!(Array.replicate ops.size false).getD i false)=List.range ops.size:=by
     rw [List.filter_eq_self]; intro i hi; rw [qi]; rfl
    have hK:∀ i k,k < i→i < ops.size→((Region.before ops).getD i 0).testBit k=true∨EX ((kinds ks).getD k 2) ((kinds ks).getD i 2)=true:=by
     intro i k hk hi
     unfold xz at hpk
     simp only [Bool.or_eq_true] at hpk
     rcases hpk with q | q
     ·
      right
      have hle:∀ j,j < ops.size→(kinds ks).getD j 2 ≤ 1:=fun j hj=>by
       have hjl:j < ks.length:=by rw [hlen]; simpa using hj
       have hk1:=Nat.le_of_ble_eq_true (List.all_eq_true.1 q ks[j] (List.getElem_mem hjl))
       rw [hkj j _ (List.getElem?_eq_getElem hjl)]
       unfold kindOf
       cases hb:Nat.beq ks[j].k 2 with
       | false=>exact hk1
       | true=>have:=Nat.eq_of_beq_eq_true hb; omega
      have h1:=hle k (by omega)
      have h2:=hle i hi
      generalize (kinds ks).getD k 2=x at h1 ⊢
      generalize (kinds ks).getD i 2=y at h2 ⊢
      match x,y,h1,h2 with
      | 0,_,_,_=>rfl
      | 1,0,_,_=>rfl
      | 1,1,_,_=>rfl
     ·
      have:=List.all_eq_true.1 q i (List.mem_range.2 hi)
      have:=List.all_eq_true.1 this k (List.mem_range.2 hk)
      simpa only [Bool.or_eq_true] using this
    refine CE hR (EI hh) hok hK ops.size (Array.replicate ops.size false) (cx:=cx) (S:=S) (S':=S') (w:=w.drew) (e:=e) (e':=e') (by simp) (fun j hj=>by rw [qi] at hj; cases hj) (by rw [hfl]; simp) (by rw [hfl]; simpa using hi) d1 (he.mono d2) (fun cx' a' w' e'' q1 q2 q3 q4 q5=>?_)
    exact hk (.normal,e',S') (by simp) cx' a' w' q1 (d2.trans q2) ⟨q3.size,fun t x hx=>q3.rel t x (by rw [q4 t]; exact hx)⟩ q5
  ·
   exact every hv
 | .seq x y,hok=>by
  simp only [codeOk,Bool.and_eq_true] at hok
  intro cx S w e a rs Q hv hS he hk
  simp only [uL] at hv
  refine wp_seq ?_
  split at hv
  ·
   rename_i rs0 hx
   refine iJ hR hm hh hp x hok.1 cx S w e a rs0 _ hx hS he (fun r hr=>?_)
   obtain ⟨rs1,h1,h2⟩:=jD hv r hr
   obtain ⟨x1,e',S'⟩:=r
   cases x1 with
   | normal =>
    intro cx' a' w' q1 q2 q3 q4
    exact iJ hR hm hh hp y hok.2 cx' S' w' e' a' rs1 Q h1 q1 q3 (fun r hr=>(hk r (h2 r hr)).trans q2 q4)
   | exit id=>simp only [Option.some.injEq] at h1; subst h1; exact hk _ (h2 _ (List.mem_singleton.2 rfl))
   | ret=>simp only [Option.some.injEq] at h1; subst h1; exact hk _ (h2 _ (List.mem_singleton.2 rfl))
   | panic v=>simp only [Option.some.injEq] at h1; subst h1; exact hk _ (h2 _ (List.mem_singleton.2 rfl))
  ·
   cases hv
 | .cond c x y,hok=>by
  simp only [codeOk,Bool.and_eq_true] at hok
  intro cx S w e a rs Q hv hS he hk
  simp only [uL] at hv
  split at hv
  ·
   rename_i hc
   exact wp_cond_true ((he.eval c _ hc).bool) (iJ hR hm hh hp x hok.1 cx S w e a rs Q hv hS he hk)
  ·
   rename_i hc
   exact wp_cond_false ((he.eval c _ hc).bool) (iJ hR hm hh hp y hok.2 cx S w e a rs Q hv hS he hk)
  ·
   cases hv
 | .block id c,hok=>by
  simp only [codeOk] at hok
  intro cx S w e a rs Q hv hS he hk
  simp only [uL,Option.map_eq_some_iff] at hv
  obtain ⟨rs0,hx,rfl⟩:=hv
  refine wp_block ?_
  refine iJ hR hm hh hp c hok cx S w e a rs0 _ hx hS he (fun r hr=>?_)
  have hk':=hk _ (List.mem_map.2 ⟨r,hr,rfl⟩)
  obtain ⟨x1,e',S'⟩:=r
  cases x1 with
  | normal=>exact hk'
  | exit j =>
   simp only at hk'
   by_cases hj:j=id
   ·
    subst hj
    rw [if_pos rfl] at hk'
    intro cx' a' w' q1 q2 q3 q4
    simp only [Exit.inBlock,if_true]
    exact hk' cx' a' w' q1 q2 q3 q4
   ·
    rw [if_neg hj] at hk'
    intro cx' a' w' q1 q2 q3 q4
    simp only [Exit.inBlock,if_neg hj]
    exact hk' cx' a' w' q1 q2 q3 q4
  | ret=>exact hk'
  | panic v=>exact hk'
 | .loop c,hok=>by
  simp only [codeOk] at hok
  intro cx S w e a rs Q hv hS he hk b k cs
  simp only [uL] at hv
  have he':cK cx S w nt (AL.tidy e []) a:=⟨he.size,fun t x hx=>he.rel t x (by rw [AL.rQ] at hx; simpa using hx)⟩
  obtain ⟨x,a',w',q,harr⟩:=zg (iJ hR hm hh hp c hok) n cx S w _ a rs Q hv hS he' hk b k cs
  exact ⟨x,a',w',q,.of_steps (.one step_loop) harr⟩
 | .rangeFunc _ _ _ _,_=>by intro cx S w e a rs Q hv; simp [uL] at hv
 | .scope _,_=>by intro cx S w e a rs Q hv; simp [uL] at hv
 | .label _,_=>by intro cx S w e a rs Q hv; simp [uL] at hv
 | .goto _,_=>by intro cx S w e a rs Q hv; simp [uL] at hv
 | .refuse _,_=>by intro cx S w e a rs Q hv; simp [uL] at hv
end
end Go.Ev

namespace Go.Ev
noncomputable section
set_option linter.unusedVariables false
set_option linter.unusedSimpArgs false
theorem oq:∀ (l:List AV) (k t:Nat),AL.get (jN k l) t=if k ≤ t then l[t - k]? else none
 | [],k,t=>by simp [jN,AL.get]
 | v :: l,k,t=>by
  simp only [jN]
  rw [AL.bJ,oq l (k + 1) t]
  by_cases h:k=t
  ·
   subst h; simp
  ·
   by_cases h2:k ≤ t
   ·
    rw [if_neg h,if_pos (by omega),if_pos h2,show t - k=(t - (k + 1)) + 1 by omega]; simp
   ·
    rw [if_neg h,if_neg (by omega),if_neg h2]
def pX (tmps:Array Value):ResultVar→Sem Value
 | .tmp t=>pure (tmps.getD t undef)
 | .cell b t=>do loadVar t (← asAddr (tmps.getD b undef))
theorem BA {R:aR} {C:bQ} {cx:Cx} {S:St} {w:World} (hS:aD R cx S w) {nt:Nat} {e:Env} {a:Act} (he:cK cx S w nt e a) {rv:ResultVar} {v:AV} (h:xQ C e S rv=some v) :
  ∃ u,(pX a.tmps rv).run C.P w=.ok u w∧ay cx S w v u:=by
 cases rv with
 | tmp t =>
  simp only [xQ] at h
  obtain ⟨u,h1,h2⟩:=he.rel t v h
  exact ⟨u,by simp [pX,h1],h2⟩
 | cell b t =>
  simp only [xQ] at h
  split at h
  ·
   rename_i p hp
   obtain ⟨u,h1,h2⟩:=he.rel b p hp
   obtain ⟨z,z1,z2⟩:=tu (C:=C) hS h h2
   refine ⟨z,?_,z2⟩
   have hu:a.tmps.getD b undef=u:=by simp [h1]
   simp only [pX,hu]
   unfold jJ at h
   cases h2 with
   | ptr id g off bb hn hq=>simp only [asAddr,Sem.run_bind,Sem.run_pure,Result.andThen_ok]; rw [lN] at z1; exact z1
   | eptr x off bb o vs hc hm=>simp only [asAddr,Sem.run_bind,Sem.run_pure,Result.andThen_ok]; rw [lN] at z1; exact z1
   | _=>simp at h
  ·
   cases h
theorem iO {R:aR} {C:bQ} {cx:Cx} {S:St} {w:World} (hS:aD R cx S w) {nt:Nat} {e:Env} {a:Act} (he:cK cx S w nt e a) {fn:Func} {v:AV} (h:kV C fn e S=some v) :
  ∃ u,(results fn a.tmps).run C.P w=.ok u w∧ay cx S w v u:=by
 unfold kV at h
 have key:∀ {l:List ResultVar} {vs:List AV},dQ (xQ C e S) l=some vs→∃ us:List Value,us.length=vs.length∧(l.mapM (pX a.tmps)).run C.P w=.ok us w∧∀ (i:Nat) (x:AV) (u:Value),vs[i]? = some x→us[i]? = some u→ay cx S w x u:=by
  intro l
  induction l with
  | nil=>intro vs h; simp [dQ] at h; subst h; exact ⟨[],rfl,by simp,by simp⟩
  | cons rv l ih =>
   intro vs h
   simp only [dQ] at h
   split at h
   ·
    rename_i y hy
    simp only [Option.map_eq_some_iff] at h
    obtain ⟨ys,hys,rfl⟩:=h
    obtain ⟨us,u1,u2,u3⟩:=ih hys
    obtain ⟨u,r1,r2⟩:=BA hS he hy
    refine ⟨u :: us,by simp [u1],?_,fun i x z hx hz=>?_⟩
    ·
     rw [List.mapM_cons]
     simp only [Sem.run_bind]
     rw [r1]
     simp only [Result.andThen_ok]
     rw [u2]
     rfl
    ·
     cases i with
     | zero=>simp at hx hz; subst hx; subst hz; exact r2
     | succ i=>exact u3 i x z (by simpa using hx) (by simpa using hz)
   ·
    cases h
 have run:∀ {us:List Value},(fn.results.toList.mapM (pX a.tmps)).run C.P w=.ok us w→(results fn a.tmps).run C.P w=.ok (if h:us.toArray.size=1 then us.toArray[0] else .tuple us.toArray) w:=by
  intro us hu
  have hres:results fn a.tmps=(do let vs ← fn.results.mapM (pX a.tmps); pure (if h:vs.size=1 then vs[0] else .tuple vs)):=rfl
  rw [hres,Array.mapM_eq_mapM_toList]
  simp only [Sem.run_bind,Sem.run_map,hu,Result.andThen_ok]
  rfl
 split at h
 ·
  rename_i x hx
  simp only [Option.some.injEq] at h; subst h
  obtain ⟨us,u1,u2,u3⟩:=key hx
  match us,u1 with
  | [u],_=>exact ⟨u,by rw [run u2]; rfl,u3 0 x u rfl rfl⟩
 ·
  rename_i vs hne hx
  simp only [Option.some.injEq] at h; subst h
  obtain ⟨us,u1,u2,u3⟩:=key hx
  refine ⟨.tuple us.toArray,?_,.tup vs us u1 u3⟩
  rw [run u2,dif_neg]
  intro q
  simp at q
  rw [u1] at q
  match vs,q with
  | [x],_=>exact hne x rfl
 ·
  cases h
structure vL (R:aR) (C:bQ):Prop where
 obj:fe R C
 mixed:C.P.follows .mixedOrders=true
 code:∀ f fn c,C.good f=true→C.P.funcs[f]? = some fn→fn.body=some c→codeOk c=true∧fn.name ≠ "runtime.NumGoroutine"
 primPure:∀ f args S v S',C.hasPrim f=true→C.prim f args S=some (v,S')→(fO args).isSome=true→(lG v).isSome=true→∀ S2,C.prim f args S2=some (v,S2)
 prim:∀ f args S v S',C.hasPrim f=true→C.prim f args S=some (v,S')→(∃ fn,C.P.funcs[f]? = some fn∧fn.body.isSome=true∧fn.name ≠ "runtime.NumGoroutine") ∧
  ∀ cx w (us:List Value),aD R cx S w→us.length=args.length→(∀ (i:Nat) (x:AV) (u:Value),args[i]? = some x→us[i]? = some u→ay cx S w x u) →
  Calls C.P f us.toArray w (fun e w'=>∃ cx',aD R cx' S' w'∧Ext cx S w cx' S' w'∧∃ u,e=.returned u∧ay cx' S' w' v u)
theorem nR {R:aR} {C:bQ} (ok:vL R C) {h:iy} (hh:jW R C.P h) (hpu:sO (Du h)) (n:Nat) {f:Nat} {args:List AV} {S:St} {os:List Out} (hb:x8 C h n f args S=some os) :
  (∃ fn,C.P.funcs[f]? = some fn∧fn.body.isSome=true∧fn.name ≠ "runtime.NumGoroutine") ∧
  ∀ cx w (us:List Value),aD R cx S w→us.length=args.length→(∀ (i:Nat) (x:AV) (u:Value),args[i]? = some x→us[i]? = some u→ay cx S w x u) →
  Calls C.P f us.toArray w (fun e w'=>∃ r ∈ os,∃ cx',aD R cx' r.2.2 w'∧Ext cx S w cx' r.2.2 w' ∧
   o7 cx' r.2.2 w' r.1 r.2.1 e):=by
 unfold x8 at hb
 split at hb
 ·
  rename_i fn hf
  split at hb
  ·
   rename_i c hc
   cases hg:(C.good f && Nat.ble args.length fn.ntmps) with
   | false=>rw [hg] at hb; cases hb
   | true =>
    rw [hg] at hb
    simp only [cond_true] at hb
    simp only [Bool.and_eq_true] at hg
    obtain ⟨hg,hle⟩:=hg
    have hle:=Nat.le_of_ble_eq_true hle
    obtain ⟨hcode,hname⟩:=ok.code f fn c hg hf hc
    refine ⟨⟨fn,hf,by simp [hc],hname⟩,fun cx w us hS hl hr=>?_⟩
    refine calls_of_wp hf hc ?_
    have he:cK cx S w fn.ntmps (jN 0 args) { tmps:=us.toArray ++ Array.replicate (fn.ntmps - us.toArray.size) undef,defers:=[] }:=by
     refine ⟨by simp; omega,fun t x hx=>?_⟩
     rw [oq] at hx
     simp only [Nat.zero_le,if_true,Nat.sub_zero] at hx
     have hlt:t < us.length:=by rw [hl]; exact (List.getElem?_eq_some_iff.1 hx).1
     have hu:=List.getElem?_eq_getElem hlt
     exact ⟨us[t],by rw [Array.getElem?_append_left (by simpa using hlt)]; simp,hr t x _ hx hu⟩
    split at hb
    ·
     rename_i rs hev
     refine iJ ok.obj ok.mixed hh hpu c hcode cx S w _ _ rs _ hev hS he (fun r hr=>?_)
     obtain ⟨out,ho,hm⟩:=kR hb r hr
     obtain ⟨x,e,S1⟩:=r
     cases x with
     | normal =>
      simp only [yU,Option.map_eq_some_iff] at ho
      obtain ⟨rv,hrv,rfl⟩:=ho
      intro cx' a' w' q1 q2 q3 q4
      obtain ⟨u,r1,r2⟩:=iO q1 q3 hrv
      exact ⟨q4,u,r1,_,hm,cx',q1,q2,u,rfl,r2⟩
     | ret =>
      simp only [yU,Option.map_eq_some_iff] at ho
      obtain ⟨rv,hrv,rfl⟩:=ho
      intro cx' a' w' q1 q2 q3 q4
      obtain ⟨u,r1,r2⟩:=iO q1 q3 hrv
      exact ⟨q4,u,r1,_,hm,cx',q1,q2,u,rfl,r2⟩
     | panic pv =>
      simp only [yU,Option.some.injEq] at ho
      subst ho
      intro cx' a' w' u q1 q2 q3 q4
      exact ⟨q4,_,hm,cx',q1,q2,u,rfl,q3⟩
     | exit id=>simp [yU] at ho
    ·
     cases hb
  ·
   cases hb
 ·
  cases hb
theorem uH {x y:Option AV} (h:rG x y=true):x=y:=by
 unfold rG at h
 split at h
 ·
  rfl
 ·
  rw [AV.same_eq _ _ h]
 ·
  cases h
theorem mY:∀ {l:List (Option AV × AV)},∀ x ∈ l,x ∈ dedup l
 | [],x,hx=>by cases hx
 | y :: l,x,hx=>by
  simp only [dedup]
  rcases List.mem_cons.1 hx with rfl | hx
  ·
   cases hh:wI l x with
   | false=>simp
   | true =>
    simp only [cond_true]
    unfold wI at hh
    rw [List.any_eq_true] at hh
    obtain ⟨z,hz,hs⟩:=hh
    simp only [Bool.and_eq_true] at hs
    have:x=z:=Prod.ext (uH hs.1) (AV.same_eq _ _ hs.2)
    subst this
    exact mY x hz
  ·
   cases hh:wI l y with
   | false=>exact List.mem_cons_of_mem _ (mY x hx)
   | true=>exact mY x hx
theorem uK {R:aR} {cx:Cx} {S:St} {w:World} (h:aD R cx S w):aD R cx aH w where
 wf:=fun id hl=>absurd rfl hl
 lU:=fun id b hb=>by simp [aH,AL.get] at hb
 cells:=fun id g cs hb=>by simp [aH,AL.get] at hb
 maps:=fun id es hb=>by simp [aH,AL.get] at hb
 objs:=fun id k x hb=>by simp [aH,AL.get] at hb
 toks:=fun id en hb=>by simp [aH,AL.get] at hb
 sep:=fun id id' b hl=>absurd rfl hl
 stat:=h.stat
 lt:=h.lt
theorem ni {R:aR} (hR:ObjOk R) {cx cx1:Cx} {S S1:St} {w w1:World} (h:aD R cx S w) (e:Ext cx aH w cx1 S1 w1) :
  aD R cx S w1∧Ext cx S w cx S w1∧∀ x v,aQ w1 cx1.fr x v→aQ w1 cx.fr x v:=by
 have hb:∀ b,b < w.heap.size→w1.heap[b]? = w.heap[b]?∧∀ o,(cx1.fr b o↔cx.fr b o):=fun b hb=>e.other b hb (fun id hl=>absurd rfl hl)
 have ex:Ext cx S w cx S w1:=Ext.old h e.size (fun b q=>(hb b q).1) e.os e.tape e.output
 refine ⟨aD.old hR h e.size (fun b q=>(hb b q).1) ex,ex,fun x v hd=>hd.mono (fun b o v hf hc=>⟨hc,fun q=>?_⟩)⟩
 have hlt:=h.lt b o q
 exact hf (((hb b hlt).2 o).2 q)
theorem zN {x y:Out} (h:pJ x y=true):x=y:=by
 obtain ⟨p,v,S⟩:=x
 obtain ⟨p',v',S'⟩:=y
 simp only [pJ,Bool.and_eq_true] at h
 rw [uH h.1.1,AV.same_eq _ _ h.1.2,yH h.2]
theorem lM:∀ {l:List Out},∀ x ∈ l,x ∈ uC l
 | [],x,hx=>by cases hx
 | y :: l,x,hx=>by
  simp only [uC]
  rcases List.mem_cons.1 hx with rfl | hx
  ·
   cases hh:l.any (pJ x) with
   | false=>simp
   | true =>
    simp only [cond_true]
    rw [List.any_eq_true] at hh
    obtain ⟨z,hz,hs⟩:=hh
    have:=zN hs
    subst this
    exact lM x hz
  ·
   cases hh:l.any (pJ y) with
   | false=>exact List.mem_cons_of_mem _ (lM x hx)
   | true=>exact lM x hx
theorem lu {cx cx':Cx} {S S':St} {w w':World} {v v':AV} {u:Value} (hv:lG v=some v') (h:ay cx S w v u) (hd:∀ x z,aQ w cx.fr x z→aQ w' cx'.fr x z):ay cx' S' w' v' u:=by
 unfold lG at hv
 split at hv
 ·
  rename_i vs
  simp only [Option.map_eq_some_iff] at hv
  obtain ⟨xs,hxs,rfl⟩:=hv
  obtain ⟨x1,x2⟩:=jB hxs
  cases h with
  | tup _ us' hl' hr' =>
   refine .tup _ us' (by simp [hl',x1]) (fun i x z hx hz=>?_)
   simp only [List.getElem?_map,Option.map_eq_some_iff] at hx
   obtain ⟨y,hy,rfl⟩:=hx
   have hlt:i < vs.length:=by rw [← x1]; exact (List.getElem?_eq_some_iff.1 hy).1
   have ha:=List.getElem?_eq_getElem hlt
   exact .d y z (hd _ _ (dW (x2 i _ y ha hy) (hr' i _ z ha hz)))
 ·
  simp only [Option.map_eq_some_iff] at hv
  obtain ⟨x,hx,rfl⟩:=hv
  exact .d x u (hd _ _ (dW hx h))
theorem xA {R:aR} {cx:Cx} {S:St} {w:World} (wf:∀ id,live S id→id < S.nx) {e:Ending} {w':World} {rs:List Out} (h:∃ r ∈ rs,∃ cx',aD R cx' r.2.2 w'∧Ext cx S w cx' r.2.2 w'∧o7 cx' r.2.2 w' r.1 r.2.1 e) :
  ∃ r ∈ gather S rs,∃ cx',aD R cx' r.2.2 w'∧Ext cx S w cx' r.2.2 w'∧o7 cx' r.2.2 w' r.1 r.2.1 e:=by
 unfold gather
 split
 ·
  exact h
 ·
  obtain ⟨r,hr,cx',h1,h2,h3⟩:=h
  refine ⟨wN S r,lM _ (List.mem_map.2 ⟨r,hr,rfl⟩),?_⟩
  obtain ⟨p,v,S'⟩:=r
  unfold wN
  split
  ·
   rename_i v S' heq
   cases heq
   split
   ·
    rename_i v' hv
    cases hb:gL S.nx (AL.over S.H S'.H) with
    | false=>exact ⟨cx',h1,h2,h3⟩
    | true =>
     obtain ⟨d1,d2⟩:=tK wf h1 h2 hb
     obtain ⟨u,rfl,k3⟩:=h3
     exact ⟨cx',d1,d2,u,rfl,lu hv k3 (fun _ _ q=>q)⟩
   ·
    exact ⟨cx',h1,h2,h3⟩
  ·
   exact ⟨cx',h1,h2,h3⟩
theorem yJ {α:Type} {b:Bool} {x y:α} (h:(bif b then some x else none)=some y):b=true∧x=y:=by
 cases b
 ·
  cases h
 ·
  exact ⟨rfl,Option.some.inj h⟩
theorem AJ {h:iy} {f:Nat} {args:List AV} {S:St} {r:Out} (hd:Du h f args S=some r):h f args S=some [r]:=by
 unfold Du at hd
 split at hd
 ·
  rename_i r' hr
  simp only [Option.some.injEq] at hd
  subst hd
  exact hr
 ·
  cases hd
theorem ui {R:aR} {C:bQ} (ok:vL R C):∀ n,sO (Du (BP C n))
 | 0=>fun f args S v S' h=>by have:=AJ h; simp [BP] at this
 | n + 1=>by
  intro f args S v S' h ha hv S2
  have h:=AJ h
  have goal:∀ {r:Out},BP C (n + 1) f args S2=some [r]→Du (BP C (n + 1)) f args S2=some r:=fun hq=>by unfold Du; rw [hq]
  refine goal ?_
  simp only [BP] at h ⊢
  split at h
  ·
   rename_i hp
   rw [if_pos hp]
   simp only [Option.map_eq_some_iff,List.cons.injEq,and_true,Prod.mk.injEq,true_and] at h ⊢
   obtain ⟨⟨v1,S1⟩,h1,rfl,rfl⟩:=h
   exact ⟨(v1,S2),ok.primPure f args S v1 S1 hp h1 ha hv S2,rfl,rfl⟩
  ·
   rename_i hp
   rw [if_neg hp]
   obtain ⟨ds,hds⟩:=Option.isSome_iff_exists.1 ha
   simp only [hds] at h ⊢
   split at h
   ·
    rename_i rs hb
    split at h
    ·
     rename_i os hos
     simp only [Option.some.injEq] at h
     match hdd:dedup os,h with
     | [o],h =>
      simp only [List.map_cons,List.map_nil,List.cons.injEq,and_true,Prod.mk.injEq] at h ⊢
      rw [h.1,h.2.1]
     | [],h=>simp at h
     | _ :: _ :: _,h=>simp at h
    ·
     exfalso
     split at h
     ·
      rename_i rs2 hb2
      obtain ⟨hall,rfl⟩:=yJ h
      simp at hall
      rw [hall] at hv; cases hv
     ·
      cases h
   ·
    cases h
theorem vD {R:aR} {C:bQ} (ok:vL R C):∀ n,jW R C.P (BP C n)
 | 0=>fun f args S os h=>by simp [BP] at h
 | n + 1=>by
  have ih:=vD ok n
  intro f args S os h
  simp only [BP] at h
  split at h
  ·
   rename_i hp
   simp only [Option.map_eq_some_iff] at h
   obtain ⟨⟨v1,S1⟩,h1,rfl⟩:=h
   obtain ⟨h2,h3⟩:=ok.prim f args S v1 S1 hp h1
   exact ⟨h2,fun cx w us hS hl hr=>(h3 cx w us hS hl hr).mono fun e w' he=>⟨_,List.mem_singleton.2 rfl,he⟩⟩
  ·
   split at h
   ·
    rename_i ds hds
    obtain ⟨d1,d2⟩:=jB hds
    have hargs:∀ {cx:Cx} {w:World} {us:List Value},us.length=args.length→(∀ (i:Nat) (x:AV) (u:Value),args[i]? = some x→us[i]? = some u→ay cx S w x u) →
      us.length=(ds.map AV.d).length∧∀ (i:Nat) (x:AV) (u:Value),(ds.map AV.d)[i]? = some x→us[i]? = some u→ay cx aH w x u:=by
     intro cx w us hl hr
     refine ⟨by simp [hl,d1],fun i x u hx hu=>?_⟩
     simp only [List.getElem?_map,Option.map_eq_some_iff] at hx
     obtain ⟨y,hy,rfl⟩:=hx
     have hlt:i < args.length:=by rw [← d1]; exact (List.getElem?_eq_some_iff.1 hy).1
     have ha:=List.getElem?_eq_getElem hlt
     exact .d y u (dW (d2 i _ y ha hy) (hr i _ u ha hu))
    split at h
    ·
     rename_i rs hb
     split at h
     ·
      rename_i os' hos
      simp only [Option.some.injEq] at h
      subst h
      obtain ⟨b1,b2⟩:=nR ok ih (ui ok n) n hb
      refine ⟨b1,fun cx w us hS hl hr=>?_⟩
      obtain ⟨a1,a2⟩:=hargs hl hr
      refine (b2 cx w us (uK hS) a1 a2).mono (fun e w' he=>?_)
      obtain ⟨⟨p,v1,S1⟩,hr1,cx1,k1,k2,k3⟩:=he
      obtain ⟨m1,m2,m3⟩:=ni ok.obj.toObjOk hS k2
      obtain ⟨o,ho,hom⟩:=kR hos _ hr1
      refine ⟨(o.1,o.2,S),List.mem_map.2 ⟨o,mY o hom,rfl⟩,cx,m1,m2,?_⟩
      cases p with
      | none =>
       obtain ⟨u,rfl,k3⟩:=k3
       simp only [uJ,Option.map_eq_some_iff] at ho
       obtain ⟨v2,hv,rfl⟩:=ho
       refine ⟨u,rfl,?_⟩
       unfold lG at hv
       split at hv
       ·
        rename_i vs
        simp only [Option.map_eq_some_iff] at hv
        obtain ⟨xs,hxs,rfl⟩:=hv
        obtain ⟨x1,x2⟩:=jB hxs
        cases k3 with
        | tup _ us' hl' hr' =>
         refine .tup _ us' (by simp [hl',x1]) (fun i x z hx hz=>?_)
         simp only [List.getElem?_map,Option.map_eq_some_iff] at hx
         obtain ⟨y,hy,rfl⟩:=hx
         have hlt:i < vs.length:=by rw [← x1]; exact (List.getElem?_eq_some_iff.1 hy).1
         have ha:=List.getElem?_eq_getElem hlt
         exact .d y z (m3 _ _ (dW (x2 i _ y ha hy) (hr' i _ z ha hz)))
       ·
        simp only [Option.map_eq_some_iff] at hv
        obtain ⟨x,hx,rfl⟩:=hv
        exact .d x u (m3 _ _ (dW hx k3))
      | some pv =>
       obtain ⟨u,rfl,k3⟩:=k3
       simp only [uJ,Option.map_eq_some_iff] at ho
       obtain ⟨x,hx,rfl⟩:=ho
       exact ⟨u,rfl,.d x u (m3 _ _ (dW hx k3))⟩
     ·
      refine nR ok ih (ui ok n) n ?_
      split at h
      ·
       rename_i rs2 hb2
       obtain ⟨_,rfl⟩:=yJ h
       exact hb2
      ·
       cases h
    ·
     cases h
   ·
    simp only [Option.map_eq_some_iff] at h
    obtain ⟨rs,hb,rfl⟩:=h
    obtain ⟨b1,b2⟩:=nR ok ih (ui ok n) n hb
    exact ⟨b1,fun cx w us hS hl hr=>(b2 cx w us hS hl hr).mono fun e w' he=>xA hS.wf he⟩
end
end Go.Ev

namespace Go.Ev
noncomputable section
set_option linter.unusedVariables false
set_option linter.unusedSimpArgs false
variable {R:aR} {C:bQ}
def bT (R:aR) (P:Program) (f:Nat) (args:List AV) (S:St) (Q:Out→Prop):Prop :=
 (∃ fn,P.funcs[f]? = some fn∧fn.body.isSome=true∧fn.name ≠ "runtime.NumGoroutine") ∧
 ∀ cx w (us:List Value),aD R cx S w→us.length=args.length→(∀ (i:Nat) (x:AV) (u:Value),args[i]? = some x→us[i]? = some u→ay cx S w x u) →
  Calls P f us.toArray w (fun e w'=>∃ r,Q r∧∃ cx',aD R cx' r.2.2 w'∧Ext cx S w cx' r.2.2 w'∧o7 cx' r.2.2 w' r.1 r.2.1 e)
theorem bT.mono {P:Program} {f:Nat} {args:List AV} {S:St} {Q Q':Out→Prop} (h:bT R P f args S Q) (hq:∀ r,Q r→Q' r):bT R P f args S Q' :=
 ⟨h.1,fun cx w us h1 h2 h3=>(h.2 cx w us h1 h2 h3).mono fun e w' ⟨r,q,k⟩=>⟨r,hq r q,k⟩⟩
theorem bT.Dx {P:Program} {h:iy} (hh:jW R P h) {f:Nat} {args:List AV} {S:St} {rs:List Out} (he:h f args S=some rs):bT R P f args S (· ∈ rs) :=
 ⟨(hh f args S rs he).1,fun cx w us h1 h2 h3=>((hh f args S rs he).2 cx w us h1 h2 h3).mono fun e w' ⟨r,q,k⟩=>⟨r,q,k⟩⟩
theorem bT.D9 (ok:vL R C) {n f:Nat} {args:List AV} {S:St} {rs:List Out} (he:BP C n f args S=some rs):bT R C.P f args S (· ∈ rs) :=
 .Dx (vD ok n) he
def az (R:aR) (P:Program) (nt:Nat) (c:Code) (e:Env) (S:St) (Q:kW→Prop):Prop :=
 ∀ (cx:Cx) (w:World) (a:Act) (K:Exit→Act→World→Prop),aD R cx S w→cK cx S w nt e a→(∀ r,Q r→Fin R cx S w nt a K r)→c.wp P K a w
def oC (R:aR) (P:Program) (nt:Nat) (c:Code) (e:Env) (S:St) (Q:kW→Prop):Prop :=
 ∀ (cx:Cx) (w:World) (a:Act) (K:Exit→Act→World→Prop),aD R cx S w→cK cx S w nt e a→(∀ r,Q r→Fin R cx S w nt a K r) →
  ∀ (b:Frame) (k:List Go.Item) (cs:List Frame),∃ x a' w',K x a' w'∧Arrives P (lone (b.at a (.code c :: .inLoop c :: k)) cs w) b k cs x a' w'
variable {P:Program} {nt:Nat}
theorem az.mono {c:Code} {e:Env} {S:St} {Q Q':kW→Prop} (h:az R P nt c e S Q) (hq:∀ r,Q r→Q' r):az R P nt c e S Q' :=
 fun cx w a K h1 h2 h3=>h cx w a K h1 h2 (fun r q=>h3 r (hq r q))
theorem az.skip {e:Env} {S:St} {Q:kW→Prop} (h:Q (.normal,e,S)):az R P nt .skip e S Q :=
 fun cx w a K h1 h2 h3=>wp_skip (h3 _ h cx a w h1 (Ext.refl w h1.wf) h2 rfl)
theorem az.exit {id:Nat} {e:Env} {S:St} {Q:kW→Prop} (h:Q (.exit id,e,S)):az R P nt (.exit id) e S Q :=
 fun cx w a K h1 h2 h3=>wp_exit (h3 _ h cx a w h1 (Ext.refl w h1.wf) h2 rfl)
theorem az.ret {e:Env} {S:St} {Q:kW→Prop} (h:Q (.ret,e,S)):az R P nt .ret e S Q :=
 fun cx w a K h1 h2 h3=>wp_ret (h3 _ h cx a w h1 (Ext.refl w h1.wf) h2 rfl)
def xW (k:Env→St→Prop) (Q:kW→Prop):kW→Prop
 | (.normal,e,S)=>k e S
 | r=>Q r
theorem az.seq {x y:Code} {e:Env} {S:St} {Q:kW→Prop} (h:az R P nt x e S (xW (fun e' S'=>az R P nt y e' S' Q) Q)):az R P nt (.seq x y) e S Q:=by
 intro cx w a K h1 h2 h3
 refine wp_seq (h cx w a _ h1 h2 (fun r hr=>?_))
 obtain ⟨x1,e',S'⟩:=r
 cases x1 with
 | normal =>
  intro cx' a' w' q1 q2 q3 q4
  exact hr cx' w' a' K q1 q3 (fun r q=>(h3 r q).trans q2 q4)
 | exit id=>exact h3 _ hr
 | ret=>exact h3 _ hr
 | panic v=>exact h3 _ hr
theorem az.cond {c:Operand} {x y:Code} {e:Env} {S:St} {Q:kW→Prop} {b:Bool} (hc:bA e c=some (.d (.bool b))) (h1:b=true→az R P nt x e S Q) (h2:b=false→az R P nt y e S Q):az R P nt (.cond c x y) e S Q:=by
 intro cx w a K hS he hk
 cases b with
 | true=>exact wp_cond_true ((he.eval c _ hc).bool) (h1 rfl cx w a K hS he hk)
 | false=>exact wp_cond_false ((he.eval c _ hc).bool) (h2 rfl cx w a K hS he hk)
def Da (id:Nat) (Q:kW→Prop):kW→Prop
 | (.exit j,e,S)=>bif Nat.beq j id then Q (.normal,e,S) else Q (.exit j,e,S)
 | r=>Q r
theorem az.block {id:Nat} {c:Code} {e:Env} {S:St} {Q:kW→Prop} (h:az R P nt c e S (Da id Q)):az R P nt (.block id c) e S Q:=by
 intro cx w a K h1 h2 h3
 refine wp_block (h cx w a _ h1 h2 (fun r hr=>?_))
 obtain ⟨x1,e',S'⟩:=r
 cases x1 with
 | normal=>exact h3 _ hr
 | exit j =>
  simp only [Da] at hr
  by_cases hj:j=id
  ·
   have hb:Nat.beq j id=true:=by rw [hj]; exact Nat.beq_refl id
   rw [hb] at hr
   intro cx' a' w' q1 q2 q3 q4
   simp only [Exit.inBlock,if_pos hj]
   exact h3 _ hr cx' a' w' q1 q2 q3 q4
  ·
   have hb:Nat.beq j id=false:=by
    cases hb:Nat.beq j id
    ·
     rfl
    ·
     exact absurd (Nat.eq_of_beq_eq_true hb) hj
   rw [hb] at hr
   intro cx' a' w' q1 q2 q3 q4
   simp only [Exit.inBlock,if_neg hj]
   exact h3 _ hr cx' a' w' q1 q2 q3 q4
 | ret=>exact h3 _ hr
 | panic v=>exact h3 _ hr
theorem az.loop {c:Code} {e:Env} {S:St} {Q:kW→Prop} (h:oC R P nt c e S Q):az R P nt (.loop c) e S Q:=by
 intro cx w a K h1 h2 h3 b k cs
 obtain ⟨x,a',w',q,harr⟩:=h cx w a K h1 h2 h3 b k cs
 exact ⟨x,a',w',q,.of_steps (.one step_loop) harr⟩
theorem oC.round {c:Code} {e:Env} {S:St} {Q:kW→Prop} (h:az R P nt c e S (xW (fun e' S'=>oC R P nt c e' S' Q) Q)):oC R P nt c e S Q:=by
 intro cx w a K hS he hk b k cs
 let K':Exit→Act→World→Prop:=fun x a' w'=>match x with
  | .normal=>∃ cx1 e1 S1,aD R cx1 S1 w'∧cK cx1 S1 w' nt e1 a'∧Ext cx S w cx1 S1 w'∧a'.defers=a.defers∧oC R P nt c e1 S1 Q
  | x=>K x a' w'
 have hround:c.wp P K' a w:=by
  refine h cx w a K' hS he (fun r hr=>?_)
  obtain ⟨x,e',S'⟩:=r
  cases x with
  | normal=>exact fun cx' a' w' q1 q2 q3 q4=>⟨cx',e',S',q1,q3,q2,q4,hr⟩
  | exit id=>exact hk _ hr
  | ret=>exact hk _ hr
  | panic v=>exact hk _ hr
 obtain ⟨x,a₁,w₁,hq,harr⟩:=hround b (.inLoop c :: k) cs
 cases x with
 | normal =>
  obtain ⟨cx1,e1,S1,s1,er1,x1,d1,hl⟩:=hq
  obtain ⟨x2,a₂,w₂,hq₂,harr₂⟩:=hl cx1 w₁ a₁ K s1 er1 (fun r hr=>(hk r hr).trans x1 d1) b k cs
  exact ⟨x2,a₂,w₂,hq₂,.of_steps (Steps.trans harr (.one step_inLoop)) harr₂⟩
 | exit id=>exact ⟨_,a₁,w₁,hq,.pass (x:=.inLoop c) rfl (fun _ _=>.inl (by simp)) harr⟩
 | goto l=>exact ⟨_,a₁,w₁,hq,.pass (x:=.inLoop c) rfl (fun _ _=>.inl (by simp)) harr⟩
 | ret=>exact ⟨_,a₁,w₁,hq,.pass (x:=.inLoop c) rfl (fun _ _=>.inl (by simp)) harr⟩
 | panic ch=>exact ⟨_,a₁,w₁,hq,.pass (x:=.inLoop c) rfl (fun _ _=>.inl (by simp)) harr⟩
 | outgrown=>exact ⟨_,a₁,w₁,hq,.pass (x:=.inLoop c) rfl (fun _ _=>.inl (by simp)) harr⟩
def Less (y x:AV):Prop:=∀ (cx:Cx) (S:St) (w:World) (v:Value),ay cx S w x v→ay cx S w y v
theorem Less.refl (x:AV):Less x x:=fun _ _ _ _ h=>h
theorem Less.trans {x y z:AV} (a:Less z y) (b:Less y x):Less z x:=fun cx S w v h=>a cx S w v (b cx S w v h)
def aa (e2 e:Env):Prop:=∀ t x,AL.get e2 t=some x→∃ y,AL.get e t=some y∧Less x y
theorem aa.refl (e:Env):aa e e:=fun _ x h=>⟨x,h,.refl x⟩
theorem aa.trans {e1 e2 e3:Env} (a:aa e1 e2) (b:aa e2 e3):aa e1 e3:=fun t x h=>by
 obtain ⟨y,h1,h2⟩:=a t x h
 obtain ⟨z,h3,h4⟩:=b t y h1
 exact ⟨z,h3,h2.trans h4⟩
theorem aa.top {e:Env} {t:Nat} {x y:AV} (h:Less y x):aa ((t,y) :: e) ((t,x) :: e):=fun u z hz=>by
 rw [AL.bJ] at hz ⊢
 by_cases hu:t=u
 ·
  rw [if_pos hu] at hz ⊢; cases hz; exact ⟨x,rfl,h⟩
 ·
  rw [if_neg hu] at hz ⊢; exact ⟨z,hz,.refl z⟩
theorem aa.nil {e:Env}:aa [] e:=fun _ _ h=>by simp [AL.get] at h
theorem aa.cons {t:Nat} {x y:AV} {e2 e:Env} (h:AL.get e t=some y) (hl:Less x y) (k:aa e2 e):aa ((t,x) :: e2) e:=fun u z hz=>by
 rw [AL.bJ] at hz
 by_cases hu:t=u
 ·
  subst hu; rw [if_pos rfl] at hz; cases hz; exact ⟨y,h,hl⟩
 ·
  rw [if_neg hu] at hz; exact k u z hz
theorem cK.weak {cx:Cx} {S:St} {w:World} {e2 e:Env} {a:Act} (h:cK cx S w nt e a) (s:aa e2 e):cK cx S w nt e2 a :=
 ⟨h.size,fun t x hx=>by
  obtain ⟨y,h1,h2⟩:=s t x hx
  obtain ⟨v,v1,v2⟩:=h.rel t y h1
  exact ⟨v,v1,h2 _ _ _ _ v2⟩⟩
theorem az.weak {c:Code} {e2 e:Env} {S:St} {Q:kW→Prop} (s:aa e2 e) (h:az R P nt c e2 S Q):az R P nt c e S Q :=
 fun cx w a K h1 h2 h3=>h cx w a K h1 (h2.weak s) h3
theorem oC.weak {c:Code} {e2 e:Env} {S:St} {Q:kW→Prop} (s:aa e2 e) (h:oC R P nt c e2 S Q):oC R P nt c e S Q :=
 fun cx w a K h1 h2 h3=>h cx w a K h1 (h2.weak s) h3
def xK (R:aR) (C:bQ) (nt:Nat) (dst:Option Nat) (op:Op) (e:Env) (S:St) (Q:Stp→Prop):Prop :=
 (∃ v S' e',oper C (bA e) S op=some (.val v S')∧e.put nt dst v=some e'∧Q (.go e' S')) ∨
 (∃ S',oper C (bA e) S op=some (.skip S')∧dst=none∧Q (.go e S')) ∨
 (∃ f args,oper C (bA e) S op=some (.call f args)∧bT R C.P f args S (fun r=>match r with
  | (none,v,S')=>∃ e',e.put nt dst v=some e'∧Q (.go e' S')
  | (some p,_,S')=>Q (.stop p S'))) ∨
 (∃ t x y ty xs b el,op=.binOp .eql t x y ty∧bA e x=some (.d (.sl xs b))∧bA e y=some (.d .cB)∧C.P.underlying t=some (.slice el) ∧
  ∀ bb:Bool,(bb=true→xs=[])→∃ e',e.put nt dst (.d (.bool bb))=some e'∧Q (.go e' S))
theorem xK.mono {dst:Option Nat} {op:Op} {e:Env} {S:St} {Q Q':Stp→Prop} (h:xK R C nt dst op e S Q) (hq:∀ r,Q r→Q' r):xK R C nt dst op e S Q':=by
 rcases h with ⟨v,S',e',h1,h2,h3⟩ | ⟨S',h1,h2,h3⟩ | ⟨f,args,h1,h2⟩ | ⟨t,x,y,ty,xs,b,el,h1,h2,h3,h4,h5⟩
 ·
  exact .inl ⟨v,S',e',h1,h2,hq _ h3⟩
 ·
  exact .inr (.inl ⟨S',h1,h2,hq _ h3⟩)
 ·
  exact .inr (.inr (.inl ⟨f,args,h1,h2.mono fun r hr=>by
   obtain ⟨p,v,S'⟩:=r
   cases p with
   | none=>obtain ⟨e',a,b⟩:=hr; exact ⟨e',a,hq _ b⟩
   | some p=>exact hq _ hr⟩))
 ·
  exact .inr (.inr (.inr ⟨t,x,y,ty,xs,b,el,h1,h2,h3,h4,fun bb hb=>let ⟨e',a,c⟩:=h5 bb hb; ⟨e',a,hq _ c⟩⟩))
theorem xY {w:World} {fr:Nat→Nat→Prop} {xs:List D} {b:Bool} {v:Value} (h:aQ w fr (.sl xs b) v):∃ a n c,v=.slice a n c∧(a=none→xs=[]):=by
 have h1:=h.val rfl
 cases h1 with
 | sl0 a cap _ _=>exact ⟨a,0,cap,rfl,fun _=>rfl⟩
 | sl _ _ b off cap sz vs hne hcap ht hsz hlen hx hc=>exact ⟨_,_,_,rfl,fun h=>by cases h⟩
def qm (R:aR) (C:bQ) (nt:Nat) (ops:Array Oper) (o:Oper) (e:Env) (S:St) (Q:Stp→Prop):Prop :=
 (∃ t rs,o.op=.next (.tmp t) false∧AP nt o t e S=some rs∧∀ r ∈ rs,Q r) ∨
 (∃ e2,aa e2 e∧bg ops e o=some true∧xK R C nt o.dst o.op e2 S Q) ∨
 (∃ e2 e',aa e2 e∧bg ops e o=some false∧(match o.dst with | none=>e'=e2 | some t=>e2.put nt (some t) (.tup [])=some e')∧Q (.go e' S))
theorem qm.mono {ops:Array Oper} {o:Oper} {e:Env} {S:St} {Q Q':Stp→Prop} (h:qm R C nt ops o e S Q) (hq:∀ r,Q r→Q' r):qm R C nt ops o e S Q':=by
 rcases h with ⟨t,rs,h1,h2,h3⟩ | ⟨e2,h1,h2,h3⟩ | ⟨e2,e',h1,h2,h3,h4⟩
 ·
  exact .inl ⟨t,rs,h1,h2,fun r hr=>hq r (h3 r hr)⟩
 ·
  exact .inr (.inl ⟨e2,h1,h2,h3.mono hq⟩)
 ·
  exact .inr (.inr ⟨e2,e',h1,h2,h3,hq _ h4⟩)
theorem xk (hR:fe R C) {ops:Array Oper} {o:Oper} {e:Env} {S:St} {Q:Stp→Prop} (h:qm R C nt ops o e S Q) {cx:Cx} {w:World} {a:Act} (hS:aD R cx S w) (he:cK cx S w nt e a)
  {K:Act→World→Prop} {Kx:Exit→Act→World→Prop} (hk:∀ r,Q r→After R cx S w nt a K Kx r) {i:Nat} (hi:ops[i]? = some o):wpOp C.P ops Kx i K a w:=by
 have hrefl:=Ext.refl (cx:=cx) w hS.wf
 rcases h with ⟨t,rs,h1,h2,h3⟩ | ⟨e2,hw,h1,h2⟩ | ⟨e2,e',hw,h1,h2,h3⟩
 ·
  exact rV hR h1 h2 hS he (fun r hr=>hk r (h3 r hr)) hi
 ·
  have he2:=he.weak hw
  unfold wpOp
  rw [hi]
  simp only
  rw [if_pos (bP he h1)]
  left
  rcases h2 with ⟨v,S',e',h1,h2,h3⟩ | ⟨S',h1,h2,h3⟩ | ⟨f,args,h1,h2⟩ | ⟨t,x,y,ty,xs,b,el,hop,hx,hy,hu,hq⟩
  rotate_left 3
  ·
   have rx:=he2.eval x _ hx
   have ry:=he2.eval y _ hy
   obtain ⟨a0,n,c,ex,hnil⟩:=xY rx.dd
   have ey:a.eval y=.slice none 0 0:=by
    have:=ry.dd.val rfl
    generalize a.eval y=z at this
    cases this
    rfl
   have hrun:(execOp a.eval o).run C.P w=.ok (.value (.bool a0.isNone)) w:=by
    obtain ⟨dst,op,ty',pos,after,guard⟩:=o
    simp only at hop
    subst hop
    exact mI (by
     rw [ex,ey]
     have hg:(eqGuard .eql t x y (.slice a0 n c) (.slice none 0 0)).run C.P w=.ok () w:=dz rfl
     simp only [Sem.run_bind,hg,Result.andThen_ok]
     exact Lib.run_eql_slice_nil w t el a0 n c 0 0 hu)
   obtain ⟨e',hp,hk'⟩:=hq a0.isNone (fun h=>hnil (by cases a0 with | none=>rfl | some a=>cases h))
   unfold Oper.wp
   rw [hrun]
   exact hk _ hk' cx _ w hS hrefl (he2.put hp (.of_bool _)) (put_defers _ _ _)
  ·
   obtain ⟨cx',w',u,k1,k2,k3,k4⟩:=cu hR hS he2.eval o h1
   unfold Oper.wp
   rw [k1]
   exact hk _ h3 cx' _ w' k2 k3 ((he2.mono k3).put h2 k4) (put_defers _ _ _)
  ·
   obtain ⟨cx',w',k1,k2,k3⟩:=cu hR hS he2.eval o h1
   unfold Oper.wp
   rw [k1]
   show K (a.put o.dst undef) w'
   rw [h2]
   exact hk _ h3 cx' _ w' k2 k3 (he2.mono k3) rfl
  ·
   obtain ⟨us,k1,k2,k3⟩:=cu hR hS he2.eval o h1
   obtain ⟨⟨fn,f1,f2,f3⟩,hcalls⟩:=h2
   unfold Oper.wp
   rw [k3 fn f1 f2 f3]
   refine (hcalls cx w us hS k1 k2).mono (fun en w' hen=>?_)
   obtain ⟨⟨p,v,S'⟩,hq,cx',m1,m2,m3⟩:=hen
   cases p with
   | none =>
    obtain ⟨u,rfl,m3⟩:=m3
    obtain ⟨e',hp,hq⟩:=hq
    exact hk _ hq cx' _ w' m1 m2 ((he2.mono m2).put hp m3) (put_defers _ _ _)
   | some p =>
    obtain ⟨u,rfl,m3⟩:=m3
    exact hk _ hq cx' w' u m1 m2 m3
 ·
  have he2:=he.weak hw
  unfold wpOp
  rw [hi]
  simp only
  rw [if_neg (by rw [bP he h1]; simp)]
  split at h2
  ·
   rename_i hd
   subst h2
   rw [hd]
   exact hk _ h3 cx _ w hS hrefl he2 rfl
  ·
   rename_i t hd
   rw [hd]
   exact hk _ h3 cx _ w hS hrefl (he2.put h2 (.tup [] [] rfl (fun i x v hx=>by simp at hx))) (put_defers _ _ _)
def jh (R:aR) (nt:Nat) (e:Env) (S:St) (e2:Env) (S2:St):Prop :=
 ∀ cx w a,aD R cx S w→cK cx S w nt e a→∃ cx2,aD R cx2 S2 w∧Ext cx S w cx2 S2 w∧cK cx2 S2 w nt e2 a
theorem jh.refl (e:Env) (S:St):jh R nt e S e S:=fun cx w a h1 h2=>⟨cx,h1,Ext.refl w h1.wf,h2⟩
theorem jh.weak {e2 e:Env} (S:St) (s:aa e2 e):jh R nt e S e2 S:=fun cx w a h1 h2=>⟨cx,h1,Ext.refl w h1.wf,h2.weak s⟩
theorem jh.trans {e1 e2 e3:Env} {S1 S2 S3:St} (a:jh R nt e1 S1 e2 S2) (b:jh R nt e2 S2 e3 S3):jh R nt e1 S1 e3 S3:=fun cx w ac h1 h2=>by
 obtain ⟨c2,q1,q2,q3⟩:=a cx w ac h1 h2
 obtain ⟨c3,r1,r2,r3⟩:=b c2 w ac q1 q3
 exact ⟨c3,r1,q2.trans r2,r3⟩
def ah (R:aR) (C:bQ) (nt:Nat) (ops:Array Oper):List Oper→Env→St→(Stp→Prop)→Prop
 | [],e,S,Q=>∃ e2,aa e2 e∧Q (.go e2 S)
 | o :: rest,e,S,Q=>∃ e2 S2,jh R nt e S e2 S2∧qm R C nt ops o e2 S2 (fun r=>match r with
  | .go e' S'=>ah R C nt ops rest e' S' Q
  | .stop v S'=>Q (.stop v S'))
theorem ah.weak {ops:Array Oper} {l:List Oper} {e2 e:Env} {S:St} {Q:Stp→Prop} (s:aa e2 e) (h:ah R C nt ops l e2 S Q):ah R C nt ops l e S Q:=by
 cases l with
 | nil=>obtain ⟨e3,h1,h2⟩:=h; exact ⟨e3,h1.trans s,h2⟩
 | cons o l=>obtain ⟨e3,S3,h1,h2⟩:=h; exact ⟨e3,S3,(jh.weak S s).trans h1,h2⟩
theorem ah.ghost {ops:Array Oper} {o:Oper} {l:List Oper} {e2 e:Env} {S S2:St} {Q:Stp→Prop} (g:jh R nt e S e2 S2) (h:ah R C nt ops (o :: l) e2 S2 Q):ah R C nt ops (o :: l) e S Q:=by
 obtain ⟨e3,S3,h1,h2⟩:=h
 exact ⟨e3,S3,g.trans h1,h2⟩
theorem vQ (hR:fe R C) {ops:Array Oper} {Kx:Exit→Act→World→Prop}:∀ (l:List Oper) (k:Nat) {cx:Cx} {S:St} {w:World} {e:Env} {a:Act} {Q:Stp→Prop},
  (∀ j,l[j]? = ops[k + j]?)→ah R C nt ops l e S Q→aD R cx S w→cK cx S w nt e a →
  (∀ r,Q r→match r with
   | .go e' S'=>∀ cx' a' w',aD R cx' S' w'→Ext cx S w cx' S' w'→cK cx' S' w' nt e' a'→a'.defers=a.defers→Kx .normal a' w'
   | .stop v S'=>∀ cx' a' w' u,aD R cx' S' w'→Ext cx S w cx' S' w'→ay cx' S' w' v u→a'.defers=a.defers→Kx (.panic [{ v:=u,recovered:=false }]) a' w') →
  wpOps C.P ops Kx ((List.range l.length).map (k + ·)) a w
 | [],k,cx,S,w,e,a,Q,hl,⟨e2,hs,hev⟩,hS,he,hk=>hk (.go e2 S) hev cx a w hS (Ext.refl w hS.wf) (he.weak hs) rfl
 | o :: l,k,cx,S,w,e,a,Q,hl,⟨e2,S2,hs,hev⟩,hS,he,hk=>by
  obtain ⟨c2,hS,x0,he⟩:=hs cx w a hS he
  replace hk:∀ r,Q r→match r with
   | .go e' S'=>∀ cx' a' w',aD R cx' S' w'→Ext c2 S2 w cx' S' w'→cK cx' S' w' nt e' a'→a'.defers=a.defers→Kx .normal a' w'
   | .stop v S'=>∀ cx' a' w' u,aD R cx' S' w'→Ext c2 S2 w cx' S' w'→ay cx' S' w' v u→a'.defers=a.defers→Kx (.panic [{ v:=u,recovered:=false }]) a' w':=fun r hr=>by
   have hk:=hk r hr
   cases r with
   | go e' S'=>exact fun cx' a' w' q1 q2 q3 q4=>hk cx' a' w' q1 (x0.trans q2) q3 q4
   | stop v S'=>exact fun cx' a' w' u q1 q2 q3 q4=>hk cx' a' w' u q1 (x0.trans q2) q3 q4
  have h0:ops[k]? = some o:=by simpa using (hl 0).symm
  rw [List.length_cons,List.range_succ_eq_map,List.map_cons,wpOps_cons,Nat.add_zero]
  refine xk hR hev hS he (fun r hr=>?_) h0
  cases r with
  | go e' S' =>
   intro cx1 a1 w1 s1 x1 er1 d1
   have ih:=vQ hR (Kx:=Kx) l (k + 1) (cx:=cx1) (S:=S') (w:=w1) (e:=e') (a:=a1) (Q:=Q) (fun j=>by have:=hl (j + 1); simpa [Nat.add_assoc,Nat.add_comm 1 j] using this) hr s1 er1 (fun r hr=>by
    have hk':=hk r hr
    cases r with
    | go e2 S2=>exact fun cx' a' w' q1 q2 q3 q4=>hk' cx' a' w' q1 (x1.trans q2) q3 (q4.trans d1)
    | stop v S2=>exact fun cx' a' w' u q1 q2 q3 q4=>hk' cx' a' w' u q1 (x1.trans q2) q3 (q4.trans d1))
   rw [List.map_map]
   have:((fun x=>k + x) ∘ Nat.succ)=(fun x=>k + 1 + x):=by funext x; simp; omega
   rw [this]; exact ih
  | stop v S'=>exact fun cx1 w1 u s1 x1 r1=>hk (.stop v S') hr cx1 a w1 u s1 x1 r1 rfl
theorem az.region (hR:fe R C) {id:Nat} {ops:Array Oper} {l:List Oper} (hl:ops.toList=l) {e:Env} {S:St} {Q:kW→Prop} (h:ah R C nt ops l e S (fun r=>Q (Dp e r))):az R C.P nt (.region id ops false) e S Q:=by
 intro cx w a K h1 h2 h3
 refine wp_region ?_
 have:=vQ hR (Kx:=K) ops.toList 0 (by simp) (hl ▸ h) h1 h2 (fun r hr=>by
  have hk':=h3 _ hr
  cases r with
  | go e' S'=>exact fun cx' a' w' q1 q2 q3 q4=>hk' cx' a' w' q1 q2 q3 q4
  | stop v S'=>exact fun cx' a' w' u q1 q2 q3 q4=>hk' cx' a' w' u q1 q2 q3 q4)
 simpa using this
inductive Fact where
 | pure (f:Nat) (args:List AV) (v:AV)
 | full (f:Nat) (args:List AV) (S:St) (v:AV) (S':St)
def CW (R:aR) (P:Program) (f:Nat) (args:List AV) (v:AV):Prop:=∀ S,bT R P f args S (fun r=>r=(none,v,S))
open Classical in
def DL (C:bQ) (fn:Func) (Q:Out→Prop):kW→Prop
 | (.normal,e,S)=>∃ v,kV C fn e S=some v∧Q (none,v,S)
 | (.ret,e,S)=>∃ v,kV C fn e S=some v∧Q (none,v,S)
 | (.panic v,_,S)=>Q (some v,.d (.bool false),S)
 | _=>False
theorem bT.of_wp {f:Nat} {fn:Func} {c:Code} (hf:C.P.funcs[f]? = some fn) (hc:fn.body=some c) (hn:(fn.name == "runtime.NumGoroutine")=false) {args:List AV} (hle:args.length ≤ fn.ntmps) {S:St} {Q:Out→Prop}
  (h:az R C.P fn.ntmps c (jN 0 args) S (DL C fn Q)):bT R C.P f args S Q:=by
 refine ⟨⟨fn,hf,by simp [hc],by simpa using hn⟩,fun cx w us hS hl hr=>?_⟩
 refine calls_of_wp hf hc ?_
 have he:cK cx S w fn.ntmps (jN 0 args) { tmps:=us.toArray ++ Array.replicate (fn.ntmps - us.toArray.size) undef,defers:=[] }:=by
  refine ⟨by simp; omega,fun t x hx=>?_⟩
  rw [oq] at hx
  simp only [Nat.zero_le,if_true,Nat.sub_zero] at hx
  have hlt:t < us.length:=by rw [hl]; exact (List.getElem?_eq_some_iff.1 hx).1
  have hu:=List.getElem?_eq_getElem hlt
  exact ⟨us[t],by rw [Array.getElem?_append_left (by simpa using hlt)]; simp,hr t x _ hx hu⟩
 refine h cx w _ _ hS he (fun r hr=>?_)
 obtain ⟨x,e,S1⟩:=r
 cases x with
 | normal =>
  obtain ⟨rv,hrv,hq⟩:=hr
  intro cx' a' w' q1 q2 q3 q4
  obtain ⟨u,r1,r2⟩:=iO q1 q3 hrv
  exact ⟨q4,u,r1,_,hq,cx',q1,q2,u,rfl,r2⟩
 | ret =>
  obtain ⟨rv,hrv,hq⟩:=hr
  intro cx' a' w' q1 q2 q3 q4
  obtain ⟨u,r1,r2⟩:=iO q1 q3 hrv
  exact ⟨q4,u,r1,_,hq,cx',q1,q2,u,rfl,r2⟩
 | panic pv =>
  intro cx' a' w' u q1 q2 q3 q4
  exact ⟨q4,_,hr,cx',q1,q2,u,rfl,q3⟩
 | exit id=>exact hr.elim
theorem CW.of (hR:ObjOk R) {f:Nat} {ds:List D} {args:List AV} {v:AV} (ha:fO args=some ds) (h:bT R P f (ds.map .d) aH (fun r=>r.1=none∧lG r.2.1=some v)):CW R P f args v:=by
 intro S
 obtain ⟨d1,d2⟩:=jB ha
 refine ⟨h.1,fun cx w us hS hl hr=>?_⟩
 refine (h.2 cx w us (uK hS) (by simp [hl,d1]) (fun i x u hx hu=>?_)).mono (fun e w' he=>?_)
 ·
  simp only [List.getElem?_map,Option.map_eq_some_iff] at hx
  obtain ⟨y,hy,rfl⟩:=hx
  have hlt:i < args.length:=by rw [← d1]; exact (List.getElem?_eq_some_iff.1 hy).1
  have ha:=List.getElem?_eq_getElem hlt
  exact .d y u (dW (d2 i _ y ha hy) (hr i _ u ha hu))
 ·
  obtain ⟨⟨p,v1,S1⟩,⟨hp,hv⟩,cx1,k1,k2,k3⟩:=he
  simp only at hp hv
  subst hp
  obtain ⟨m1,m2,m3⟩:=ni hR hS k2
  obtain ⟨u,rfl,k3⟩:=k3
  exact ⟨_,rfl,cx,m1,m2,u,rfl,lu hv k3 m3⟩
end
end Go.Ev

namespace Go.Ev
noncomputable section
set_option linter.unusedVariables false
set_option linter.unusedSimpArgs false
variable {R:aR} {C:bQ} {P:Program} {nt:Nat}
def jI.under (n:Nat):jI→Prop
 | .cells _ cs=>∀ x ∈ cs,x.under n=true
 | .map m=>∀ p ∈ m.es,p.2.1.under n=true
 | .obj _ _=>True
structure tQ (S0 S S2:St):Prop where
 nx:S2.nx=S0.nx
 H:∀ id b,S2.H.get id=some b→S.H.get id=some b∧live S0 id∧b.under S0.nx
 T:∀ id n,S2.T.get id=some n→S.T.get id=some n∧live S0 id
theorem sI {n:Nat}:∀ {l:List AV},(∀ x ∈ l,x.under n=true)→belows n l=true
 | [],_=>rfl
 | x :: l,h=>by simp only [belows,h x List.mem_cons_self,sI (fun y hy=>h y (List.mem_cons_of_mem _ hy)),Bool.and_self]
theorem nS {n:Nat} {xs:List AV} {vs:List Value} (hl:vs.length=xs.length) (h:∀ (i:Nat) (x:AV) (v:Value),xs[i]? = some x→vs[i]? = some v→x.under n=true):belows n xs=true :=
 sI fun x hx=>by
  obtain ⟨i,hi,rfl⟩:=List.getElem_of_mem hx
  exact h i xs[i] vs[i] (List.getElem?_eq_getElem hi) (List.getElem?_eq_getElem (by omega))
theorem ay.under {cx:Cx} {S:St} {w:World} {x:AV} {v:Value} (h:ay cx S w x v):x.under S.nx=true:=by
 have bl:∀ {a b:Nat},a < b→Nat.blt a b=true:=fun h=>Nat.ble_eq_true_of_le h
 induction h with
 | d x v h=>rfl
 | tsl xs tok b off cap hn h hp=>exact bl hn.1
 | ptr id g off b hn hp=>exact bl hn.1
 | msl id g off len lim sz b cap hn hl hcap h63 hp=>exact bl hn.1
 | asl id g off len sz b hn h63 hp=>exact bl hn.1
 | eptr x off b o vs h hc=>rfl
 | map id b hn hp=>exact bl hn.1
 | fn f cs vs hl h ih=>simp only [AV.under]; exact nS hl ih
 | agg xs vs hl ho h ih=>simp only [AV.under]; exact nS hl ih
 | tup xs vs hl h ih=>simp only [AV.under]; exact nS hl ih
 | any v=>rfl
 | it0 k g since st b seen hn hp=>exact bl hn.1
 | it k g id since st b m seen hn hni hm hp=>simp only [AV.under,bl hn.1,bl hni.1,Bool.and_self]
theorem aD.under {cx:Cx} {S:St} {w:World} (h:aD R cx S w) {id:Nat} {b:jI} (hb:S.H.get id=some b):b.under S.nx:=by
 cases b with
 | cells g cs =>
  obtain ⟨_,_,arr,el,_,_,h3⟩:=h.cells id g cs hb
  intro x hx
  obtain ⟨i,hi,rfl⟩:=List.getElem_of_mem hx
  obtain ⟨v,_,h4,_⟩:=h3 i cs[i] (List.getElem?_eq_getElem hi)
  exact h4.under
 | map m =>
  obtain ⟨_,_,ms,clk,_,⟨h2,_,_⟩,h3⟩:=h.maps id m hb
  intro p hp
  obtain ⟨i,hi,rfl⟩:=List.getElem_of_mem hp
  exact (h3 i m.es[i] ms[i] (List.getElem?_eq_getElem hi) (Array.getElem?_eq_getElem (by omega))).2.under
 | obj k x=>trivial
theorem jv {cx:Cx} {S0 S S2:St} {w:World} (h:aD R cx S w) (s:tQ S0 S S2) {id g:Nat} (hc:cur S2 id=some g):cur S id=some g:=by
 unfold cur at hc ⊢
 cases hH:AL.get S2.H id with
 | some b =>
  rw [hH] at hc
  rw [(s.H id b hH).1]
  cases b <;> exact hc
 | none =>
  rw [hH] at hc
  simp only at hc
  have hT:=(s.T _ _ hc).1
  cases hS:S.H.get id with
  | some b=>have:=h.lU id b hS; rw [this] at hT; cases hT
  | none=>exact hT
theorem CB {S0 S S2:St} (s:tQ S0 S S2) {id:Nat} (hl:live S2 id):live S0 id:=by
 cases hH:AL.get S2.H id with
 | some b=>exact (s.H id b hH).2.1
 | none =>
  cases hT:AL.get S2.T id with
  | none=>exact absurd (by unfold cur; rw [hH]; exact hT) hl
  | some en=>exact (s.T id en hT).2
theorem lY {S0 S S2:St} (s:tQ S0 S S2) {k g:Nat} (h:isIt S2 k g):isIt S k g:=(s.H _ _ h).1
theorem qw {cx:Cx} {S0 S S2:St} {w:World} (h:aD R cx S w) (s:tQ S0 S S2) {i:Nat} (hi:cur S2 i ≠ none):cur S i ≠ none:=by
 cases hc:cur S2 i with
 | none=>exact absurd hc hi
 | some g=>rw [jv h s hc]; simp
theorem ay.sub {cx:Cx} {S0 S S2:St} {w:World} (h:aD R cx S w) (s:tQ S0 S S2) {x:AV} {v:Value} (hx:ay cx S w x v) (hu:x.under S0.nx=true):ay cx S2 w x v:=by
 have nm:∀ {id g:Nat},Names S id g→id < S0.nx→Names S2 id g:=fun hn hlt=>⟨by rw [s.nx]; exact hlt,fun g' hg=>hn.2 g' (jv h s hg)⟩
 induction hx with
 | d x v hd=>exact .d x v hd
 | tsl xs tok b off cap hn hd hp =>
  simp only [AV.under] at hu
  exact .tsl xs tok b off cap (nm hn (Nat.le_of_ble_eq_true hu)) hd (fun hc=>hp (jv h s hc))
 | ptr id g off b hn hp =>
  simp only [AV.under] at hu
  exact .ptr id g off b (nm hn (Nat.le_of_ble_eq_true hu)) (fun hc=>hp (jv h s hc))
 | msl id g off len lim sz b cap hn hl hcap h63 hp =>
  simp only [AV.under] at hu
  exact .msl id g off len lim sz b cap (nm hn (Nat.le_of_ble_eq_true hu)) hl hcap h63 (fun hc=>hp (jv h s hc))
 | any v=>exact .any v
 | eptr x off b o vs hd hc=>exact .eptr x off b o vs hd hc
 | map id b hn hp =>
  simp only [AV.under] at hu
  exact .map id b (nm hn (Nat.le_of_ble_eq_true hu)) (fun hc=>hp (jv h s hc))
 | asl id g off len sz b hn h63 hp =>
  simp only [AV.under] at hu
  exact .asl id g off len sz b (nm hn (Nat.le_of_ble_eq_true hu)) h63 (fun hc=>hp (jv h s hc))
 | fn f cs vs hl hr ih=>exact .fn f cs vs hl (fun i x v hx hv=>ih i x v hx hv (by simp only [AV.under] at hu; exact eD hu x (List.mem_of_getElem? hx)))
 | agg xs vs hl ho hr ih=>exact .agg xs vs hl ho (fun i x v hx hv=>ih i x v hx hv (by simp only [AV.under] at hu; exact eD hu x (List.mem_of_getElem? hx)))
 | tup xs vs hl hr ih=>exact .tup xs vs hl (fun i x v hx hv=>ih i x v hx hv (by simp only [AV.under] at hu; exact eD hu x (List.mem_of_getElem? hx)))
 | it0 k g since st b seen hn hp =>
  simp only [AV.under] at hu
  refine .it0 k g since st b seen (nm hn (Nat.le_of_ble_eq_true hu)) (fun hk=>?_)
  obtain ⟨p1,p2,p3,p4⟩:=hp (lY s hk)
  exact ⟨p1,p2,fun i hi hf=>p3 i (qw h s hi) hf,p4⟩
 | it k g id since st b m seen hn hni hm hp =>
  simp only [AV.under,Bool.and_eq_true] at hu
  refine .it k g id since st b m seen (nm hn (Nat.le_of_ble_eq_true hu.1)) (nm hni (Nat.le_of_ble_eq_true hu.2)) (fun hc=>hm (jv h s hc)) (fun hk=>?_)
  obtain ⟨p1,p2,p3,p4⟩:=hp (lY s hk)
  exact ⟨p1,p2,fun i hi hf=>p3 i (qw h s hi) hf,p4⟩
theorem BM {cx0 cx:Cx} {S0 S S2:St} {w0 w:World} (wf0:∀ id,live S0 id→id < S0.nx) (h:aD R cx S w) (e:Ext cx0 S0 w0 cx S w) (s:tQ S0 S S2) :
  aD R cx S2 w∧Ext cx0 S0 w0 cx S2 w:=by
 have hlS:∀ id,live S2 id→live S id:=fun id hl=>qw h s hl
 refine ⟨⟨fun id hl=>by rw [s.nx]; exact wf0 id (CB s hl),fun id b hi=>?_,fun id g cs hi=>?_,fun id es hi=>?_,fun id k x hi=>?_,fun id en hi=>?_,fun id id' b a1 a2=>h.sep id id' b (hlS id a1) (hlS id' a2),h.lt,h.stat⟩,?_⟩
 ·
  have hS:=(s.H _ _ hi).1
  cases hT:S2.T.get id with
  | none=>rfl
  | some en=>have:=(s.T _ _ hT).1; rw [h.lU id b hS] at this; cases this
 ·
  obtain ⟨hS,_,hbl⟩:=s.H _ _ hi
  obtain ⟨c1,c2,arr,el,c3,c4,c5⟩:=h.cells id g cs hS
  refine ⟨c1,c2,arr,el,c3,c4,fun i x hx=>?_⟩
  obtain ⟨v,v1,v2,v3⟩:=c5 i x hx
  exact ⟨v,v1,v2.sub h s (hbl x (List.mem_of_getElem? hx)),v3⟩
 ·
  obtain ⟨hS,_,hbl⟩:=s.H _ _ hi
  obtain ⟨c1,c2,ms,clk,c3,c4,c5⟩:=h.maps id es hS
  refine ⟨c1,c2,ms,clk,c3,c4,fun i p m hp hm=>?_⟩
  obtain ⟨v1,v2⟩:=c5 i p m hp hm
  exact ⟨v1,v2.sub h s (hbl p (List.mem_of_getElem? hp))⟩
 ·
  exact h.objs id k x (s.H _ _ hi).1
 ·
  exact h.toks id en (s.T _ _ hi).1
 ·
  refine ⟨e.size,e.os,e.tape,e.output,by rw [s.nx]; exact Nat.le_refl _,e.prot,fun b hb hn=>e.other b hb (fun id hl hf=>by
   obtain ⟨q1,g,q2,q3⟩:=hn id hl hf
   exact ⟨q1,g,q2,lY s q3⟩),fun id b hl hf=>?_,fun id g hid hi=>e.back id g hid (lY s hi),fun id g b hid h0 hi hf=>e.keep id g b hid h0 (lY s hi) hf,fun id g hid hg=>e.curs id g hid (jv h s hg)⟩
  exact e.own id b (hlS id hl) hf
structure dU (S S':St):Prop where
 nx:S.nx ≤ S'.nx
 H:∀ id b,S.H.get id=some b→S'.H.get id=some b
 T:∀ id n,S.T.get id=some n→S'.T.get id=some n
theorem dU.refl (S:St):dU S S:=⟨Nat.le_refl _,fun _ _ h=>h,fun _ _ h=>h⟩
theorem dU.trans {S S' S'':St} (a:dU S S') (b:dU S' S''):dU S S'':=⟨Nat.le_trans a.nx b.nx,fun _ _ h=>b.H _ _ (a.H _ _ h),fun _ _ h=>b.T _ _ (a.T _ _ h)⟩
theorem dU.sub {cx:Cx} {S S':St} {w:World} (h:aD R cx S w) (k:dU S S'):tQ S S' S where
 nx:=rfl
 H:=fun id b hb=>⟨k.H id b hb,by unfold live cur; rw [hb]; cases b <;> simp,h.under hb⟩
 T:=fun id n hn=>⟨k.T id n hn,by
  unfold live cur
  cases hH:S.H.get id with
  | none=>simp only [hn]; simp
  | some b=>cases b <;> simp⟩
def St.Wf (S:St):Prop:=∀ id,live S id→id < S.nx
theorem St.Wf.H {S:St} (h:S.Wf) {id:Nat} {b:jI} (hb:S.H.get id=some b):id < S.nx:=h id (by unfold live cur; rw [hb]; cases b <;> simp)
theorem St.Wf.fresh {S:St} (h:S.Wf) {id:Nat} (hi:S.nx ≤ id):S.H.get id=none:=by
 cases hb:S.H.get id with
 | none=>rfl
 | some b=>have:=h.H hb; omega
theorem ah.nil {ops:Array Oper} {e:Env} {S:St} {Q:Stp→Prop} (h:Q (.go e S)):ah R C nt ops [] e S Q:=⟨e,.refl e,h⟩
end
end Go.Ev

namespace Go.Ev
noncomputable section
set_option linter.unusedVariables false
set_option linter.unusedSimpArgs false
variable {R:aR} {C:bQ} {P:Program} {nt:Nat}
mutual
def D.cn:D→D
 | .cB=>.sl [] false
 | .sl xs _=>.sl (D.FK xs) false
 | .agg xs=>.agg (D.FK xs)
 | .iface t x=>.iface t (D.cn x)
 | x=>x
def D.FK:List D→List D
 | []=>[]
 | x :: xs=>D.cn x :: D.FK xs
end
def iV (y x:D):Prop:=∀ (w:World) (fr:Nat→Nat→Prop) (v:Value),aQ w fr x v→aQ w fr y v
theorem iV.refl (x:D):iV x x:=fun _ _ _ h=>h
theorem iV.less {x y:D} (h:iV y x):Less (.d y) (.d x):=fun cx S w v hr=>.d _ _ (h _ _ _ hr.dd)
inductive iL:List D→List D→Prop
 | nil:iL [] []
 | cons {y x:D} {ys xs:List D} (h:iV y x) (k:iL ys xs):iL (y :: ys) (x :: xs)
theorem iL.len {ys xs:List D} (h:iL ys xs):ys.length=xs.length:=by
 induction h with
 | nil=>rfl
 | cons _ _ ih=>simp [ih]
theorem iL.get {ys xs:List D} (h:iL ys xs):∀ {i:Nat} {y x:D},ys[i]? = some y→xs[i]? = some x→iV y x:=by
 induction h with
 | nil=>intro i y x h; simp at h
 | cons h k ih =>
  intro i y x h1 h2
  cases i with
  | zero=>simp at h1 h2; subst h1; subst h2; exact h
  | succ i=>exact ih (by simpa using h1) (by simpa using h2)
theorem iL.refl:∀ (l:List D),iL l l
 | []=>.nil
 | x :: l=>.cons (.refl x) (.refl l)
def aC (args:List AV) (ds:List D):Prop:=∃ ds',fO args=some ds'∧iL ds ds'
def dx (R:aR) (P:Program) (f:Nat) (ds:List D) (v:AV):Prop:=∀ args S,aC args ds→bT R P f args S (fun r=>r=(none,v,S))
inductive xV:AV→AV→Prop
 | one {y x:D} (h:iV y x):xV (.d y) (.d x)
 | tup {ys xs:List D} (h:iL ys xs):xV (.tup (ys.map .d)) (.tup (xs.map .d))
theorem xV.rel {y x:AV} (h:xV y x) {cx:Cx} {S:St} {w:World} {v:Value} (hr:ay cx S w x v):ay cx S w y v:=by
 cases h with
 | one h=>exact h.less cx S w v hr
 | tup h =>
  cases hr with
  | tup _ us hl hr =>
   refine .tup _ us (by rw [hl]; simp [h.len]) (fun i x z hx hz=>?_)
   simp only [List.getElem?_map,Option.map_eq_some_iff] at hx
   obtain ⟨y,hy,rfl⟩:=hx
   rename_i xs
   have hlt:i < xs.length:=by rw [← h.len]; exact (List.getElem?_eq_some_iff.1 hy).1
   have hx':=List.getElem?_eq_getElem hlt
   exact .d _ _ (h.get hy hx' _ _ _ (hr i (.d xs[i]) z (by simp [hx']) hz).dd)
theorem dx.of_wp (hR:ObjOk R) {f:Nat} {fn:Func} {c:Code} (hf:C.P.funcs[f]? = some fn) (hc:fn.body=some c) (hn:(fn.name == "runtime.NumGoroutine")=false) {ds:List D} (hle:Nat.ble ds.length fn.ntmps=true) {v:AV}
  (h:az R C.P fn.ntmps c (jN 0 (ds.map .d)) aH (DL C fn (fun r=>r.1=none∧∃ v',lG r.2.1=some v'∧xV v v'))):dx R C.P f ds v:=by
 intro args S ⟨ds',ha,hds⟩
 obtain ⟨d1,d2⟩:=jB ha
 have hlen:ds.length=args.length:=by rw [hds.len,d1]
 have hs:=bT.of_wp hf hc hn (args:=ds.map .d) (by simpa using Nat.le_of_ble_eq_true hle) h
 refine ⟨hs.1,fun cx w us hS hl hr=>?_⟩
 refine (hs.2 cx w us (uK hS) (by simp [hl,hlen]) (fun i x u hx hu=>?_)).mono (fun e w' he=>?_)
 ·
  simp only [List.getElem?_map,Option.map_eq_some_iff] at hx
  obtain ⟨y,hy,rfl⟩:=hx
  have hlt:i < args.length:=by rw [← hlen]; exact (List.getElem?_eq_some_iff.1 hy).1
  have ha:=List.getElem?_eq_getElem hlt
  have hz:=List.getElem?_eq_getElem (show i < ds'.length by rw [← hds.len,hlen]; exact hlt)
  exact .d _ u (hds.get hy hz _ _ _ (dW (d2 i _ _ ha hz) (hr i _ u ha hu)))
 ·
  obtain ⟨⟨p,v1,S1⟩,⟨hp,v',hv,hcn⟩,cx1,k1,k2,k3⟩:=he
  simp only at hp hv
  subst hp
  obtain ⟨m1,m2,m3⟩:=ni hR hS k2
  obtain ⟨u,rfl,k3⟩:=k3
  exact ⟨_,rfl,cx,m1,m2,u,rfl,hcn.rel (lu hv k3 (cx':=cx) (S':=S) (w':=w') m3)⟩
inductive bS:List AV→List AV→Prop
 | nil:bS [] []
 | cons {y x:AV} {ys xs:List AV} (h:Less y x) (k:bS ys xs):bS (y :: ys) (x :: xs)
theorem bS.len {ys xs:List AV} (h:bS ys xs):ys.length=xs.length:=by
 induction h with
 | nil=>rfl
 | cons _ _ ih=>simp [ih]
theorem bS.get {ys xs:List AV} (h:bS ys xs):∀ {i:Nat} {y x:AV},ys[i]? = some y→xs[i]? = some x→Less y x:=by
 induction h with
 | nil=>intro i y x h; simp at h
 | cons h k ih =>
  intro i y x h1 h2
  cases i with
  | zero=>simp at h1 h2; subst h1; subst h2; exact h
  | succ i=>exact ih (by simpa using h1) (by simpa using h2)
theorem bS.refl:∀ (l:List AV),bS l l
 | []=>.nil
 | x :: l=>.cons (.refl x) (.refl l)
inductive bD where
 | box (id:Nat) (cs:List AV)
 | grow (v:AV) (xs:List D)
 | obj (id k:Nat) (x:D)
 | map (id:Nat) (m:p8)
 | row (sz:Nat) (v:AV) (xs:List D)
 | abs (ids:List Nat) (p:St→Prop)
def fw:List D→Bool
 | []=>true
 | x :: l=>!x.isAgg && fw l
def bD.fp:bD→List Nat
 | .box id _=>[id]
 | .grow (.tsl _ tok) _=>[tok]
 | .grow _ _=>[]
 | .obj id _ _=>[id]
 | .map id _=>[id]
 | .row _ (.msl id _ _ _ _ _) _=>[id]
 | .row _ _ _=>[]
 | .abs ids _=>ids
def bD.ok (S:St):bD→Prop
 | .box id cs=>S.H.get id=some (.cells 0 cs)
 | .grow v xs=>match v with
  | .d .cB=>xs=[]
  | .d (.sl ys true)=>ys=xs
  | .tsl ys tok=>ys=xs∧xs ≠ []∧S.T.get tok=some xs.length∧S.H.get tok=none
  | _=>False
 | .obj id k x=>S.H.get id=some (.obj k x)
 | .map id m=>S.H.get id=some (.map m)
 | .row sz v xs=>match v with
  | .d .cB=>xs=[]
  | .d (.sl [] true)=>xs=[]
  | .msl id g off len lim sz'=>off=0∧len=xs.length∧lim=xs.length∧sz'=sz∧0 < sz∧(∀ x ∈ xs,x.cells.length=sz∧fw x.cells=true)∧∃ cs,bS ((xs.map D.cells).flatten.map .d) cs∧S.H.get id=some (.cells g cs)
  | _=>False
 | .abs ids p=>(∀ id ∈ ids,∃ b,S.H.get id=some b)∧∀ S',(∀ id ∈ ids,S'.H.get id=S.H.get id)→p S'
structure Has (B S:St) (l:List bD):Prop where
 wf:S.Wf
 ok:∀ a ∈ l,a.ok S
 nd:(l.map bD.fp).flatten.Nodup
 bwf:B.Wf
 keeps:dU B S
 out:∀ a ∈ l,∀ id ∈ a.fp,B.H.get id=none∧B.T.get id=none
theorem si {S:St} {id n:Nat} (h:S.T.get id=some n):live S id:=by
 unfold live cur
 cases hH:S.H.get id with
 | none=>simp only [h]; simp
 | some b=>cases b <;> simp
theorem jH {S:St} {id:Nat} {b:jI} (h:S.H.get id=some b):live S id:=by
 unfold live cur; rw [h]; cases b <;> simp
theorem bD.lt {S:St} (wf:S.Wf) {a:bD} (h:a.ok S):∀ id ∈ a.fp,id < S.nx:=by
 intro id hid
 cases a with
 | box i cs=>simp only [bD.fp,List.mem_singleton] at hid; subst hid; exact wf _ (jH h)
 | grow v xs =>
  cases v <;> simp only [bD.fp,List.not_mem_nil,List.mem_singleton] at hid
  subst hid
  exact wf _ (si h.2.2.1)
 | obj i k x=>simp only [bD.fp,List.mem_singleton] at hid; subst hid; exact wf _ (jH h)
 | map i m=>simp only [bD.fp,List.mem_singleton] at hid; subst hid; exact wf _ (jH h)
 | row sz v xs =>
  cases v <;> simp only [bD.fp,List.not_mem_nil,List.mem_singleton] at hid
  subst hid
  obtain ⟨_,_,hc⟩:=h.2.2.2.2.2.2; exact wf _ (jH hc)
 | abs ids p =>
  obtain ⟨b,hb⟩:=h.1 id hid
  exact wf _ (jH hb)
theorem bD.keep {S S':St} {a:bD} (h:a.ok S) (hH:∀ id ∈ a.fp,S'.H.get id=S.H.get id) (hT:∀ id ∈ a.fp,S'.T.get id=S.T.get id):a.ok S':=by
 cases a with
 | box i cs=>simp only [bD.ok] at h ⊢; rw [hH i (by simp [bD.fp])]; exact h
 | grow v xs =>
  cases v with
  | tsl ys tok=>simp only [bD.ok] at h ⊢; rw [hH tok (by simp [bD.fp]),hT tok (by simp [bD.fp])]; exact h
  | d x=>cases x with
   | sl ys t=>cases t <;> exact h
   | _=>exact h
  | _=>exact h
 | obj i k x=>simp only [bD.ok] at h ⊢; rw [hH i (by simp [bD.fp])]; exact h
 | map i m=>simp only [bD.ok] at h ⊢; rw [hH i (by simp [bD.fp])]; exact h
 | row sz v xs =>
  cases v with
  | msl id g off len lim sz=>simp only [bD.ok] at h ⊢; rw [hH id (by simp [bD.fp])]; exact h
  | d x=>cases x with
   | sl ys t=>cases ys <;> cases t <;> exact h
   | _=>exact h
  | _=>exact h
 | abs ids p=>exact ⟨fun id hid=>by rw [hH id hid]; exact h.1 id hid,fun S2 h2=>h.2 S2 (fun id hid=>(h2 id hid).trans (hH id hid))⟩
theorem bD.FY {S S':St} {ids:List Nat} {p:St→Prop} (h:(bD.abs ids p).ok S) (k:∀ id b,id ∈ ids→S.H.get id=some b→S'.H.get id=some b):(bD.abs ids p).ok S' :=
 have e:∀ id ∈ ids,S'.H.get id=S.H.get id:=fun id hid=>by obtain ⟨b,hb⟩:=h.1 id hid; rw [k id b hid hb,hb]
 ⟨fun id hid=>by rw [e id hid]; exact h.1 id hid,fun S2 h2=>h.2 S2 (fun id hid=>(h2 id hid).trans (e id hid))⟩
theorem Has.start {S:St} (wf:S.Wf):Has S S []:=⟨wf,(fun a h=>by cases h),by simp,wf,.refl S,(fun a h=>by cases h)⟩
theorem Has.pure:Has aH aH []:=.start fun id h=>absurd rfl h
theorem Ct {α β:Type} (f:α→List β) {l' l:List α} (s:l'.Sublist l):(l'.map f).flatten.Sublist (l.map f).flatten:=by
 induction s with
 | slnil=>exact List.Sublist.refl _
 | cons a _ ih=>exact ih.trans (by simp)
 | cons_cons a _ ih=>simpa using ih.append_left (f a)
theorem Has.new {B S:St} {l:List bD} (h:Has B S l) (b:jI) {a:bD} (hf:a.fp=[S.nx]) (ha:a.ok (aS S b)):Has B (aS S b) (a :: l):=by
 have hlt:∀ x ∈ l,∀ id ∈ x.fp,id < S.nx:=fun x hx=>bD.lt h.wf (h.ok x hx)
 refine ⟨fun id hl=>?_,fun x hx=>?_,?_,h.bwf,⟨Nat.le_trans h.keeps.nx (Nat.le_succ _),fun id b' hb'=>?_,fun id n hn=>h.keeps.T id n hn⟩,fun x hx id hid=>?_⟩
 rotate_left 3
 ·
  have:=h.bwf.H hb'
  have:=h.keeps.nx
  simp only [aS,AL.aG]
  rw [if_neg (by omega)]; exact h.keeps.H id b' hb'
 ·
  rcases List.mem_cons.1 hx with rfl | hx
  ·
   rw [hf,List.mem_singleton] at hid
   subst hid
   have hnl:¬ live B S.nx:=fun hl=>by have:=h.bwf _ hl; have:=h.keeps.nx; omega
   refine ⟨?_,?_⟩
   ·
    cases hB:B.H.get S.nx with
    | none=>rfl
    | some b'=>exact (hnl (jH hB)).elim
   ·
    cases hB:B.T.get S.nx with
    | none=>rfl
    | some b'=>exact (hnl (si hB)).elim
  ·
   exact h.out x hx id hid
 ·
  show id < S.nx + 1
  unfold live cur at hl
  simp only [aS,AL.aG] at hl
  by_cases hi:S.nx=id
  ·
   omega
  ·
   rw [if_neg hi] at hl
   have:=h.wf id hl
   omega
 ·
  rcases List.mem_cons.1 hx with rfl | hx
  ·
   exact ha
  ·
   refine bD.keep (h.ok x hx) (fun id hid=>?_) (fun id hid=>rfl)
   have:=hlt x hx id hid
   simp only [aS,AL.aG]
   rw [if_neg (by omega)]
 ·
  rw [List.map_cons,List.flatten_cons,hf,List.singleton_append,List.nodup_cons]
  refine ⟨fun hm=>?_,h.nd⟩
  obtain ⟨EB,hfps,hid⟩:=List.mem_flatten.1 hm
  obtain ⟨x,hx,rfl⟩:=List.mem_map.1 hfps
  have:=hlt x hx _ hid
  omega
theorem Has.box {B S:St} {l:List bD} (h:Has B S l) (cs:List AV):Has B (aS S (.cells 0 cs)) (.box S.nx cs :: l) :=
 h.new _ rfl (by simp [bD.ok,aS,AL.aG])
theorem Has.wV {B S:St} {l:List bD} (h:Has B S l):AL.has S.H S.nx=false:=by
 cases hb:AL.has S.H S.nx with
 | false=>rfl
 | true =>
  obtain ⟨b,hb⟩:=AL.nX hb
  have:=h.wf _ (jH hb)
  omega
theorem uE {l:List bD} (hn:(l.map bD.fp).flatten.Nodup) {i j:Nat} {a b:bD} (ha:l[i]? = some a) (hb:l[j]? = some b) (hij:i ≠ j) {id:Nat} (h1:id ∈ a.fp) (h2:id ∈ b.fp):False:=by
 induction l generalizing i j with
 | nil=>simp at ha
 | cons x l ih =>
  rw [List.map_cons,List.flatten_cons,List.nodup_append] at hn
  obtain ⟨n1,n2,n3⟩:=hn
  cases i with
  | zero =>
   cases j with
   | zero=>exact hij rfl
   | succ j =>
    simp only [List.getElem?_cons_zero,Option.some.injEq] at ha
    subst ha
    simp only [List.getElem?_cons_succ] at hb
    exact n3 id h1 id (List.mem_flatten.2 ⟨_,List.mem_map.2 ⟨b,List.mem_of_getElem? hb,rfl⟩,h2⟩) rfl
  | succ i =>
   simp only [List.getElem?_cons_succ] at ha
   cases j with
   | zero =>
    simp only [List.getElem?_cons_zero,Option.some.injEq] at hb
    subst hb
    exact n3 id h2 id (List.mem_flatten.2 ⟨_,List.mem_map.2 ⟨a,List.mem_of_getElem? ha,rfl⟩,h1⟩) rfl
   | succ j =>
    simp only [List.getElem?_cons_succ] at hb
    exact ih n2 ha hb (by omega)
theorem Has.set {B S S':St} {l:List bD} (h:Has B S l) {i:Nat} {a a':bD} (hi:l[i]? = some a) (hf:a'.fp=a.fp) (ha:a'.ok S') (wf:S'.Wf)
  (hH:∀ id,id ∉ a.fp→S'.H.get id=S.H.get id) (hT:∀ id,id ∉ a.fp→S'.T.get id=S.T.get id) (hnx:S'.nx=S.nx):Has B S' (l.set i a'):=by
 have hil:i < l.length:=(List.getElem?_eq_some_iff.1 hi).1
 have hma:=List.mem_of_getElem? hi
 refine ⟨wf,fun x hx=>?_,?_,h.bwf,⟨by rw [hnx]; exact h.keeps.nx,fun id b hb=>?_,fun id n hn=>?_⟩,fun x hx id hid=>?_⟩
 rotate_left 2
 ·
  rw [hH id (fun q=>by rw [(h.out a hma id q).1] at hb; cases hb)]; exact h.keeps.H id b hb
 ·
  rw [hT id (fun q=>by rw [(h.out a hma id q).2] at hn; cases hn)]; exact h.keeps.T id n hn
 ·
  rcases List.mem_or_eq_of_mem_set hx with hx | rfl
  ·
   exact h.out x hx id hid
  ·
   rw [hf] at hid; exact h.out a hma id hid
 ·
  obtain ⟨j,hj,rfl⟩:=List.getElem_of_mem hx
  rw [List.length_set] at hj
  by_cases hij:i=j
  ·
   subst hij; rw [List.getElem_set_self]; exact ha
  ·
   rw [List.getElem_set_ne hij]
   have hlj:l[j]? = some l[j]:=List.getElem?_eq_getElem hj
   refine bD.keep (h.ok l[j] (List.getElem_mem hj)) (fun id hid=>hH id (fun q=>uE h.nd hi hlj hij q hid)) (fun id hid=>hT id (fun q=>uE h.nd hi hlj hij q hid))
 ·
  have:(l.set i a').map bD.fp=l.map bD.fp:=by
   apply List.ext_getElem?
   intro j
   rw [List.getElem?_map,List.getElem?_map,List.getElem?_set]
   by_cases hij:i=j
   ·
    subst hij; have:=(List.getElem?_eq_some_iff.1 hi).2; simp [hil,hf,this]
   ·
    simp [hij]
  rw [this]; exact h.nd
theorem Has.at {B S:St} {l:List bD} (h:Has B S l) {i:Nat} {a:bD} (hi:l[i]? = some a):a.ok S:=h.ok a (List.mem_of_getElem? hi)
theorem Has.write {B S:St} {l:List bD} (h:Has B S l) {i id:Nat} {cs cs':List AV} (hi:l[i]? = some (.box id cs)):Has B { S with H:=S.H.set id (.cells 0 cs') } (l.set i (.box id cs')):=by
 have hid:=h.at hi
 refine h.set hi rfl (by simp [bD.ok,AL.aG]) (fun j hl=>?_) (fun j hj=>?_) (fun j hj=>rfl) rfl
 ·
  refine h.wf j ?_
  unfold live cur at hl ⊢
  simp only [AL.aG] at hl
  by_cases hij:id=j
  ·
   subst hij; rw [show S.H.get id=_ from hid]; simp
  ·
   rw [if_neg hij] at hl; exact hl
 ·
  simp only [bD.fp,List.mem_singleton] at hj
  simp only [AL.aG]
  rw [if_neg (fun q=>hj q.symm)]
end
end Go.Ev

namespace Go.Ev
noncomputable section
set_option linter.unusedVariables false
set_option linter.unusedSimpArgs false
variable {R:aR} {C:bQ} {P:Program} {nt:Nat}
def jk:Option jI→Option jI→Prop
 | some (.cells g' cs'),some (.cells g cs)=>g'=g∧bS cs' cs
 | a,b=>a=b
theorem jk.refl (a:Option jI):jk a a:=by
 cases a with
 | none=>rfl
 | some b=>cases b with
  | cells g cs=>exact ⟨rfl,.refl _⟩
  | map m=>rfl
  | obj k x=>rfl
structure gy (S2 S:St):Prop where
 nx:S2.nx=S.nx
 T:∀ id,S2.T.get id=S.T.get id
 H:∀ id,jk (S2.H.get id) (S.H.get id)
theorem jk.cases {a b:Option jI} (h:jk a b):a=b∨∃ g cs' cs,a=some (.cells g cs')∧b=some (.cells g cs)∧bS cs' cs:=by
 unfold jk at h
 split at h
 ·
  obtain ⟨rfl,h⟩:=h; exact .inr ⟨_,_,_,rfl,rfl,h⟩
 ·
  exact .inl h
theorem gy.cur {S2 S:St} (k:gy S2 S) (id:Nat):cur S2 id=cur S id:=by
 unfold Ev.cur
 rcases (k.H id).cases with h | ⟨g,cs',cs,h1,h2,_⟩
 ·
  rw [h,k.T]
 ·
  rw [h1,h2]
theorem gy.isIt {S2 S:St} (k:gy S2 S) {id g:Nat}:isIt S2 id g↔isIt S id g:=by
 unfold Ev.isIt
 rcases (k.H id).cases with h | ⟨g,cs',cs,h1,h2,_⟩
 ·
  rw [h]
 ·
  rw [h1,h2]; simp
theorem gy.live {S2 S:St} (k:gy S2 S) {id:Nat}:live S2 id↔live S id:=by unfold Ev.live; rw [k.cur]
theorem gy.refl (S:St):gy S S:=⟨rfl,fun _=>rfl,fun _=>jk.refl _⟩
theorem ay.dL {cx:Cx} {S2 S:St} {w:World} (k:gy S2 S) {x:AV} {v:Value} (h:ay cx S w x v):ay cx S2 w x v:=by
 have nm:∀ {id g:Nat},Names S id g→Names S2 id g:=fun h=>⟨by rw [k.nx]; exact h.1,fun g' hg=>h.2 g' (by rw [← k.cur]; exact hg)⟩
 have cr:∀ {id:Nat} {o:Option Nat},cur S2 id=o→cur S id=o:=fun h=>by rw [← k.cur]; exact h
 induction h with
 | d x v hd=>exact .d x v hd
 | tsl xs tok b off cap hn hd hp=>exact .tsl xs tok b off cap (nm hn) hd (fun hc=>hp (cr hc))
 | ptr id g off b hn hp=>exact .ptr id g off b (nm hn) (fun hc=>hp (cr hc))
 | msl id g off len lim sz b cap hn hl hcap h63 hp=>exact .msl id g off len lim sz b cap (nm hn) hl hcap h63 (fun hc=>hp (cr hc))
 | any v=>exact .any v
 | eptr x off b o vs hd hc=>exact .eptr x off b o vs hd hc
 | map id b hn hp=>exact .map id b (nm hn) (fun hc=>hp (cr hc))
 | asl id g off len sz b hn h63 hp=>exact .asl id g off len sz b (nm hn) h63 (fun hc=>hp (cr hc))
 | fn f cs vs hl hr ih=>exact .fn f cs vs hl ih
 | agg xs vs hl ho hr ih=>exact .agg xs vs hl ho ih
 | tup xs vs hl hr ih=>exact .tup xs vs hl ih
 | it0 k' g since st b seen hn hp =>
  exact .it0 k' g since st b seen (nm hn) (fun hk=>by
   obtain ⟨p1,p2,p3,p4⟩:=hp (k.isIt.1 hk)
   exact ⟨p1,p2,fun i hi hf=>p3 i (by rw [← k.cur]; exact hi) hf,p4⟩)
 | it k' g id since st b m seen hn hni hm hp =>
  exact .it k' g id since st b m seen (nm hn) (nm hni) (fun hc=>hm (cr hc)) (fun hk=>by
   obtain ⟨p1,p2,p3,p4⟩:=hp (k.isIt.1 hk)
   exact ⟨p1,p2,fun i hi hf=>p3 i (by rw [← k.cur]; exact hi) hf,p4⟩)
theorem aD.dL {cx:Cx} {S2 S:St} {w:World} (h:aD R cx S w) (k:gy S2 S):aD R cx S2 w where
 wf:=fun id hl=>by rw [k.nx]; exact h.wf id (k.live.1 hl)
 lU:=fun id b hb=>by
  rw [k.T]
  rcases (k.H id).cases with q | ⟨g,cs',cs,h1,h2,_⟩
  ·
   rw [q] at hb; exact h.lU id b hb
  ·
   exact h.lU id _ h2
 cells:=fun id g cs hb=>by
  rcases (k.H id).cases with q | ⟨g',cs',ds,h1,h2,h3⟩
  ·
   rw [q] at hb
   obtain ⟨c1,c2,arr,el,c3,c4,c5⟩:=h.cells id g cs hb
   refine ⟨c1,c2,arr,el,c3,c4,fun i x hx=>?_⟩
   obtain ⟨v,v1,v2,v3⟩:=c5 i x hx
   exact ⟨v,v1,v2.dL k,v3⟩
  ·
   rw [h1] at hb; cases hb
   obtain ⟨c1,c2,arr,el,c3,c4,c5⟩:=h.cells id _ ds h2
   refine ⟨c1,c2,arr,el,c3,by rw [h3.len]; exact c4,fun i x hx=>?_⟩
   have hlt:i < ds.length:=by rw [← h3.len]; exact (List.getElem?_eq_some_iff.1 hx).1
   have hy:=List.getElem?_eq_getElem hlt
   obtain ⟨v,v1,v2,v3⟩:=c5 i _ hy
   exact ⟨v,v1,(h3.get hx hy _ _ _ _ v2).dL k,v3⟩
 maps:=fun id es hb=>by
  rcases (k.H id).cases with q | ⟨g',cs',ds,h1,h2,h3⟩
  ·
   rw [q] at hb
   obtain ⟨c1,c2,ms,clk,c3,c4,c5⟩:=h.maps id es hb
   refine ⟨c1,c2,ms,clk,c3,c4,fun i p m hp hm=>?_⟩
   obtain ⟨v1,v2⟩:=c5 i p m hp hm
   exact ⟨v1,v2.dL k⟩
  ·
   rw [h1] at hb; cases hb
 objs:=fun id kd x hb=>by
  rcases (k.H id).cases with q | ⟨g',cs',ds,h1,h2,h3⟩
  ·
   rw [q] at hb; exact h.objs id kd x hb
  ·
   rw [h1] at hb; cases hb
 toks:=fun id en hb=>h.toks id en (by rw [← k.T]; exact hb)
 sep:=fun id id' b a1 a2=>h.sep id id' b (k.live.1 a1) (k.live.1 a2)
 lt:=h.lt
 stat:=h.stat
theorem Ext.dL {cx cx':Cx} {S2 S S':St} {w w':World} (k:gy S2 S) (e:Ext cx S2 w cx' S' w'):Ext cx S w cx' S' w' where
 size:=e.size
 os:=e.os
 tape:=e.tape
 output:=e.output
 nx:=by rw [← k.nx]; exact e.nx
 prot:=e.prot
 other:=fun b hb hn=>e.other b hb (fun id hl hf=>by
  obtain ⟨q1,g,q2,q3⟩:=hn id (k.live.1 hl) hf
  exact ⟨by rw [k.nx]; exact q1,g,k.isIt.2 q2,q3⟩)
 own:=fun id b hl hf=>by
  obtain ⟨q1,q2⟩:=e.own id b hl hf
  rw [k.nx] at q1 q2
  exact ⟨fun h=>⟨k.live.1 (q1 h).1,(q1 h).2⟩,q2⟩
 back:=fun id g hid hi=>by
  obtain ⟨g',h⟩:=e.back id g (by rw [k.nx]; exact hid) hi
  exact ⟨g',k.isIt.1 h⟩
 keep:=fun id g b hid h0 hi hf=>e.keep id g b (by rw [k.nx]; exact hid) (k.isIt.2 h0) hi hf
 curs:=fun id g hid hg=>by
  obtain ⟨g0,h0,h1⟩:=e.curs id g (by rw [k.nx]; exact hid) hg
  exact ⟨g0,by rw [← k.cur]; exact h0,h1⟩
theorem Fin.dL {cx:Cx} {S2 S:St} {w:World} {a:Act} {K:Exit→Act→World→Prop} (k:gy S2 S) {r:kW} (h:Fin R cx S w nt a K r):Fin R cx S2 w nt a K r:=by
 obtain ⟨x,e,S'⟩:=r
 cases x with
 | normal=>exact fun cx' a' w' q1 q2 q3 q4=>h cx' a' w' q1 (q2.dL k) q3 q4
 | exit id=>exact fun cx' a' w' q1 q2 q3 q4=>h cx' a' w' q1 (q2.dL k) q3 q4
 | ret=>exact fun cx' a' w' q1 q2 q3 q4=>h cx' a' w' q1 (q2.dL k) q3 q4
 | panic v=>exact fun cx' a' w' u q1 q2 q3 q4=>h cx' a' w' u q1 (q2.dL k) q3 q4
theorem cK.dL {cx:Cx} {S2 S:St} {w:World} {e:Env} {a:Act} (k:gy S2 S) (h:cK cx S w nt e a):cK cx S2 w nt e a :=
 ⟨h.size,fun t x hx=>let ⟨v,v1,v2⟩:=h.rel t x hx; ⟨v,v1,v2.dL k⟩⟩
theorem az.dL {c:Code} {e:Env} {S2 S:St} {Q:kW→Prop} (k:gy S2 S) (h:az R P nt c e S2 Q):az R P nt c e S Q :=
 fun cx w a K h1 h2 h3=>h cx w a K (h1.dL k) (h2.dL k) (fun r q=>(h3 r q).dL k)
theorem oC.dL {c:Code} {e:Env} {S2 S:St} {Q:kW→Prop} (k:gy S2 S) (h:oC R P nt c e S2 Q):oC R P nt c e S Q :=
 fun cx w a K h1 h2 h3=>h cx w a K (h1.dL k) (h2.dL k) (fun r q=>(h3 r q).dL k)
theorem az.ghost {c:Code} {e e2:Env} {S S2:St} {Q:kW→Prop} (g:jh R nt e S e2 S2) (h:az R P nt c e2 S2 Q):az R P nt c e S Q:=fun cx w a K h1 h2 h3=>by
 obtain ⟨c2,q1,q2,q3⟩:=g cx w a h1 h2
 exact h c2 w a K q1 q3 (fun r q=>(h3 r q).trans q2 rfl)
theorem oC.ghost {c:Code} {e e2:Env} {S S2:St} {Q:kW→Prop} (g:jh R nt e S e2 S2) (h:oC R P nt c e2 S2 Q):oC R P nt c e S Q:=fun cx w a K h1 h2 h3=>by
 obtain ⟨c2,q1,q2,q3⟩:=g cx w a h1 h2
 exact h c2 w a K q1 q3 (fun r q=>(h3 r q).trans q2 rfl)
end
end Go.Ev

namespace Go.Ev
noncomputable section
set_option linter.unusedVariables false
set_option linter.unusedSimpArgs false
variable {B:St}
section steps
variable {R:aR} {C:bQ} {nt:Nat} {ops:Array Oper} {rest:List Oper} {e:Env} {S S':St} {Q:Stp→Prop} {l l':List bD} {t ty:Nat} {p:String} {af:Array Edge} {g:Option (Nat × Bool)}
theorem ah.one {o:Oper} (hw:bg ops e o=some true) (h:xK R C nt o.dst o.op e S (fun r=>match r with
  | .go e' S'=>ah R C nt ops rest e' S' Q
  | .stop v S'=>Q (.stop v S'))):ah R C nt ops (o :: rest) e S Q:=⟨e,S,.refl e S,.inr (.inl ⟨e,.refl e,hw,h⟩)⟩
theorem ah.val {op:Op} {v:AV} (hw:bg ops e { dst:=some t,op:=op,type:=ty,pos:=p,after:=af,guard:=g }=some true) (ho:oper C (bA e) S op=some (.val v S')) (ht:Nat.blt t nt=true) (k:ah R C nt ops rest ((t,v) :: e) S' Q) :
  ah R C nt ops ({ dst:=some t,op:=op,type:=ty,pos:=p,after:=af,guard:=g } :: rest) e S Q :=
 ah.one hw (.inl ⟨v,S',_,ho,by simp only [Env.put,ht,cond_true],k⟩)
theorem ah.skip {op:Op} (hw:bg ops e { dst:=none,op:=op,type:=ty,pos:=p,after:=af,guard:=g }=some true) (ho:oper C (bA e) S op=some (.skip S')) (k:ah R C nt ops rest e S' Q) :
  ah R C nt ops ({ dst:=none,op:=op,type:=ty,pos:=p,after:=af,guard:=g } :: rest) e S Q :=
 ah.one hw (.inr (.inl ⟨S',ho,rfl,k⟩))
theorem ah.ret {op:Op} {f:Nat} {args:List AV} {v:AV} (hw:bg ops e { dst:=some t,op:=op,type:=ty,pos:=p,after:=af,guard:=g }=some true) (ho:oper C (bA e) S op=some (.call f args)) (hs:bT R C.P f args S (fun r=>r=(none,v,S'))) (ht:Nat.blt t nt=true) (k:ah R C nt ops rest ((t,v) :: e) S' Q) :
  ah R C nt ops ({ dst:=some t,op:=op,type:=ty,pos:=p,after:=af,guard:=g } :: rest) e S Q :=
 ah.one hw (.inr (.inr (.inl ⟨f,args,ho,hs.mono fun r hr=>by subst hr; exact ⟨_,by simp only [Env.put,ht,cond_true],k⟩⟩)))
theorem ah.no {op:Op} (hw:bg ops e { dst:=some t,op:=op,type:=ty,pos:=p,after:=af,guard:=g }=some false) (ht:Nat.blt t nt=true)
  (k:ah R C nt ops rest ((t,.tup []) :: e) S Q) :
  ah R C nt ops ({ dst:=some t,op:=op,type:=ty,pos:=p,after:=af,guard:=g } :: rest) e S Q :=
 ⟨e,S,.refl e S,.inr (.inr ⟨e,_,.refl e,hw,(by simp only [Env.put,ht,cond_true]),k⟩)⟩
theorem ah.app:∀ (l1:List Oper) {l2:List Oper} {e:Env} {S:St} {Q:Stp→Prop},ah R C nt ops l1 e S (fun r=>match r with | .go e' S'=>ah R C nt ops l2 e' S' Q | .stop v S'=>Q (.stop v S'))→ah R C nt ops (l1 ++ l2) e S Q
 | [],l2,e,S,Q,⟨e2,hs,h⟩=>ah.weak hs h
 | o :: l1,l2,e,S,Q,⟨e2,S2,hs,h⟩=>⟨e2,S2,hs,h.mono fun r hr=>by
   cases r with
   | go e' S'=>exact ah.app l1 hr
   | stop v S'=>exact hr⟩
theorem ah.mono:∀ {L:List Oper} {e:Env} {S:St} {Q Q':Stp→Prop},ah R C nt ops L e S Q→(∀ r,Q r→Q' r)→ah R C nt ops L e S Q'
 | [],e,S,Q,Q',⟨e2,hs,h⟩,hq=>⟨e2,hs,hq _ h⟩
 | o :: l1,e,S,Q,Q',⟨e2,S2,hs,h⟩,hq=>⟨e2,S2,hs,h.mono fun r hr=>by
   cases r with
   | go e' S'=>exact ah.mono hr hq
   | stop v S'=>exact hq _ hr⟩
end steps
section opers
variable {C:bQ} {e:Env} {ρ:Operand→Option AV} {S:St} {l l':List bD} {v:AV} {x y:Operand} {t:Nat}
theorem aj (h:ρ x=some v):oper C ρ S (.assign x)=some (.val v S):=by simp only [oper,h,Option.map_some]
theorem ae (h:ρ x=some v):oper C ρ S (.move x)=some (.val v S):=by simp only [oper,h,Option.map_some]
theorem aL {c:Operand} {b:Bool} (hc:ρ c=some (.d (.bool b))) (h:ρ (if b then x else y)=some v):oper C ρ S (.pick c x y)=some (.val v S):=by simp only [oper,hc,h,Option.map_some]
theorem Cw (H:Has B S l) {cs:List AV} (h:ρ x=some v) (hp:v.plain=true) (hc:v.cells=cs):oper C ρ S (.box t x)=some (.val (.ptr S.nx 0 0) (aS S (.cells 0 cs))):=by
 subst hc
 simp only [oper,h,hp,if_true,H.wV,cond_false]; rfl
theorem Ae (H:Has B S l) {z:D} {cs:List AV} (ho:C.objT t=none) (hz:zeroOf C.P t=some z) (hc:(AV.d z).cells=cs):oper C ρ S (.alloc t)=some (.val (.ptr S.nx 0 0) (aS S (.cells 0 cs))):=by
 subst hc
 simp only [oper,ho,hz,Option.map_some,H.wV,cond_false]; rfl
theorem aA {s fld id g off fo ft o':Nat} (h:ρ x=some (.ptr id g off)) (hf:bW C.P s fld=some (fo,ft)) (hz:Nat.beq (ax C.P ft) 0=false) (ho:off + fo=o'):oper C ρ S (.fieldAddr s x fld)=some (.val (.ptr id g o') S):=by
 subst ho
 simp only [oper,h,hf]
 rw [if_neg (fun q=>by rw [q] at hz; simp at hz)]
theorem dX {s fld off fo ft o':Nat} {d:D} (h:ρ x=some (.eptr d off)) (hf:bW C.P s fld=some (fo,ft)) (hz:Nat.beq (ax C.P ft) 0=false) (ho:off + fo=o'):oper C ρ S (.fieldAddr s x fld)=some (.val (.eptr d o') S):=by
 subst ho
 simp only [oper,h,hf]
 rw [if_neg (fun q=>by rw [q] at hz; simp at hz)]
theorem bH {P:Program} {cs:List AV} {off:Nat} (ha:dJ P t=some false) (h:cs[off]? = some v):part P t cs off=some v:=by simp only [part,ha,h]
theorem oJ {P:Program} {cs:List AV} {off n:Nat} (ha:dJ P t=some true) (hz:ax P t=n) (hl:Nat.ble (off + n) cs.length=true):part P t cs off=some (gz ((cs.drop off).take n)):=by
 subst hz
 simp only [part,ha]; rw [if_pos (Nat.le_of_ble_eq_true hl)]
theorem dw {P:Program} {cs:List D} {off:Nat} {d:D} (ha:dJ P t=some false) (h:cs[off]? = some d):gG P t cs off=some d:=by simp only [gG,ha,h]
theorem vM {P:Program} {cs:List D} {off n:Nat} (ha:dJ P t=some true) (hz:ax P t=n) (hl:Nat.ble (off + n) cs.length=true):gG P t cs off=some (.agg ((cs.drop off).take n)):=by
 subst hz
 simp only [gG,ha]; rw [if_pos (Nat.le_of_ble_eq_true hl)]
theorem aZ (H:Has B S l) {i id off:Nat} {cs:List AV} (h:ρ x=some (.ptr id 0 off)) (hi:l[i]? = some (.box id cs)) (hp:part C.P t cs off=some v):oper C ρ S (.load t x)=some (.val v S):=by
 have hb:S.H.get id=some (.cells 0 cs):=H.at hi
 simp only [oper,h,jJ,St.look,hb,Nat.beq_refl,cond_true,hp,Option.map_some]
theorem bV {off:Nat} {d r:D} (h:ρ x=some (.eptr d off)) (hp:gG C.P t d.cells off=some r):oper C ρ S (.load t x)=some (.val (.d r) S):=by
 simp only [oper,h,jJ,hp,Option.map_some]
theorem zB (H:Has B S l) {i id off n:Nat} {cs cv:List AV} (ha:ρ x=some (.ptr id 0 off)) (hy:ρ y=some v) (hcv:v.cells=cv) (hn:cv.length=n) (hz:ax C.P t=n) (hp:v.plain=true) (hag:(dJ C.P t).isSome=true) (hi:l[i]? = some (.box id cs)) (hb:Nat.ble (off + n) cs.length=true) :
  oper C ρ S (.store t x y)=some (.skip { S with H:=S.H.set id (.cells 0 (setAt cs off cv)) }):=by
 subst hcv
 subst hn
 have hg:S.H.get id=some (.cells 0 cs):=H.at hi
 simp only [oper,ha,hy,oN,hg]
 rw [if_pos ⟨hz.symm,hp,hag⟩,if_pos trivial,if_pos (Nat.le_of_ble_eq_true hb)]
 rfl
theorem oQ {tt:Nat} {n:Nat} (h:ρ x=some v) (ht:jU C tt v=true) (hn:gT v S=some n):oper C ρ S (.call { callee:=.builtin .len,args:=#[x],argTypes:=#[tt] })=some (.val (.d (.int .i64 (n:Int))) S):=by
 have:dQ ρ [x]=some [v]:=by simp only [dQ,h,Option.map_some]
 simp only [oper,this,dZ,List.getElem?_toArray,List.getElem?_cons_zero,ht,if_true,hn,Option.map_some]
theorem av {op:BinOp} {ty:Nat} {a b:AV} {r:D} (hx:ρ x=some a) (hy:ρ y=some b) (hb:fU C.P t op a b=some r):oper C ρ S (.binOp op t x y ty)=some (.val (.d r) S):=by
 simp only [oper,hx,hy,hb,Option.map_some]
theorem gJ {b:Bool} (hx:ρ x=some (.d (.bool b))):oper C ρ S (.unOp .not t x)=some (.val (.d (.bool (!b))) S):=by simp only [oper,hx]
theorem nG {src dst:Nat} {k k':IntKind} {n:Int} (hx:ρ x=some (.d (.int k n))) (hs:(C.P.underlying src).isSome=true) (hk:BN C.P dst=some k'):oper C ρ S (.convert src dst x)=some (.val (.d (.int k' (k'.wrap n))) S):=by
 simp only [oper,hx,tX,hs,if_true,hk,Option.map_some]
theorem gX {i:Nat} {vs:List AV} (hx:ρ x=some (.tup vs)) (hi:vs[i]? = some v):oper C ρ S (.extract x i)=some (.val v S):=by simp only [oper,hx,hi,Option.map_some]
theorem aK {f:Nat} {as_:Array Operand} {ts:Array Nat} {args:List AV} (ha:dQ ρ as_.toList=some args) (hf:ρ (.func f)=some (.fn f [])):oper C ρ S (.call { callee:=.value (.func f),args:=as_,argTypes:=ts })=some (.call f args):=by
 simp only [oper,hf,ha,List.append_nil]
theorem dA {n:Int} {k:IntKind} {r:AV} (hx:ρ x=some v) (hy:ρ y=some (.d (.int k n))) (hi:dM C t v (.d (.int k n))=some r):oper C ρ S (.indexAddr t x y)=some (.val r S):=by simp only [oper,hx,hy,hi,Option.map_some]
theorem cZ {P:Program} {k:IntKind} {a b:Int}:fU P t .add (.d (.int k a)) (.d (.int k b))=some (.int k (k.wrap (a + b))):=by simp only [fU,if_true,ik]
theorem fA {P:Program} {k:IntKind} {a b:Int}:fU P t .sub (.d (.int k a)) (.d (.int k b))=some (.int k (k.wrap (a - b))):=by simp only [fU,if_true,ik]
theorem Dj {P:Program} {k:IntKind} {a b:Int} (h:b ≠ 0):fU P t .quo (.d (.int k a)) (.d (.int k b))=some (.int k (k.wrap (a.tdiv b))):=by simp only [fU,if_true,ik,if_neg h]
theorem Df {P:Program} {k:IntKind} {a b:Int} (h:b ≠ 0):fU P t .rem (.d (.int k a)) (.d (.int k b))=some (.int k (a.tmod b)):=by simp only [fU,if_true,ik,if_neg h]
def dH (k:IntKind) (a b:Int):Int:=k.wrap (BitVec.ofInt k.bits a &&& BitVec.ofInt k.bits b).toNat
theorem tJ {P:Program} {k:IntKind} {a b:Int}:fU P t .and (.d (.int k a)) (.d (.int k b))=some (.int k (dH k a b)):=by simp only [fU,if_true,ik]; rfl
theorem eB {P:Program} {k:IntKind} {a b:Int}:fU P t .eql (.d (.int k a)) (.d (.int k b))=some (.bool (a == b)):=by simp only [fU,if_true,ik]
theorem yn {P:Program} {k:IntKind} {a b:Int}:fU P t .neq (.d (.int k a)) (.d (.int k b))=some (.bool (a != b)):=by simp only [fU,if_true,ik]
theorem dR {P:Program} {k:IntKind} {a b:Int}:fU P t .lss (.d (.int k a)) (.d (.int k b))=some (.bool (decide (a < b))):=by simp only [fU,if_true,ik]
theorem uF {P:Program} {k:IntKind} {a b:Int}:fU P t .leq (.d (.int k a)) (.d (.int k b))=some (.bool (decide (a ≤ b))):=by simp only [fU,if_true,ik]
theorem kX {P:Program} {k:IntKind} {a b:Int}:fU P t .gtr (.d (.int k a)) (.d (.int k b))=some (.bool (decide (b < a))):=by simp only [fU,if_true,ik]
theorem iP {P:Program} {k:IntKind} {a b:Int}:fU P t .geq (.d (.int k a)) (.d (.int k b))=some (.bool (decide (b ≤ a))):=by simp only [fU,if_true,ik]
theorem Dk {P:Program} {a b:List UInt8} (h:a.length + b.length ≤ 4611686018427387904):fU P t .add (.d (.str a)) (.d (.str b))=some (.str (a ++ b)):=by simp only [fU,qp,if_pos h]
theorem pM {P:Program} {a b:List UInt8}:fU P t .eql (.d (.str a)) (.d (.str b))=some (.bool (a == b)):=by simp only [fU,qp]
theorem BG {P:Program} {a b:List UInt8}:fU P t .neq (.d (.str a)) (.d (.str b))=some (.bool (!(a == b))):=by simp only [fU,qp]
theorem BD {s:List UInt8} (h:oM C.P t=true):jU C t (.d (.str s))=true:=by
 unfold oM at h
 unfold jU
 split at h
 ·
  rename_i hu; simp only [hu]
 ·
  cases h
theorem CK {xs:List D} {b:Bool} (h:(aV C.P t).isSome=true):jU C t (.d (.sl xs b))=true:=by
 unfold aV at h
 unfold jU
 split at h
 ·
  rename_i hu; simp only [hu]
 ·
  cases h
def idx {α:Type} (l:List α) (n:Int):Option α:=if 0 ≤ n then l[n.toNat]? else none
theorem gW {α:Type} {l:List α} {n:Int} {x:α} (h:idx l n=some x):0 ≤ n∧l[n.toNat]? = some x:=by
 unfold idx at h
 split at h
 ·
  rename_i hn; exact ⟨hn,h⟩
 ·
  cases h
theorem gK {α:Type} {enc:α→D} {l:List α} {n:Int} {k:IntKind} {z:α} {el:Nat} {b:Bool} (h:idx l n=some z) (he:aV C.P t=some el) (ha:(dJ C.P el).isSome=true) (hz:(enc z).cells.length=ax C.P el) :
  dM C t (.d (.sl (l.map enc) b)) (.d (.int k n))=some (.eptr (enc z) 0):=by
 obtain ⟨h0,h1⟩:=gW h
 have:(l.map enc)[n.toNat]? = some (enc z):=by rw [List.getElem?_map,h1]; rfl
 simp only [dM,he,h0,ha,decide_true,Bool.and_self,if_true,this,hz]
end opers
theorem aC.nil:aC [] []:=⟨[],rfl,.nil⟩
theorem aC.kz {x:AV} {d d':D} {xs:List AV} {ds:List D} (h:sP x=some d') (hc:iV d d') (k:aC xs ds):aC (x :: xs) (d :: ds):=by
 obtain ⟨ds',k1,k2⟩:=k
 exact ⟨d' :: ds',by simp only [fO,h,k1,Option.map_some],.cons hc k2⟩
theorem aC.eq {d:D} {xs:List AV} {ds:List D} (k:aC xs ds):aC (.d d :: xs) (d :: ds):=.kz rfl (.refl d) k
theorem eH {α:Type} {c:Bool} {x y:α} {r:α} (hb:c=true) (h:(if c=true then x else y)=r):x=r:=by rw [if_pos hb] at h; exact h
theorem eO {α:Type} {c:Bool} {x y:α} {r:α} (hb:c=false) (h:(if c=true then x else y)=r):y=r:=by rw [if_neg (by rw [hb]; simp)] at h; exact h
theorem bind_some {α β:Type} {o:Option α} {f:α→Option β} {r:β} (h:o.bind f=some r):∃ z,o=some z∧f z=some r:=Option.bind_eq_some_iff.1 h
section code
variable {R:aR} {P:Program} {nt:Nat}
def At (R:aR) (nt:Nat) (B:St) {α:Type} (sem:α→Prop) (env:α→Env) (shape:α→List bD) (e:Env) (S:St):Prop:=∃ a e1 S1 S2,jh R nt e S e1 S1∧gy S2 S1∧aa (env a) e1∧Has B S2 (shape a)∧sem a
theorem az.join {α:Type} (sem:α→Prop) (env:α→Env) (shape:α→List bD) {x y:Code} {e:Env} {S:St} {Q:kW→Prop}
  (hj:∀ a S',Has B S' (shape a)→sem a→az R P nt y (env a) S' Q)
  (hx:az R P nt x e S (xW (At R nt B sem env shape) Q)):az R P nt (.seq x y) e S Q :=
 az.seq (hx.mono fun r hr=>by
  obtain ⟨q,e',S'⟩:=r
  cases q with
  | normal=>obtain ⟨a,e1,S1,S2,hg,h0,h1,h2,h3⟩:=hr; exact (((hj a S2 h2 h3).weak h1).dL h0).ghost hg
  | exit id=>exact hr
  | ret=>exact hr
  | panic v=>exact hr)
theorem oC.ind {α:Type} (sem:Nat→α→Prop) (env:α→Env) (shape:α→List bD) {c:Code} {Q:kW→Prop} (h0:∀ a,¬ sem 0 a)
  (step:∀ k a S,Has B S (shape a)→sem (k + 1) a→az R P nt c (env a) S (xW (At R nt B (sem k) env shape) Q)) :
  ∀ k a S,Has B S (shape a)→sem k a→oC R P nt c (env a) S Q
 | 0,a,S,_,h=>(h0 a h).elim
 | k + 1,a,S,hH,h=>oC.round ((step k a S hH h).mono fun r hr=>by
   obtain ⟨q,e',S'⟩:=r
   cases q with
   | normal=>obtain ⟨a',e1,S1,S2,hg,h4,h1,h2,h3⟩:=hr; exact (((oC.ind sem env shape h0 step k a' S2 h2 h3).weak h1).dL h4).ghost hg
   | exit id=>exact hr
   | ret=>exact hr
   | panic v=>exact hr)
theorem oC.start {α:Type} (sem:Nat→α→Prop) (env:α→Env) (shape:α→List bD) {c:Code} {e:Env} {S:St} {Q:kW→Prop} (h0:∀ a,¬ sem 0 a)
  (step:∀ k a S,Has B S (shape a)→sem (k + 1) a→az R P nt c (env a) S (xW (At R nt B (sem k) env shape) Q))
  (k:Nat) (hat:At R nt B (sem k) env shape e S):az R P nt (.loop c) e S Q:=by
 obtain ⟨a,e1,S1,S2,hg,h4,hs,hH,h⟩:=hat
 exact az.loop ((((oC.ind sem env shape h0 step k a S2 hH h).weak hs).dL h4).ghost hg)
end code
theorem Has.GY {S:St} {l:List bD} (h:Has B S l) (is:List Nat) (hn:is.Nodup) {l':List bD} (hl:is.map (fun i=>l[i]?)=l'.map some):Has B S l':=by
 have hget:∀ (j:Nat) (a:bD),l'[j]? = some a→∃ i,is[j]? = some i∧l[i]? = some a:=fun j a hj=>by
  have:(is.map (fun i=>l[i]?))[j]? = some (some a):=by rw [hl,List.getElem?_map,hj]; rfl
  rw [List.getElem?_map,Option.map_eq_some_iff] at this
  exact this
 refine ⟨h.wf,fun a ha=>?_,?_,h.bwf,h.keeps,fun a ha=>?_⟩
 rotate_left 2
 ·
  obtain ⟨j,hj,rfl⟩:=List.getElem_of_mem ha
  obtain ⟨i,_,hi⟩:=hget j _ (List.getElem?_eq_getElem hj)
  exact h.out _ (List.mem_of_getElem? hi)
 ·
  obtain ⟨j,hj,rfl⟩:=List.getElem_of_mem ha
  obtain ⟨i,_,hi⟩:=hget j _ (List.getElem?_eq_getElem hj)
  exact h.at hi
 ·
  clear hl
  induction l' generalizing is with
  | nil=>simp
  | cons a l' ih =>
   cases is with
   | nil=>obtain ⟨i,hi,_⟩:=hget 0 a rfl; simp at hi
   | cons i is =>
    have hn':=List.nodup_cons.1 hn
    have hi:l[i]? = some a:=by
     obtain ⟨i',h1,h2⟩:=hget 0 a rfl
     simp at h1; subst h1; exact h2
    rw [List.map_cons,List.flatten_cons,List.nodup_append]
    have own:a.fp.Nodup:=by
     cases a with
     | grow v xs=>cases v <;> simp [bD.fp]
     | row sz v xs=>cases v <;> simp [bD.fp]
     | abs ids p=>exact h.nd.sublist (List.sublist_flatten_of_mem (List.mem_map.2 ⟨_,List.mem_of_getElem? hi,rfl⟩))
     | _=>simp [bD.fp]
    refine ⟨own,ih is hn'.2 (fun j b hj=>?_),fun x hx y hy hxy=>?_⟩
    ·
     obtain ⟨i',h1,h2⟩:=hget (j + 1) b (by simpa using hj)
     exact ⟨i',by simpa using h1,h2⟩
    ·
     subst hxy
     obtain ⟨EB,hfps,hid⟩:=List.mem_flatten.1 hy
     obtain ⟨b,hb,rfl⟩:=List.mem_map.1 hfps
     obtain ⟨j,hj,rfl⟩:=List.getElem_of_mem hb
     obtain ⟨i',h1,h2⟩:=hget (j + 1) l'[j] (by simp)
     refine uE h.nd hi h2 (fun q=>?_) hx hid
     subst q
     exact hn'.1 (List.mem_of_getElem? (by simpa using h1))
end
end Go.Ev

namespace Go.Ev
noncomputable section
set_option linter.unusedVariables false
set_option linter.unusedSimpArgs false
variable {B:St}
theorem iV.lH (xs:List D) (t:Bool):iV (.sl xs false) (.sl xs t):=fun w fr v h=>by
 refine ⟨?_,h.2⟩
 have h1:=h.1
 generalize hcs:v.cells.toList=cs at h1 ⊢
 cases h1 with
 | sl0 a cap _ _=>exact .sl0 a cap false (fun h=>by cases h)
 | sl _ _ b off cap sz vs hne hcap ht hsz hlen hx hc=>exact .sl xs false b off cap sz vs hne hcap (fun h=>by cases h) hsz hlen hx hc
theorem iV.cB (b:Bool):iV (.sl [] b) .cB:=fun w fr v h=>by
 refine ⟨?_,h.2⟩
 have h1:=h.1
 generalize hcs:v.cells.toList=cs at h1 ⊢
 cases h1
 exact .sl0 none 0 b (fun _=>rfl)
theorem EJ {S:St} {v:AV} {xs:List D} (h:(bD.grow v xs).ok S):∃ d,sP v=some d∧iV (.sl xs false) d:=by
 simp only [bD.ok] at h
 split at h
 ·
  subst h; exact ⟨_,rfl,.cB false⟩
 ·
  subst h; exact ⟨_,rfl,.lH _ _⟩
 ·
  obtain ⟨rfl,_,_⟩:=h; exact ⟨_,rfl,.refl _⟩
 ·
  exact h.elim
theorem zY {C:bQ} {S:St} {l:List bD} (H:Has B S l) {i t:Nat} {v:AV} {xs:List D} (hi:l[i]? = some (.grow v xs)) (h:(aV C.P t).isSome=true):jU C t v=true:=by
 have hg:=H.at hi
 unfold aV at h
 unfold jU
 split at h
 ·
  rename_i hu
  simp only [hu]
  simp only [bD.ok] at hg
  split at hg
  ·
   rfl
  ·
   rfl
  ·
   rfl
  ·
   exact hg.elim
 ·
  cases h
theorem zb {S S':St} {l:List bD} (H:Has B S l) {i:Nat} {v:AV} {xs:List D} (hi:l[i]? = some (.grow v xs)):gT v S'=some xs.length:=by
 have hg:=H.at hi
 simp only [bD.ok] at hg
 split at hg
 ·
  subst hg; rfl
 ·
  subst hg; rfl
 ·
  obtain ⟨rfl,_⟩:=hg; rfl
 ·
  exact hg.elim
theorem jr {C:bQ} {α:Type} {enc:α→D} {S:St} {l:List bD} (H:Has B S l) {i t:Nat} {v:AV} {xs:List α} (hi:l[i]? = some (.grow v (xs.map enc))) {n:Int} {k:IntKind} {z:α} {el:Nat} (h:idx xs n=some z) (he:aV C.P t=some el) (ha:(dJ C.P el).isSome=true) (hz:(enc z).cells.length=ax C.P el) :
  dM C t v (.d (.int k n))=some (.eptr (enc z) 0):=by
 obtain ⟨h0,h1⟩:=gW h
 have hm:(xs.map enc)[n.toNat]? = some (enc z):=by rw [List.getElem?_map,h1]; rfl
 have hg:=H.at hi
 simp only [bD.ok] at hg
 split at hg
 ·
  rw [hg] at hm; simp at hm
 ·
  rw [hg]
  simp only [dM,he,h0,ha,decide_true,Bool.and_self,if_true,hm,hz]
 ·
  rw [hg.1]
  simp only [dM,he,h0,ha,decide_true,Bool.and_self,if_true,hm,hz]
 ·
  exact hg.elim
theorem Has.Ay {S:St} {l:List bD} (H:Has B S l) {a:bD} (hf:a.fp=[]) (ha:a.ok S):Has B S (a :: l) where
 wf:=H.wf
 ok:=fun x hx=>by
  rcases List.mem_cons.1 hx with rfl | hx
  ·
   exact ha
  ·
   exact H.ok x hx
 nd:=by rw [List.map_cons,List.flatten_cons,hf,List.nil_append]; exact H.nd
 bwf:=H.bwf
 keeps:=H.keeps
 out:=fun x hx id hid=>by
  rcases List.mem_cons.1 hx with rfl | hx
  ·
   rw [hf] at hid; cases hid
  ·
   exact H.out x hx id hid
theorem Has.FC {S:St} {l:List bD} (H:Has B S l):Has B S (.grow (.d .cB) [] :: l):=H.Ay rfl rfl
theorem Has.CX {S:St} {l:List bD} (H:Has B S l) (xs:List D):Has B S (.grow (.d (.sl xs true)) xs :: l):=H.Ay rfl rfl
theorem Has.Cf {S S':St} {l:List bD} (h:Has B S l) {i:Nat} {a a':bD} (hi:l[i]? = some a) (hf0:a.fp=[]) (hf:a'.fp=[S.nx]) (ha:a'.ok S') (wf:S'.Wf)
  (hH:∀ id,id < S.nx→S'.H.get id=S.H.get id) (hT:∀ id,id < S.nx→S'.T.get id=S.T.get id) (hnx:S.nx ≤ S'.nx):Has B S' (l.set i a'):=by
 have hil:i < l.length:=(List.getElem?_eq_some_iff.1 hi).1
 have hlt:∀ x ∈ l,∀ id ∈ x.fp,id < S.nx:=fun x hx=>bD.lt h.wf (h.ok x hx)
 have hBlt:∀ id b,B.H.get id=some b→id < S.nx:=fun id b hb=>Nat.lt_of_lt_of_le (h.bwf.H hb) h.keeps.nx
 have hBltT:∀ id n,B.T.get id=some n→id < S.nx:=fun id b hb=>Nat.lt_of_lt_of_le (h.bwf _ (si hb)) h.keeps.nx
 refine ⟨wf,fun x hx=>?_,?_,h.bwf,⟨Nat.le_trans h.keeps.nx hnx,fun id b hb=>?_,fun id n hn=>?_⟩,fun x hx id hid=>?_⟩
 rotate_left 2
 ·
  rw [hH id (hBlt id b hb)]; exact h.keeps.H id b hb
 ·
  rw [hT id (hBltT id n hn)]; exact h.keeps.T id n hn
 ·
  rcases List.mem_or_eq_of_mem_set hx with hx | rfl
  ·
   exact h.out x hx id hid
  ·
   rw [hf,List.mem_singleton] at hid
   subst hid
   refine ⟨?_,?_⟩
   ·
    cases hB:B.H.get S.nx with
    | none=>rfl
    | some b'=>have:=hBlt _ _ hB; omega
   ·
    cases hB:B.T.get S.nx with
    | none=>rfl
    | some b'=>have:=hBltT _ _ hB; omega
 ·
  obtain ⟨j,hj,rfl⟩:=List.getElem_of_mem hx
  rw [List.length_set] at hj
  by_cases hij:i=j
  ·
   subst hij; rw [List.getElem_set_self]; exact ha
  ·
   rw [List.getElem_set_ne hij]
   exact bD.keep (h.ok l[j] (List.getElem_mem hj)) (fun id hid=>hH id (hlt _ (List.getElem_mem hj) id hid)) (fun id hid=>hT id (hlt _ (List.getElem_mem hj) id hid))
 ·
  have hperm:∀ (l:List bD) (i:Nat),l[i]? = some a→(∀ x ∈ l,∀ id ∈ x.fp,id < S.nx)→(l.map bD.fp).flatten.Nodup→((l.set i a').map bD.fp).flatten.Nodup∧∀ id ∈ ((l.set i a').map bD.fp).flatten,id=S.nx∨id ∈ (l.map bD.fp).flatten:=by
   intro l
   induction l with
   | nil=>intro i hi; simp at hi
   | cons x l ih =>
    intro i hi hlt hnd
    rw [List.map_cons,List.flatten_cons,List.nodup_append] at hnd
    obtain ⟨n1,n2,n3⟩:=hnd
    cases i with
    | zero =>
     simp only [List.getElem?_cons_zero,Option.some.injEq] at hi
     subst hi
     simp only [List.set_cons_zero,List.map_cons,List.flatten_cons,hf,hf0,List.nil_append,List.singleton_append,List.nodup_cons]
     refine ⟨⟨fun hm=>?_,n2⟩,fun id hid=>?_⟩
     ·
      obtain ⟨EB,hfps,hid⟩:=List.mem_flatten.1 hm
      obtain ⟨y,hy,rfl⟩:=List.mem_map.1 hfps
      have:=hlt y (List.mem_cons_of_mem _ hy) _ hid
      omega
     ·
      rcases List.mem_cons.1 hid with rfl | hid
      ·
       exact .inl rfl
      ·
       exact .inr hid
    | succ i =>
     simp only [List.getElem?_cons_succ] at hi
     obtain ⟨m1,m2⟩:=ih i hi (fun y hy=>hlt y (List.mem_cons_of_mem _ hy)) n2
     simp only [List.set_cons_succ,List.map_cons,List.flatten_cons]
     refine ⟨List.nodup_append.2 ⟨n1,m1,fun u hu v hv huv=>?_⟩,fun id hid=>?_⟩
     ·
      subst huv
      rcases m2 u hv with rfl | hv
      ·
       have:=hlt x List.mem_cons_self _ hu; omega
      ·
       exact n3 u hu u hv rfl
     ·
      rcases List.mem_append.1 hid with hid | hid
      ·
       exact .inr (List.mem_append.2 (.inl hid))
      ·
       rcases m2 id hid with rfl | hid
       ·
        exact .inl rfl
       ·
        exact .inr (List.mem_append.2 (.inr hid))
  exact (hperm l i hi hlt h.nd).1
def app {α:Type} (nb:Nat) (l ys:List α):Option (List α):=if (l.length + ys.length) * nb ≤ bound then some (l ++ ys) else none
theorem yh {α:Type} {nb:Nat} {l ys r:List α} (h:app nb l ys=some r):(l.length + ys.length) * nb ≤ bound∧r=l ++ ys:=by
 unfold app at h
 split at h
 ·
  rename_i hb; exact ⟨hb,(Option.some.inj h).symm⟩
 ·
  cases h
theorem dP {α:Type} {enc:α→D} {n:Nat} (h:∀ z,(enc z).cells.length=n):∀ (l:List α),sizes n (l.map enc)=true
 | []=>rfl
 | x :: l=>by simp only [List.map_cons,sizes,h,Nat.beq_refl,dP h l,Bool.and_self]
theorem yC {C:bQ} {S:St} {l:List bD} (H:Has B S l) {i:Nat} {v:AV} {xs ys:List D} (hi:l[i]? = some (.grow v xs)) {el nb:Nat} (hb:(xs.length + ys.length) * nb ≤ bound) (hnb:bytesOf C.P el=nb) (h0:(Nat.blt 0 nb && Nat.ble nb 65536)=true)
  (hx:sizes (ax C.P el) xs=true) (hy:sizes (ax C.P el) ys=true) (hz:dE C el=true):∃ v' S',eU C el S v ys=some (v',S')∧Has B S' (l.set i (.grow v' (xs ++ ys))):=by
 subst hnb
 simp only [Bool.and_eq_true] at h0
 have h1:=Nat.le_of_ble_eq_true h0.1
 have h2:=Nat.le_of_ble_eq_true h0.2
 have h1:0 < bytesOf C.P el:=h1
 have hinfo:(C.P.info? el).isSome=true:=by
  unfold dE at hz
  cases hq:C.P.info? el with
  | none=>rw [hq] at hz; cases hz
  | some x=>rfl
 have hil:i < l.length:=(List.getElem?_eq_some_iff.1 hi).1
 have hg:=H.at hi
 by_cases hne:ys.length=0
 ·
  have:ys=[]:=List.eq_nil_of_length_eq_zero hne
  subst this
  refine ⟨v,S,?_,?_⟩
  ·
   simp only [bD.ok] at hg
   split at hg <;> simp_all [eU]
  ·
   rw [List.append_nil]
   have:l.set i (.grow v xs)=l:=by
    apply List.ext_getElem?
    intro j
    rw [List.getElem?_set]
    by_cases hij:i=j
    ·
     subst hij; simp [hil]; exact (List.getElem?_eq_some_iff.1 hi).2.symm
    ·
     simp [hij]
   rw [this]; exact H
 ·
  have fresh:S.H.get S.nx=none:=H.wf.fresh (Nat.le_refl _)
  have new:∀ zs:List D,zs ≠ []→(bD.grow v xs).fp=[]→Has B { S with T:=S.T.set S.nx zs.length,nx:=S.nx + 1 } (l.set i (.grow (.tsl zs S.nx) zs)):=fun zs hzs hfp=>by
   refine H.Cf hi hfp rfl ⟨rfl,hzs,by simp [AL.aG],fresh⟩ (fun id hl=>?_) (fun id hid=>rfl) (fun id hid=>by simp only [AL.aG]; rw [if_neg (by omega)]) (Nat.le_succ _)
   show id < S.nx + 1
   unfold live cur at hl
   cases hH:S.H.get id with
   | some b=>have:=H.wf.H hH; omega
   | none =>
    simp only [hH,AL.aG] at hl
    by_cases hq:S.nx=id
    ·
     omega
    ·
     rw [if_neg hq] at hl
     cases hT:S.T.get id with
     | none=>exact absurd hT hl
     | some n=>have:=H.wf id (si hT); omega
  simp only [bD.ok] at hg
  split at hg
  ·
   subst hg
   refine ⟨_,_,?_,new ys (fun q=>hne (by rw [q]; rfl)) rfl⟩
   simp only [List.length_nil,Nat.zero_add] at hb
   simp only [eU,if_neg hne,if_pos (show ys.length * bytesOf C.P el ≤ bound∧0 < bytesOf C.P el∧bytesOf C.P el ≤ 65536∧sizes (ax C.P el) ys=true∧dE C el=true from ⟨hb,h1,h2,hy,hz⟩)]
  ·
   rename_i zs
   subst hg
   refine ⟨_,_,?_,new (zs ++ ys) (fun q=>hne (by simp at q; simp [q.2])) rfl⟩
   simp only [eU,if_neg hne,if_pos (show (zs.length + ys.length) * bytesOf C.P el ≤ bound∧0 < bytesOf C.P el∧bytesOf C.P el ≤ 65536∧sizes (ax C.P el) ys=true∧sizes (ax C.P el) zs=true∧dE C el=true from ⟨hb,h1,h2,hy,hx,hz⟩),if_true,List.length_append]
  ·
   rename_i zs tok
   obtain ⟨rfl,hne2,hT,hHt⟩:=hg
   have hpos:0 < zs.length:=List.length_pos_iff.2 hne2
   refine ⟨.tsl (zs ++ ys) tok,{ S with T:=S.T.set tok (zs.length + ys.length) },?_,?_⟩
   ·
    simp only [eU,if_neg hne,if_pos (show (zs.length + ys.length) * bytesOf C.P el ≤ bound∧0 < bytesOf C.P el∧bytesOf C.P el ≤ 65536∧sizes (ax C.P el) ys=true∧sizes (ax C.P el) zs=true∧dE C el=true from ⟨hb,h1,h2,hy,hx,hz⟩),hT]
    rw [if_pos ⟨trivial,hpos⟩]
   ·
    refine H.set hi rfl ⟨rfl,by simp [hne2],by simp [AL.aG],hHt⟩ (fun id hl=>?_) (fun id hid=>rfl) (fun id hid=>?_) rfl
    ·
     show id < S.nx
     refine H.wf id ?_
     unfold live cur at hl ⊢
     cases hH:S.H.get id with
     | some b=>cases b <;> simp
     | none =>
      simp only [hH,AL.aG] at hl ⊢
      by_cases hq:tok=id
      ·
       subst hq; rw [hT]; simp
      ·
       rw [if_neg hq] at hl; exact hl
    ·
     simp only [bD.fp,List.mem_singleton] at hid
     simp only [AL.aG]; rw [if_neg (fun q=>hid q.symm)]
  ·
   exact hg.elim
theorem yM {C:bQ} {ρ:Operand→Option AV} {x y:Operand} {S:St} {l:List bD} (H:Has B S l) {i t u:Nat} {v vy:AV} {xs ys:List D} (hx:ρ x=some v) (hy:ρ y=some vy) (hi:l[i]? = some (.grow v xs)) (hd:fM vy=some ys) (hnr:C.rowT t=false) (hu:eu C u=true) {el nb:Nat} (he:aV C.P t=some el)
  (hb:(xs.length + ys.length) * nb ≤ bound) (hnb:bytesOf C.P el=nb) (h0:(Nat.blt 0 nb && Nat.ble nb 65536)=true) (hsx:sizes (ax C.P el) xs=true) (hsy:sizes (ax C.P el) ys=true) (hz:dE C el=true) :
  ∃ v' S',oper C ρ S (.call { callee:=.builtin .append,args:=#[x,y],argTypes:=#[t,u] })=some (.val v' S')∧Has B S' (l.set i (.grow v' (xs ++ ys))):=by
 obtain ⟨v',S',h1,h2⟩:=yC (C:=C) H hi hb hnb h0 hsx hsy hz
 refine ⟨v',S',?_,h2⟩
 have hm:dQ ρ [x,y]=some [v,vy]:=by simp only [dQ,hx,hy,Option.map_some]
 have hg:=H.at hi
 simp only [oper,hm,dZ,List.getElem?_toArray,List.getElem?_cons_zero,List.getElem?_cons_succ,hu,if_true,he]
 simp only [bD.ok] at hg
 split at hg
 ·
  simp only [hnr,cond_false,hd,h1,Option.map_some]
 ·
  simp only [hnr,cond_false,hd,h1,Option.map_some]
 ·
  simp only [hnr,cond_false,hd,h1,Option.map_some]
 ·
  exact hg.elim
def cut {α:Type} (l:List α) (lo hi:Int):Option (List α):=if 0 ≤ lo∧lo ≤ hi∧hi ≤ l.length then some ((l.take hi.toNat).drop lo.toNat) else none
theorem yj {α:Type} {l r:List α} {lo hi:Int} (h:cut l lo hi=some r):(0 ≤ lo∧lo ≤ hi∧hi ≤ l.length)∧r=(l.take hi.toNat).drop lo.toNat:=by
 unfold cut at h
 split at h
 ·
  rename_i hb; exact ⟨hb,(Option.some.inj h).symm⟩
 ·
  cases h
end
end Go.Ev

namespace Go.Ev
noncomputable section
set_option linter.unusedVariables false
set_option linter.unusedSimpArgs false
variable {B:St}
section steps
variable {R:aR} {C:bQ} {nt:Nat} {ops:Array Oper} {rest:List Oper} {e:Env} {S S':St} {Q:Stp→Prop} {l l':List bD} {t ty:Nat} {p:String} {af:Array Edge} {g:Option (Nat × Bool)} {v:AV} {x y:Operand}
theorem ah.box {bt:Nat} {cs:List AV} (H:Has B S l) (hw:bg ops e { dst:=some t,op:=.box bt x,type:=ty,pos:=p,after:=af,guard:=g }=some true) (hx:bA e x=some v) (hp:v.plain=true) (hc:v.cells=cs) (ht:Nat.blt t nt=true)
  (k:∀ b S',Has B S' (.box b cs :: l)→ah R C nt ops rest ((t,.ptr b 0 0) :: e) S' Q) :
  ah R C nt ops ({ dst:=some t,op:=.box bt x,type:=ty,pos:=p,after:=af,guard:=g } :: rest) e S Q :=
 ah.val hw (Cw H hx hp hc) ht (k _ _ (H.box cs))
theorem ah.alloc {bt:Nat} {z:D} {cs:List AV} (H:Has B S l) (hw:bg ops e { dst:=some t,op:=.alloc bt,type:=ty,pos:=p,after:=af,guard:=g }=some true) (ho:C.objT bt=none) (hz:zeroOf C.P bt=some z) (hc:(AV.d z).cells=cs) (ht:Nat.blt t nt=true)
  (k:∀ b S',Has B S' (.box b cs :: l)→ah R C nt ops rest ((t,.ptr b 0 0) :: e) S' Q) :
  ah R C nt ops ({ dst:=some t,op:=.alloc bt,type:=ty,pos:=p,after:=af,guard:=g } :: rest) e S Q :=
 ah.val hw (Ae H ho hz hc) ht (k _ _ (H.box cs))
theorem ah.store {bt i id off n:Nat} {cs cv cs':List AV} (H:Has B S l) (hw:bg ops e { dst:=none,op:=.store bt x y,type:=ty,pos:=p,after:=af,guard:=g }=some true) (ha:bA e x=some (.ptr id 0 off)) (hy:bA e y=some v) (hi:l[i]? = some (.box id cs)) (hcv:v.cells=cv) (hn:cv.length=n) (hz:ax C.P bt=n) (hp:v.plain=true) (hag:(dJ C.P bt).isSome=true) (hb:Nat.ble (off + n) cs.length=true)
  (hs:setAt cs off cv=cs') (hl:l.set i (.box id cs')=l') (k:∀ S',Has B S' l'→ah R C nt ops rest e S' Q) :
  ah R C nt ops ({ dst:=none,op:=.store bt x y,type:=ty,pos:=p,after:=af,guard:=g } :: rest) e S Q:=by
 subst hs
 subst hl
 exact ah.skip hw (zB H ha hy hcv hn hz hp hag hi hb) (k _ (H.write hi))
theorem ah.append {t1 u i:Nat} {vy:AV} {xs ys zs:List D} {el nb:Nat} (H:Has B S l) (hw:bg ops e { dst:=some t,op:=.call { callee:=.builtin .append,args:=#[x,y],argTypes:=#[t1,u] },type:=ty,pos:=p,after:=af,guard:=g }=some true)
  (hx:bA e x=some v) (hy:bA e y=some vy) (hi:l[i]? = some (.grow v xs)) (hd:fM vy=some ys) (hnr:C.rowT t1=false) (hu:eu C u=true) (he:aV C.P t1=some el) (hb:(xs.length + ys.length) * nb ≤ bound) (hnb:bytesOf C.P el=nb) (h0:(Nat.blt 0 nb && Nat.ble nb 65536)=true)
  (hsx:sizes (ax C.P el) xs=true) (hsy:sizes (ax C.P el) ys=true) (hz:dE C el=true) (ht:Nat.blt t nt=true) (hzs:xs ++ ys=zs)
  (k:∀ v' S',Has B S' (l.set i (.grow v' zs))→ah R C nt ops rest ((t,v') :: e) S' Q) :
  ah R C nt ops ({ dst:=some t,op:=.call { callee:=.builtin .append,args:=#[x,y],argTypes:=#[t1,u] },type:=ty,pos:=p,after:=af,guard:=g } :: rest) e S Q:=by
 subst hzs
 obtain ⟨v',S',h1,h2⟩:=yM (ρ:=bA e) H hx hy hi hd hnr hu he hb hnb h0 hsx hsy hz
 exact ah.val hw h1 ht (k v' S' h2)
theorem aa.put {t:Nat} {x y:AV} {e2 e:Env} (h:aa e2 e) (hl:Less y x):aa ((t,y) :: e2) ((t,x) :: e):=fun u z hz=>by
 rw [AL.bJ] at hz ⊢
 by_cases hu:t=u
 ·
  rw [if_pos hu] at hz ⊢; cases hz; exact ⟨x,rfl,hl⟩
 ·
  rw [if_neg hu] at hz ⊢; exact h u z hz
def Aq (t:Nat):Env→Bool
 | []=>true
 | (k,_) :: l=>!(Nat.beq k t) && Aq t l
theorem vO {t:Nat}:∀ {e:Env},Aq t e=true→AL.get e t=none
 | [],_=>rfl
 | (k,v) :: l,h=>by
  simp only [Aq,Bool.and_eq_true,Bool.not_eq_true'] at h
  rw [AL.bJ,if_neg (fun q=>by subst q; rw [Nat.beq_refl] at h; cases h.1)]
  exact vO h.2
theorem aa.push {t:Nat} {x:AV} {e2 e:Env} (hk:Aq t e2=true) (h:aa e2 e):aa e2 ((t,x) :: e):=fun u z hz=>by
 have:t ≠ u:=fun q=>by subst q; rw [vO hk] at hz; cases hz
 rw [AL.bJ,if_neg this]
 exact h u z hz
theorem ah.dI {L:List Oper} (n t:Nat) (v:AV) (h:ah R C nt ops (L.take n) e S (fun r=>∃ e',r=.go e' S∧aa ((t,v) :: e) e')) (k:ah R C nt ops (L.drop n) ((t,v) :: e) S Q):ah R C nt ops L e S Q:=by
 have:=ah.app (R:=R) (C:=C) (nt:=nt) (ops:=ops) (L.take n) (l2:=L.drop n) (e:=e) (S:=S) (Q:=Q) (h.mono fun r hr=>by obtain ⟨e',rfl,hw⟩:=hr; exact ah.weak hw k)
 rwa [List.take_append_drop] at this
theorem ah.bool {b c:Bool} (hb:b=c) (k:ah R C nt ops rest ((t,.d (.bool c)) :: e) S Q):ah R C nt ops rest ((t,.d (.bool b)) :: e) S Q:=by subst hb; exact k
theorem ah.less {y':AV} (h:Less y' v) (k:ah R C nt ops rest ((t,y') :: e) S Q):ah R C nt ops rest ((t,v) :: e) S Q:=ah.weak (aa.top h) k
end steps
theorem Less.eq {x y:AV} (h:x=y):Less x y:=by subst h; exact .refl x
theorem y8:∀ (l:List D),fO (l.map .d)=some l
 | []=>rfl
 | x :: l=>by simp [fO,sP,y8 l]
theorem u6:∀ {cs:List AV} {xs:List D},rq cs=some xs→fO cs=some xs
 | [],xs,h=>by simp only [rq,Option.some.injEq] at h; subst h; rfl
 | .d x :: l,xs,h=>by
  simp only [rq,Option.map_eq_some_iff] at h
  obtain ⟨ys,h1,rfl⟩:=h
  simp [fO,sP,u6 h1]
theorem C9 {ys xs:List D} (h:iL ys xs) (hy:∀ y ∈ ys,y.isAgg=false) (hx:∀ x ∈ xs,x.isAgg=false):iV (.agg ys) (.agg xs):=fun w fr v hr=>by
 refine ⟨?_,hr.2⟩
 have h1:=hr.1
 generalize hcs:v.cells.toList=cs at h1 ⊢
 cases h1 with
 | agg _ _ hl ho hn hh =>
  refine .agg ys cs (by rw [hl,h.len]) ho hy (fun i y u hi hu=>?_)
  have hlt:i < xs.length:=by rw [← h.len]; exact (List.getElem?_eq_some_iff.1 hi).1
  have hx':=List.getElem?_eq_getElem hlt
  have ho':=ho u (List.mem_of_getElem? hu)
  have:=hh i _ u hx' hu
  have hcell:u.cells = #[u]∧oL u=false:=by
   cases u <;> simp_all [Value.oneCell',Value.cells,oL]
  have hd:aQ w fr xs[i] u:=⟨by rw [hcell.1]; exact this,by rw [hcell.2]; exact hx _ (List.mem_of_getElem? hx')⟩
  have:=(h.get hi hx' w fr u hd).1
  rw [hcell.1] at this
  exact this
def aJ (cs:List AV) (ds:List D):Prop:=∃ ds',fO cs=some ds'∧iL ds ds'∧(∀ d ∈ ds,d.isAgg=false)∧∀ d ∈ ds',d.isAgg=false
theorem aJ.nil:aJ [] []:=⟨[],rfl,.nil,by simp,by simp⟩
theorem aJ.kz {x:AV} {d d':D} {xs:List AV} {ds:List D} (h:sP x=some d') (hc:iV d d') (h1:d.isAgg=false) (h2:d'.isAgg=false) (k:aJ xs ds):aJ (x :: xs) (d :: ds):=by
 obtain ⟨ds',k1,k2,k3,k4⟩:=k
 exact ⟨d' :: ds',by simp only [fO,h,k1,Option.map_some],.cons hc k2,fun y hy=>by rcases List.mem_cons.1 hy with rfl | hy; exact h1; exact k3 y hy,fun y hy=>by rcases List.mem_cons.1 hy with rfl | hy; exact h2; exact k4 y hy⟩
theorem aJ.eq {d:D} {xs:List AV} {ds:List D} (h:d.isAgg=false) (k:aJ xs ds):aJ (.d d :: xs) (d :: ds):=.kz rfl (.refl d) h h k
theorem aJ.pack {cs:List AV} {ds:List D} (h:aJ cs ds):aC [gz cs] [.agg ds]:=by
 obtain ⟨ds',h1,h2,h3,h4⟩:=h
 refine ⟨[.agg ds'],?_,.cons (C9 h2 h3 h4) .nil⟩
 have:sP (gz cs)=some (.agg ds'):=by
  unfold gz
  split
  ·
   rename_i xs hx
   have:=u6 hx
   rw [h1] at this
   cases this
   rfl
  ·
   show (fO cs).map D.agg=_
   rw [h1]; rfl
 simp only [fO,this,Option.map_some]
theorem aC.less {x:AV} {d:D} (h:aC [x] [d]):Less (.d d) x:=by
 obtain ⟨ds',h1,h2⟩:=h
 simp only [fO] at h1
 split at h1
 ·
  rename_i y hy
  simp only [Option.map_some,Option.some.injEq] at h1
  subst h1
  cases h2 with
  | cons h _=>exact fun cx S w v hr=>.d _ _ (h _ _ _ (dW hy hr))
 ·
  cases h1
theorem Less.gz {cs:List AV} {ds:List D} (h:aJ cs ds):Less (.d (.agg ds)) (gz cs):=h.pack.less
theorem aC.grow {α:Type} {enc:α→D} {S:St} {l:List bD} (H:Has B S l) {i:Nat} {v:AV} {xs:List α} (hi:l[i]? = some (.grow v (xs.map enc))) {vs:List AV} {ds:List D} (k:aC vs ds):aC (v :: vs) (.sl (xs.map enc) false :: ds):=by
 obtain ⟨d,h1,h2⟩:=EJ (H.at hi)
 exact aC.kz h1 h2 k
theorem iU {v:AV} {d:D} (h:aC [v] [d]):∃ v',lG v=some v'∧xV (.d d) v':=by
 obtain ⟨ds',h1,h2⟩:=h
 simp only [fO] at h1
 split at h1
 ·
  rename_i y hy
  simp only [Option.map_some,Option.some.injEq] at h1
  subst h1
  cases h2 with
  | cons h2 _ =>
  refine ⟨.d y,?_,.one h2⟩
  unfold lG
  split
  ·
   simp [sP] at hy
  ·
   rw [hy]; rfl
 ·
  cases h1
theorem FB {vs:List AV} {ds:List D} (h:aC vs ds):∃ v',lG (.tup vs)=some v'∧xV (.tup (ds.map .d)) v':=by
 obtain ⟨ds',h1,h2⟩:=h
 exact ⟨.tup (ds'.map .d),by simp only [lG,h1,Option.map_some],.tup h2⟩
end
end Go.Ev

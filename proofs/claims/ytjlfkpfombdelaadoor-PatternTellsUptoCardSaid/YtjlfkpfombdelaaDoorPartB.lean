import Derived.Test.YtjlfkpfombdelaaDoorPartA
import Derived.MapKept
import Derived.Orders
import Derived.Laws.IdiomRangeMap
import Derived.Below
import Derived.Lib.SliceRun
import Derived.Lib.SlTrimSet
import Derived.Lib.Bytealg
import Derived.Lib.Join
import Derived.Shelf.Spec.SlicesInsertGrow
import Derived.Shelf.Strings.Builder1
namespace Go.Ev
noncomputable section
set_option linter.unusedVariables false
set_option linter.unusedSimpArgs false
theorem yH {R:bL} (hR:ObjOk R) {cx:Cx} {S:St} {w w':World} (h:aS R cx S w) {id:Nat} {M M':uk} (hg:S.H.get id=some (.map M))
  (hs:w'.heap.size=w.heap.size) (ho:∀ b,b ≠ cx.bm id→w'.heap[b]? = w.heap[b]?) (h1:w'.os=w.os) (h2:w'.tape=w.tape) (h3:w'.output=w.output)
  {ms':Array MapEntry} {clk':Nat} (hb:w'.heap[cx.bm id]? = some (.map ms' clk')) (hd:ms'.size=M'.es.length∧clk'=M'.clk∧∀ (i:Nat) (p:D × AV × Nat) (m:MapEntry),M'.es[i]? = some p→ms'[i]? = some m→m.born=p.2.2)
  (hv:∀ (i:Nat) (p:D × AV × Nat) (m:MapEntry),M'.es[i]? = some p→ms'[i]? = some m→bA w cx.fr p.1 m.key∧aF cx S w p.2.1 m.val) :
  aS R cx { S with H:=S.H.set id (.map M') } w'∧Ext cx S w cx { S with H:=S.H.set id (.map M') } w':=by
 obtain ⟨c1,c2,ms0,clk0,c3,c4,c5⟩:=h.maps id M hg
 have hlive:live S id:=by simp [live,cur,hg]
 have hcur:∀ i,cur { S with H:=S.H.set id (.map M') } i=cur S i:=fun i=>by
  unfold cur
  simp only [AL.aR]
  by_cases hi:id=i
  ·
   subst hi; simp [hg]
  ·
   simp [hi]
 have e:Ext cx S w cx { S with H:=S.H.set id (.map M') } w':=by
  refine ⟨by omega,h1,h2,h3,Nat.le_refl _,fun b o v hf hc=>?_,fun b hlt hn=>?_,fun i b hl hf=>?_,fun i gi _ hi=>⟨gi,by
   unfold isIt at *
   simp only [AL.aR] at hi
   split at hi
   ·
    cases hi
   ·
    exact hi⟩,fun _ _ _ _ _ _ hf=>hf,fun i g' hi hg'=>?_⟩
  ·
   have hne:b ≠ cx.bm id:=fun q=>hf (by rw [q]; exact c2 o)
   exact ⟨lM (ho b hne) hc,hf⟩
  ·
   have hne:b ≠ cx.bm id:=fun q=>BJ hg (by simp) (hn id hlive ((c1 b).2 q))
   exact ⟨ho b hne,fun _=>Iff.rfl⟩
  ·
   have hl':live S i:=by unfold live at *; rwa [hcur i] at hl
   exact ⟨fun _=>⟨hl',.inl hf⟩,fun hge=>absurd (h.wf i hl') (by show ¬ i < S.nx; omega)⟩
  ·
   rw [hcur i] at hg'
   exact ⟨g',hg',Nat.le_refl _,fun _=>⟨rfl,rfl,rfl⟩⟩
 have hl':∀ i,live { S with H:=S.H.set id (.map M') } i→live S i:=fun i hl=>by unfold live at *; rwa [hcur i] at hl
 have hne:∀ i,live S i→i ≠ id→∀ b,cx.fp i b→b ≠ cx.bm id:=fun i hi hne b hf hq=>hne (h.sep i id b hi hlive hf ((c1 b).2 hq))
 refine ⟨⟨fun i hi=>h.wf i (hl' i hi),fun i b hi=>?_,fun i g' cs1 hi=>?_,fun i es hi=>?_,fun i k x hi=>?_,fun i en hi=>?_,fun i i' b a1 a2 f1 f2=>h.sep i i' b (hl' i a1) (hl' i' a2) f1 f2,fun b o hf=>by rw [hs]; exact h.lt b o hf,hR.stat _ _ _ _ h.stat e.prot (h.still e)⟩,e⟩
 ·
  simp only [AL.aR] at hi
  by_cases q:id=i
  ·
   subst q; exact h.dis id _ hg
  ·
   rw [if_neg q] at hi; exact h.dis i b hi
 ·
  simp only [AL.aR] at hi
  by_cases q:id=i
  ·
   subst q; simp at hi
  ·
   rw [if_neg q] at hi
   obtain ⟨d1,d2,arr2,el2,d3,d4,d5⟩:=h.cells i g' cs1 hi
   refine ⟨d1,d2,arr2,el2,?_,d4,fun j x hx=>by
    obtain ⟨v,v1,v2,v3⟩:=d5 j x hx
    exact ⟨v,v1,v2.mono e,v3⟩⟩
   rw [ho _ (hne i (by simp [live,cur,hi]) (Ne.symm q) _ ((d1 _).2 rfl))]; exact d3
 ·
  simp only [AL.aR] at hi
  by_cases q:id=i
  ·
   subst q
   simp only [if_true,Option.some.injEq,wD.map.injEq] at hi
   subst hi
   exact ⟨c1,c2,ms',clk',hb,hd,fun j p m hp hm=>by
    obtain ⟨v1,v2⟩:=hv j p m hp hm
    exact ⟨v1.mono e.prot,v2.mono e⟩⟩
  ·
   rw [if_neg q] at hi
   obtain ⟨d1,d2,ms,clk,d3,d4,d5⟩:=h.maps i es hi
   refine ⟨d1,d2,ms,clk,?_,d4,fun j p m hp hm=>by
    obtain ⟨v1,v2⟩:=d5 j p m hp hm
    exact ⟨v1.mono e.prot,v2.mono e⟩⟩
   rw [ho _ (hne i (by simp [live,cur,hi]) (Ne.symm q) _ ((d1 _).2 rfl))]; exact d3
 ·
  simp only [AL.aR] at hi
  by_cases q:id=i
  ·
   subst q; simp at hi
  ·
   rw [if_neg q] at hi
   obtain ⟨d1,d2⟩:=h.objs i k x hi
   exact ⟨hR.frame k x w w' _ _ d1 (fun c hc=>ho c (hne i (by simp [live,cur,hi]) (Ne.symm q) c hc)),d2⟩
 ·
  obtain ⟨d1,d2,arr2,el2,fz,d3,d4,d5,d6⟩:=h.toks i en hi
  have q:i ≠ id:=fun q=>by subst q; have:=h.dis i _ hg; rw [this] at hi; cases hi
  have hli:live S i:=by
   unfold live cur
   cases hH:S.H.get i with
   | some b=>have:=h.dis i b hH; rw [this] at hi; cases hi
   | none=>simp [hi]
  refine ⟨d1,d2,arr2,el2,fz,?_,d4,d5,d6⟩
  rw [ho _ (hne i hli q _ ((d1 _).2 rfl))]; exact d3
theorem yC {R:bL} (hR:ObjOk R) {cx:Cx} {S:St} {w:World} (h:aS R cx S w) :
  ∃ cx',aS R cx' { S with H:=S.H.set S.nx (.map { es:=[],clk:=0 }),nx:=S.nx + 1 } (w.alloc (.map #[] 0))∧Ext cx S w cx' { S with H:=S.H.set S.nx (.map { es:=[],clk:=0 }),nx:=S.nx + 1 } (w.alloc (.map #[] 0)) ∧
   aF cx' { S with H:=S.H.set S.nx (.map { es:=[],clk:=0 }),nx:=S.nx + 1 } (w.alloc (.map #[] 0)) (.map S.nx) (.map (some w.heap.size)):=by
 obtain ⟨nH,nT⟩:=kE h
 generalize hS':({ S with H:=S.H.set S.nx (.map { es:=[],clk:=0 }),nx:=S.nx + 1 }:St)=S'
 have hH:∀ id,id ≠ S.nx→S'.H.get id=S.H.get id:=fun id hid=>by rw [← hS']; simp [AL.aR,Ne.symm hid]
 have hT:∀ id,id ≠ S.nx→S'.T.get id=S.T.get id:=fun id hid=>by rw [← hS']
 have hnx:S'.nx=S.nx + 1:=by rw [← hS']
 have nT':S'.T.get S.nx=none:=by rw [← hS']; exact nT
 have hc:∀ id,id ≠ S.nx→cur S' id=cur S id:=fun id hid=>by unfold cur; rw [hH id hid,hT id hid]
 have hnew:S'.H.get S.nx=some (.map { es:=[],clk:=0 }):=by rw [← hS']; simp [AL.aR]
 have e:=Ext.fresh (S':=S') h (.map #[] 0) 0 0 (fun _=>True) hnx hc hH
 refine ⟨cx.new S.nx w.heap.size 0 0 (fun _=>True),aS.fresh hR h _ 0 0 _ hnx hH hT (fun b _=>nT') (fun g cs' hg=>?_) (fun es hg=>?_) (fun k x hg=>?_) (fun en hg=>?_),e,?_⟩
 ·
  rw [hnew] at hg; cases hg
 ·
  rw [hnew] at hg
  simp only [Option.some.injEq,wD.map.injEq] at hg
  subst hg
  exact ⟨fun c=>by simp [Cx.new],fun o=>by simp [Cx.new],#[],0,by simp only [Cx.new,if_true]; exact heap_alloc_new w _,⟨rfl,rfl,fun i p m hp=>by simp at hp⟩,fun i p m hp=>by simp at hp⟩
 ·
  rw [hnew] at hg; cases hg
 ·
  rw [nT'] at hg; cases hg
 ·
  exact .map S.nx w.heap.size ⟨by rw [hnx]; exact Nat.lt_succ_self _,fun g' _=>Nat.zero_le _⟩ (fun _=>by simp [Cx.new])
theorem ky {C:gK} {t k e:Nat} (h:pV C t=some (k,e)):C.P.underlying t=some (.map k e):=by
 unfold pV at h
 split at h
 ·
  rename_i k' e' hu
  simp only [Option.some.injEq,Prod.mk.injEq] at h
  rw [hu,h.1,h.2]
 ·
  cases h
theorem pJ {R:bL} {cx:Cx} {S:St} {w:World} (hS:aS R cx S w) {id:Nat} {M:uk} (hg:S.H.get id=some (.map M)) {b:Nat} (hx:aF cx S w (.map id) (.map (some b))) :
  b=cx.bm id∧∃ ms,w.heap[cx.bm id]? = some (.map ms M.clk)∧EI w cx.fr M.es ms.toList∧(∀ (i:Nat) (p:D × AV × Nat) (m:MapEntry),M.es[i]? = some p→ms[i]? = some m→m.born=p.2.2∧bA w cx.fr p.1 m.key∧aF cx S w p.2.1 m.val)∧ms.size=M.es.length:=by
 obtain ⟨c1,c2,ms,clk,c3,⟨c4,c4',c4''⟩,c5⟩:=hS.maps id M hg
 subst c4'
 cases hx with
 | map _ _ hn hp =>
  refine ⟨hp (by simp [cur,hg]),ms,c3,⟨by simpa using c4,fun i p m hp hm=>(c5 i p m hp (by simpa using hm)).1⟩,fun i p m hp hm=>⟨c4'' i p m hp hm,(c5 i p m hp hm).1,(c5 i p m hp hm).2⟩,c4⟩
theorem pK {cx:Cx} {S:St} {w:World} {P:Program} {t:Nat} {k:D} {es:List (D × AV × Nat)} {ms:Array MapEntry} (hval:∀ (i:Nat) (p:D × AV × Nat) (m:MapEntry),es[i]? = some p→ms[i]? = some m→aF cx S w p.2.1 m.val) {i:Nat} {v:AV} {o:Option (Nat × Value)}
  (hf:jV P t k es 0=some (some (i,v))) (ho:Found ms.toList 0 (some (i,v)) o):∃ b m,es[i]? = some (k,v,b)∧ms[i]? = some m∧o=some (i,m.val)∧aF cx S w v m.val:=by
 obtain ⟨b,_,h2⟩:=vG hf
 obtain ⟨m,_,m2,m3⟩:=ho
 rw [Nat.sub_zero] at h2 m2
 have m2':ms[i]? = some m:=by simpa using m2
 exact ⟨b,m,h2,m2',m3,hval i _ m h2 m2'⟩
theorem xU {R:bL} {C:gK} {cx:Cx} {S:St} {w:World} (hS:aS R cx S w) {t:Nat} {m v:AV} {k:D} {ok:Bool} {mv kv:Value} (h:oC C t S m k ok=some v) (hm:aF cx S w m mv) (hk:bA w cx.fr k kv) :
  ∃ u,(Instr.lookup t mv kv ok).run C.P w=.ok u w∧aF cx S w v u:=by
 unfold oC at h
 split at h
 ·
  rename_i kt et M hkt hM
  have hu:=ky hkt
  split at h
  ·
   rename_i hkey
   have hchk:=pG hkey hk
   have fin:∀ (ms:Array MapEntry),EI w cx.fr M.es ms.toList→(∀ (i:Nat) (p:D × AV × Nat) (m:MapEntry),M.es[i]? = some p→ms[i]? = some m→aF cx S w p.2.1 m.val) →
     ∃ u:Value × Bool,∃ o,(Instr.findKey kt kv ms.toList).run C.P w=.ok o w∧aF cx S w v (if ok then .tuple #[u.1,.bool u.2] else u.1) ∧
      ((∃ i,o=some (i,u.1)∧u.2=true)∨(o=none∧(zeroValue et).run C.P w=.ok u.1 w∧u.2=false)):=by
    intro ms hE hval
    have two:∀ {y:AV} {x:Value} {b:Bool},aF cx S w y x→aF cx S w (if ok=true then .tup [y,.d (.bool b)] else y) (if ok=true then .tuple #[x,.bool b] else x):=by
     intro y x b hy
     cases ok
     ·
      exact hy
     ·
      refine .tup [y,.d (.bool b)] [x,.bool b] rfl (fun i a c ha hc=>?_)
      match i,ha,hc with
      | 0,ha,hc=>simp at ha hc; subst ha; subst hc; exact hy
      | 1,ha,hc=>simp at ha hc; subst ha; subst hc; exact .of_bool b
    split at h
    ·
     rename_i i y hf
     simp only [Option.some.injEq] at h; subst h
     obtain ⟨o,o1,o2⟩:=gp (P:=C.P) hkey hk hE hf
     obtain ⟨b,m',_,_,q3,q4⟩:=pK hval hf o2
     exact ⟨(m'.val,true),o,o1,two q4,.inl ⟨i,q3,rfl⟩⟩
    ·
     rename_i hf
     simp only [Option.map_eq_some_iff] at h
     obtain ⟨z,hz,rfl⟩:=h
     obtain ⟨o,o1,o2⟩:=gp (P:=C.P) hkey hk hE hf
     obtain ⟨zv,z1,z2⟩:=jC hz w cx.fr
     have:o=none:=o2
     exact ⟨(zv,false),o,o1,two (.d z zv z2),.inr ⟨this,z1,rfl⟩⟩
    ·
     cases h
   have go:∀ (ms:Array MapEntry) (u:Value × Bool) (o:Option (Nat × Value)),(Instr.findKey kt kv ms.toList).run C.P w=.ok o w→((∃ i,o=some (i,u.1)∧u.2=true)∨(o=none∧(zeroValue et).run C.P w=.ok u.1 w∧u.2=false)) →
     ((mv=.map none∧ms = #[])∨∃ r c,mv=.map (some r)∧w.heap[r]? = some (.map ms c))→(Instr.lookup t mv kv ok).run C.P w=.ok (if ok then .tuple #[u.1,.bool u.2] else u.1) w:=by
    intro ms u o ho hor hmv
    obtain ⟨u1,u2⟩:=u
    rcases hmv with ⟨rfl,rfl⟩ | ⟨r,c,rfl,hr⟩ <;> rcases hor with ⟨i,rfl,hb⟩ | ⟨rfl,hz,hb⟩ <;> simp only at hb <;> subst hb
    ·
     simp only [Instr.lookup,Sem.run_bind,aL w hu,Result.andThen_ok,Sem.run_pure,hchk,ho]
    ·
     simp only at hz
     simp only [Instr.lookup,Sem.run_bind,aL w hu,Result.andThen_ok,Sem.run_pure,hchk,ho,hz]
    ·
     simp only [Instr.lookup,Sem.run_bind,aL w hu,Result.andThen_ok,Sem.run_pure,hchk,ho,MapKept.run_getObj_map hr]
    ·
     simp only at hz
     simp only [Instr.lookup,Sem.run_bind,aL w hu,Result.andThen_ok,Sem.run_pure,hchk,ho,hz,MapKept.run_getObj_map hr]
   unfold mapOf at hM
   split at hM
   ·
    simp only [Option.some.injEq] at hM; subst hM
    have:=hm.dd.val rfl; cases this
    obtain ⟨u,o,f1,f2,f3⟩:=fin #[] ⟨rfl,by simp⟩ (by simp)
    exact ⟨_,go #[] u o f1 f3 (.inl ⟨rfl,rfl⟩),f2⟩
   ·
    rename_i id
    split at hM
    ·
     rename_i M' hg
     simp only [Option.some.injEq] at hM; subst hM
     cases hm with
     | map _ b hn hp =>
      obtain ⟨p1,ms,p2,p3,p4,p5⟩:=pJ hS hg (.map id b hn hp)
      subst p1
      obtain ⟨u,o,f1,f2,f3⟩:=fin ms p3 (fun i p m hp hm=>(p4 i p m hp hm).2.2)
      exact ⟨_,go ms u o f1 f3 (.inr ⟨_,_,rfl,p2⟩),f2⟩
    ·
     cases hM
   ·
    cases hM
  ·
   cases h
 ·
  cases h
theorem iK {R:bL} (hR:ObjOk R) {P:Program} {cx:Cx} {S:St} {w:World} (h:aS R cx S w) {id:Nat} {M M':uk} (hg:S.H.get id=some (.map M)) {ms ms':Array MapEntry} {c c':Nat} (hb:w.heap[cx.bm id]? = some (.map ms c))
  (hd:ms'.size=M'.es.length∧c'=M'.clk)
  (hv:∀ (i:Nat) (p:D × AV × Nat) (m:MapEntry),M'.es[i]? = some p→ms'[i]? = some m→m.born=p.2.2∧bA w cx.fr p.1 m.key∧aF cx S w p.2.1 m.val) :
  ∃ w',(setObj (cx.bm id) (.map ms' c')).run P w=.ok () w'∧aS R cx { S with H:=S.H.set id (.map M') } w'∧Ext cx S w cx { S with H:=S.H.set id (.map M') } w':=by
 have hlt:cx.bm id < w.heap.size:=by
  rcases Nat.lt_or_ge (cx.bm id) w.heap.size with q | q
  ·
   exact q
  ·
   rw [Array.getElem?_eq_none q] at hb; cases hb
 refine ⟨_,MapKept.run_setObj_map _ hb,yH hR h hg (by simp) (fun b hne=>?_) rfl rfl rfl (ms':=ms') (clk':=c') ?_ ⟨hd.1,hd.2,fun i p m hp hm=>(hv i p m hp hm).1⟩ (fun i p m hp hm=>(hv i p m hp hm).2)⟩
 ·
  simp only [Array.getElem?_setIfInBounds]
  rw [if_neg (Ne.symm hne)]
 ·
  simp only [Array.getElem?_setIfInBounds,hlt,if_true]
theorem sP {P:Program} {w:World} {fr:Nat→Nat→Prop} {t:Nat} {k:D} {v u:Value} (hk:ma P t k=true) (h1:bA w fr k v) (h2:bA w fr k u):(Instr.keyThatStays v u).run P w=.ok u w:=by
 have:=EY hk h1 h2; subst this
 unfold Instr.keyThatStays
 rw [if_pos (Da hk h1 9999)]
 rfl
theorem rE {cx:Cx} {S:St} {w:World} {es:List (D × AV × Nat)} {ms:Array MapEntry} {p0:D × AV × Nat} {m0:MapEntry} (hsz:ms.size=es.length) (h:∀ (i:Nat) (p:D × AV × Nat) (m:MapEntry),es[i]? = some p→ms[i]? = some m→m.born=p.2.2∧bA w cx.fr p.1 m.key∧aF cx S w p.2.1 m.val)
  (h0:m0.born=p0.2.2∧bA w cx.fr p0.1 m0.key∧aF cx S w p0.2.1 m0.val):∀ (i:Nat) (p:D × AV × Nat) (m:MapEntry),(es ++ [p0])[i]? = some p→(ms.push m0)[i]? = some m→m.born=p.2.2∧bA w cx.fr p.1 m.key∧aF cx S w p.2.1 m.val:=by
 intro i p m hp hm
 rw [Array.getElem?_push] at hm
 rw [List.getElem?_append] at hp
 by_cases hi:i=ms.size
 ·
  rw [if_pos hi] at hm
  rw [if_neg (by omega),show i - es.length=0 by omega] at hp
  simp at hp hm; subst hp; subst hm; exact h0
 ·
  rw [if_neg hi] at hm
  have hlt:i < ms.size:=(Array.getElem?_eq_some_iff.1 hm).1
  rw [if_pos (by omega)] at hp
  exact h i p m hp hm
theorem lS {cx:Cx} {S:St} {w:World} {es:List (D × AV × Nat)} {ms:Array MapEntry} {j:Nat} {f:D × AV × Nat→D × AV × Nat} {g:MapEntry→MapEntry} (h:∀ (i:Nat) (p:D × AV × Nat) (m:MapEntry),es[i]? = some p→ms[i]? = some m→m.born=p.2.2∧bA w cx.fr p.1 m.key∧aF cx S w p.2.1 m.val)
  (h0:∀ (p:D × AV × Nat) (m:MapEntry),es[j]? = some p→ms[j]? = some m→(g m).born=(f p).2.2∧bA w cx.fr (f p).1 (g m).key∧aF cx S w (f p).2.1 (g m).val):∀ (i:Nat) (p:D × AV × Nat) (m:MapEntry),(es.modify j f)[i]? = some p→(ms.modify j g)[i]? = some m→m.born=p.2.2∧bA w cx.fr p.1 m.key∧aF cx S w p.2.1 m.val:=by
 intro i p m hp hm
 rw [Array.getElem?_modify] at hm
 rw [List.getElem?_modify] at hp
 by_cases hi:j=i
 ·
  subst hi
  simp only [if_true,Option.map_eq_map,Option.map_eq_some_iff] at hp hm
  obtain ⟨p1,q1,q2⟩:=hp
  obtain ⟨m1,r1,r2⟩:=hm
  have q2':f p1=p:=by simpa using q2
  subst q2'; subst r2
  exact h0 p1 m1 q1 r1
 ·
  rw [if_neg hi] at hm
  simp only [Option.map_eq_map,Option.map_eq_some_iff] at hp
  obtain ⟨p1,q1,q2⟩:=hp
  have q2':p1=p:=by simpa [hi] using q2
  subst q2'
  exact h i p1 m q1 hm
theorem rA {R:bL} (hR:ObjOk R) {C:gK} {cx:Cx} {S S':St} {w:World} (hS:aS R cx S w) {t:Nat} {m v:AV} {k:D} {mv kv vv:Value} (h:oG C t S m k v=some S') (hm:aF cx S w m mv) (hk:bA w cx.fr k kv) (hv:aF cx S w v vv) :
  ∃ w',(Instr.mapUpdate t mv kv vv).run C.P w=.ok () w'∧aS R cx S' w'∧Ext cx S w cx S' w':=by
 unfold oG at h
 split at h
 ·
  rename_i kt et id hkt
  have hu:=ky hkt
  split at h
  ·
   rename_i M hg
   split at h
   ·
    rename_i hc
    simp only [Bool.and_eq_true] at hc
    obtain ⟨hkey,hpl⟩:=hc
    have hchk:=pG hkey hk false
    cases hm with
    | map _ b hn hp =>
    obtain ⟨p1,ms,p2,p3,p4,p5⟩:=pJ hS hg (.map id b hn hp)
    subst p1
    split at h
    ·
     rename_i i y hf
     simp only [Option.some.injEq] at h; subst h
     obtain ⟨o,o1,o2⟩:=gp (P:=C.P) hkey hk p3 hf
     obtain ⟨bn,m',q1,q2,q3,q4⟩:=pK (fun i p m hp hm=>(p4 i p m hp hm).2.2) hf o2
     subst q3
     obtain ⟨w',k1,k2,k3⟩:=iK hR (P:=C.P) (M':={ M with es:=M.es.modify i fun p=>(k,v,p.2.2) }) (ms':=ms.modify i fun e=>{ e with key:=kv,val:=vv }) (c':=M.clk) hS hg p2 ⟨by simp [p5],rfl⟩
      (lS p4 (fun p m hp hm=>⟨(p4 i p m hp hm).1,hk,hv⟩))
     refine ⟨w',?_,k2,k3⟩
     have hst:=sP hkey (p4 i _ m' q1 q2).2.1 hk
     simp only [Instr.mapUpdate,Sem.run_bind,aL w hu,Result.andThen_ok,MapKept.run_getObj_map p2,hchk,o1,q2,Option.map_some,Option.getD_some,hst]
     exact k1
    ·
     rename_i hf
     simp only [Option.some.injEq] at h; subst h
     obtain ⟨o,o1,o2⟩:=gp (P:=C.P) hkey hk p3 hf
     have:o=none:=o2
     subst this
     obtain ⟨w',k1,k2,k3⟩:=iK hR (P:=C.P) (M':={ es:=M.es ++ [(k,v,M.clk)],clk:=M.clk + 1 }) (ms':=ms.push { key:=kv,val:=vv,born:=M.clk }) (c':=M.clk + 1) hS hg p2 ⟨by simp [p5],rfl⟩
      (rE p5 p4 ⟨rfl,hk,hv⟩)
     refine ⟨w',?_,k2,k3⟩
     simp only [Instr.mapUpdate,Sem.run_bind,aL w hu,Result.andThen_ok,MapKept.run_getObj_map p2,hchk,o1]
     exact k1
    ·
     cases h
   ·
    cases h
  ·
   cases h
 ·
  cases h
theorem yT {R:bL} {cx:Cx} {S:St} {w w':World} {id:Nat} {b:wD} (hg:S.H.get id=some b) (h1:aS R cx { S with H:=S.H.set id b } w') (h2:Ext cx S w cx { S with H:=S.H.set id b } w'):aS R cx S w'∧Ext cx S w cx S w':=by
 have hH:∀ i,({ S with H:=S.H.set id b }:St).H.get i=S.H.get i:=fun i=>by
  simp only [AL.aR]
  by_cases q:id=i
  ·
   subst q; simp [hg]
  ·
   simp [q]
 have hcur:∀ i,cur { S with H:=S.H.set id b } i=cur S i:=fun i=>by unfold cur; rw [hH i]
 have hl:∀ i,live { S with H:=S.H.set id b } i↔live S i:=fun i=>by unfold live; rw [hcur i]
 have e2:Ext cx { S with H:=S.H.set id b } w' cx S w':=by
  refine ⟨Nat.le_refl _,rfl,rfl,rfl,Nat.le_refl _,fun _ _ _ q1 q2=>⟨q2,q1⟩,fun _ _ _=>⟨rfl,fun _=>Iff.rfl⟩,fun i b hi hf=>⟨fun _=>⟨(hl i).2 hi,.inl hf⟩,fun hge=>absurd (h1.wf i ((hl i).2 hi)) (by show ¬ i < S.nx; exact Nat.not_lt.2 hge)⟩,fun i g _ hi=>⟨g,by unfold isIt at *; rw [hH i]; exact hi⟩,fun _ _ _ _ _ _ hf=>hf,fun i g hi hg'=>⟨g,by rw [hcur i]; exact hg',Nat.le_refl _,fun _=>⟨rfl,rfl,rfl⟩⟩⟩
 refine ⟨⟨fun i hi=>h1.wf i ((hl i).2 hi),fun i b hi=>h1.dis i b (by rw [hH i]; exact hi),fun i g cs hi=>?_,fun i es hi=>?_,fun i k x hi=>h1.objs i k x (by rw [hH i]; exact hi),fun i n hi=>h1.toks i n hi,fun i i' b a1 a2=>h1.sep i i' b ((hl i).2 a1) ((hl i').2 a2),h1.lt,h1.stat⟩,h2.trans e2⟩
 ·
  obtain ⟨d1,d2,arr2,el2,d3,d4,d5⟩:=h1.cells i g cs (by rw [hH i]; exact hi)
  exact ⟨d1,d2,arr2,el2,d3,d4,fun j x hx=>by
   obtain ⟨v,v1,v2,v3⟩:=d5 j x hx
   exact ⟨v,v1,v2.mono e2,v3⟩⟩
 ·
  obtain ⟨d1,d2,ms,clk,d3,d4,d5⟩:=h1.maps i es (by rw [hH i]; exact hi)
  exact ⟨d1,d2,ms,clk,d3,d4,fun j p m hp hm=>by
   obtain ⟨v1,v2⟩:=d5 j p m hp hm
   exact ⟨v1,v2.mono e2⟩⟩
theorem zY {R:bL} (hR:ObjOk R) {C:gK} {cx:Cx} {S:St} {w:World} (hS:aS R cx S w) {t:Nat} {m:AV} {k:D} {r:AV × St} {mv kv:Value} (h:yB C t S m k=some r) (hm:aF cx S w m mv) (hk:bA w cx.fr k kv) :
  ∃ w' u,(Instr.mapEntry t mv kv).run C.P w=.ok u w'∧aS R cx r.2 w'∧Ext cx S w cx r.2 w'∧aF cx r.2 w' r.1 u:=by
 have two:∀ {S':St} {w':World} {y:AV} {x:Value} {n:Nat},aF cx S' w' y x→aF cx S' w' (.tup [y,.d (.int .i64 (n:Nat))]) (.tuple #[x,goInt n]):=by
  intro S' w' y x n hy
  refine .tup [y,.d (.int .i64 n)] [x,goInt n] rfl (fun i a c ha hc=>?_)
  match i,ha,hc with
  | 0,ha,hc=>simp at ha hc; subst ha; subst hc; exact hy
  | 1,ha,hc=>simp at ha hc; subst ha; subst hc; exact .of_int _ _
 unfold yB at h
 split at h
 ·
  rename_i kt et id hkt
  have hu:=ky hkt
  split at h
  ·
   rename_i M hg
   split at h
   ·
    rename_i hkey
    have hchk:=pG hkey hk false
    cases hm with
    | map _ b hn hp =>
    obtain ⟨p1,ms,p2,p3,p4,p5⟩:=pJ hS hg (.map id b hn hp)
    subst p1
    split at h
    ·
     rename_i i y hf
     split at h
     ·
      rename_i p hpi
      simp only [Option.some.injEq] at h; subst h
      obtain ⟨o,o1,o2⟩:=gp (P:=C.P) hkey hk p3 hf
      obtain ⟨bn,m',q1,q2,q3,q4⟩:=pK (fun i p m hp hm=>(p4 i p m hp hm).2.2) hf o2
      subst q3
      rw [hpi] at q1
      simp only [Option.some.injEq] at q1; subst q1
      have hsame:M.es.modify i (fun p=>(k,p.2.1,p.2.2))=M.es:=by
       apply List.ext_getElem?
       intro j
       rw [List.getElem?_modify]
       by_cases hj:i=j
       ·
        subst hj; rw [hpi]; simp
       ·
        simp [hj]
      obtain ⟨w',k1,k2,k3⟩:=iK hR (P:=C.P) (M':={ M with es:=M.es.modify i fun p=>(k,p.2.1,p.2.2) }) (ms':=ms.modify i fun e=>{ e with key:=kv }) (c':=M.clk) hS hg p2 ⟨by simp [p5],rfl⟩
       (lS p4 (fun p m hp hm=>⟨(p4 i p m hp hm).1,hk,(p4 i p m hp hm).2.2⟩))
      rw [hsame] at k2 k3
      have hback:aS R cx S w'∧Ext cx S w cx S w':=yT hg k2 k3
      have hborn:=(p4 i _ m' hpi q2).1
      refine ⟨w',.tuple #[m'.val,goInt m'.born],?_,hback.1,hback.2,?_⟩
      ·
       have hst:=sP hkey (p4 i _ m' hpi q2).2.1 hk
       simp only [Instr.mapEntry,Sem.run_bind,aL w hu,Result.andThen_ok,MapKept.run_getObj_map p2,hchk,o1,q2,Option.map_some,Option.getD_some,hst]
       rw [k1]; rfl
      ·
       rw [hborn]
       exact two (q4.mono hback.2)
     ·
      cases h
    ·
     rename_i hf
     simp only [Option.map_eq_some_iff] at h
     obtain ⟨z,hz,rfl⟩:=h
     obtain ⟨o,o1,o2⟩:=gp (P:=C.P) hkey hk p3 hf
     have:o=none:=o2
     subst this
     obtain ⟨zv,z1,z2⟩:=jC hz w cx.fr
     obtain ⟨w',k1,k2,k3⟩:=iK hR (P:=C.P) (M':={ es:=M.es ++ [(k,.d z,M.clk)],clk:=M.clk + 1 }) (ms':=ms.push { key:=kv,val:=zv,born:=M.clk }) (c':=M.clk + 1) hS hg p2 ⟨by simp [p5],rfl⟩
      (rE p5 p4 ⟨rfl,hk,.d z zv z2⟩)
     refine ⟨w',.tuple #[zv,goInt M.clk],?_,k2,k3,two ((aF.d z zv z2).mono k3)⟩
     simp only [Instr.mapEntry,Sem.run_bind,aL w hu,Result.andThen_ok,MapKept.run_getObj_map p2,hchk,o1,z1]
     rw [k1]; rfl
    ·
     cases h
   ·
    cases h
  ·
   cases h
 ·
  cases h
theorem mG {n:Nat}:∀ {es:List (D × AV × Nat)} {i0 i:Nat},lI n es i0=some i→i0 ≤ i∧(∃ p,es[i - i0]? = some p∧p.2.2=n)∧∀ j p,i0 ≤ j→j < i→es[j - i0]? = some p→p.2.2 ≠ n
 | [],i0,i,h=>by simp [lI] at h
 | (x,v,b) :: l,i0,i,h=>by
  simp only [lI] at h
  cases hb:Nat.beq b n with
  | true =>
   rw [hb] at h
   simp only [cond_true,Option.some.injEq] at h
   subst h
   exact ⟨Nat.le_refl _,⟨(x,v,b),by simp,Nat.eq_of_beq_eq_true hb⟩,fun j p h1 h2=>by omega⟩
  | false =>
   rw [hb] at h
   simp only [cond_false] at h
   obtain ⟨h1,⟨p,h2,h3⟩,h4⟩:=mG h
   refine ⟨by omega,⟨p,?_,h3⟩,fun j q hj1 hj2 hq=>?_⟩
   ·
    rw [show i - i0=(i - (i0 + 1)) + 1 by omega]; simpa using h2
   ·
    by_cases hj:j=i0
    ·
     subst hj
     simp at hq; subst hq
     intro e
     simp only at e
     rw [e] at hb
     simp at hb
    ·
     refine h4 j q (by omega) hj2 ?_
     rw [show j - i0=(j - (i0 + 1)) + 1 by omega] at hq
     simpa using hq
theorem sF {R:bL} (hR:ObjOk R) {C:gK} {cx:Cx} {S S':St} {w:World} (hS:aS R cx S w) {t:Nat} {m v:AV} {st:D} {mv sv vv:Value} (h:nV S m st v=some S') (hm:aF cx S w m mv) (hs:bA w cx.fr st sv) (hv:aF cx S w v vv) :
  ∃ w',(Instr.entryStore t mv sv vv).run C.P w=.ok () w'∧aS R cx S' w'∧Ext cx S w cx S' w':=by
 unfold nV at h
 split at h
 ·
  rename_i id n
  split at h
  ·
   rename_i M hg
   split at h
   ·
    rename_i hc
    obtain ⟨hn0,hpl⟩:=hc
    have:=hs.val rfl; cases this
    cases hm with
    | map _ b hn hp =>
    obtain ⟨p1,ms,p2,p3,p4,p5⟩:=pJ hS hg (.map id b hn hp)
    subst p1
    split at h
    ·
     rename_i i hf
     simp only [Option.some.injEq] at h; subst h
     obtain ⟨_,⟨p,f2,f3⟩,f4⟩:=mG hf
     rw [Nat.sub_zero] at f2
     have hil:i < ms.size:=by rw [p5]; exact (List.getElem?_eq_some_iff.1 f2).1
     have hidx:ms.findIdx? (fun e=>(e.born:Int) == n)=some i:=by
      rw [Array.findIdx?_eq_some_iff_getElem]
      refine ⟨hil,?_,fun j hj=>?_⟩
      ·
       have:=(p4 i p ms[i] f2 (by simp [hil])).1
       rw [this,f3]
       simp [Int.toNat_of_nonneg hn0]
      ·
       have hjl:j < M.es.length:=by omega
       have hq:=List.getElem?_eq_getElem hjl
       have hb:=(p4 j M.es[j] ms[j] hq (by simp [show j < ms.size by omega])).1
       have hne:=f4 j M.es[j] (Nat.zero_le _) hj (by rw [Nat.sub_zero]; exact hq)
       simp only [beq_iff_eq]
       rw [hb]
       intro e
       apply hne
       omega
     obtain ⟨w',k1,k2,k3⟩:=iK hR (P:=C.P) (M':={ M with es:=M.es.modify i fun p=>(p.1,v,p.2.2) }) (ms':=ms.modify i fun e=>{ e with val:=vv }) (c':=M.clk) hS hg p2 ⟨by simp [p5],rfl⟩
      (lS p4 (fun p m hp hm=>⟨(p4 i p m hp hm).1,(p4 i p m hp hm).2.1,hv⟩))
     refine ⟨w',?_,k2,k3⟩
     have hint:(asInt (.int .i64 n)).run C.P w=.ok n w:=by simp [asInt,asIntOf]
     simp only [Instr.entryStore,Sem.run_bind,Sem.run_pure,Result.andThen_ok,MapKept.run_getObj_map p2,hint,hidx]
     exact k1
    ·
     cases h
   ·
    cases h
  ·
   cases h
 ·
  cases h
theorem wF {cx:Cx} {S:St} {w:World} {es:List (D × AV × Nat)} {ms:Array MapEntry} {j:Nat} (h:∀ (i:Nat) (p:D × AV × Nat) (m:MapEntry),es[i]? = some p→ms[i]? = some m→m.born=p.2.2∧bA w cx.fr p.1 m.key∧aF cx S w p.2.1 m.val) :
  ∀ (i:Nat) (p:D × AV × Nat) (m:MapEntry),(es.eraseIdx j)[i]? = some p→(ms.eraseIdxIfInBounds j)[i]? = some m→m.born=p.2.2∧bA w cx.fr p.1 m.key∧aF cx S w p.2.1 m.val:=by
 intro i p m hp hm
 have hm':(ms.toList.eraseIdx j)[i]? = some m:=by
  rw [← Array.getElem?_toList] at hm
  simpa using hm
 rw [List.getElem?_eraseIdx] at hp hm'
 split at hp
 ·
  rename_i hlt
  rw [if_pos hlt] at hm'
  exact h i p m hp (by simpa using hm')
 ·
  rename_i hlt
  rw [if_neg hlt] at hm'
  exact h (i + 1) p m hp (by simpa using hm')
theorem xR {R:bL} (hR:ObjOk R) {C:gK} {cx:Cx} {S S':St} {w:World} (hS:aS R cx S w) {t ty:Nat} {m:AV} {k:D} {mv kv:Value} (h:vD C t S m k=some S') (hm:aF cx S w m mv) (hk:bA w cx.fr k kv) :
  ∃ w',(Builtin.delete_ #[t] ty #[mv,kv]).run C.P w=.ok (.tuple #[]) w'∧aS R cx S' w'∧Ext cx S w cx S' w':=by
 unfold vD at h
 split at h
 ·
  rename_i kt et id hkt
  have hu:=ky hkt
  split at h
  ·
   rename_i M hg
   split at h
   ·
    rename_i hkey
    cases hm with
    | map _ b hn hp =>
    obtain ⟨p1,ms,p2,p3,p4,p5⟩:=pJ hS hg (.map id b hn hp)
    subst p1
    have hchk:=pG hkey hk ms.isEmpty
    split at h
    ·
     rename_i i y hf
     simp only [Option.some.injEq] at h; subst h
     obtain ⟨o,o1,o2⟩:=gp (P:=C.P) hkey hk p3 hf
     obtain ⟨bn,m',q1,q2,q3,q4⟩:=pK (fun i p m hp hm=>(p4 i p m hp hm).2.2) hf o2
     subst q3
     obtain ⟨w',k1,k2,k3⟩:=iK hR (P:=C.P) (M':={ M with es:=M.es.eraseIdx i }) (ms':=ms.eraseIdxIfInBounds i) (c':=M.clk) hS hg p2 ⟨by
       have e1:(ms.eraseIdxIfInBounds i).toList=ms.toList.eraseIdx i:=by simp
       rw [← Array.length_toList,e1,List.length_eraseIdx,List.length_eraseIdx,Array.length_toList,p5],rfl⟩ (wF p4)
     refine ⟨w',?_,k2,k3⟩
     simp only [Builtin.delete_,List.getElem?_toArray,List.getElem?_cons_zero,List.getElem?_cons_succ,Sem.run_bind,aL w hu,Result.andThen_ok,MapKept.run_getObj_map p2,hchk,o1,k1,Sem.run_pure]
    ·
     rename_i hf
     simp only [Option.some.injEq] at h; subst h
     obtain ⟨o,o1,o2⟩:=gp (P:=C.P) hkey hk p3 hf
     have:o=none:=o2
     subst this
     obtain ⟨w',k1,k2,k3⟩:=iK hR (P:=C.P) (M':=M) (ms':=ms) (c':=M.clk) hS hg p2 ⟨p5,rfl⟩ p4
     obtain ⟨k2,k3⟩:=yT hg k2 k3
     refine ⟨w',?_,k2,k3⟩
     simp only [Builtin.delete_,List.getElem?_toArray,List.getElem?_cons_zero,List.getElem?_cons_succ,Sem.run_bind,aL w hu,Result.andThen_ok,MapKept.run_getObj_map p2,hchk,o1,k1,Sem.run_pure]
    ·
     cases h
   ·
    cases h
  ·
   cases h
 ·
  cases h
end
end Go.Ev

namespace Go.Ev
noncomputable section
set_option linter.unusedVariables false
set_option linter.unusedSimpArgs false
theorem rP {R:bL} (hR:ObjOk R) {cx cx':Cx} {S S':St} {w w':World} (h:aS R cx S w) {id k0:Nat} {x0:D} (hg:S.H.get id=some (.obj k0 x0)) (hmo:∀ k x,S'.H.get id=some (.obj k x)→rW x0 ≤ rW x) (hbk:∀ g,isIt S' id g→∃ g',isIt S id g') (hdi:∀ g,isIt S id g→¬ isIt S' id g)
  (hT:S'.T=S.T) (hnx:S'.nx=S.nx) (hH:∀ i,i ≠ id→S'.H.get i=S.H.get i) (hHid:S'.H.get id=none∨∃ k x,S'.H.get id=some (.obj k x)∧R.rel k x w' (cx'.bm id) (cx'.fp id))
  (hs:w.heap.size ≤ w'.heap.size) (h1:w'.os=w.os) (h2:w'.tape=w.tape) (h3:w'.output=w.output)
  (hoth:∀ b,b < w.heap.size→¬ cx.fp id b→w'.heap[b]? = w.heap[b]?)
  (hbm:∀ i,cx'.bm i=cx.bm i) (hfp:∀ i,i ≠ id→∀ b,(cx'.fp i b↔cx.fp i b)) (htsz:∀ i,cx'.tsz i=cx.tsz i) (htot:∀ i,cx'.tot i=cx.tot i)
  (hfpt:∀ b,cx'.fp id b→cx.fp id b∨(w.heap.size ≤ b∧b < w'.heap.size)) (hfpf:∀ b o,cx'.fp id b→cx'.fr b o)
  (hfr1:∀ b o,¬ cx.fr b o→b < w.heap.size→¬ cx'.fr b o) (hfr2:∀ b o,cx.fr b o→cx'.fr b o) (hfr3:∀ b o,cx'.fr b o→b < w'.heap.size) :
  aS R cx' S' w'∧Ext cx S w cx' S' w':=by
 obtain ⟨t1,t2⟩:=h.objs id k0 x0 hg
 have hlive:live S id:=by simp [live,cur,hg]
 have hcur:∀ i,i ≠ id→cur S' i=cur S i:=fun i hi=>by
  unfold cur; rw [hH i hi,hT]
 have hcurt:∀ g,cur S' id=some g→rW x0 ≤ g:=fun g hc=>by
  unfold cur at hc
  rcases hHid with q | ⟨k,x,q,_⟩
  ·
   rw [q,hT,h.dis id _ hg] at hc; cases hc
  ·
   have:=hmo k x q
   rw [q] at hc
   simp only [Option.some.injEq] at hc
   omega
 have hl':∀ i,live S' i→live S i:=fun i hl=>by
  by_cases hi:i=id
  ·
   subst hi; exact hlive
  ·
   unfold live at *; rwa [hcur i hi] at hl
 have e:Ext cx S w cx' S' w':=by
  refine ⟨hs,h1,h2,h3,by rw [hnx]; exact Nat.le_refl _,fun b o v hf hcl=>⟨?_,hfr1 b o hf (mq hcl)⟩,fun b hb hn=>?_,fun i b hl hf=>?_,fun i gi _ hi=>?_,fun i gi b _ h0 h2 hf=>?_,fun i gg hi hgg=>?_⟩
  ·
   exact lM (hoth b (mq hcl) (fun q=>hf (t2 b o q))) hcl
  ·
   exact ⟨hoth b hb (fun q=>by obtain ⟨_,g,z1,z2⟩:=hn id hlive q; exact hdi g z1 z2),fun o=>⟨fun q=>Classical.byContradiction fun q'=>hfr1 b o q' hb q,hfr2 b o⟩⟩
  ·
   refine ⟨fun _=>⟨hl' i hl,?_⟩,fun hge=>absurd (h.wf i (hl' i hl)) (by show ¬ i < S.nx; omega)⟩
   by_cases hi:i=id
   ·
    subst hi
    rcases hfpt b hf with q | q
    ·
     exact .inl q
    ·
     exact .inr q.1
   ·
    exact .inl ((hfp i hi b).1 hf)
  ·
   by_cases q:i=id
   ·
    subst q; exact hbk gi hi
   ·
    exact ⟨gi,by unfold isIt at *; rwa [hH i q] at hi⟩
  ·
   have q:i ≠ id:=fun q=>by subst q; exact hdi gi h0 h2
   exact (hfp i q b).2 hf
  ·
   by_cases hi':i=id
   ·
    subst hi'
    have:=hcurt gg hgg
    exact ⟨rW x0,by simp [cur,hg],this,fun _=>⟨hbm i,htsz i,htot i⟩⟩
   ·
    rw [hcur i hi'] at hgg
    exact ⟨gg,hgg,Nat.le_refl _,fun _=>⟨hbm i,htsz i,htot i⟩⟩
 have hne:∀ i,live S i→i ≠ id→∀ b,cx.fp i b→¬ cx.fp id b:=fun i hi hne b hf hq=>hne (h.sep i id b hi hlive hf hq)
 refine ⟨⟨fun i hi=>by rw [hnx]; exact h.wf i (hl' i hi),fun i b hi=>?_,fun i gg cs2 hi=>?_,fun i es hi=>?_,fun i k x hi=>?_,fun i n hi=>?_,fun i i' b a1 a2 f1 f2=>?_,hfr3,hR.stat _ _ _ _ h.stat e.prot (h.still e)⟩,e⟩
 ·
  rw [hT]
  by_cases q:i=id
  ·
   subst q; exact h.dis i _ hg
  ·
   rw [hH i q] at hi; exact h.dis i b hi
 ·
  by_cases q:i=id
  ·
   subst q
   rcases hHid with z | ⟨k,x,z,_⟩
   ·
    rw [z] at hi; cases hi
   ·
    rw [z] at hi; cases hi
  ·
   rw [hH i q] at hi
   obtain ⟨d1,d2,arr2,el2,d3,d4,d5⟩:=h.cells i gg cs2 hi
   have hb:=hne i (by simp [live,cur,hi]) q _ ((d1 _).2 rfl)
   refine ⟨fun b=>by rw [hfp i q,hbm i]; exact d1 b,fun o=>by rw [hbm i]; exact hfr2 _ _ (d2 o),arr2,el2,?_,by rw [htsz i,htot i]; exact d4,fun j x hx=>by
    obtain ⟨v,v1,v2,v3⟩:=d5 j x hx
    exact ⟨v,v1,v2.mono e,v3⟩⟩
   rw [hbm i,hoth _ (h.lt _ 0 (d2 0)) hb]; exact d3
 ·
  by_cases q:i=id
  ·
   subst q
   rcases hHid with z | ⟨k,x,z,_⟩
   ·
    rw [z] at hi; cases hi
   ·
    rw [z] at hi; cases hi
  ·
   rw [hH i q] at hi
   obtain ⟨d1,d2,ms,clk,d3,d4,d5⟩:=h.maps i es hi
   have hb:=hne i (by simp [live,cur,hi]) q _ ((d1 _).2 rfl)
   refine ⟨fun b=>by rw [hfp i q,hbm i]; exact d1 b,fun o=>by rw [hbm i]; exact hfr2 _ _ (d2 o),ms,clk,?_,d4,fun j p m hp hm=>by
    obtain ⟨v1,v2⟩:=d5 j p m hp hm
    exact ⟨v1.mono e.prot,v2.mono e⟩⟩
   rw [hbm i,hoth _ (h.lt _ 0 (d2 0)) hb]; exact d3
 ·
  by_cases q:i=id
  ·
   subst q
   rcases hHid with z | ⟨k',x',z,hr⟩
   ·
    rw [z] at hi; cases hi
   ·
    rw [z] at hi; cases hi
    exact ⟨hr,hfpf⟩
  ·
   rw [hH i q] at hi
   obtain ⟨d1,d2⟩:=h.objs i k x hi
   have hf:cx'.fp i=cx.fp i:=funext fun b=>propext (hfp i q b)
   rw [hbm i,hf]
   have hb:=hne i (by simp [live,cur,hi]) q
   exact ⟨hR.frame k x w w' _ _ d1 (fun c hc=>hoth c ((hR.lt k x w _ _ d1).1 c hc) (hb c hc)),fun b o hbf=>hfr2 b o (d2 b o hbf)⟩
 ·
  rw [hT] at hi
  have q:i ≠ id:=fun q=>by subst q; have:=h.dis i _ hg; rw [this] at hi; cases hi
  obtain ⟨hci,hHi⟩:=yU h hi
  obtain ⟨d1,d2,arr2,el2,fz,d3,d4,d5,d6⟩:=h.toks i n hi
  have hb:=hne i (by simp [live,hci]) q _ ((d1 _).2 rfl)
  have hlt:cx.bm i < w.heap.size:=h.lt _ _ (d2 _ (Nat.le_refl _))
  refine ⟨fun b=>by rw [hfp i q,hbm i]; exact d1 b,fun o ho=>?_,arr2,el2,fz,?_,?_,?_,?_⟩
  ·
   rw [htsz i] at ho; rw [hbm i]; exact hfr2 _ _ (d2 o ho)
  ·
   rw [hbm i,hoth _ hlt hb]; exact d3
  ·
   rw [htsz i,htot i]; exact d4
  ·
   rw [htot i]; exact d5
  ·
   rw [htsz i]; exact d6
 ·
  by_cases q:i=id <;> by_cases q':i'=id
  ·
   omega
  ·
   exfalso
   subst q
   have f2':=(hfp i' q' b).1 f2
   rcases hfpt b f1 with z | z
   ·
    exact hne i' (hl' i' a2) q' b f2' z
   ·
    have:=h.tN hR (hl' i' a2) f2'; omega
  ·
   exfalso
   subst q'
   have f1':=(hfp i q b).1 f1
   rcases hfpt b f2 with z | z
   ·
    exact hne i (hl' i a1) q b f1' z
   ·
    have:=h.tN hR (hl' i a1) f1'; omega
  ·
   exact h.sep i i' b (hl' i a1) (hl' i' a2) ((hfp i q b).1 f1) ((hfp i' q' b).1 f2)
theorem tO {R:bL} (hR:ObjOk R) {cx:Cx} {S:St} {w:World} (hS:aS R cx S w) (m:Option Nat) (since st:Nat) (seen:Array Nat) :
  ∃ cx',aS R cx' (bX S (.obj 3 (.int .i64 0))) (w.alloc (.mapIter m since seen st))∧Ext cx S w cx' (bX S (.obj 3 (.int .i64 0))) (w.alloc (.mapIter m since seen st)) ∧
   Names (bX S (.obj 3 (.int .i64 0))) S.nx 0∧(w.heap.size=cx'.bm S.nx∧cx'.fp S.nx w.heap.size∧(∀ i,cur (bX S (.obj 3 (.int .i64 0))) i ≠ none→cx'.fp i w.heap.size→i=S.nx) ∧
    (w.alloc (.mapIter m since seen st)).heap[w.heap.size]? = some (.mapIter m since seen st)):=by
 obtain ⟨cx',k1,k2,k3⟩:=qI hR hS 3 (.int .i64 0) (.mapIter m since seen st) rfl ((hR.it _ _ _ _).2 ⟨by rw [size_alloc]; omega,fun c=>Iff.rfl⟩)
 have hget:(bX S (.obj 3 (.int .i64 0))).H.get S.nx=some (.obj 3 (.int .i64 0)):=by simp [bX,AL.aR]
 have hcur:cur (bX S (.obj 3 (.int .i64 0))) S.nx=some 0:=by unfold cur; rw [hget]; rfl
 cases k3 with
 | ptr _ _ _ _ hn hp =>
 have hb:=hp hcur
 have hf:cx'.fp S.nx w.heap.size:=((((hR.it _ _ _ _).1 (k1.objs _ _ _ hget).1).2) _).2 hb
 exact ⟨cx',k1,k2,hn,hb,hf,fun i hi hfi=>k1.sep i S.nx _ hi (by simp [live,hcur]) hfi hf,heap_alloc_new w _⟩
theorem zq {R:bL} (hR:ObjOk R) {C:gK} {cx:Cx} {S:St} {w:World} (hS:aS R cx S w) {t id:Nat} {kt:Nat × Nat} {M:uk} {v:Value} (ht:pV C t=some kt) (hg:S.H.get id=some (.map M)) (hx:aF cx S w (.map id) v) :
  ∃ cx' w' u,(Instr.range t v).run C.P w=.ok u w'∧aS R cx' (bX S (.obj 3 (.int .i64 0))) w'∧Ext cx S w cx' (bX S (.obj 3 (.int .i64 0))) w'∧aF cx' (bX S (.obj 3 (.int .i64 0))) w' (.it S.nx 0 (some id) M.clk [] M.clk) u:=by
 have hu:=ky (k:=kt.1) (e:=kt.2) ht
 cases hx with
 | map _ b hn hp =>
 obtain ⟨p1,ms,p2,p3,p4,p5⟩:=pJ hS hg (.map id b hn hp)
 subst p1
 obtain ⟨cx',k1,k2,k3,k4⟩:=tO hR hS (some (cx.bm id)) M.clk M.clk #[]
 refine ⟨cx',_,.pointer (some ⟨w.heap.size,0,none⟩),?_,k1,k2,?_⟩
 ·
  simp only [Instr.range,Sem.run_bind,aL w hu,Result.andThen_ok,MapKept.run_getObj_map p2,Sem.run_pure]
  rfl
 ·
  refine .it S.nx 0 id M.clk M.clk w.heap.size (cx.bm id) [] k3 (hn.mono k2) (fun hc=>?_) (fun _=>k4)
  exact (hn.pos k2 hc).2.1.symm
theorem tY {R:bL} (hR:ObjOk R) {C:gK} {cx:Cx} {S:St} {w:World} (hS:aS R cx S w) {t:Nat} {kt:Nat × Nat} {v:Value} (ht:pV C t=some kt) (hx:aF cx S w (.d .nilm) v) :
  ∃ cx' w' u,(Instr.range t v).run C.P w=.ok u w'∧aS R cx' (bX S (.obj 3 (.int .i64 0))) w'∧Ext cx S w cx' (bX S (.obj 3 (.int .i64 0))) w'∧aF cx' (bX S (.obj 3 (.int .i64 0))) w' (.it S.nx 0 none 0 [] 0) u:=by
 have hu:=ky (k:=kt.1) (e:=kt.2) ht
 have:=hx.dd.val rfl
 cases this
 obtain ⟨cx',k1,k2,k3,k4⟩:=tO hR hS none 0 0 #[]
 refine ⟨cx',_,.pointer (some ⟨w.heap.size,0,none⟩),?_,k1,k2,.it0 S.nx 0 0 0 w.heap.size [] k3 (fun _=>k4)⟩
 simp only [Instr.range,Sem.run_bind,aL w hu,Result.andThen_ok,Sem.run_pure]
 rfl
theorem xQ {R:bL} {C:gK} {cx:Cx} {S:St} {w:World} (hS:aS R cx S w) {k g id since st n i:Nat} {seen:List Nat} {M:uk} {p:D × AV × Nat} {v:Value} (hx:aF cx S w (.it k g (some id) since seen st) v)
  (hg:S.H.get id=some (.map M)) (hl:seen.getLast? = some n) (hk:isIt S k g) (hc:M.clk=st) (hf:lI n M.es 0=some i) (hp:M.es[i]? = some p) :
  ∃ u,(Instr.entry v).run C.P w=.ok u w∧aF cx S w (.tup [.d p.1,p.2.1]) u:=by
 cases hx with
 | it _ _ _ _ _ b m _ hn hni hm hpos =>
 obtain ⟨_,_,_,hb⟩:=hpos hk
 have hm:=hm (by simp [cur,hg])
 subst hm
 obtain ⟨c1,c2,ms,clk,c3,⟨c4,c4',c4''⟩,c5⟩:=hS.maps id M hg
 subst c4'
 have hlt:i < ms.size:=by rw [c4]; exact (List.getElem?_eq_some_iff.1 hp).1
 have hmi:ms[i]? = some ms[i]:=Array.getElem?_eq_getElem hlt
 obtain ⟨r1,r2⟩:=c5 i p _ hp hmi
 obtain ⟨_,⟨q,f2,f3⟩,f4⟩:=mG hf
 rw [Nat.sub_zero] at f2
 have hqp:q=p:=by rw [hp] at f2; exact (Option.some.inj f2).symm
 subst hqp
 have hfind:ms.find? (fun e=>e.born == n)=some ms[i]:=by
  rw [Array.find?_eq_some_iff_getElem]
  refine ⟨by simp [c4'' i q _ hp hmi,f3],i,hlt,rfl,fun j hj=>?_⟩
  have hjl:j < M.es.length:=by rw [← c4]; omega
  have hq:=List.getElem?_eq_getElem hjl
  have hbj:=c4'' j M.es[j] ms[j] hq (Array.getElem?_eq_getElem (by omega))
  have hne:=f4 j M.es[j] (Nat.zero_le _) hj (by rw [Nat.sub_zero]; exact hq)
  simp [hbj,hne]
 have hgo:(getObj b).run C.P w=.ok (.mapIter (some (cx.bm id)) since seen.toArray st) w:=by simp [getObj,Sem.run,hb]
 have hback:seen.toArray.back? = some n:=by simpa using hl
 refine ⟨.tuple #[ms[i].key,ms[i].val],?_,?_⟩
 ·
  simp only [Instr.entry,Sem.run_bind,Sem.run_pure,Result.andThen_ok,hgo,hback,MapKept.run_getObj_map c3,hc]
  rw [if_neg (by simp)]
  simp only [hfind,Sem.run_pure]
 ·
  refine .tup _ [ms[i].key,ms[i].val] rfl (fun j x u hx hu=>?_)
  match j,hx,hu with
  | 0,hx,hu=>simp at hx hu; subst hx; subst hu; exact .d _ _ r1
  | 1,hx,hu=>simp at hx hu; subst hx; subst hu; exact r2
end
end Go.Ev

namespace Go.Ev
noncomputable section
set_option linter.unusedVariables false
set_option linter.unusedSimpArgs false
def kF (R:bL) (C:gK) (cx:Cx) (S:St) (w:World) (σ:Operand→Value) (o:Oper):DD→Prop
 | .val v S'=>∃ cx' w' u,(execOp σ o).run C.P w=.ok (.value u) w'∧aS R cx' S' w'∧Ext cx S w cx' S' w'∧aF cx' S' w' v u
 | .skip S'=>∃ cx' w',(execOp σ o).run C.P w=.ok .skip w'∧aS R cx' S' w'∧Ext cx S w cx' S' w'
 | .call f args=>∃ us:List Value,us.length=args.length∧(∀ (i:Nat) (x:AV) (v:Value),args[i]? = some x→us[i]? = some v→aF cx S w x v) ∧
   ∀ fn,C.P.funcs[f]? = some fn→fn.body.isSome=true→fn.name ≠ "runtime.NumGoroutine" → (execOp σ o).run C.P w=.ok (.enter f us.toArray) w
 | .panic _=>False
theorem oM {P:Program} {w w':World} {s:Sem Value} {u:Value} (h:s.run P w=.ok u w'):(do pure (.value (← s)):Sem Next).run P w=.ok (.value u) w':=by
 rw [Sem.run_bind,h]; rfl
theorem F8 {P:Program} {w w':World} {s:Sem Unit} (h:s.run P w=.ok () w'):(do s; pure .skip:Sem Next).run P w=.ok .skip w':=by
 rw [Sem.run_bind,h]; rfl
section
variable {R:bL} {C:gK} {cx:Cx} {S:St} {w:World} {σ:Operand→Value} {o:Oper}
theorem kF.pure {v:AV} {u:Value} (hS:aS R cx S w) (h:(execOp σ o).run C.P w=.ok (.value u) w) (hv:aF cx S w v u):kF R C cx S w σ o (.val v S) :=
 ⟨cx,w,u,h,hS,Ext.refl w hS.wf,hv⟩
theorem Cr {x:AV} {ys:List D} {u:Value} {sz:Nat} (hd:mJ x=some ys) (hx:aF cx S w x u) (hs:sizes sz ys=true) :
  (Builtin.lenOf u).run C.P w=.ok ys.length w∧∃ fs,(∀ w',w'.heap=w.heap→(Builtin.firstCells sz ys.length u).run C.P w'=.ok fs.toArray w')∧Flat w cx.fr sz ys fs:=by
 obtain ⟨tight,hr⟩:=yg hd hx
 obtain ⟨a,cap,rfl,_⟩:=x8 hr
 refine ⟨rfl,?_⟩
 obtain ⟨fs,f1,f2,_⟩:=iV (P:=C.P) hr hs
 refine ⟨fs,fun w' hw=>?_,f2⟩
 have hm:bA w' cx.fr (.sl ys tight) (.slice a ys.length cap):=hr.mono (fun b o v h1 h2=>⟨by simp only [World.cell?] at h2 ⊢; rw [hw]; exact h2,h1⟩)
 obtain ⟨gs,g1,g2,g3⟩:=iV (P:=C.P) hm hs
 rw [g1]
 congr 2
 cases a with
 | none =>
  have h0:ys=[]:=by
   obtain ⟨a',cap',hv,_,_,hm⟩:=x8 hr
   simp only [Value.slice.injEq] at hv
   by_cases q:ys=[]
   ·
    exact q
   ·
    obtain ⟨b,off,sz',vs,e,_⟩:=hm q
    rw [← hv.1] at e; cases e
  subst h0
  have e1:fs=[]:=by have:=f2.len; simpa using this
  have e2:gs=[]:=by have:=g2.len; simpa using this
  rw [e1,e2]
 | some ad =>
  have hrun:(loadCells ad (ys.length * sz)).run C.P w=.ok fs.toArray w:=f1
  have hrun':(loadCells ad (ys.length * sz)).run C.P w'=.ok gs.toArray w':=g1
  by_cases q:ys=[]
  ·
   subst q
   have e1:fs=[]:=by have:=f2.len; simpa using this
   have e2:gs=[]:=by have:=g2.len; simpa using this
   rw [e1,e2]
  ·
   obtain ⟨a',cap',hv,_,_,hm⟩:=x8 hr
   obtain ⟨b,off,sz',vs,e,_⟩:=hm q
   simp only [Value.slice.injEq] at hv
   rw [← hv.1] at e
   simp only [Option.some.injEq] at e; subst e
   obtain ⟨fs',f1',f2',f3'⟩:=iV (P:=C.P) hr hs
   rw [f1] at f1'
   simp only [Result.ok.injEq,and_true] at f1'
   have hff:fs=fs':=by simpa using f1'
   subst hff
   apply List.ext_getElem?
   intro i
   by_cases hi:i < gs.length
   ·
    have hg:=List.getElem?_eq_getElem hi
    have hi':i < fs.length:=by rw [f2.len,← g2.len]; exact hi
    have hf:=List.getElem?_eq_getElem hi'
    have c1:=g3 b off _ _ rfl i _ hg
    have c2:=f3' b off _ _ rfl i _ hf
    simp only [World.cell?] at c1 c2
    rw [hw] at c1
    rw [c2] at c1
    rw [hg,hf]; simpa using c1.symm
   ·
    rw [List.getElem?_eq_none (by omega),List.getElem?_eq_none (by rw [f2.len,← g2.len]; omega)]
theorem rf (hR:ObjOk R) (hS:aS R cx S w) {t t2 e ty:Nat} {x r:AV} {ys:List D} {S':St} {v u:Value} (h:iF C e S x ys=some (r,S')) (he:cu C.P t=some e) (h2:iU C t2=true) (hx:aF cx S w x v)
  (hu:(Builtin.lenOf u).run C.P w=.ok ys.length w) (hsrc:sizes (aH C.P e) ys=true→∃ fs,(∀ w',w'.heap=w.heap→(Builtin.firstCells (aH C.P e) ys.length u).run C.P w'=.ok fs.toArray w')∧Flat w cx.fr (aH C.P e) ys fs)
  (h0:ys=[]→∀ sz,(Builtin.firstCells sz 0 u).run C.P w=.ok #[] w) (hi:(C.P.info? e).isSome=true) :
  ∃ cx' w' z,(Builtin.append_ #[t,t2] ty #[v,u]).run C.P w=.ok z w'∧aS R cx' S' w'∧Ext cx S w cx' S' w'∧aF cx' S' w' r z:=by
 obtain ⟨ie,hi⟩:=Option.isSome_iff_exists.1 hi
 have nothing:∀ {xs:List D} {tight:Bool},bA w cx.fr (.sl xs tight) v→ys.length=0→(Builtin.append_ #[t,t2] ty #[v,u]).run C.P w=.ok v w:=by
  intro xs tight hd hy
  obtain ⟨a,cap,rfl,hcap,_⟩:=x8 hd
  have hy':ys=[]:=List.eq_nil_of_length_eq_zero hy
  subst hy'
  have:=run_append_fits (w:=w) (ty:=ty) (sLen:=xs.length) (sCap:=cap) (n:=0) (base:=a) (u:=u) (bP he) hi h2 hu (by omega) (new:=#[]) (h0 rfl _)
  rw [this]
  cases a with
  | none=>rfl
  | some ad=>simp [storeCells]
 unfold iF at h
 split at h
 ·
  by_cases hy:ys.length=0
  ·
   rw [if_pos hy,if_pos (by simp [hi])] at h
   simp only [Option.some.injEq,Prod.mk.injEq] at h
   obtain ⟨rfl,rfl⟩:=h
   exact ⟨cx,w,v,nothing (vQ hx.dd) hy,hS,Ext.refl w hS.wf,hx⟩
  ·
   rw [if_neg hy] at h
   split at h
   ·
    rename_i hc
    obtain ⟨c1,c2,c3,c4,c6⟩:=hc
    simp only [Option.some.injEq,Prod.mk.injEq] at h
    obtain ⟨rfl,rfl⟩:=h
    obtain ⟨fs,s1,s2⟩:=hsrc c4
    have:=wo hR hS (ty:=ty) (xs:=[]) he h2 (vQ hx.dd) hu s1 s2 hy (by simpa using c1) c2 c3 rfl c6
    simpa using this
   ·
    cases h
 ·
  rename_i xs tight
  by_cases hy:ys.length=0
  ·
   rw [if_pos hy,if_pos (by simp [hi])] at h
   simp only [Option.some.injEq,Prod.mk.injEq] at h
   obtain ⟨rfl,rfl⟩:=h
   exact ⟨cx,w,v,nothing hx.dd hy,hS,Ext.refl w hS.wf,hx⟩
  ·
   rw [if_neg hy] at h
   split at h
   ·
    rename_i hc
    obtain ⟨c1,c2,c3,c4,c5,c6⟩:=hc
    split at h
    ·
     rename_i ht
     subst ht
     simp only [Option.some.injEq,Prod.mk.injEq] at h
     obtain ⟨rfl,rfl⟩:=h
     obtain ⟨fs,s1,s2⟩:=hsrc c4
     exact wo hR hS he h2 hx.dd hu s1 s2 hy c1 c2 c3 c5 c6
    ·
     cases h
   ·
    cases h
 ·
  rename_i xs tok
  by_cases hy:ys.length=0
  ·
   rw [if_pos hy,if_pos (by simp [hi])] at h
   simp only [Option.some.injEq,Prod.mk.injEq] at h
   obtain ⟨rfl,rfl⟩:=h
   refine ⟨cx,w,v,?_,hS,Ext.refl w hS.wf,hx⟩
   cases hx with
   | tsl _ _ b off cap hn hd hp=>exact nothing hd hy
  ·
   rw [if_neg hy] at h
   split at h
   ·
    rename_i hc
    obtain ⟨c1,c2,c3,c4,c5,c6⟩:=hc
    split at h
    ·
     rename_i en hT
     split at h
     ·
      rename_i hen
      obtain ⟨rfl,hpos⟩:=hen
      simp only [Option.some.injEq,Prod.mk.injEq] at h
      obtain ⟨rfl,rfl⟩:=h
      obtain ⟨fs,s1,s2⟩:=hsrc c4
      exact AR hR hS he h2 hx (by intro q; subst q; simp at hpos) hT hu s1 s2 hy c1 c2 c3 c5 c6
     ·
      cases h
    ·
     cases h
   ·
    cases h
 ·
  cases h
theorem tH {A:Array Nat} {V:Array Value} {t t2 ty:Nat} {v u:Value} (h1:A[0]? = some t) (h2:A[1]? = some t2) (h3:V[0]? = some v) (h4:V[1]? = some u) :
  Builtin.append_ A ty V=Builtin.append_ #[t,t2] ty #[v,u]:=by
 unfold Builtin.append_
 simp only [h1,h2,h3,h4,List.getElem?_toArray,List.getElem?_cons_zero,List.getElem?_cons_succ]
theorem Du {A:Array Nat} {V:Array Value} {t ty:Nat} {v:Value} (h1:A[0]? = some t) (h3:V[0]? = some v):Builtin.len_ A ty V=Builtin.len_ #[t] ty #[v]:=by
 unfold Builtin.len_
 simp only [h1,h3,List.getElem?_toArray,List.getElem?_cons_zero]
theorem zt {A:Array Nat} {V:Array Value} {t ty:Nat} {v u:Value} (h1:A[0]? = some t) (h3:V[0]? = some v) (h4:V[1]? = some u):Builtin.delete_ A ty V=Builtin.delete_ #[t] ty #[v,u]:=by
 unfold Builtin.delete_
 simp only [h1,h3,h4,List.getElem?_toArray,List.getElem?_cons_zero,List.getElem?_cons_succ]
theorem Cf {A:Array Nat} {V:Array Value} {t t2 ty:Nat} {v u:Value} (h1:A[0]? = some t) (h3:V[0]? = some v) (h4:V[1]? = some u):Builtin.copy_ A ty V=Builtin.copy_ #[t,t2] ty #[v,u]:=by
 unfold Builtin.copy_
 simp only [h1,h3,h4,List.getElem?_toArray,List.getElem?_cons_zero,List.getElem?_cons_succ]
theorem Av {A:Array Nat} {V:Array Value} {t ty:Nat} {v:Value} (h1:A[0]? = some t) (h3:V[0]? = some v):Builtin.clear_ A ty V=Builtin.clear_ #[t] ty #[v]:=by
 unfold Builtin.clear_
 simp only [h1,h3,List.getElem?_toArray,List.getElem?_cons_zero]
theorem qh {ρ:Operand→Option AV} (hρ:tQ cx S w ρ σ) {arr_:Array Operand} {args:List AV} (h:iW ρ arr_.toList=some args) :
  (arr_.map σ).toList.length=args.length∧∀ (i:Nat) (x:AV) (v:Value),args[i]? = some x→(arr_.map σ).toList[i]? = some v→aF cx S w x v:=by
 obtain ⟨h1,h2⟩:=mR h
 refine ⟨by simp [h1],fun i x v hx hv=>?_⟩
 simp only [Array.toList_map,List.getElem?_map,Option.map_eq_some_iff] at hv
 obtain ⟨q,hq,rfl⟩:=hv
 exact hρ _ _ (h2 i q x hq hx)
theorem ow {e:Nat} (h:iB C e=true):(C.P.info? e).isSome=true:=by
 obtain ⟨i,z,hi,_⟩:=l8 h; simp [hi]
theorem zH {e:Nat} {x:AV} {ys:List D} {r:AV × St} (h:iF C e S x ys=some r):(C.P.info? e).isSome=true:=by
 unfold iF at h
 split at h
 ·
  split at h
  ·
   split at h
   ·
    assumption
   ·
    cases h
  ·
   split at h
   ·
    rename_i hc; exact ow hc.2.2.2.2
   ·
    cases h
 ·
  split at h
  ·
   split at h
   ·
    assumption
   ·
    cases h
  ·
   split at h
   ·
    rename_i hc; exact ow hc.2.2.2.2.2
   ·
    cases h
 ·
  split at h
  ·
   split at h
   ·
    assumption
   ·
    cases h
  ·
   split at h
   ·
    rename_i hc; exact ow hc.2.2.2.2.2
   ·
    cases h
 ·
  cases h
theorem oq (hR:ObjOk R) (hS:aS R cx S w) {A:Array Nat} {V:Array Value} {t t2 e ty:Nat} {x y r:AV} {ys:List D} {S':St} {v u:Value} (h:iF C e S x ys=some (r,S')) (he:cu C.P t=some e) (hei:(C.P.info? e).isSome=true) (h2:iU C t2=true)
  (hx:aF cx S w x v) (hy:aF cx S w y u) (hk:mJ y=some ys∨∃ s,y=.d (.str s)∧ys=s.map fun c=>.int .u8 c.toNat)
  (a1:A[0]? = some t) (a2:A[1]? = some t2) (a3:V[0]? = some v) (a4:V[1]? = some u) :
  ∃ cx' w' z,(Builtin.append_ A ty V).run C.P w=.ok z w'∧aS R cx' S' w'∧Ext cx S w cx' S' w'∧aF cx' S' w' r z:=by
 rw [tH a1 a2 a3 a4]
 rcases hk with hk | ⟨s,rfl,rfl⟩
 ·
  have hlen:(Builtin.lenOf u).run C.P w=.ok ys.length w:=by
   obtain ⟨tight,hr⟩:=yg hk hy
   obtain ⟨a,cap,rfl,_⟩:=x8 hr
   rfl
  refine rf hR hS h he h2 hx hlen (fun hs=>(Cr hk hy hs).2) (fun h0 sz=>?_) hei
  subst h0
  obtain ⟨tight,hr⟩:=yg hk hy
  obtain ⟨a,cap,rfl,_⟩:=x8 hr
  cases a <;> simp [Builtin.firstCells,loadCells,loadCellsFrom]
 ·
  obtain ⟨b,rfl,rfl⟩:=hy.str
  have hbl:b.data.toList.length=b.size:=Array.length_toList
  refine rf hR hS h he h2 hx ?_ (fun hs=>?_) (fun h0 sz=>?_) hei
  ·
   simp only [Builtin.lenOf,List.length_map,Sem.run_pure]; rw [hbl]
  ·
   obtain ⟨fs,f1,f2⟩:=wR (P:=C.P) (w:=w) (fr:=cx.fr) b
   by_cases hne:b.data.toList=[]
   ·
    refine ⟨[],fun w' _=>?_,by simp [hne],by simp,by simp [hne],by simp [hne]⟩
    simp only [hne,List.map_nil,List.length_nil,Builtin.firstCells,Sem.run_pure]
    congr 1
    apply Array.ext'
    simp [ByteArray.data_extract]
   ·
    have hsz:aH C.P e=1:=by
     cases hb:b.data.toList with
     | nil=>exact absurd hb hne
     | cons c l=>rw [hb] at hs; simp only [List.map_cons,sizes,Bool.and_eq_true] at hs; have:=Nat.eq_of_beq_eq_true hs.1; simpa [D.cells] using this.symm
    rw [hsz]
    refine ⟨fs,fun w' _=>?_,f2⟩
    have:(Builtin.firstCells 1 b.size (.string b)).run C.P w'=.ok fs.toArray w':=by
     simp only [Builtin.firstCells,Sem.run_pure,Result.ok.injEq,and_true] at f1 ⊢
     exact f1
    simp only [List.length_map,hbl]
    exact this
  ·
   simp only [Builtin.firstCells,Sem.run_pure]
   congr 1
   apply Array.ext'
   simp [ByteArray.data_extract]
theorem qc {ρ:Operand→Option AV} (hρ:tQ cx S w ρ σ) {x:Option Operand} {y:Option D} (h:wO ρ x=some y):jS cx w y (x.map σ):=by
 unfold wO at h
 split at h
 ·
  simp only [Option.some.injEq] at h; subst h; trivial
 ·
  rename_i o'
  split at h
  ·
   rename_i z hz
   simp only [Option.some.injEq] at h; subst h
   exact (hρ _ _ hz).dd
  ·
   cases h
theorem wL (hR:ObjOk R) (hS:aS R cx S w) {b:Builtin} {A:Array Nat} {args:List AV} {us:List Value} {ty:Nat} {cs:Array Bool} {nx:DD} (h:lq C b A S args=some nx)
  (hl:us.length=args.length) (hr:∀ (i:Nat) (x:AV) (v:Value),args[i]? = some x→us[i]? = some v→aF cx S w x v) :
  ∃ v S' cx' w' u,nx=.val v S'∧(Go.builtin b A ty cs us.toArray).run C.P w=.ok (.value u) w'∧aS R cx' S' w'∧Ext cx S w cx' S' w'∧aF cx' S' w' v u:=by
 have hrefl:=Ext.refl (cx:=cx) w hS.wf
 unfold lq at h
 split at h
 ·
  rename_i x
  split at h
  ·
   rename_i t ht
   split at h
   ·
    rename_i hlt
    simp only [Option.map_eq_some_iff] at h
    obtain ⟨n,hn,rfl⟩:=h
    match us,hl with
    | [u],_ =>
     have:=Cg hS (ty:=ty) hlt hn (hr 0 x u rfl rfl)
     refine ⟨_,_,cx,w,.int .i64 n,rfl,?_,hS,hrefl,.of_int _ _⟩
     simp only [Go.builtin]
     rw [Du (v:=u) ht rfl]
     exact oM this
   ·
    cases h
  ·
   cases h
 ·
  rename_i x y
  split at h
  ·
   rename_i t ht
   cases ht2:A[1]? with
   | none=>simp [ht2] at h
   | some t2 =>
    simp only [ht2] at h
    by_cases hsrc:iU C t2=true
    ·
     rw [if_pos hsrc] at h
     match us,hl with
     | [u1,u2],_ =>
      have key:∀ {e:Nat} {ys:List D} {r:AV × St},cu C.P t=some e→iF C e S x ys=some r→(mJ y=some ys∨∃ s,y=.d (.str s)∧ys=s.map fun c=>.int .u8 c.toNat)→nx=.val r.1 r.2 →
        ∃ v S' cx' w' u,nx=.val v S'∧(Go.builtin .append A ty cs [u1,u2].toArray).run C.P w=.ok (.value u) w'∧aS R cx' S' w'∧Ext cx S w cx' S' w'∧aF cx' S' w' v u:=by
       intro e ys r he hop hk hnx
       by_cases hei:(C.P.info? e).isSome=true
       ·
        obtain ⟨cx',w',z,k1,k2,k3,k4⟩:=oq (ty:=ty) (A:=A) (V:=[u1,u2].toArray) hR hS (r:=r.1) (S':=r.2) hop he hei hsrc (hr 0 x u1 rfl rfl) (hr 1 y u2 rfl rfl) hk ht ht2 rfl rfl
        exact ⟨r.1,r.2,cx',w',z,hnx,oM k1,k2,k3,k4⟩
       ·
        exfalso
        exact hei (zH hop)
      have e1:Builtin.append_ A ty [u1,u2].toArray=Builtin.append_ #[t,t2] ty #[u1,u2]:=tH ht ht2 rfl rfl
      have fin:∀ {r:AV × St},nx=.val r.1 r.2→(∃ cx' w' z,(Builtin.append_ #[t,t2] ty #[u1,u2]).run C.P w=.ok z w'∧aS R cx' r.2 w'∧Ext cx S w cx' r.2 w'∧aF cx' r.2 w' r.1 z) →
        ∃ v S' cx' w' u,nx=.val v S'∧(Go.builtin .append A ty cs [u1,u2].toArray).run C.P w=.ok (.value u) w'∧aS R cx' S' w'∧Ext cx S w cx' S' w'∧aF cx' S' w' v u:=by
       intro r hnx ⟨cx',w',z,k1,k2,k3,k4⟩
       rw [← e1] at k1
       exact ⟨r.1,r.2,cx',w',z,hnx,oM k1,k2,k3,k4⟩
      split at h
      ·
       rename_i e he
       split at h
       ·
        rename_i id g off len lim sz
        simp only [Option.map_eq_some_iff] at h
        obtain ⟨r,hop,rfl⟩:=h
        exact fin rfl (ug hR hS hop he hsrc (hr 0 _ u1 rfl rfl) (hr 1 y u2 rfl rfl))
       ·
        cases hrow:C.rowT t with
        | true =>
         simp only [hrow,cond_true] at h
         split at h
         ·
          simp only [Option.map_eq_some_iff] at h
          obtain ⟨r,hop,rfl⟩:=h
          have hn:=zR (hr 0 _ u1 rfl rfl).dd
          subst hn
          exact fin rfl (l9 hR hS (xs:=[]) (cap:=0) hop he hsrc (fun sz _=>⟨[],fun w' _=>by simp [Builtin.firstCells],⟨by simp,by simp,by simp,by simp⟩⟩) rfl (hr 0 _ _ rfl rfl) (hr 1 y u2 rfl rfl))
         ·
          rename_i xs
          simp only [Option.map_eq_some_iff] at h
          obtain ⟨r,hop,rfl⟩:=h
          have hd:=(hr 0 _ u1 rfl rfl).dd
          obtain ⟨a,cap,rfl,_,hcap,_⟩:=x8 hd
          exact fin rfl (l9 hR hS hop he hsrc (fun sz hs=>vX hd hs) (hcap rfl) (hr 0 _ _ rfl rfl) (hr 1 y u2 rfl rfl))
         ·
          cases h
        | false =>
         simp only [hrow,cond_false] at h
         split at h
         ·
          rename_i ys hd
          simp only [Option.map_eq_some_iff] at h
          obtain ⟨r,hop,rfl⟩:=h
          exact key he hop (.inl hd) rfl
         ·
          rename_i hd
          split at h
          ·
           simp only [Option.map_eq_some_iff] at h
           obtain ⟨r,hop,rfl⟩:=h
           exact key he hop (.inr ⟨_,rfl,rfl⟩) rfl
          ·
           cases h
      ·
       cases h
    ·
     rw [if_neg hsrc] at h; cases h
  ·
   cases h
 ·
  rename_i x y
  split at h
  ·
   rename_i t ht
   split at h
   ·
    rename_i e he
    match us,hl with
    | [u1,u2],_ =>
     obtain ⟨n,S',cx',w',rfl,k1,k2,k3⟩:=AA (t2:=0) (ty:=ty) hR hS h he (hr 0 x u1 rfl rfl) (hr 1 y u2 rfl rfl)
     refine ⟨_,S',cx',w',.int .i64 n,rfl,?_,k2,k3,.of_int _ _⟩
     simp only [Go.builtin]
     rw [Cf (t2:=0) (v:=u1) (u:=u2) ht rfl rfl]
     exact oM k1
   ·
    cases h
  ·
   cases h
 ·
  rename_i x
  split at h
  ·
   rename_i t ht
   split at h
   ·
    rename_i e he
    match us,hl with
    | [u],_ =>
     obtain ⟨S',cx',w',rfl,k1,k2,k3⟩:=zC (ty:=ty) hR hS h he (hr 0 x u rfl rfl)
     refine ⟨_,S',cx',w',.tuple #[],rfl,?_,k2,k3,.tup [] [] rfl (by simp)⟩
     simp only [Go.builtin]
     rw [Av (v:=u) ht rfl]
     exact oM k1
   ·
    cases h
  ·
   cases h
 ·
  rename_i m k
  split at h
  ·
   rename_i t ht
   simp only [Option.map_eq_some_iff] at h
   obtain ⟨S',hd,rfl⟩:=h
   match us,hl with
   | [u1,u2],_ =>
    obtain ⟨w',k1,k2,k3⟩:=xR (ty:=ty) hR hS hd (hr 0 m u1 rfl rfl) (hr 1 _ u2 rfl rfl).dd
    refine ⟨_,S',cx,w',.tuple #[],rfl,?_,k2,k3,.tup [] [] rfl (by simp)⟩
    simp only [Go.builtin]
    rw [zt (v:=u1) (u:=u2) ht rfl rfl]
    exact oM k1
  ·
   cases h
 ·
  simp only [Option.map_eq_some_iff] at h
  obtain ⟨r,hm,rfl⟩:=h
  obtain ⟨v,rest,k,z,e1,e2,e3⟩:=qY (P:=C.P) (cx:=cx) (S:=S) (w:=w) (g:=Builtin.min2) (fun k a b=>by simp [Builtin.min2]) _ args r us rfl hm hl hr
  subst e1; subst e2
  refine ⟨_,_,cx,w,.int k z,rfl,?_,hS,hrefl,.of_int _ _⟩
  exact oM (by simpa [Builtin.min_] using e3)
 ·
  simp only [Option.map_eq_some_iff] at h
  obtain ⟨r,hm,rfl⟩:=h
  obtain ⟨v,rest,k,z,e1,e2,e3⟩:=qY (P:=C.P) (cx:=cx) (S:=S) (w:=w) (g:=Builtin.max2) (fun k a b=>by simp [Builtin.max2]) _ args r us rfl hm hl hr
  subst e1; subst e2
  refine ⟨_,_,cx,w,.int k z,rfl,?_,hS,hrefl,.of_int _ _⟩
  exact oM (by simpa [Builtin.max_] using e3)
 ·
  cases h
end
end
end Go.Ev

namespace Go.Ev
noncomputable section
set_option linter.unusedVariables false
set_option linter.unusedSimpArgs false
section
variable {R:bL} {C:gK} {cx:Cx} {S:St} {w:World} {σ:Operand→Value}
theorem gI (hRC:lZ R C) (hS:aS R cx S w) {ρ:Operand→Option AV} (hρ:tQ cx S w ρ σ) (o:Oper) {nx:DD} (h:oper C ρ S o.op=some nx):kF R C cx S w σ o nx:=by
 have hR:=hRC.toObjOk
 obtain ⟨dst,op,type,pos,after,guard⟩:=o
 simp only at h
 cases op <;> simp only [oper] at h <;> try (cases h; done)
 case move x =>
  simp only [Option.map_eq_some_iff] at h
  obtain ⟨v,hv,rfl⟩:=h
  exact kF.pure hS rfl (hρ _ _ hv)
 case assign x =>
  simp only [Option.map_eq_some_iff] at h
  obtain ⟨v,hv,rfl⟩:=h
  exact kF.pure hS rfl (hρ _ _ hv)
 case pick c a b =>
  split at h
  ·
   rename_i t hc
   simp only [Option.map_eq_some_iff] at h
   obtain ⟨v,hv,rfl⟩:=h
   have hb:=(hρ _ _ hc).bool
   refine kF.pure (u:=σ (if t then a else b)) hS ?_ (hρ _ _ hv)
   simp only [execOp,hb,asBool,Sem.run_bind,Sem.run_pure,Result.andThen_ok]
   cases t <;> rfl
  ·
   cases h
 case alloc t =>
  cases hhas:S.H.has S.nx with
  | true=>simp [hhas] at h
  | false =>
  simp only [hhas,cond_false] at h
  split at h
  ·
   rename_i kk xx hobj
   simp only [Option.some.injEq] at h
   subst h
   obtain ⟨zv,r1,r2,r3⟩:=hRC.new t kk xx hobj
   obtain ⟨cx',k1,k2,k3⟩:=qI hR hS kk xx (.cells zv.cells t) r3 (r2 w)
   refine ⟨cx',_,_,?_,k1,k2,k3⟩
   refine oM ?_
   simp only [Instr.alloc,Sem.run_bind,r1,Result.andThen_ok,newVar,newRow,run_newObj,Sem.run_pure]
   rfl
  simp only [Option.map_eq_some_iff] at h
  obtain ⟨z,hz,rfl⟩:=h
  obtain ⟨zv,r1,r2⟩:=jC hz w cx.fr
  have hp:=jq (cx:=cx) (S:=S) (.d z zv r2) rfl
  obtain ⟨cx',k1,k2,k3⟩:=wZ hR hS (AV.d z).cells zv.cells.toList t hp.1 (fun i x v hx hv=>⟨hp.2.2 i x v hx hv,hp.2.1 v (List.mem_of_getElem? hv)⟩)
  refine ⟨cx',_,_,?_,k1,k2,k3⟩
  refine oM ?_
  simp only [Instr.alloc,Sem.run_bind,r1,Result.andThen_ok,newVar,newRow,run_newObj,Sem.run_pure]
  rfl
 case box t x =>
  split at h
  ·
   rename_i v hv
   split at h
   ·
    rename_i hpl
    cases hhas:S.H.has S.nx with
    | true=>simp [hhas] at h
    | false =>
    simp only [hhas,cond_false,Option.some.injEq] at h
    subst h
    have hp:=jq (hρ _ _ hv) hpl
    obtain ⟨cx',k1,k2,k3⟩:=wZ hR hS v.cells (σ x).cells.toList t hp.1 (fun i x v hx hv=>⟨hp.2.2 i x v hx hv,hp.2.1 v (List.mem_of_getElem? hv)⟩)
    refine ⟨cx',_,_,?_,k1,k2,k3⟩
    refine oM ?_
    simp only [Instr.box,Sem.run_bind,Result.andThen_ok,newVar,newRow,run_newObj,Sem.run_pure]
    rfl
   ·
    cases h
  ·
   cases h
 case build t parts =>
  split at h
  ·
   rename_i z ps hz hps
   split at h
   ·
    rename_i pl hpl
    simp only [Option.map_eq_some_iff] at h
    obtain ⟨cs,hcs,rfl⟩:=h
    obtain ⟨u,b1,b2⟩:=zS hρ hz hps hpl hcs
    exact kF.pure hS (oM b1) b2
   ·
    cases h
  ·
   cases h
 case buildSlice t len parts =>
  cases hrw:Ea C t len with
  | true =>
  rw [hrw] at h
  simp only [cond_true] at h
  split at h
  ·
   rename_i ps hps
   obtain ⟨v,S',rfl,cx',u,w',b1,b2,b3,b4⟩:=uX hR hS hρ hps h
   exact ⟨cx',w',u,oM b1,b2,b3,b4⟩
  ·
   cases h
  | false =>
  rw [hrw] at h
  simp only [cond_false] at h
  split at h
  ·
   rename_i e ps he hps
   split at h
   ·
    rename_i hsm
    split at h
    ·
     rename_i z hz
     split at h
     ·
      rename_i cs hcs
      split at h
      ·
       rename_i ag hag
       simp only [Option.map_eq_some_iff] at h
       obtain ⟨xs,hxs,rfl⟩:=h
       obtain ⟨u,w',b1,b2,b3,b4⟩:=rV hR hS hρ he hps hsm hz hcs hag hxs
       exact ⟨cx,w',u,oM b1,b2,b3,b4⟩
      ·
       cases h
     ·
      cases h
    ·
     cases h
   ·
    cases h
  ·
   cases h
 case load t a =>
  split at h
  ·
   rename_i v hv
   simp only [Option.map_eq_some_iff] at h
   obtain ⟨r,hr,rfl⟩:=h
   obtain ⟨u,b1,b2⟩:=uI (C:=C) hS hr (hρ _ _ hv)
   exact kF.pure hS (oM b1) b2
  ·
   cases h
 case store t a x =>
  split at h
  ·
   rename_i p v hp hv
   simp only [Option.map_eq_some_iff] at h
   obtain ⟨S',hst,rfl⟩:=h
   obtain ⟨w',b1,b2,b3⟩:=y9 hR hS hst (hρ _ _ hp) (hρ _ _ hv)
   exact ⟨cx,w',F8 b1,b2,b3⟩
  ·
   cases h
 case nilCheck x =>
  split at h
  ·
   rename_i i g o' hx
   simp only [Option.some.injEq] at h; subst h
   have:=hρ _ _ hx
   refine kF.pure (u:=σ x) hS ?_ this
   generalize hq:σ x=v at this
   cases this
   simp [execOp,hq]
  ·
   rename_i y o' hx
   simp only [Option.some.injEq] at h; subst h
   have:=hρ _ _ hx
   refine kF.pure (u:=σ x) hS ?_ this
   generalize hq:σ x=v at this
   cases this
   simp [execOp,hq]
  ·
   rename_i g cs hx
   simp only [Option.some.injEq] at h; subst h
   have:=hρ _ _ hx
   refine kF.pure (u:=σ x) hS ?_ this
   generalize hq:σ x=v at this
   cases this
   simp [execOp,hq]
  ·
   cases h
 case binOp op t x y yt =>
  split at h
  ·
   rename_i a b ha hb
   simp only [Option.map_eq_some_iff] at h
   obtain ⟨r,hr,rfl⟩:=h
   obtain ⟨u,b1,b2⟩:=Bj hr (hρ _ _ ha) (hρ _ _ hb) x y
   exact kF.pure hS (oM b1) b2
  ·
   cases h
 case unOp op t x =>
  split at h
  ·
   rename_i b hx
   simp only [Option.some.injEq] at h; subst h
   have:=(hρ _ _ hx).bool
   refine kF.pure (u:=.bool (!b)) hS ?_ (.of_bool _)
   simp [execOp,this,Op.unary]
  ·
   rename_i k n hx
   simp only [Option.some.injEq] at h; subst h
   have:=(hρ _ _ hx).int
   refine kF.pure (u:=.int k (k.wrap (0 - n))) hS ?_ (.of_int _ _)
   simp [execOp,this,Op.unary,Op.intArith]
  ·
   cases h
 case convert src dst' x =>
  split at h
  ·
   rename_i v hv
   simp only [Option.map_eq_some_iff] at h
   obtain ⟨r,hr,rfl⟩:=h
   obtain ⟨u,b1,b2⟩:=Az hr (hρ _ _ hv)
   exact kF.pure hS (oM b1) b2
  ·
   cases h
 case makeFunc fn first caps =>
  split at h
  ·
   rename_i g hf
   simp only [Option.map_eq_some_iff] at h
   obtain ⟨cs,hcs,rfl⟩:=h
   obtain ⟨h1,h2⟩:=qh hρ hcs
   have hf0:first = #[]:=Array.toList_eq_nil_iff.1 hf
   subst hf0
   refine kF.pure (u:=.func (.func g) #[] (caps.map σ)) hS (by simp [execOp,Instr.makeFunc]) ?_
   exact aF.fn (cx:=cx) (S:=S) (w:=w) g cs (caps.map σ).toList h1 h2
  ·
   cases h
 case slice t x lo hi mx =>
  split at h
  ·
   rename_i v hv
   split at h
   ·
    rename_i l hh m hl hhi hm
    simp only [Option.map_eq_some_iff] at h
    obtain ⟨r,hr,rfl⟩:=h
    obtain ⟨u,b1,b2⟩:=zW hr (hρ _ _ hv) (qc hρ hl) (qc hρ hhi) (qc hρ hm)
    exact kF.pure hS (oM b1) b2
   ·
    cases h
  ·
   cases h
 case fieldAddr s x fld =>
  split at h
  ·
   rename_i id g off fo ft hx hf
   split at h
   ·
    cases h
   ·
    rename_i hz
    simp only [Option.some.injEq] at h; subst h
    obtain ⟨u,b1,b2⟩:=(nY (C:=C) hf hz (hρ _ _ hx)).1 _ _ _ rfl
    exact kF.pure hS (oM b1) b2
  ·
   rename_i y off fo ft hx hf
   split at h
   ·
    cases h
   ·
    rename_i hz
    simp only [Option.some.injEq] at h; subst h
    obtain ⟨u,b1,b2⟩:=(nY (C:=C) hf hz (hρ _ _ hx)).2 _ _ rfl
    exact kF.pure hS (oM b1) b2
  ·
   cases h
 case field t x fld =>
  split at h
  ·
   rename_i cs fo ft hx hf
   simp only [Option.map_eq_some_iff] at h
   obtain ⟨r,hr,rfl⟩:=h
   obtain ⟨u,b1,b2⟩:=(sN (C:=C) (r:=.d r) hf).2 cs r (hρ _ _ hx) hr
   exact kF.pure hS (oM b1) b2
  ·
   rename_i cs fo ft hx hf
   simp only [Option.map_eq_some_iff] at h
   obtain ⟨r,hr,rfl⟩:=h
   obtain ⟨u,b1,b2⟩:=(sN (C:=C) (r:=r) hf).1 cs (hρ _ _ hx) hr
   exact kF.pure hS (oM b1) b2
  ·
   cases h
 case indexAddr t x i =>
  split at h
  ·
   rename_i v n hv hn
   simp only [Option.map_eq_some_iff] at h
   obtain ⟨r,hr,rfl⟩:=h
   obtain ⟨u,b1,b2⟩:=uo hr (hρ _ _ hv) (hρ _ _ hn)
   exact kF.pure hS (oM b1) b2
  ·
   cases h
 case index t x i =>
  split at h
  ·
   rename_i s k n hx hi
   split at h
   ·
    rename_i hc
    simp only [Bool.and_eq_true,decide_eq_true_eq] at hc
    simp only [Option.map_eq_some_iff] at h
    obtain ⟨c,hcc,rfl⟩:=h
    have hi':=(hρ _ _ hi).int
    have:=zm (P:=C.P) (k:=k) (hρ _ _ hx) hc.1 hc.2 hcc
    refine kF.pure hS (oM ?_) (.of_int _ _)
    rw [hi']; exact this
   ·
    cases h
  ·
   cases h
 case makeMap t r =>
  split at h
  ·
   rename_i kt hkt hr
   cases hhas:S.H.has S.nx with
   | true=>simp [hhas] at h
   | false =>
   simp only [hhas,cond_false,Option.some.injEq] at h; subst h
   obtain ⟨cx',k1,k2,k3⟩:=yC hR hS
   refine ⟨cx',_,_,oM (u:=.map (some w.heap.size)) (w':=w.alloc (.map #[] 0)) ?_,k1,k2,k3⟩
   have hu:=ky hkt
   cases r with
   | none=>rfl
   | some o' =>
    simp only at hr
    split at hr
    ·
     rename_i k n hq
     have hi:=(hρ _ _ hq).int
     simp only [Option.map_some,Instr.makeMap,Sem.run_bind,aL w hu,Result.andThen_ok,hi,asInt,asIntOf,Sem.run_pure]
     rfl
    ·
     cases hr
  ·
   cases h
 case makeSlice t l c =>
  split at h
  ·
   rename_i lv cv hl hc
   simp only [Option.map_eq_some_iff] at h
   obtain ⟨r,hr,rfl⟩:=h
   obtain ⟨cx',w',u,b1,b2,b3,b4⟩:=Aq hR hS hr (hρ _ _ hl).dd (hρ _ _ hc).dd
   exact ⟨cx',w',u,oM b1,b2,b3,b4⟩
  ·
   cases h
 case range t x =>
  split at h
  ·
   rename_i kt id ht hx
   split at h
   ·
    rename_i M hg
    cases hhas:S.H.has S.nx with
    | true=>simp [hhas] at h
    | false =>
    simp only [hhas,cond_false,Option.some.injEq] at h; subst h
    obtain ⟨cx',w',u,b1,b2,b3,b4⟩:=zq hR hS ht hg (hρ _ _ hx)
    exact ⟨cx',w',u,oM b1,b2,b3,b4⟩
   ·
    cases h
  ·
   rename_i kt ht hx
   cases hhas:S.H.has S.nx with
   | true=>simp [hhas] at h
   | false =>
   simp only [hhas,cond_false,Option.some.injEq] at h; subst h
   obtain ⟨cx',w',u,b1,b2,b3,b4⟩:=tY hR hS ht (hρ _ _ hx)
   exact ⟨cx',w',u,oM b1,b2,b3,b4⟩
  ·
   cases h
 case entry t =>
  split at h
  ·
   rename_i k g id since seen st hx
   split at h
   ·
    rename_i M n c hg hl hk
    split at h
    ·
     rename_i hc
     split at h
     ·
      rename_i i hf
      simp only [Option.map_eq_some_iff] at h
      obtain ⟨p,hp,rfl⟩:=h
      obtain ⟨hc1,hc2⟩:=hc
      subst hc2
      obtain ⟨u,b1,b2⟩:=xQ (C:=C) hS (hρ _ _ hx) hg hl hk hc1 hf hp
      exact kF.pure hS (oM b1) b2
     ·
      cases h
    ·
     cases h
   ·
    cases h
  ·
   cases h
 case lookup t m k ok =>
  split at h
  ·
   rename_i mv kd hm hk
   simp only [Option.map_eq_some_iff] at h
   obtain ⟨v,hv,rfl⟩:=h
   obtain ⟨u,b1,b2⟩:=xU hS hv (hρ _ _ hm) (hρ _ _ hk).dd
   exact kF.pure hS (oM b1) b2
  ·
   cases h
 case mapUpdate t m k x =>
  split at h
  ·
   rename_i mv kd v hm hk hx
   simp only [Option.map_eq_some_iff] at h
   obtain ⟨S',hv,rfl⟩:=h
   obtain ⟨w',b1,b2,b3⟩:=rA hR hS hv (hρ _ _ hm) (hρ _ _ hk).dd (hρ _ _ hx)
   exact ⟨cx,w',F8 b1,b2,b3⟩
  ·
   cases h
 case insert t m k x =>
  split at h
  ·
   rename_i mv kd v hm hk hx
   simp only [Option.map_eq_some_iff] at h
   obtain ⟨S',hv,rfl⟩:=h
   obtain ⟨w',b1,b2,b3⟩:=rA hR hS hv (hρ _ _ hm) (hρ _ _ hk).dd (hρ _ _ hx)
   exact ⟨cx,w',F8 b1,b2,b3⟩
  ·
   cases h
 case mapEntry t m k =>
  split at h
  ·
   rename_i mv kd hm hk
   simp only [Option.map_eq_some_iff] at h
   obtain ⟨r,hv,rfl⟩:=h
   obtain ⟨w',u,b1,b2,b3,b4⟩:=zY hR hS hv (hρ _ _ hm) (hρ _ _ hk).dd
   exact ⟨cx,w',u,oM b1,b2,b3,b4⟩
  ·
   cases h
 case entryStore t m st x =>
  split at h
  ·
   rename_i mv sd v hm hk hx
   simp only [Option.map_eq_some_iff] at h
   obtain ⟨S',hv,rfl⟩:=h
   obtain ⟨w',b1,b2,b3⟩:=sF hR (C:=C) (t:=t) hS hv (hρ _ _ hm) (hρ _ _ hk).dd (hρ _ _ hx)
   exact ⟨cx,w',F8 b1,b2,b3⟩
  ·
   cases h
 case extract t i =>
  split at h
  ·
   rename_i vs ht
   simp only [Option.map_eq_some_iff] at h
   obtain ⟨v,hv,rfl⟩:=h
   have hr:=hρ _ _ ht
   generalize hq:σ t=u at hr
   cases hr with
   | tup _ us hl hr =>
    have hlt:i < us.length:=by rw [hl]; exact (List.getElem?_eq_some_iff.1 hv).1
    have hu:=List.getElem?_eq_getElem hlt
    refine kF.pure hS (oM (u:=us[i]) ?_) (hr i v _ hv hu)
    simp [Instr.extract,hq,hlt]
  ·
   cases h
 case call c =>
  obtain ⟨callee,cargs,argTypes⟩:=c
  simp only at h
  cases callee <;> simp only at h <;> try (cases h; done)
  case value g =>
   split at h
   ·
    rename_i k caps args hg ha
    simp only [Option.some.injEq] at h; subst h
    obtain ⟨h1,h2⟩:=qh hρ ha
    have hgr:=hρ _ _ hg
    generalize hq:σ g=gv at hgr
    cases hgr with
    | fn _ _ cv hl hr =>
     refine ⟨(cargs.map σ).toList ++ cv,by rw [List.length_append,List.length_append,h1,hl],fun i x v hx hv=>?_,fun fn hf hb hn=>?_⟩
     ·
      rw [List.getElem?_append] at hx hv
      by_cases hi:i < args.length
      ·
       rw [if_pos hi] at hx; rw [if_pos (by rw [h1]; exact hi)] at hv; exact h2 i x v hx hv
      ·
       rw [if_neg hi] at hx; rw [if_neg (by rw [h1]; exact hi),h1] at hv; exact hr _ x v hx hv
     ·
      have hb':fn.body.isNone=false:=by cases hq:fn.body <;> simp_all
      have hn':(fn.name == "runtime.NumGoroutine")=false:=by simpa using hn
      simp only [execOp,resolve,hq,Deferred.ofValue,Sem.run_bind,Sem.run_pure,Result.andThen_ok,invoke,callFunc,run_program,hf,hn',hb',Bool.false_eq_true,if_false]
      congr 2
      apply Array.ext'
      simp
   ·
    cases h
  case builtin b =>
   split at h
   ·
    rename_i args ha
    obtain ⟨h1,h2⟩:=qh hρ ha
    obtain ⟨v,S',cx',w',u,rfl,b1,b2,b3,b4⟩:=wL (R:=R) (C:=C) (ty:=type) (cs:=cargs.map fun | .const _=>true | _=>false) hR hS h h1 h2
    refine ⟨cx',w',u,?_,b2,b3,b4⟩
    simp only [execOp,resolve,Sem.run_bind,Sem.run_pure,Result.andThen_ok,invoke]
    have hq:(cargs.map σ).toList.toArray=cargs.map σ:=rfl
    rw [hq] at b1
    exact b1
   ·
    cases h
end
end
end Go.Ev

namespace Go.Ev
noncomputable section
set_option linter.unusedVariables false
set_option linter.unusedSimpArgs false
structure ig (cx:Cx) (S:St) (w:World) (nt:Nat) (e:Env) (a:Act):Prop where
 size:nt ≤ a.tmps.size
 rel:∀ t x,AL.get e t=some x→∃ v,a.tmps[t]? = some v∧aF cx S w x v
theorem ig.mono {cx cx':Cx} {S S':St} {w w':World} {nt:Nat} {e:Env} {a:Act} (h:ig cx S w nt e a) (x:Ext cx S w cx' S' w'):ig cx' S' w' nt e a :=
 ⟨h.size,fun t y hy=>let ⟨v,h1,h2⟩:=h.rel t y hy; ⟨v,h1,h2.mono x⟩⟩
theorem ig.put {cx:Cx} {S:St} {w:World} {nt:Nat} {e e':Env} {a:Act} {dst:Option Nat} {x:AV} {v:Value} (h:ig cx S w nt e a) (hp:Env.put nt e dst x=some e') (hx:aF cx S w x v):ig cx S w nt e' (a.put dst v):=by
 unfold Env.put at hp
 split at hp
 ·
  rename_i t
  cases hb:Nat.blt t nt with
  | false=>rw [hb] at hp; cases hp
  | true =>
   rw [hb] at hp
   simp at hp; subst hp
   have hlt:t < nt:=Nat.le_of_ble_eq_true hb
   refine ⟨by simp [Act.put,h.size],fun u y hy=>?_⟩
   rw [AL.gG] at hy
   by_cases hu:t=u
   ·
    subst hu
    rw [if_pos rfl] at hy
    cases hy
    refine ⟨v,?_,hx⟩
    have:=h.size
    simp [Act.put,show t < a.tmps.size by omega]
   ·
    rw [if_neg hu] at hy
    obtain ⟨z,h1,h2⟩:=h.rel u y hy
    exact ⟨z,by simpa [Act.put,Array.getElem?_setIfInBounds_ne hu] using h1,h2⟩
 ·
  simp at hp; subst hp; exact h
theorem ig.eval {cx:Cx} {S:St} {w:World} {nt:Nat} {e:Env} {a:Act} (h:ig cx S w nt e a):tQ cx S w (ic e) a.eval:=by
 intro x y hy
 cases x <;> simp only [ic] at hy
 case tmp t =>
  obtain ⟨v,h1,h2⟩:=h.rel t y hy
  simpa [Act.eval,h1] using h2
 case const v =>
  simp only [Option.map_eq_some_iff] at hy
  obtain ⟨z,hz,rfl⟩:=hy
  exact .d _ _ (mH hz w cx.fr)
 case global g=>cases hy
 case func f =>
  simp at hy; subst hy
  exact aF.fn (cx:=cx) (S:=S) (w:=w) f [] [] rfl (by simp)
theorem dY {cx:Cx} {S:St} {w:World} {nt:Nat} {e:Env} {a:Act} {ops:Array Oper} {o:Oper} {b:Bool} (h:ig cx S w nt e a) (hw:dZ ops e o=some b):Region.wanted o (yielded ops a.tmps)=b:=by
 unfold dZ at hw
 unfold Region.wanted
 split at hw
 ·
  rename_i hg; simp at hw; subst hw; simp [hg]
 ·
  rename_i j want hg
  split at hw
  ·
   rename_i oj hj
   split at hw
   ·
    rename_i t ht
    split at hw
    ·
     rename_i c hc
     simp at hw; subst hw
     obtain ⟨v,h1,h2⟩:=h.rel t _ hc
     have:=h2.bool; subst this
     simp only [hg,yielded,hj,Option.bind_some,ht,h1]
     cases c <;> cases want <;> rfl
    ·
     rename_i hc
     simp at hw; subst hw
     obtain ⟨v,h1,h2⟩:=h.rel t _ hc
     cases h2 with
     | tup _ vs hl _ =>
      have:vs=[]:=List.eq_nil_of_length_eq_zero hl
      subst this
      simp only [hg,yielded,hj,Option.bind_some,ht,h1]
      cases want <;> rfl
    ·
     cases hw
   ·
    cases hw
  ·
   cases hw
def F6 (cx:Cx) (S:St) (w:World) (p:Option AV) (v:AV) (e:Ending):Prop :=
 match p with
 | none=>∃ u,e=.returned u∧aF cx S w v u
 | some pv=>∃ u,e=.panicked [{ v:=u,recovered:=false }]∧aF cx S w pv u
def After (R:bL) (cx:Cx) (S:St) (w:World) (nt:Nat) (a:Act) (K:Act→World→Prop) (Q:Exit→Act→World→Prop):Stp→Prop
 | .go e' S'=>∀ cx' a' w',aS R cx' S' w'→Ext cx S w cx' S' w'→ig cx' S' w' nt e' a'→a'.defers=a.defers→K a' w'
 | .stop v S'=>∀ cx' w' u,aS R cx' S' w'→Ext cx S w cx' S' w'→aF cx' S' w' v u→Q (.panic [{ v:=u,recovered:=false }]) a w'
theorem put_defers (a:Act) (d:Option Nat) (v:Value):(a.put d v).defers=a.defers:=by cases d <;> rfl
end
end Go.Ev

namespace Go.Ev
noncomputable section
set_option linter.unusedVariables false
set_option linter.unusedSimpArgs false
end
end Go.Ev

namespace Go.Ev
noncomputable section
set_option linter.unusedVariables false
set_option linter.unusedSimpArgs false
section
variable {C:gK} {h:Hand} {nt:Nat} {ops:Array Oper} {I:List Nat} {K:Nat→Nat}
end
def qb (ops:Array Oper):Bool :=
 let B:=Region.before ops
 (List.range ops.size).all fun i=>match ops[i]? with
  | none=>false
  | some o=>Nat.blt (B.getD i 0) (2 ^ i) && (o.after.all fun e=>!Region.binds .any e || Nat.blt e.on i) &&
   (List.range i).all fun k=>match ops[k]? with
    | none=>false
    | some x=>if (B.getD i 0).testBit k then (o.after.any fun e=>Region.binds .any e && (Nat.beq e.on k || (B.getD e.on 0).testBit k)) else x.apart ops o
theorem lU {ops:Array Oper} (hr:qb ops=true) {i:Nat} {o:Oper} (hi:ops[i]? = some o) :
  (∀ e ∈ o.after,Region.binds .any e=true→e.on < i) ∧
  (∀ k x,k < i→ops[k]? = some x→if ((Region.before ops).getD i 0).testBit k=true then ∃ e ∈ o.after,Region.binds .any e=true∧(e.on=k∨((Region.before ops).getD e.on 0).testBit k=true) else x.apart ops o=true)∧∀ k,i ≤ k→((Region.before ops).getD i 0).testBit k=false:=by
 have hlt:i < ops.size:=(Array.getElem?_eq_some_iff.1 hi).1
 simp only [qb,List.all_eq_true,List.mem_range] at hr
 have h1:=hr i hlt
 rw [hi] at h1
 simp only [Bool.and_eq_true] at h1
 obtain ⟨⟨h0,h1⟩,h2⟩:=h1
 refine ⟨fun e he hb=>?_,fun k x hk hx=>?_,fun k hk=>Nat.testBit_lt_two_pow (Nat.lt_of_lt_of_le (Nat.le_of_ble_eq_true h0) (Nat.pow_le_pow_right (by omega) hk))⟩
 ·
  have:=Array.all_eq_true_iff_forall_mem.1 h1 e he
  simp only [hb,Bool.not_true,Bool.false_or] at this
  exact Nat.le_of_ble_eq_true this
 ·
  rw [List.all_eq_true] at h2
  have:=h2 k (List.mem_range.2 hk)
  rw [hx] at this
  simp only at this
  split at this
  ·
   rename_i hb
   rw [if_pos hb]
   obtain ⟨e,he,hq⟩:=Array.any_eq_true'.1 this
   simp only [Bool.and_eq_true,Bool.or_eq_true] at hq
   exact ⟨e,he,hq.1,hq.2.imp (fun q=>Nat.eq_of_beq_eq_true q) id⟩
  ·
   rename_i hb
   rw [if_neg hb]; exact this
def Closed (ops:Array Oper) (listed:Array Bool):Prop:=∀ j,listed.getD j false=true→∀ k,k < j→((Region.before ops).getD j 0).testBit k=true→listed.getD k false=true
end
end Go.Ev

namespace Go.Ev
noncomputable section
set_option linter.unusedVariables false
set_option linter.unusedSimpArgs false
theorem run_next_at {P:Program} {w:World} (ty b bm since c0:Nat) (seen:Array Nat) (es:Array MapEntry) (clock:Nat) (hb:w.heap[b]? = some (.mapIter (some bm) since seen c0)) (hm:w.heap[bm]? = some (.map es clock))
  (hold:∀ x ∈ es.toList,x.born < since) (hsc:since ≤ c0) :
  ((∀ e ∈ es.toList,seen.contains e.born=true)∧(Instr.next (.pointer (some ⟨b,0,none⟩)) false ty).run P w=.ok (.tuple #[.bool false]) w) ∨
  ∃ e ∈ es.toList,seen.contains e.born=false∧∃ w1:World,w1.heap=w.heap∧w1.os=w.os∧w1.output=w.output∧w1.tape=w.tape ∧
   (Instr.next (.pointer (some ⟨b,0,none⟩)) false ty).run P w=.ok (.tuple #[.bool true,e.key,e.val]) { w1 with heap:=w1.heap.setIfInBounds b (.mapIter (some bm) since (seen.push e.born) clock) }:=by
 simp only [Instr.next,getObj,Sem.run_bind,Sem.run,hb,hm,Result.andThen,next_test_false seen es since c0 hold hsc,Bool.false_eq_true,if_false]
 have hmem:∀ x ∈ (Array.filter (fun e=>!seen.contains e.born) es).toList,x ∈ es.toList∧seen.contains x.born=false:=fun x hx=>by
  simp at hx ⊢
  exact hx
 have hemp:Array.filter (fun e=>!seen.contains e.born) es = #[]→∀ e ∈ es.toList,seen.contains e.born=true:=fun h e he=>by
  rw [Array.filter_eq_empty_iff] at h
  have:=h e (by simpa using he)
  simpa using this
 generalize Array.filter (fun e=>!seen.contains e.born) es=L at hmem hemp ⊢
 have e1:L.filter (fun x=>decide (x.born < since))=L:=Array.filter_eq_self.2 (fun x hx=>by simpa using hold x (hmem x (by simpa using hx)).1)
 have e2:L.filter (fun x=>decide (x.born ≥ since)) = #[]:=by
  rw [Array.filter_eq_empty_iff]
  intro x hx
  have:=hold x (hmem x (by simpa using hx)).1
  simp
  omega
 simp only [e1,e2,Array.append_empty]
 by_cases h0:L.size=0
 ·
  left
  have:L = #[]:=Array.eq_empty_of_size_eq_zero h0
  subst this
  refine ⟨hemp rfl,?_⟩
  simp [choose,Sem.run,Question.forced]
 ·
  right
  have hne:L.isEmpty=false:=by simp [Array.isEmpty,h0]
  simp only [hne,Bool.false_eq_true,if_false,Array.empty_append,Array.size_map]
  have hch:∃ (j:Nat) (w1:World),j < L.size∧(w1.heap=w.heap∧w1.os=w.os∧w1.output=w.output∧w1.tape=w.tape)∧(choose (Question.mapNext L.size)).run P w=.ok j w1:=by
   by_cases hf:L.size ≤ 1
   ·
    exact ⟨0,w,by omega,⟨rfl,rfl,rfl,rfl⟩,by simp [choose,Sem.run,Question.forced,hf]⟩
   ·
    exact ⟨_,w.drew,Nat.mod_lt _ (by omega),⟨rfl,rfl,rfl,rfl⟩,by
     simp only [choose,Sem.run,Question.forced,decide_eq_true_eq,hf,if_false,Question.cut]
     rfl⟩
  obtain ⟨j,w1,hj,hal,hrun⟩:=hch
  have hLj:L[j] ∈ L.toList:=by simp
  refine ⟨L[j],(hmem _ hLj).1,(hmem _ hLj).2,w1,hal.1,hal.2.1,hal.2.2.1,hal.2.2.2,?_⟩
  have hlt:b < w1.heap.size:=by rw [hal.1]; exact (Array.getElem?_eq_some_iff.1 hb).1
  have hb1:w1.heap[b]? = some (.mapIter (some bm) since seen c0):=by rw [hal.1]; exact hb
  have hset:∀ (o':Obj),(setObj b o').run P w1=.ok () { w1 with heap:=w1.heap.setIfInBounds b o' }:=fun o'=>by
   simp only [setObj,Sem.run,hb1]
   try rfl
  simp only [hrun,Array.getElem?_map,Array.getElem?_eq_getElem hj,Option.map_some,Sem.run_bind,hset,Result.andThen]
  rfl
theorem xX {P:Program} {w:World} (ty b:Nat) (hb:w.heap[b]? = some (.mapIter none 0 #[] 0)) :
  (Instr.next (.pointer (some ⟨b,0,none⟩)) false ty).run P w=.ok (.tuple #[.bool false]) w:=by
 simp only [Instr.next,getObj,Sem.run_bind,Sem.run,hb,Result.andThen]
 rfl
theorem zG {α β:Type} {f:α→Option β}:∀ {l:List α} {rs:List β},iW f l=some rs→∀ x ∈ l,∃ r,f x=some r∧r ∈ rs
 | [],_,_,x,hx=>by cases hx
 | y :: l,rs,h,x,hx=>by
  simp only [iW] at h
  split at h
  ·
   rename_i z hz
   simp only [Option.map_eq_some_iff] at h
   obtain ⟨zs,hzs,rfl⟩:=h
   rcases List.mem_cons.1 hx with rfl | hx
   ·
    exact ⟨z,hz,by simp⟩
   ·
    obtain ⟨r,h1,h2⟩:=zG hzs x hx
    exact ⟨r,h1,List.mem_cons_of_mem _ h2⟩
  ·
   cases h
theorem AU {R:bL} {C:gK} (hR:lZ R C) {cx:Cx} {S:St} {w:World} {nt:Nat} {e:Env} {a:Act} {ops:Array Oper} {o:Oper} {t:Nat} {rs:List Stp} (hop:o.op=.next (.tmp t) false)
  (hs:Dh nt o t e S=some rs) (hS:aS R cx S w) (he:ig cx S w nt e a) {K:Act→World→Prop} {Q:Exit→Act→World→Prop} (hk:∀ r ∈ rs,After R cx S w nt a K Q r) {i:Nat} (hi:ops[i]? = some o) :
  wpOp C.P ops Q i K a w:=by
 unfold Dh at hs
 have hrefl:=Ext.refl (cx:=cx) w hS.wf
 have enter:o.guard=none→(∃ v w',(Instr.next (a.eval (.tmp t)) false o.type).run C.P w=.ok v w'∧K (a.put o.dst v) w')→wpOp C.P ops Q i K a w:=by
  intro hg ⟨v,w',h1,h2⟩
  unfold wpOp
  rw [hi]
  simp only
  rw [if_pos (by unfold Region.wanted; rw [hg])]
  left
  unfold Oper.wp
  have hq:(execOp a.eval o).run C.P w=.ok (.value v) w':=by
   obtain ⟨dst,op,ty,pos,after,guard⟩:=o
   simp only at hop
   subst hop
   exact oM h1
  rw [hq]
  exact h2
 split at hs
 ·
  rename_i k g since seen st hg ht
  split at hs
  ·
   rename_i c hc
   split at hs
   ·
    rename_i hcg
    subst hcg
    simp only [Option.map_eq_some_iff] at hs
    obtain ⟨e',hp,rfl⟩:=hs
    obtain ⟨u,h1,h2⟩:=he.rel t _ ht
    have hev:a.eval (.tmp t)=u:=by simp [Act.eval,h1]
    cases h2 with
    | it0 _ _ _ _ b _ hn hpos =>
    obtain ⟨_,_,_,hb⟩:=hpos hc
    refine enter hg ⟨.tuple #[.bool false],w,?_,?_⟩
    ·
     rw [hev]; exact xX _ b hb
    ·
     refine hk (.go e' S) (by simp) cx _ w hS hrefl (he.put hp ?_) (put_defers _ _ _)
     refine .tup [.d (.bool false)] [.bool false] rfl (fun j x u hx hu=>?_)
     match j,hx,hu with
     | 0,hx,hu=>simp at hx hu; subst hx; subst hu; exact .of_bool _
   ·
    cases hs
  ·
   cases hs
 ·
  rename_i k g id since seen st hg ht
  split at hs
  ·
   rename_i M c hM hc
   split at hs
   ·
    rename_i hcond
    obtain ⟨hcg,hold,hsc,hnt⟩:=hcond
    subst hcg
    obtain ⟨u,h1,h2⟩:=he.rel t _ ht
    have hev:a.eval (.tmp t)=u:=by simp [Act.eval,h1]
    have hidk:id ≠ k:=fun q=>by subst q; rw [hM] at hc; cases hc
    cases h2 with
    | it _ _ _ _ _ b m _ hn hni hm hpos =>
    have hkg:isIt S k g:=hc
    obtain ⟨hbk,hfk,honly,hb⟩:=hpos hkg
    have hm:=hm (by simp [cur,hM])
    obtain ⟨c1,c2,ms,clk,c3,⟨c4,c4',c4''⟩,c5⟩:=hS.maps id M hM
    rw [← hm] at c3
    have hborn:∀ x ∈ ms.toList,∃ (j:Nat) (p:D × AV × Nat),M.es[j]? = some p∧ms[j]? = some x∧x.born=p.2.2:=fun x hx=>by
     obtain ⟨j,hj,rfl⟩:=List.getElem_of_mem hx
     have hj':j < ms.size:=by simpa using hj
     have hjm:j < M.es.length:=by rw [← c4]; exact hj'
     have hp:=List.getElem?_eq_getElem hjm
     refine ⟨j,M.es[j],hp,by simp [hj'],?_⟩
     exact c4'' j _ _ hp (by simp [hj'])
    have holdm:∀ x ∈ ms.toList,x.born < since:=fun x hx=>by
     obtain ⟨j,p,p1,p2,p3⟩:=hborn x hx
     rw [p3]
     exact Nat.le_of_ble_eq_true (List.all_eq_true.1 hold p (List.mem_of_getElem? p1))
    rcases run_next_at (P:=C.P) o.type b m since st seen.toArray ms clk hb c3 holdm hsc with ⟨r1,r2⟩ | ⟨x,r1,r2,w1,r3,r4,r5,r6,r7⟩
    ·
     have hnil:M.es.filter (fun p=>!(seen.contains p.2.2))=[]:=by
      rw [List.filter_eq_nil_iff]
      intro p hp
      obtain ⟨j,hj,rfl⟩:=List.getElem_of_mem hp
      have hjm:j < ms.size:=by rw [c4]; exact hj
      have hb2:=c4'' j _ _ (List.getElem?_eq_getElem hj) (Array.getElem?_eq_getElem hjm)
      have:=r1 ms[j] (by simp)
      rw [hb2] at this
      simpa using this
     rw [hnil] at hs
     simp only [Option.map_eq_some_iff] at hs
     obtain ⟨e',hp,rfl⟩:=hs
     refine enter hg ⟨.tuple #[.bool false],w,by rw [hev]; exact r2,?_⟩
     refine hk (.go e' S) (by simp) cx _ w hS hrefl (he.put hp ?_) (put_defers _ _ _)
     refine .tup [.d (.bool false)] [.bool false] rfl (fun j x u hx hu=>?_)
     match j,hx,hu with
     | 0,hx,hu=>simp at hx hu; subst hx; subst hu; exact .of_bool _
    ·
     obtain ⟨j,p,p1,p2,p3⟩:=hborn x r1
     have hpm:p ∈ M.es.filter (fun p=>!(seen.contains p.2.2)):=by
      rw [List.mem_filter]
      refine ⟨List.mem_of_getElem? p1,?_⟩
      rw [p3] at r2
      simpa using r2
     have hs':iW (fun p:D × AV × Nat=>(Env.put nt ((t,.it k (g + 1) (some id) since (seen ++ [p.2.2]) M.clk) :: e) o.dst (.tup [.d (.bool true),.d p.1,p.2.1])).map fun e' =>
      Stp.go e' { S with H:=S.H.set k (.obj 3 (.int .i64 ((g + 1:Nat):Int))) }) (M.es.filter (fun p=>!(seen.contains p.2.2)))=some rs:=by
      split at hs
      ·
       rename_i hnil; rw [hnil] at hpm; cases hpm
      ·
       exact hs
     obtain ⟨rr,q1,q2⟩:=zG hs' p hpm
     simp only [Option.map_eq_some_iff] at q1
     obtain ⟨e',hp,rfl⟩:=q1
     generalize hS':({ S with H:=S.H.set k (.obj 3 (.int .i64 ((g + 1:Nat):Int))) }:St)=S' at hp q2
     generalize hw':({ w1 with heap:=w1.heap.setIfInBounds b (.mapIter (some m) since (seen.toArray.push x.born) clk) }:World)=w' at r7
     have hget:S'.H.get k=some (.obj 3 (.int .i64 ((g + 1:Nat):Int))):=by rw [← hS']; simp [AL.aR]
     have hheap:w'.heap=w.heap.setIfInBounds b (.mapIter (some m) since (seen.toArray.push x.born) clk):=by rw [← hw',← r3]
     have hblt:b < w.heap.size:=Et hb
     have hsz:w'.heap.size=w.heap.size:=by rw [hheap]; simp
     have hfpk:∀ c,cx.fp k c↔c=b:=by
      have:=((hR.toObjOk.it _ _ _ _).1 (hS.objs k 3 _ hc).1).2
      intro c; rw [this c,hbk]
     have hcurk:cur S' k=some (g + 1):=by simp [cur,hget,rW]
     have hnx:S'.nx=S.nx:=by rw [← hS']
     have hT:S'.T=S.T:=by rw [← hS']
     obtain ⟨k1,k2⟩:=rP hR.toObjOk (cx':=cx) (S':=S') (w':=w') hS hc
      (fun kk xx hx=>by rw [hget] at hx; simp only [Option.some.injEq,wD.obj.injEq] at hx; obtain ⟨_,rfl⟩:=hx; simp only [rW]; omega)
      (fun g' _=>⟨g,hkg⟩)
      (fun g' h0 h2=>by
       unfold isIt at h0 h2
       rw [hc] at h0
       rw [hget] at h2
       simp only [Option.some.injEq,wD.obj.injEq,true_and,D.int.injEq] at h0 h2
       omega)
      hT hnx (fun ii hne=>by rw [← hS']; simp only [AL.aR]; rw [if_neg (Ne.symm hne)])
      (.inr ⟨3,_,hget,(hR.toObjOk.it _ _ _ _).2 ⟨by rw [hsz,← hbk]; exact hblt,fun c=>by rw [hfpk c,hbk]⟩⟩)
      (by omega) (by rw [← hw']; exact r4) (by rw [← hw']; exact r6) (by rw [← hw']; exact r5)
      (fun c hc1 hc2=>by
       rw [hheap,Array.getElem?_setIfInBounds_ne (fun q=>hc2 ((hfpk c).2 q.symm))])
      (fun _=>rfl) (fun _ _ _=>Iff.rfl) (fun _=>rfl) (fun _=>rfl) (fun c hc1=>.inl hc1)
      (fun c oo hc1=>(hS.objs k 3 _ hc).2 c oo hc1) (fun _ _ q _=>q) (fun _ _ q=>q) (fun c oo q=>by rw [hsz]; exact hS.lt c oo q)
     have hw2:w'.heap[b]? = some (.mapIter (some m) since (seen ++ [p.2.2]).toArray M.clk):=by
      rw [hheap,Array.getElem?_setIfInBounds_self,if_pos hblt,c4',p3]
      simp
     have hlive:∀ ii,cur S' ii ≠ none→cur S ii ≠ none:=fun ii hii=>by
      by_cases q:ii=k
      ·
       subst q; rw [lV hkg]; simp
      ·
       unfold cur at hii ⊢
       have:S'.H.get ii=S.H.get ii:=by rw [← hS']; simp only [AL.aR]; rw [if_neg (Ne.symm q)]
       rw [this,hT] at hii
       exact hii
     refine enter hg ⟨.tuple #[.bool true,x.key,x.val],w',by rw [hev]; exact r7,?_⟩
     refine hk (.go e' S') q2 cx _ w' k1 k2 (ig.put (e:=(t,.it k (g + 1) (some id) since (seen ++ [p.2.2]) M.clk) :: e) ?_ hp ?_) (put_defers _ _ _)
     ·
      refine ⟨he.size,fun t' x' hx'=>?_⟩
      rw [AL.gG] at hx'
      by_cases q:t=t'
      ·
       subst q
       rw [if_pos rfl] at hx'
       cases hx'
       refine ⟨_,h1,.it k (g + 1) id since M.clk b m _ ⟨by rw [hnx]; exact hn.1,fun g' hg'=>by rw [hcurk] at hg'; cases hg'; exact Nat.le_refl _⟩ (hni.mono k2) (fun hcur=>?_) (fun _=>⟨hbk,hfk,fun ii hii hf=>honly ii (hlive ii hii) hf,hw2⟩)⟩
       exact hm
      ·
       rw [if_neg q] at hx'
       obtain ⟨v,v1,v2⟩:=he.rel t' x' hx'
       exact ⟨v,v1,v2.mono k2⟩
     ·
      obtain ⟨d1,d2⟩:=c5 j p x p1 p2
      refine .tup [.d (.bool true),.d p.1,p.2.1] [.bool true,x.key,x.val] rfl (fun j' x' u' hx' hu'=>?_)
      match j',hx',hu' with
      | 0,hx',hu'=>simp at hx' hu'; subst hx'; subst hu'; exact .of_bool _
      | 1,hx',hu'=>simp at hx' hu'; subst hx'; subst hu'; exact .d _ _ (d1.mono k2.prot)
      | 2,hx',hu'=>simp at hx' hu'; subst hx'; subst hu'; exact d2.mono k2
   ·
    cases hs
  ·
   cases hs
 ·
  cases hs
end
end Go.Ev

namespace Go.Ev
noncomputable section
set_option linter.unusedVariables false
set_option linter.unusedSimpArgs false
theorem nD {n:Nat}:∀ {l:List AV},belows n l=true→∀ y ∈ l,y.under n=true
 | [],_,y,hy=>by cases hy
 | x :: l,h,y,hy=>by
  simp only [belows,Bool.and_eq_true] at h
  rcases List.mem_cons.1 hy with rfl | hy
  ·
   exact h.1
  ·
   exact nD h.2 y hy
theorem AL.uT {α:Type}:∀ {l:AL α} {k:Nat},AL.has l k=true→∃ v,AL.get l k=some v
 | [],k,h=>by cases h
 | (a,x) :: l,k,h=>by
  simp only [AL.has] at h
  rw [AL.gG]
  by_cases hk:a=k
  ·
   exact ⟨x,by rw [if_pos hk]⟩
  ·
   have:Nat.beq a k=false:=by
    cases hb:Nat.beq a k
    ·
     rfl
    ·
     exact absurd (Nat.eq_of_beq_eq_true hb) hk
   rw [this] at h
   obtain ⟨v,hv⟩:=AL.uT h
   exact ⟨v,by rw [if_neg hk]; exact hv⟩
section
variable {R:bL} {cx cx0:Cx} {S S' S0:St} {w w0:World} {n0:Nat} {l:AL Nat}
end
end
end Go.Ev

namespace Go.Ev
noncomputable section
set_option linter.unusedVariables false
set_option linter.unusedSimpArgs false
end
end Go.Ev

namespace Go.Ev
noncomputable section
set_option linter.unusedVariables false
set_option linter.unusedSimpArgs false
theorem Cc (n j:Nat):(Array.replicate n false).getD j false=false:=by
 unfold Array.getD; split <;> simp
def Fin (R:bL) (cx:Cx) (S:St) (w:World) (nt:Nat) (a:Act) (Q:Exit→Act→World→Prop) (r:Gm × Env × St):Prop :=
 match r.1 with
 | .normal=>∀ cx' a' w',aS R cx' r.2.2 w'→Ext cx S w cx' r.2.2 w'→ig cx' r.2.2 w' nt r.2.1 a'→a'.defers=a.defers→Q .normal a' w'
 | .exit id=>∀ cx' a' w',aS R cx' r.2.2 w'→Ext cx S w cx' r.2.2 w'→ig cx' r.2.2 w' nt r.2.1 a'→a'.defers=a.defers→Q (.exit id) a' w'
 | .ret=>∀ cx' a' w',aS R cx' r.2.2 w'→Ext cx S w cx' r.2.2 w'→ig cx' r.2.2 w' nt r.2.1 a'→a'.defers=a.defers→Q .ret a' w'
 | .panic v=>∀ cx' a' w' u,aS R cx' r.2.2 w'→Ext cx S w cx' r.2.2 w'→aF cx' r.2.2 w' v u→a'.defers=a.defers→Q (.panic [{ v:=u,recovered:=false }]) a' w'
theorem Fin.trans {R:bL} {cx cx1:Cx} {S S1:St} {w w1:World} {nt:Nat} {a a1:Act} {Q:Exit→Act→World→Prop} {r:Gm × Env × St} (x:Ext cx S w cx1 S1 w1) (d:a1.defers=a.defers) (h:Fin R cx S w nt a Q r):Fin R cx1 S1 w1 nt a1 Q r:=by
 unfold Fin at *
 split at h
 ·
  exact fun cx' a' w' q1 q2 q3 q4=>h cx' a' w' q1 (x.trans q2) q3 (q4.trans d)
 ·
  exact fun cx' a' w' q1 q2 q3 q4=>h cx' a' w' q1 (x.trans q2) q3 (q4.trans d)
 ·
  exact fun cx' a' w' q1 q2 q3 q4=>h cx' a' w' q1 (x.trans q2) q3 (q4.trans d)
 ·
  exact fun cx' a' w' u q1 q2 q3 q4=>h cx' a' w' u q1 (x.trans q2) q3 (q4.trans d)
def codeOk:Code→Bool
 | .region _ ops draw=>!draw || qb ops
 | .seq a b=>codeOk a && codeOk b
 | .cond _ a b=>codeOk a && codeOk b
 | .block _ a=>codeOk a
 | .loop a=>codeOk a
 | _=>true
end
end Go.Ev

namespace Go.Ev
noncomputable section
set_option linter.unusedVariables false
set_option linter.unusedSimpArgs false
theorem uS:∀ (l:List AV) (k t:Nat),AL.get (ou k l) t=if k ≤ t then l[t - k]? else none
 | [],k,t=>by simp [ou,AL.get]
 | v :: l,k,t=>by
  simp only [ou]
  rw [AL.gG,uS l (k + 1) t]
  by_cases h:k=t
  ·
   subst h; simp
  ·
   by_cases h2:k ≤ t
   ·
    rw [if_neg h,if_pos (by omega),if_pos h2,show t - k=(t - (k + 1)) + 1 by omega]; simp
   ·
    rw [if_neg h,if_neg (by omega),if_neg h2]
def su (tmps:Array Value):ResultVar→Sem Value
 | .tmp t=>pure (tmps.getD t undef)
 | .cell b t=>do loadVar t (← asAddr (tmps.getD b undef))
theorem Cu {R:bL} {C:gK} {cx:Cx} {S:St} {w:World} (hS:aS R cx S w) {nt:Nat} {e:Env} {a:Act} (he:ig cx S w nt e a) {rv:ResultVar} {v:AV} (h:xH C e S rv=some v) :
  ∃ u,(su a.tmps rv).run C.P w=.ok u w∧aF cx S w v u:=by
 cases rv with
 | tmp t =>
  simp only [xH] at h
  obtain ⟨u,h1,h2⟩:=he.rel t v h
  exact ⟨u,by simp [su,h1],h2⟩
 | cell b t =>
  simp only [xH] at h
  split at h
  ·
   rename_i p hp
   obtain ⟨u,h1,h2⟩:=he.rel b p hp
   obtain ⟨z,z1,z2⟩:=uI (C:=C) hS h h2
   refine ⟨z,?_,z2⟩
   have hu:a.tmps.getD b undef=u:=by simp [h1]
   simp only [su,hu]
   unfold nA at h
   cases h2 with
   | ptr id g off bb hn hq=>simp only [asAddr,Sem.run_bind,Sem.run_pure,Result.andThen_ok]; rw [nC] at z1; exact z1
   | eptr x off bb o vs hc hm=>simp only [asAddr,Sem.run_bind,Sem.run_pure,Result.andThen_ok]; rw [nC] at z1; exact z1
   | _=>simp at h
  ·
   cases h
theorem p9 {R:bL} {C:gK} {cx:Cx} {S:St} {w:World} (hS:aS R cx S w) {nt:Nat} {e:Env} {a:Act} (he:ig cx S w nt e a) {fn:Func} {v:AV} (h:mQ C fn e S=some v) :
  ∃ u,(results fn a.tmps).run C.P w=.ok u w∧aF cx S w v u:=by
 unfold mQ at h
 have key:∀ {l:List ResultVar} {vs:List AV},iW (xH C e S) l=some vs→∃ us:List Value,us.length=vs.length∧(l.mapM (su a.tmps)).run C.P w=.ok us w∧∀ (i:Nat) (x:AV) (u:Value),vs[i]? = some x→us[i]? = some u→aF cx S w x u:=by
  intro l
  induction l with
  | nil=>intro vs h; simp [iW] at h; subst h; exact ⟨[],rfl,by simp,by simp⟩
  | cons rv l ih =>
   intro vs h
   simp only [iW] at h
   split at h
   ·
    rename_i y hy
    simp only [Option.map_eq_some_iff] at h
    obtain ⟨ys,hys,rfl⟩:=h
    obtain ⟨us,u1,u2,u3⟩:=ih hys
    obtain ⟨u,r1,r2⟩:=Cu hS he hy
    refine ⟨u :: us,by simp [u1],?_,fun i x z hx hz=>?_⟩
    ·
     rw [List.mapM_cons]
     simp only [Sem.run_bind]
     rw [r1]
     simp only [Result.andThen_ok]
     rw [u2]
     rfl
    ·
     cases i with
     | zero=>simp at hx hz; subst hx; subst hz; exact r2
     | succ i=>exact u3 i x z (by simpa using hx) (by simpa using hz)
   ·
    cases h
 have run:∀ {us:List Value},(fn.results.toList.mapM (su a.tmps)).run C.P w=.ok us w→(results fn a.tmps).run C.P w=.ok (if h:us.toArray.size=1 then us.toArray[0] else .tuple us.toArray) w:=by
  intro us hu
  have hres:results fn a.tmps=(do let vs ← fn.results.mapM (su a.tmps); pure (if h:vs.size=1 then vs[0] else .tuple vs)):=rfl
  rw [hres,Array.mapM_eq_mapM_toList]
  simp only [Sem.run_bind,Sem.run_map,hu,Result.andThen_ok]
  rfl
 split at h
 ·
  rename_i x hx
  simp only [Option.some.injEq] at h; subst h
  obtain ⟨us,u1,u2,u3⟩:=key hx
  match us,u1 with
  | [u],_=>exact ⟨u,by rw [run u2]; rfl,u3 0 x u rfl rfl⟩
 ·
  rename_i vs hne hx
  simp only [Option.some.injEq] at h; subst h
  obtain ⟨us,u1,u2,u3⟩:=key hx
  refine ⟨.tuple us.toArray,?_,.tup vs us u1 u3⟩
  rw [run u2,dif_neg]
  intro q
  simp at q
  rw [u1] at q
  match vs,q with
  | [x],_=>exact hne x rfl
 ·
  cases h
structure FY (R:bL) (C:gK):Prop where
 obj:lZ R C
 mixed:C.P.follows .mixedOrders=true
 code:∀ f fn c,C.good f=true→C.P.funcs[f]? = some fn→fn.body=some c→codeOk c=true∧fn.name ≠ "runtime.NumGoroutine"
 primPure:∀ f args S v S',C.hasPrim f=true→C.prim f args S=some (v,S')→(jW args).isSome=true→(vV v).isSome=true→∀ S2,C.prim f args S2=some (v,S2)
 prim:∀ f args S v S',C.hasPrim f=true→C.prim f args S=some (v,S')→(∃ fn,C.P.funcs[f]? = some fn∧fn.body.isSome=true∧fn.name ≠ "runtime.NumGoroutine") ∧
  ∀ cx w (us:List Value),aS R cx S w→us.length=args.length→(∀ (i:Nat) (x:AV) (u:Value),args[i]? = some x→us[i]? = some u→aF cx S w x u) →
  Calls C.P f us.toArray w (fun e w'=>∃ cx',aS R cx' S' w'∧Ext cx S w cx' S' w'∧∃ u,e=.returned u∧aF cx' S' w' v u)
theorem Dz {R:bL} {cx:Cx} {S:St} {w:World} (h:aS R cx S w):aS R cx ay w where
 wf:=fun id hl=>absurd rfl hl
 dis:=fun id b hb=>by simp [ay,AL.get] at hb
 cells:=fun id g cs hb=>by simp [ay,AL.get] at hb
 maps:=fun id es hb=>by simp [ay,AL.get] at hb
 objs:=fun id k x hb=>by simp [ay,AL.get] at hb
 toks:=fun id en hb=>by simp [ay,AL.get] at hb
 sep:=fun id id' b hl=>absurd rfl hl
 stat:=h.stat
 lt:=h.lt
theorem xD {R:bL} (hR:ObjOk R) {cx cx1:Cx} {S S1:St} {w w1:World} (h:aS R cx S w) (e:Ext cx ay w cx1 S1 w1) :
  aS R cx S w1∧Ext cx S w cx S w1∧∀ x v,bA w1 cx1.fr x v→bA w1 cx.fr x v:=by
 have hb:∀ b,b < w.heap.size→w1.heap[b]? = w.heap[b]?∧∀ o,(cx1.fr b o↔cx.fr b o):=fun b hb=>e.other b hb (fun id hl=>absurd rfl hl)
 have ex:Ext cx S w cx S w1:=Ext.old h e.size (fun b q=>(hb b q).1) e.os e.tape e.output
 refine ⟨aS.old hR h e.size (fun b q=>(hb b q).1) ex,ex,fun x v hd=>hd.mono (fun b o v hf hc=>⟨hc,fun q=>?_⟩)⟩
 have hlt:=h.lt b o q
 exact hf (((hb b hlt).2 o).2 q)
theorem u6 {cx cx':Cx} {S S':St} {w w':World} {v v':AV} {u:Value} (hv:vV v=some v') (h:aF cx S w v u) (hd:∀ x z,bA w cx.fr x z→bA w' cx'.fr x z):aF cx' S' w' v' u:=by
 unfold vV at hv
 split at hv
 ·
  rename_i vs
  simp only [Option.map_eq_some_iff] at hv
  obtain ⟨xs,hxs,rfl⟩:=hv
  obtain ⟨x1,x2⟩:=rR hxs
  cases h with
  | tup _ us' hl' hr' =>
   refine .tup _ us' (by simp [hl',x1]) (fun i x z hx hz=>?_)
   simp only [List.getElem?_map,Option.map_eq_some_iff] at hx
   obtain ⟨y,hy,rfl⟩:=hx
   have hlt:i < vs.length:=by rw [← x1]; exact (List.getElem?_eq_some_iff.1 hy).1
   have ha:=List.getElem?_eq_getElem hlt
   exact .d y z (hd _ _ (kz (x2 i _ y ha hy) (hr' i _ z ha hz)))
 ·
  simp only [Option.map_eq_some_iff] at hv
  obtain ⟨x,hx,rfl⟩:=hv
  exact .d x u (hd _ _ (kz hx h))
end
end Go.Ev

namespace Go.Ev
noncomputable section
set_option linter.unusedVariables false
set_option linter.unusedSimpArgs false
variable {R:bL} {C:gK}
def gm (R:bL) (P:Program) (f:Nat) (args:List AV) (S:St) (Q:Out→Prop):Prop :=
 (∃ fn,P.funcs[f]? = some fn∧fn.body.isSome=true∧fn.name ≠ "runtime.NumGoroutine") ∧
 ∀ cx w (us:List Value),aS R cx S w→us.length=args.length→(∀ (i:Nat) (x:AV) (u:Value),args[i]? = some x→us[i]? = some u→aF cx S w x u) →
  Calls P f us.toArray w (fun e w'=>∃ r,Q r∧∃ cx',aS R cx' r.2.2 w'∧Ext cx S w cx' r.2.2 w'∧F6 cx' r.2.2 w' r.1 r.2.1 e)
theorem gm.mono {P:Program} {f:Nat} {args:List AV} {S:St} {Q Q':Out→Prop} (h:gm R P f args S Q) (hq:∀ r,Q r→Q' r):gm R P f args S Q' :=
 ⟨h.1,fun cx w us h1 h2 h3=>(h.2 cx w us h1 h2 h3).mono fun e w' ⟨r,q,k⟩=>⟨r,hq r q,k⟩⟩
def aj (R:bL) (P:Program) (nt:Nat) (c:Code) (e:Env) (S:St) (Q:qU→Prop):Prop :=
 ∀ (cx:Cx) (w:World) (a:Act) (K:Exit→Act→World→Prop),aS R cx S w→ig cx S w nt e a→(∀ r,Q r→Fin R cx S w nt a K r)→c.wp P K a w
def kS (R:bL) (P:Program) (nt:Nat) (c:Code) (e:Env) (S:St) (Q:qU→Prop):Prop :=
 ∀ (cx:Cx) (w:World) (a:Act) (K:Exit→Act→World→Prop),aS R cx S w→ig cx S w nt e a→(∀ r,Q r→Fin R cx S w nt a K r) →
  ∀ (b:Frame) (k:List Go.Item) (cs:List Frame),∃ x a' w',K x a' w'∧Arrives P (lone (b.at a (.code c :: .inLoop c :: k)) cs w) b k cs x a' w'
variable {P:Program} {nt:Nat}
theorem aj.mono {c:Code} {e:Env} {S:St} {Q Q':qU→Prop} (h:aj R P nt c e S Q) (hq:∀ r,Q r→Q' r):aj R P nt c e S Q' :=
 fun cx w a K h1 h2 h3=>h cx w a K h1 h2 (fun r q=>h3 r (hq r q))
theorem aj.skip {e:Env} {S:St} {Q:qU→Prop} (h:Q (.normal,e,S)):aj R P nt .skip e S Q :=
 fun cx w a K h1 h2 h3=>wp_skip (h3 _ h cx a w h1 (Ext.refl w h1.wf) h2 rfl)
theorem aj.exit {id:Nat} {e:Env} {S:St} {Q:qU→Prop} (h:Q (.exit id,e,S)):aj R P nt (.exit id) e S Q :=
 fun cx w a K h1 h2 h3=>wp_exit (h3 _ h cx a w h1 (Ext.refl w h1.wf) h2 rfl)
theorem aj.ret {e:Env} {S:St} {Q:qU→Prop} (h:Q (.ret,e,S)):aj R P nt .ret e S Q :=
 fun cx w a K h1 h2 h3=>wp_ret (h3 _ h cx a w h1 (Ext.refl w h1.wf) h2 rfl)
def zN (k:Env→St→Prop) (Q:qU→Prop):qU→Prop
 | (.normal,e,S)=>k e S
 | r=>Q r
theorem aj.seq {x y:Code} {e:Env} {S:St} {Q:qU→Prop} (h:aj R P nt x e S (zN (fun e' S'=>aj R P nt y e' S' Q) Q)):aj R P nt (.seq x y) e S Q:=by
 intro cx w a K h1 h2 h3
 refine wp_seq (h cx w a _ h1 h2 (fun r hr=>?_))
 obtain ⟨x1,e',S'⟩:=r
 cases x1 with
 | normal =>
  intro cx' a' w' q1 q2 q3 q4
  exact hr cx' w' a' K q1 q3 (fun r q=>(h3 r q).trans q2 q4)
 | exit id=>exact h3 _ hr
 | ret=>exact h3 _ hr
 | panic v=>exact h3 _ hr
theorem aj.cond {c:Operand} {x y:Code} {e:Env} {S:St} {Q:qU→Prop} {b:Bool} (hc:ic e c=some (.d (.bool b))) (h1:b=true→aj R P nt x e S Q) (h2:b=false→aj R P nt y e S Q):aj R P nt (.cond c x y) e S Q:=by
 intro cx w a K hS he hk
 cases b with
 | true=>exact wp_cond_true ((he.eval c _ hc).bool) (h1 rfl cx w a K hS he hk)
 | false=>exact wp_cond_false ((he.eval c _ hc).bool) (h2 rfl cx w a K hS he hk)
def DI (id:Nat) (Q:qU→Prop):qU→Prop
 | (.exit j,e,S)=>bif Nat.beq j id then Q (.normal,e,S) else Q (.exit j,e,S)
 | r=>Q r
theorem aj.block {id:Nat} {c:Code} {e:Env} {S:St} {Q:qU→Prop} (h:aj R P nt c e S (DI id Q)):aj R P nt (.block id c) e S Q:=by
 intro cx w a K h1 h2 h3
 refine wp_block (h cx w a _ h1 h2 (fun r hr=>?_))
 obtain ⟨x1,e',S'⟩:=r
 cases x1 with
 | normal=>exact h3 _ hr
 | exit j =>
  simp only [DI] at hr
  by_cases hj:j=id
  ·
   have hb:Nat.beq j id=true:=by rw [hj]; exact Nat.beq_refl id
   rw [hb] at hr
   intro cx' a' w' q1 q2 q3 q4
   simp only [Exit.inBlock,if_pos hj]
   exact h3 _ hr cx' a' w' q1 q2 q3 q4
  ·
   have hb:Nat.beq j id=false:=by
    cases hb:Nat.beq j id
    ·
     rfl
    ·
     exact absurd (Nat.eq_of_beq_eq_true hb) hj
   rw [hb] at hr
   intro cx' a' w' q1 q2 q3 q4
   simp only [Exit.inBlock,if_neg hj]
   exact h3 _ hr cx' a' w' q1 q2 q3 q4
 | ret=>exact h3 _ hr
 | panic v=>exact h3 _ hr
theorem aj.loop {c:Code} {e:Env} {S:St} {Q:qU→Prop} (h:kS R P nt c e S Q):aj R P nt (.loop c) e S Q:=by
 intro cx w a K h1 h2 h3 b k cs
 obtain ⟨x,a',w',q,harr⟩:=h cx w a K h1 h2 h3 b k cs
 exact ⟨x,a',w',q,.of_steps (.one step_loop) harr⟩
theorem kS.round {c:Code} {e:Env} {S:St} {Q:qU→Prop} (h:aj R P nt c e S (zN (fun e' S'=>kS R P nt c e' S' Q) Q)):kS R P nt c e S Q:=by
 intro cx w a K hS he hk b k cs
 let K':Exit→Act→World→Prop:=fun x a' w'=>match x with
  | .normal=>∃ cx1 e1 S1,aS R cx1 S1 w'∧ig cx1 S1 w' nt e1 a'∧Ext cx S w cx1 S1 w'∧a'.defers=a.defers∧kS R P nt c e1 S1 Q
  | x=>K x a' w'
 have hround:c.wp P K' a w:=by
  refine h cx w a K' hS he (fun r hr=>?_)
  obtain ⟨x,e',S'⟩:=r
  cases x with
  | normal=>exact fun cx' a' w' q1 q2 q3 q4=>⟨cx',e',S',q1,q3,q2,q4,hr⟩
  | exit id=>exact hk _ hr
  | ret=>exact hk _ hr
  | panic v=>exact hk _ hr
 obtain ⟨x,a₁,w₁,hq,harr⟩:=hround b (.inLoop c :: k) cs
 cases x with
 | normal =>
  obtain ⟨cx1,e1,S1,s1,er1,x1,d1,hl⟩:=hq
  obtain ⟨x2,a₂,w₂,hq₂,harr₂⟩:=hl cx1 w₁ a₁ K s1 er1 (fun r hr=>(hk r hr).trans x1 d1) b k cs
  exact ⟨x2,a₂,w₂,hq₂,.of_steps (Steps.trans harr (.one step_inLoop)) harr₂⟩
 | exit id=>exact ⟨_,a₁,w₁,hq,.pass (x:=.inLoop c) rfl (fun _ _=>.inl (by simp)) harr⟩
 | goto l=>exact ⟨_,a₁,w₁,hq,.pass (x:=.inLoop c) rfl (fun _ _=>.inl (by simp)) harr⟩
 | ret=>exact ⟨_,a₁,w₁,hq,.pass (x:=.inLoop c) rfl (fun _ _=>.inl (by simp)) harr⟩
 | panic ch=>exact ⟨_,a₁,w₁,hq,.pass (x:=.inLoop c) rfl (fun _ _=>.inl (by simp)) harr⟩
 | outgrown=>exact ⟨_,a₁,w₁,hq,.pass (x:=.inLoop c) rfl (fun _ _=>.inl (by simp)) harr⟩
def Less (y x:AV):Prop:=∀ (cx:Cx) (S:St) (w:World) (v:Value),aF cx S w x v→aF cx S w y v
theorem Less.refl (x:AV):Less x x:=fun _ _ _ _ h=>h
theorem Less.trans {x y z:AV} (a:Less z y) (b:Less y x):Less z x:=fun cx S w v h=>a cx S w v (b cx S w v h)
def aa (e2 e:Env):Prop:=∀ t x,AL.get e2 t=some x→∃ y,AL.get e t=some y∧Less x y
theorem aa.refl (e:Env):aa e e:=fun _ x h=>⟨x,h,.refl x⟩
theorem aa.trans {e1 e2 e3:Env} (a:aa e1 e2) (b:aa e2 e3):aa e1 e3:=fun t x h=>by
 obtain ⟨y,h1,h2⟩:=a t x h
 obtain ⟨z,h3,h4⟩:=b t y h1
 exact ⟨z,h3,h2.trans h4⟩
theorem aa.top {e:Env} {t:Nat} {x y:AV} (h:Less y x):aa ((t,y) :: e) ((t,x) :: e):=fun u z hz=>by
 rw [AL.gG] at hz ⊢
 by_cases hu:t=u
 ·
  rw [if_pos hu] at hz ⊢; cases hz; exact ⟨x,rfl,h⟩
 ·
  rw [if_neg hu] at hz ⊢; exact ⟨z,hz,.refl z⟩
theorem aa.nil {e:Env}:aa [] e:=fun _ _ h=>by simp [AL.get] at h
theorem aa.cons {t:Nat} {x y:AV} {e2 e:Env} (h:AL.get e t=some y) (hl:Less x y) (k:aa e2 e):aa ((t,x) :: e2) e:=fun u z hz=>by
 rw [AL.gG] at hz
 by_cases hu:t=u
 ·
  subst hu; rw [if_pos rfl] at hz; cases hz; exact ⟨y,h,hl⟩
 ·
  rw [if_neg hu] at hz; exact k u z hz
theorem ig.weak {cx:Cx} {S:St} {w:World} {e2 e:Env} {a:Act} (h:ig cx S w nt e a) (s:aa e2 e):ig cx S w nt e2 a :=
 ⟨h.size,fun t x hx=>by
  obtain ⟨y,h1,h2⟩:=s t x hx
  obtain ⟨v,v1,v2⟩:=h.rel t y h1
  exact ⟨v,v1,h2 _ _ _ _ v2⟩⟩
theorem aj.weak {c:Code} {e2 e:Env} {S:St} {Q:qU→Prop} (s:aa e2 e) (h:aj R P nt c e2 S Q):aj R P nt c e S Q :=
 fun cx w a K h1 h2 h3=>h cx w a K h1 (h2.weak s) h3
theorem kS.weak {c:Code} {e2 e:Env} {S:St} {Q:qU→Prop} (s:aa e2 e) (h:kS R P nt c e2 S Q):kS R P nt c e S Q :=
 fun cx w a K h1 h2 h3=>h cx w a K h1 (h2.weak s) h3
def Ab (R:bL) (C:gK) (nt:Nat) (dst:Option Nat) (op:Op) (e:Env) (S:St) (Q:Stp→Prop):Prop :=
 (∃ v S' e',oper C (ic e) S op=some (.val v S')∧e.put nt dst v=some e'∧Q (.go e' S')) ∨
 (∃ S',oper C (ic e) S op=some (.skip S')∧dst=none∧Q (.go e S')) ∨
 (∃ f args,oper C (ic e) S op=some (.call f args)∧gm R C.P f args S (fun r=>match r with
  | (none,v,S')=>∃ e',e.put nt dst v=some e'∧Q (.go e' S')
  | (some p,_,S')=>Q (.stop p S'))) ∨
 (∃ t x y ty xs b el,op=.binOp .eql t x y ty∧ic e x=some (.d (.sl xs b))∧ic e y=some (.d .bJ)∧C.P.underlying t=some (.slice el) ∧
  ∀ bb:Bool,(bb=true→xs=[])→∃ e',e.put nt dst (.d (.bool bb))=some e'∧Q (.go e' S))
theorem Ab.mono {dst:Option Nat} {op:Op} {e:Env} {S:St} {Q Q':Stp→Prop} (h:Ab R C nt dst op e S Q) (hq:∀ r,Q r→Q' r):Ab R C nt dst op e S Q':=by
 rcases h with ⟨v,S',e',h1,h2,h3⟩ | ⟨S',h1,h2,h3⟩ | ⟨f,args,h1,h2⟩ | ⟨t,x,y,ty,xs,b,el,h1,h2,h3,h4,h5⟩
 ·
  exact .inl ⟨v,S',e',h1,h2,hq _ h3⟩
 ·
  exact .inr (.inl ⟨S',h1,h2,hq _ h3⟩)
 ·
  exact .inr (.inr (.inl ⟨f,args,h1,h2.mono fun r hr=>by
   obtain ⟨p,v,S'⟩:=r
   cases p with
   | none=>obtain ⟨e',a,b⟩:=hr; exact ⟨e',a,hq _ b⟩
   | some p=>exact hq _ hr⟩))
 ·
  exact .inr (.inr (.inr ⟨t,x,y,ty,xs,b,el,h1,h2,h3,h4,fun bb hb=>let ⟨e',a,c⟩:=h5 bb hb; ⟨e',a,hq _ c⟩⟩))
theorem zb {w:World} {fr:Nat→Nat→Prop} {xs:List D} {b:Bool} {v:Value} (h:bA w fr (.sl xs b) v):∃ a n c,v=.slice a n c∧(a=none→xs=[]):=by
 have h1:=h.val rfl
 cases h1 with
 | sl0 a cap _ _=>exact ⟨a,0,cap,rfl,fun _=>rfl⟩
 | sl _ _ b off cap sz vs hne hcap ht hsz hlen hx hc=>exact ⟨_,_,_,rfl,fun h=>by cases h⟩
def FI (R:bL) (C:gK) (nt:Nat) (ops:Array Oper) (o:Oper) (e:Env) (S:St) (Q:Stp→Prop):Prop :=
 dZ ops e o=some true∧∀ cx w a,aS R cx S w→ig cx S w nt e a →
  (∃ cx' w' u v S' e',(execOp a.eval o).run C.P w=.ok (.value u) w'∧aS R cx' S' w'∧Ext cx S w cx' S' w'∧aF cx' S' w' v u∧e.put nt o.dst v=some e'∧Q (.go e' S')) ∨
  (∃ u v,(execOp a.eval o).run C.P w=.halt (.panic u) w∧aF cx S w v u∧Q (.stop v S))
def rT (R:bL) (C:gK) (nt:Nat) (ops:Array Oper) (o:Oper) (e:Env) (S:St) (Q:Stp→Prop):Prop :=
 (∃ t rs,o.op=.next (.tmp t) false∧Dh nt o t e S=some rs∧∀ r ∈ rs,Q r) ∨
 (∃ e2,aa e2 e∧dZ ops e o=some true∧Ab R C nt o.dst o.op e2 S Q) ∨
 (∃ e2 e',aa e2 e∧dZ ops e o=some false∧(match o.dst with | none=>e'=e2 | some t=>e2.put nt (some t) (.tup [])=some e')∧Q (.go e' S)) ∨
 (∃ e2,aa e2 e∧FI R C nt ops o e2 S Q)
theorem rT.mono {ops:Array Oper} {o:Oper} {e:Env} {S:St} {Q Q':Stp→Prop} (h:rT R C nt ops o e S Q) (hq:∀ r,Q r→Q' r):rT R C nt ops o e S Q':=by
 rcases h with ⟨t,rs,h1,h2,h3⟩ | ⟨e2,h1,h2,h3⟩ | ⟨e2,e',h1,h2,h3,h4⟩ | ⟨e2,h1,h2,h3⟩
 ·
  exact .inl ⟨t,rs,h1,h2,fun r hr=>hq r (h3 r hr)⟩
 ·
  exact .inr (.inl ⟨e2,h1,h2,h3.mono hq⟩)
 ·
  exact .inr (.inr (.inl ⟨e2,e',h1,h2,h3,hq _ h4⟩))
 ·
  refine .inr (.inr (.inr ⟨e2,h1,h2,fun cx w a k1 k2=>?_⟩))
  rcases h3 cx w a k1 k2 with ⟨cx',w',u,v,S',e',q1,q2,q3,q4,q5,q6⟩ | ⟨u,v,q1,q2,q3⟩
  ·
   exact .inl ⟨cx',w',u,v,S',e',q1,q2,q3,q4,q5,hq _ q6⟩
  ·
   exact .inr ⟨u,v,q1,q2,hq _ q3⟩
theorem yl (hR:lZ R C) {ops:Array Oper} {o:Oper} {e:Env} {S:St} {Q:Stp→Prop} (h:rT R C nt ops o e S Q) {cx:Cx} {w:World} {a:Act} (hS:aS R cx S w) (he:ig cx S w nt e a)
  {K:Act→World→Prop} {Kx:Exit→Act→World→Prop} (hk:∀ r,Q r→After R cx S w nt a K Kx r) {i:Nat} (hi:ops[i]? = some o):wpOp C.P ops Kx i K a w:=by
 have hrefl:=Ext.refl (cx:=cx) w hS.wf
 rcases h with ⟨t,rs,h1,h2,h3⟩ | ⟨e2,hw,h1,h2⟩ | ⟨e2,e',hw,h1,h2,h3⟩ | ⟨e2,hw,h1,h2⟩
 ·
  exact AU hR h1 h2 hS he (fun r hr=>hk r (h3 r hr)) hi
 rotate_left 2
 ·
  have he2:=he.weak hw
  unfold wpOp
  rw [hi]
  simp only
  rw [if_pos (dY he2 h1)]
  left
  unfold Oper.wp
  rcases h2 cx w a hS he2 with ⟨cx',w',u,v,S',e',q1,q2,q3,q4,q5,q6⟩ | ⟨u,v,q1,q2,q3⟩
  ·
   rw [q1]
   exact hk _ q6 cx' _ w' q2 q3 ((he2.mono q3).put q5 q4) (put_defers _ _ _)
  ·
   rw [q1]
   exact hk _ q3 cx w u hS hrefl q2
 ·
  have he2:=he.weak hw
  unfold wpOp
  rw [hi]
  simp only
  rw [if_pos (dY he h1)]
  left
  rcases h2 with ⟨v,S',e',h1,h2,h3⟩ | ⟨S',h1,h2,h3⟩ | ⟨f,args,h1,h2⟩ | ⟨t,x,y,ty,xs,b,el,hop,hx,hy,hu,hq⟩
  rotate_left 3
  ·
   have rx:=he2.eval x _ hx
   have ry:=he2.eval y _ hy
   obtain ⟨a0,n,c,ex,hnil⟩:=zb rx.dd
   have ey:a.eval y=.slice none 0 0:=by
    have:=ry.dd.val rfl
    generalize a.eval y=z at this
    cases this
    rfl
   have hrun:(execOp a.eval o).run C.P w=.ok (.value (.bool a0.isNone)) w:=by
    obtain ⟨dst,op,ty',pos,after,guard⟩:=o
    simp only at hop
    subst hop
    exact oM (by
     rw [ex,ey]
     have hg:(eqGuard .eql t x y (.slice a0 n c) (.slice none 0 0)).run C.P w=.ok () w:=fH rfl
     simp only [Sem.run_bind,hg,Result.andThen_ok]
     exact Lib.run_eql_slice_nil w t el a0 n c 0 0 hu)
   obtain ⟨e',hp,hk'⟩:=hq a0.isNone (fun h=>hnil (by cases a0 with | none=>rfl | some a=>cases h))
   unfold Oper.wp
   rw [hrun]
   exact hk _ hk' cx _ w hS hrefl (he2.put hp (.of_bool _)) (put_defers _ _ _)
  ·
   obtain ⟨cx',w',u,k1,k2,k3,k4⟩:=gI hR hS he2.eval o h1
   unfold Oper.wp
   rw [k1]
   exact hk _ h3 cx' _ w' k2 k3 ((he2.mono k3).put h2 k4) (put_defers _ _ _)
  ·
   obtain ⟨cx',w',k1,k2,k3⟩:=gI hR hS he2.eval o h1
   unfold Oper.wp
   rw [k1]
   show K (a.put o.dst undef) w'
   rw [h2]
   exact hk _ h3 cx' _ w' k2 k3 (he2.mono k3) rfl
  ·
   obtain ⟨us,k1,k2,k3⟩:=gI hR hS he2.eval o h1
   obtain ⟨⟨fn,f1,f2,f3⟩,hcalls⟩:=h2
   unfold Oper.wp
   rw [k3 fn f1 f2 f3]
   refine (hcalls cx w us hS k1 k2).mono (fun en w' hen=>?_)
   obtain ⟨⟨p,v,S'⟩,hq,cx',m1,m2,m3⟩:=hen
   cases p with
   | none =>
    obtain ⟨u,rfl,m3⟩:=m3
    obtain ⟨e',hp,hq⟩:=hq
    exact hk _ hq cx' _ w' m1 m2 ((he2.mono m2).put hp m3) (put_defers _ _ _)
   | some p =>
    obtain ⟨u,rfl,m3⟩:=m3
    exact hk _ hq cx' w' u m1 m2 m3
 ·
  have he2:=he.weak hw
  unfold wpOp
  rw [hi]
  simp only
  rw [if_neg (by rw [dY he h1]; simp)]
  split at h2
  ·
   rename_i hd
   subst h2
   rw [hd]
   exact hk _ h3 cx _ w hS hrefl he2 rfl
  ·
   rename_i t hd
   rw [hd]
   exact hk _ h3 cx _ w hS hrefl (he2.put h2 (.tup [] [] rfl (fun i x v hx=>by simp at hx))) (put_defers _ _ _)
def mM (R:bL) (nt:Nat) (e:Env) (S:St) (e2:Env) (S2:St):Prop :=
 ∀ cx w a,aS R cx S w→ig cx S w nt e a→∃ cx2,aS R cx2 S2 w∧Ext cx S w cx2 S2 w∧ig cx2 S2 w nt e2 a
theorem mM.refl (e:Env) (S:St):mM R nt e S e S:=fun cx w a h1 h2=>⟨cx,h1,Ext.refl w h1.wf,h2⟩
theorem mM.weak {e2 e:Env} (S:St) (s:aa e2 e):mM R nt e S e2 S:=fun cx w a h1 h2=>⟨cx,h1,Ext.refl w h1.wf,h2.weak s⟩
theorem mM.trans {e1 e2 e3:Env} {S1 S2 S3:St} (a:mM R nt e1 S1 e2 S2) (b:mM R nt e2 S2 e3 S3):mM R nt e1 S1 e3 S3:=fun cx w ac h1 h2=>by
 obtain ⟨c2,q1,q2,q3⟩:=a cx w ac h1 h2
 obtain ⟨c3,r1,r2,r3⟩:=b c2 w ac q1 q3
 exact ⟨c3,r1,q2.trans r2,r3⟩
def ai (R:bL) (C:gK) (nt:Nat) (ops:Array Oper):List Oper→Env→St→(Stp→Prop)→Prop
 | [],e,S,Q=>∃ e2,aa e2 e∧Q (.go e2 S)
 | o :: rest,e,S,Q=>∃ e2 S2,mM R nt e S e2 S2∧rT R C nt ops o e2 S2 (fun r=>match r with
  | .go e' S'=>ai R C nt ops rest e' S' Q
  | .stop v S'=>Q (.stop v S'))
theorem ai.weak {ops:Array Oper} {l:List Oper} {e2 e:Env} {S:St} {Q:Stp→Prop} (s:aa e2 e) (h:ai R C nt ops l e2 S Q):ai R C nt ops l e S Q:=by
 cases l with
 | nil=>obtain ⟨e3,h1,h2⟩:=h; exact ⟨e3,h1.trans s,h2⟩
 | cons o l=>obtain ⟨e3,S3,h1,h2⟩:=h; exact ⟨e3,S3,(mM.weak S s).trans h1,h2⟩
theorem xc (hR:lZ R C) {ops:Array Oper} {Kx:Exit→Act→World→Prop}:∀ (l:List Oper) (k:Nat) {cx:Cx} {S:St} {w:World} {e:Env} {a:Act} {Q:Stp→Prop},
  (∀ j,l[j]? = ops[k + j]?)→ai R C nt ops l e S Q→aS R cx S w→ig cx S w nt e a →
  (∀ r,Q r→match r with
   | .go e' S'=>∀ cx' a' w',aS R cx' S' w'→Ext cx S w cx' S' w'→ig cx' S' w' nt e' a'→a'.defers=a.defers→Kx .normal a' w'
   | .stop v S'=>∀ cx' a' w' u,aS R cx' S' w'→Ext cx S w cx' S' w'→aF cx' S' w' v u→a'.defers=a.defers→Kx (.panic [{ v:=u,recovered:=false }]) a' w') →
  wpOps C.P ops Kx ((List.range l.length).map (k + ·)) a w
 | [],k,cx,S,w,e,a,Q,hl,⟨e2,hs,hev⟩,hS,he,hk=>hk (.go e2 S) hev cx a w hS (Ext.refl w hS.wf) (he.weak hs) rfl
 | o :: l,k,cx,S,w,e,a,Q,hl,⟨e2,S2,hs,hev⟩,hS,he,hk=>by
  obtain ⟨c2,hS,x0,he⟩:=hs cx w a hS he
  replace hk:∀ r,Q r→match r with
   | .go e' S'=>∀ cx' a' w',aS R cx' S' w'→Ext c2 S2 w cx' S' w'→ig cx' S' w' nt e' a'→a'.defers=a.defers→Kx .normal a' w'
   | .stop v S'=>∀ cx' a' w' u,aS R cx' S' w'→Ext c2 S2 w cx' S' w'→aF cx' S' w' v u→a'.defers=a.defers→Kx (.panic [{ v:=u,recovered:=false }]) a' w':=fun r hr=>by
   have hk:=hk r hr
   cases r with
   | go e' S'=>exact fun cx' a' w' q1 q2 q3 q4=>hk cx' a' w' q1 (x0.trans q2) q3 q4
   | stop v S'=>exact fun cx' a' w' u q1 q2 q3 q4=>hk cx' a' w' u q1 (x0.trans q2) q3 q4
  have h0:ops[k]? = some o:=by simpa using (hl 0).symm
  rw [List.length_cons,List.range_succ_eq_map,List.map_cons,wpOps_cons,Nat.add_zero]
  refine yl hR hev hS he (fun r hr=>?_) h0
  cases r with
  | go e' S' =>
   intro cx1 a1 w1 s1 x1 er1 d1
   have ih:=xc hR (Kx:=Kx) l (k + 1) (cx:=cx1) (S:=S') (w:=w1) (e:=e') (a:=a1) (Q:=Q) (fun j=>by have:=hl (j + 1); simpa [Nat.add_assoc,Nat.add_comm 1 j] using this) hr s1 er1 (fun r hr=>by
    have hk':=hk r hr
    cases r with
    | go e2 S2=>exact fun cx' a' w' q1 q2 q3 q4=>hk' cx' a' w' q1 (x1.trans q2) q3 (q4.trans d1)
    | stop v S2=>exact fun cx' a' w' u q1 q2 q3 q4=>hk' cx' a' w' u q1 (x1.trans q2) q3 (q4.trans d1))
   rw [List.map_map]
   have:((fun x=>k + x) ∘ Nat.succ)=(fun x=>k + 1 + x):=by funext x; simp; omega
   rw [this]; exact ih
  | stop v S'=>exact fun cx1 w1 u s1 x1 r1=>hk (.stop v S') hr cx1 a w1 u s1 x1 r1 rfl
theorem aj.region (hR:lZ R C) {id:Nat} {ops:Array Oper} {l:List Oper} (hl:ops.toList=l) {e:Env} {S:St} {Q:qU→Prop} (h:ai R C nt ops l e S (fun r=>Q (FL e r))):aj R C.P nt (.region id ops false) e S Q:=by
 intro cx w a K h1 h2 h3
 refine wp_region ?_
 have:=xc hR (Kx:=K) ops.toList 0 (by simp) (hl ▸ h) h1 h2 (fun r hr=>by
  have hk':=h3 _ hr
  cases r with
  | go e' S'=>exact fun cx' a' w' q1 q2 q3 q4=>hk' cx' a' w' q1 q2 q3 q4
  | stop v S'=>exact fun cx' a' w' u q1 q2 q3 q4=>hk' cx' a' w' u q1 q2 q3 q4)
 simpa using this
inductive Fact where
 | pure (f:Nat) (args:List AV) (v:AV)
 | full (f:Nat) (args:List AV) (S:St) (v:AV) (S':St)
open Classical in
def EO (C:gK) (fn:Func) (Q:Out→Prop):qU→Prop
 | (.normal,e,S)=>∃ v,mQ C fn e S=some v∧Q (none,v,S)
 | (.ret,e,S)=>∃ v,mQ C fn e S=some v∧Q (none,v,S)
 | (.panic v,_,S)=>Q (some v,.d (.bool false),S)
 | _=>False
theorem gm.of_wp {f:Nat} {fn:Func} {c:Code} (hf:C.P.funcs[f]? = some fn) (hc:fn.body=some c) (hn:(fn.name == "runtime.NumGoroutine")=false) {args:List AV} (hle:args.length ≤ fn.ntmps) {S:St} {Q:Out→Prop}
  (h:aj R C.P fn.ntmps c (ou 0 args) S (EO C fn Q)):gm R C.P f args S Q:=by
 refine ⟨⟨fn,hf,by simp [hc],by simpa using hn⟩,fun cx w us hS hl hr=>?_⟩
 refine calls_of_wp hf hc ?_
 have he:ig cx S w fn.ntmps (ou 0 args) { tmps:=us.toArray ++ Array.replicate (fn.ntmps - us.toArray.size) undef,defers:=[] }:=by
  refine ⟨by simp; omega,fun t x hx=>?_⟩
  rw [uS] at hx
  simp only [Nat.zero_le,if_true,Nat.sub_zero] at hx
  have hlt:t < us.length:=by rw [hl]; exact (List.getElem?_eq_some_iff.1 hx).1
  have hu:=List.getElem?_eq_getElem hlt
  exact ⟨us[t],by rw [Array.getElem?_append_left (by simpa using hlt)]; simp,hr t x _ hx hu⟩
 refine h cx w _ _ hS he (fun r hr=>?_)
 obtain ⟨x,e,S1⟩:=r
 cases x with
 | normal =>
  obtain ⟨rv,hrv,hq⟩:=hr
  intro cx' a' w' q1 q2 q3 q4
  obtain ⟨u,r1,r2⟩:=p9 q1 q3 hrv
  exact ⟨q4,u,r1,_,hq,cx',q1,q2,u,rfl,r2⟩
 | ret =>
  obtain ⟨rv,hrv,hq⟩:=hr
  intro cx' a' w' q1 q2 q3 q4
  obtain ⟨u,r1,r2⟩:=p9 q1 q3 hrv
  exact ⟨q4,u,r1,_,hq,cx',q1,q2,u,rfl,r2⟩
 | panic pv =>
  intro cx' a' w' u q1 q2 q3 q4
  exact ⟨q4,_,hr,cx',q1,q2,u,rfl,q3⟩
 | exit id=>exact hr.elim
end
end Go.Ev

namespace Go.Ev
noncomputable section
set_option linter.unusedVariables false
set_option linter.unusedSimpArgs false
variable {R:bL} {C:gK} {P:Program} {nt:Nat}
def wD.under (n:Nat):wD→Prop
 | .cells _ cs=>∀ x ∈ cs,x.under n=true
 | .map m=>∀ p ∈ m.es,p.2.1.under n=true
 | .obj _ _=>True
structure uZ (S0 S S2:St):Prop where
 nx:S2.nx=S0.nx
 H:∀ id b,S2.H.get id=some b→S.H.get id=some b∧live S0 id∧b.under S0.nx
 T:∀ id n,S2.T.get id=some n→S.T.get id=some n∧live S0 id
theorem vo {n:Nat}:∀ {l:List AV},(∀ x ∈ l,x.under n=true)→belows n l=true
 | [],_=>rfl
 | x :: l,h=>by simp only [belows,h x List.mem_cons_self,vo (fun y hy=>h y (List.mem_cons_of_mem _ hy)),Bool.and_self]
theorem qD {n:Nat} {xs:List AV} {vs:List Value} (hl:vs.length=xs.length) (h:∀ (i:Nat) (x:AV) (v:Value),xs[i]? = some x→vs[i]? = some v→x.under n=true):belows n xs=true :=
 vo fun x hx=>by
  obtain ⟨i,hi,rfl⟩:=List.getElem_of_mem hx
  exact h i xs[i] vs[i] (List.getElem?_eq_getElem hi) (List.getElem?_eq_getElem (by omega))
theorem aF.under {cx:Cx} {S:St} {w:World} {x:AV} {v:Value} (h:aF cx S w x v):x.under S.nx=true:=by
 have bl:∀ {a b:Nat},a < b→Nat.blt a b=true:=fun h=>Nat.ble_eq_true_of_le h
 induction h with
 | d x v h=>rfl
 | tsl xs tok b off cap hn h hp=>exact bl hn.1
 | ptr id g off b hn hp=>exact bl hn.1
 | msl id g off len lim sz b cap hn hl hcap h63 hp=>exact bl hn.1
 | asl id g off len sz b hn h63 hp=>exact bl hn.1
 | eptr x off b o vs h hc=>rfl
 | map id b hn hp=>exact bl hn.1
 | fn f cs vs hl h ih=>simp only [AV.under]; exact qD hl ih
 | agg xs vs hl ho h ih=>simp only [AV.under]; exact qD hl ih
 | tup xs vs hl h ih=>simp only [AV.under]; exact qD hl ih
 | any v=>rfl
 | it0 k g since st b seen hn hp=>exact bl hn.1
 | it k g id since st b m seen hn hni hm hp=>simp only [AV.under,bl hn.1,bl hni.1,Bool.and_self]
theorem aS.under {cx:Cx} {S:St} {w:World} (h:aS R cx S w) {id:Nat} {b:wD} (hb:S.H.get id=some b):b.under S.nx:=by
 cases b with
 | cells g cs =>
  obtain ⟨_,_,arr,el,_,_,h3⟩:=h.cells id g cs hb
  intro x hx
  obtain ⟨i,hi,rfl⟩:=List.getElem_of_mem hx
  obtain ⟨v,_,h4,_⟩:=h3 i cs[i] (List.getElem?_eq_getElem hi)
  exact h4.under
 | map m =>
  obtain ⟨_,_,ms,clk,_,⟨h2,_,_⟩,h3⟩:=h.maps id m hb
  intro p hp
  obtain ⟨i,hi,rfl⟩:=List.getElem_of_mem hp
  exact (h3 i m.es[i] ms[i] (List.getElem?_eq_getElem hi) (Array.getElem?_eq_getElem (by omega))).2.under
 | obj k x=>trivial
theorem lh {cx:Cx} {S0 S S2:St} {w:World} (h:aS R cx S w) (s:uZ S0 S S2) {id g:Nat} (hc:cur S2 id=some g):cur S id=some g:=by
 unfold cur at hc ⊢
 cases hH:AL.get S2.H id with
 | some b =>
  rw [hH] at hc
  rw [(s.H id b hH).1]
  cases b <;> exact hc
 | none =>
  rw [hH] at hc
  simp only at hc
  have hT:=(s.T _ _ hc).1
  cases hS:S.H.get id with
  | some b=>have:=h.dis id b hS; rw [this] at hT; cases hT
  | none=>exact hT
theorem Ec {S0 S S2:St} (s:uZ S0 S S2) {id:Nat} (hl:live S2 id):live S0 id:=by
 cases hH:AL.get S2.H id with
 | some b=>exact (s.H id b hH).2.1
 | none =>
  cases hT:AL.get S2.T id with
  | none=>exact absurd (by unfold cur; rw [hH]; exact hT) hl
  | some en=>exact (s.T id en hT).2
theorem pg {S0 S S2:St} (s:uZ S0 S S2) {k g:Nat} (h:isIt S2 k g):isIt S k g:=(s.H _ _ h).1
theorem sD {cx:Cx} {S0 S S2:St} {w:World} (h:aS R cx S w) (s:uZ S0 S S2) {i:Nat} (hi:cur S2 i ≠ none):cur S i ≠ none:=by
 cases hc:cur S2 i with
 | none=>exact absurd hc hi
 | some g=>rw [lh h s hc]; simp
theorem aF.sub {cx:Cx} {S0 S S2:St} {w:World} (h:aS R cx S w) (s:uZ S0 S S2) {x:AV} {v:Value} (hx:aF cx S w x v) (hu:x.under S0.nx=true):aF cx S2 w x v:=by
 have nm:∀ {id g:Nat},Names S id g→id < S0.nx→Names S2 id g:=fun hn hlt=>⟨by rw [s.nx]; exact hlt,fun g' hg=>hn.2 g' (lh h s hg)⟩
 induction hx with
 | d x v hd=>exact .d x v hd
 | tsl xs tok b off cap hn hd hp =>
  simp only [AV.under] at hu
  exact .tsl xs tok b off cap (nm hn (Nat.le_of_ble_eq_true hu)) hd (fun hc=>hp (lh h s hc))
 | ptr id g off b hn hp =>
  simp only [AV.under] at hu
  exact .ptr id g off b (nm hn (Nat.le_of_ble_eq_true hu)) (fun hc=>hp (lh h s hc))
 | msl id g off len lim sz b cap hn hl hcap h63 hp =>
  simp only [AV.under] at hu
  exact .msl id g off len lim sz b cap (nm hn (Nat.le_of_ble_eq_true hu)) hl hcap h63 (fun hc=>hp (lh h s hc))
 | any v=>exact .any v
 | eptr x off b o vs hd hc=>exact .eptr x off b o vs hd hc
 | map id b hn hp =>
  simp only [AV.under] at hu
  exact .map id b (nm hn (Nat.le_of_ble_eq_true hu)) (fun hc=>hp (lh h s hc))
 | asl id g off len sz b hn h63 hp =>
  simp only [AV.under] at hu
  exact .asl id g off len sz b (nm hn (Nat.le_of_ble_eq_true hu)) h63 (fun hc=>hp (lh h s hc))
 | fn f cs vs hl hr ih=>exact .fn f cs vs hl (fun i x v hx hv=>ih i x v hx hv (by simp only [AV.under] at hu; exact nD hu x (List.mem_of_getElem? hx)))
 | agg xs vs hl ho hr ih=>exact .agg xs vs hl ho (fun i x v hx hv=>ih i x v hx hv (by simp only [AV.under] at hu; exact nD hu x (List.mem_of_getElem? hx)))
 | tup xs vs hl hr ih=>exact .tup xs vs hl (fun i x v hx hv=>ih i x v hx hv (by simp only [AV.under] at hu; exact nD hu x (List.mem_of_getElem? hx)))
 | it0 k g since st b seen hn hp =>
  simp only [AV.under] at hu
  refine .it0 k g since st b seen (nm hn (Nat.le_of_ble_eq_true hu)) (fun hk=>?_)
  obtain ⟨p1,p2,p3,p4⟩:=hp (pg s hk)
  exact ⟨p1,p2,fun i hi hf=>p3 i (sD h s hi) hf,p4⟩
 | it k g id since st b m seen hn hni hm hp =>
  simp only [AV.under,Bool.and_eq_true] at hu
  refine .it k g id since st b m seen (nm hn (Nat.le_of_ble_eq_true hu.1)) (nm hni (Nat.le_of_ble_eq_true hu.2)) (fun hc=>hm (lh h s hc)) (fun hk=>?_)
  obtain ⟨p1,p2,p3,p4⟩:=hp (pg s hk)
  exact ⟨p1,p2,fun i hi hf=>p3 i (sD h s hi) hf,p4⟩
theorem Ca {cx0 cx:Cx} {S0 S S2:St} {w0 w:World} (wf0:∀ id,live S0 id→id < S0.nx) (h:aS R cx S w) (e:Ext cx0 S0 w0 cx S w) (s:uZ S0 S S2) :
  aS R cx S2 w∧Ext cx0 S0 w0 cx S2 w:=by
 have hlS:∀ id,live S2 id→live S id:=fun id hl=>sD h s hl
 refine ⟨⟨fun id hl=>by rw [s.nx]; exact wf0 id (Ec s hl),fun id b hi=>?_,fun id g cs hi=>?_,fun id es hi=>?_,fun id k x hi=>?_,fun id en hi=>?_,fun id id' b a1 a2=>h.sep id id' b (hlS id a1) (hlS id' a2),h.lt,h.stat⟩,?_⟩
 ·
  have hS:=(s.H _ _ hi).1
  cases hT:S2.T.get id with
  | none=>rfl
  | some en=>have:=(s.T _ _ hT).1; rw [h.dis id b hS] at this; cases this
 ·
  obtain ⟨hS,_,hbl⟩:=s.H _ _ hi
  obtain ⟨c1,c2,arr,el,c3,c4,c5⟩:=h.cells id g cs hS
  refine ⟨c1,c2,arr,el,c3,c4,fun i x hx=>?_⟩
  obtain ⟨v,v1,v2,v3⟩:=c5 i x hx
  exact ⟨v,v1,v2.sub h s (hbl x (List.mem_of_getElem? hx)),v3⟩
 ·
  obtain ⟨hS,_,hbl⟩:=s.H _ _ hi
  obtain ⟨c1,c2,ms,clk,c3,c4,c5⟩:=h.maps id es hS
  refine ⟨c1,c2,ms,clk,c3,c4,fun i p m hp hm=>?_⟩
  obtain ⟨v1,v2⟩:=c5 i p m hp hm
  exact ⟨v1,v2.sub h s (hbl p (List.mem_of_getElem? hp))⟩
 ·
  exact h.objs id k x (s.H _ _ hi).1
 ·
  exact h.toks id en (s.T _ _ hi).1
 ·
  refine ⟨e.size,e.os,e.tape,e.output,by rw [s.nx]; exact Nat.le_refl _,e.prot,fun b hb hn=>e.other b hb (fun id hl hf=>by
   obtain ⟨q1,g,q2,q3⟩:=hn id hl hf
   exact ⟨q1,g,q2,pg s q3⟩),fun id b hl hf=>?_,fun id g hid hi=>e.back id g hid (pg s hi),fun id g b hid h0 hi hf=>e.keep id g b hid h0 (pg s hi) hf,fun id g hid hg=>e.curs id g hid (lh h s hg)⟩
  exact e.own id b (hlS id hl) hf
structure nX (S S':St):Prop where
 nx:S.nx ≤ S'.nx
 H:∀ id b,S.H.get id=some b→S'.H.get id=some b
 T:∀ id n,S.T.get id=some n→S'.T.get id=some n
theorem nX.refl (S:St):nX S S:=⟨Nat.le_refl _,fun _ _ h=>h,fun _ _ h=>h⟩
theorem nX.trans {S S' S'':St} (a:nX S S') (b:nX S' S''):nX S S'':=⟨Nat.le_trans a.nx b.nx,fun _ _ h=>b.H _ _ (a.H _ _ h),fun _ _ h=>b.T _ _ (a.T _ _ h)⟩
theorem nX.sub {cx:Cx} {S S':St} {w:World} (h:aS R cx S w) (k:nX S S'):uZ S S' S where
 nx:=rfl
 H:=fun id b hb=>⟨k.H id b hb,by unfold live cur; rw [hb]; cases b <;> simp,h.under hb⟩
 T:=fun id n hn=>⟨k.T id n hn,by
  unfold live cur
  cases hH:S.H.get id with
  | none=>simp only [hn]; simp
  | some b=>cases b <;> simp⟩
def St.Wf (S:St):Prop:=∀ id,live S id→id < S.nx
theorem St.Wf.H {S:St} (h:S.Wf) {id:Nat} {b:wD} (hb:S.H.get id=some b):id < S.nx:=h id (by unfold live cur; rw [hb]; cases b <;> simp)
theorem St.Wf.fresh {S:St} (h:S.Wf) {id:Nat} (hi:S.nx ≤ id):S.H.get id=none:=by
 cases hb:S.H.get id with
 | none=>rfl
 | some b=>have:=h.H hb; omega
theorem ai.nil {ops:Array Oper} {e:Env} {S:St} {Q:Stp→Prop} (h:Q (.go e S)):ai R C nt ops [] e S Q:=⟨e,.refl e,h⟩
end
end Go.Ev

namespace Go.Ev
noncomputable section
set_option linter.unusedVariables false
set_option linter.unusedSimpArgs false
variable {R:bL} {C:gK} {P:Program} {nt:Nat}
mutual
def D.cn:D→D
 | .bJ=>.sl [] false
 | .sl xs _=>.sl (D.Gd xs) false
 | .agg xs=>.agg (D.Gd xs)
 | .iface t x=>.iface t (D.cn x)
 | x=>x
def D.Gd:List D→List D
 | []=>[]
 | x :: xs=>D.cn x :: D.Gd xs
end
def lY (y x:D):Prop:=∀ (w:World) (fr:Nat→Nat→Prop) (v:Value),bA w fr x v→bA w fr y v
theorem lY.refl (x:D):lY x x:=fun _ _ _ h=>h
theorem lY.less {x y:D} (h:lY y x):Less (.d y) (.d x):=fun cx S w v hr=>.d _ _ (h _ _ _ hr.dd)
inductive ku:List D→List D→Prop
 | nil:ku [] []
 | cons {y x:D} {ys xs:List D} (h:lY y x) (k:ku ys xs):ku (y :: ys) (x :: xs)
theorem ku.len {ys xs:List D} (h:ku ys xs):ys.length=xs.length:=by
 induction h with
 | nil=>rfl
 | cons _ _ ih=>simp [ih]
theorem ku.get {ys xs:List D} (h:ku ys xs):∀ {i:Nat} {y x:D},ys[i]? = some y→xs[i]? = some x→lY y x:=by
 induction h with
 | nil=>intro i y x h; simp at h
 | cons h k ih =>
  intro i y x h1 h2
  cases i with
  | zero=>simp at h1 h2; subst h1; subst h2; exact h
  | succ i=>exact ih (by simpa using h1) (by simpa using h2)
theorem ku.refl:∀ (l:List D),ku l l
 | []=>.nil
 | x :: l=>.cons (.refl x) (.refl l)
def av (args:List AV) (ds:List D):Prop:=∃ ds',jW args=some ds'∧ku ds ds'
def aY (R:bL) (P:Program) (f:Nat) (ds:List D) (v:AV):Prop:=∀ args S,av args ds→gm R P f args S (fun r=>r=(none,v,S))
inductive za:AV→AV→Prop
 | one {y x:D} (h:lY y x):za (.d y) (.d x)
 | tup {ys xs:List D} (h:ku ys xs):za (.tup (ys.map .d)) (.tup (xs.map .d))
theorem za.rel {y x:AV} (h:za y x) {cx:Cx} {S:St} {w:World} {v:Value} (hr:aF cx S w x v):aF cx S w y v:=by
 cases h with
 | one h=>exact h.less cx S w v hr
 | tup h =>
  cases hr with
  | tup _ us hl hr =>
   refine .tup _ us (by rw [hl]; simp [h.len]) (fun i x z hx hz=>?_)
   simp only [List.getElem?_map,Option.map_eq_some_iff] at hx
   obtain ⟨y,hy,rfl⟩:=hx
   rename_i xs
   have hlt:i < xs.length:=by rw [← h.len]; exact (List.getElem?_eq_some_iff.1 hy).1
   have hx':=List.getElem?_eq_getElem hlt
   exact .d _ _ (h.get hy hx' _ _ _ (hr i (.d xs[i]) z (by simp [hx']) hz).dd)
theorem aY.of_wp (hR:ObjOk R) {f:Nat} {fn:Func} {c:Code} (hf:C.P.funcs[f]? = some fn) (hc:fn.body=some c) (hn:(fn.name == "runtime.NumGoroutine")=false) {ds:List D} (hle:Nat.ble ds.length fn.ntmps=true) {v:AV}
  (h:aj R C.P fn.ntmps c (ou 0 (ds.map .d)) ay (EO C fn (fun r=>r.1=none∧∃ v',vV r.2.1=some v'∧za v v'))):aY R C.P f ds v:=by
 intro args S ⟨ds',ha,hds⟩
 obtain ⟨d1,d2⟩:=rR ha
 have hlen:ds.length=args.length:=by rw [hds.len,d1]
 have hs:=gm.of_wp hf hc hn (args:=ds.map .d) (by simpa using Nat.le_of_ble_eq_true hle) h
 refine ⟨hs.1,fun cx w us hS hl hr=>?_⟩
 refine (hs.2 cx w us (Dz hS) (by simp [hl,hlen]) (fun i x u hx hu=>?_)).mono (fun e w' he=>?_)
 ·
  simp only [List.getElem?_map,Option.map_eq_some_iff] at hx
  obtain ⟨y,hy,rfl⟩:=hx
  have hlt:i < args.length:=by rw [← hlen]; exact (List.getElem?_eq_some_iff.1 hy).1
  have ha:=List.getElem?_eq_getElem hlt
  have hz:=List.getElem?_eq_getElem (show i < ds'.length by rw [← hds.len,hlen]; exact hlt)
  exact .d _ u (hds.get hy hz _ _ _ (kz (d2 i _ _ ha hz) (hr i _ u ha hu)))
 ·
  obtain ⟨⟨p,v1,S1⟩,⟨hp,v',hv,hcn⟩,cx1,k1,k2,k3⟩:=he
  simp only at hp hv
  subst hp
  obtain ⟨m1,m2,m3⟩:=xD hR hS k2
  obtain ⟨u,rfl,k3⟩:=k3
  exact ⟨_,rfl,cx,m1,m2,u,rfl,hcn.rel (u6 hv k3 (cx':=cx) (S':=S) (w':=w') m3)⟩
inductive kT:List AV→List AV→Prop
 | nil:kT [] []
 | cons {y x:AV} {ys xs:List AV} (h:Less y x) (k:kT ys xs):kT (y :: ys) (x :: xs)
theorem kT.len {ys xs:List AV} (h:kT ys xs):ys.length=xs.length:=by
 induction h with
 | nil=>rfl
 | cons _ _ ih=>simp [ih]
theorem kT.get {ys xs:List AV} (h:kT ys xs):∀ {i:Nat} {y x:AV},ys[i]? = some y→xs[i]? = some x→Less y x:=by
 induction h with
 | nil=>intro i y x h; simp at h
 | cons h k ih =>
  intro i y x h1 h2
  cases i with
  | zero=>simp at h1 h2; subst h1; subst h2; exact h
  | succ i=>exact ih (by simpa using h1) (by simpa using h2)
theorem kT.refl:∀ (l:List AV),kT l l
 | []=>.nil
 | x :: l=>.cons (.refl x) (.refl l)
inductive eH where
 | box (id:Nat) (cs:List AV)
 | grow (v:AV) (xs:List D)
 | obj (id k:Nat) (x:D)
 | map (id:Nat) (m:uk)
 | row (sz:Nat) (v:AV) (xs:List D)
 | abs (ids:List Nat) (p:St→Prop)
def EK:List D→Bool
 | []=>true
 | x :: l=>!x.isAgg && EK l
def eH.fp:eH→List Nat
 | .box id _=>[id]
 | .grow (.tsl _ tok) _=>[tok]
 | .grow _ _=>[]
 | .obj id _ _=>[id]
 | .map id _=>[id]
 | .row _ (.msl id _ _ _ _ _) _=>[id]
 | .row _ _ _=>[]
 | .abs ids _=>ids
def eH.ok (S:St):eH→Prop
 | .box id cs=>S.H.get id=some (.cells 0 cs)
 | .grow v xs=>match v with
  | .d .bJ=>xs=[]
  | .d (.sl ys true)=>ys=xs
  | .tsl ys tok=>ys=xs∧xs ≠ []∧S.T.get tok=some xs.length∧S.H.get tok=none
  | _=>False
 | .obj id k x=>S.H.get id=some (.obj k x)
 | .map id m=>S.H.get id=some (.map m)
 | .row sz v xs=>match v with
  | .d .bJ=>xs=[]
  | .d (.sl [] true)=>xs=[]
  | .msl id g off len lim sz'=>off=0∧len=xs.length∧lim=xs.length∧sz'=sz∧0 < sz∧(∀ x ∈ xs,x.cells.length=sz∧EK x.cells=true)∧∃ cs,kT ((xs.map D.cells).flatten.map .d) cs∧S.H.get id=some (.cells g cs)
  | _=>False
 | .abs ids p=>(∀ id ∈ ids,∃ b,S.H.get id=some b)∧∀ S',(∀ id ∈ ids,S'.H.get id=S.H.get id)→p S'
structure Has (B S:St) (l:List eH):Prop where
 wf:S.Wf
 ok:∀ a ∈ l,a.ok S
 nd:(l.map eH.fp).flatten.Nodup
 bwf:B.Wf
 keeps:nX B S
 out:∀ a ∈ l,∀ id ∈ a.fp,B.H.get id=none∧B.T.get id=none
theorem yG {S:St} {id n:Nat} (h:S.T.get id=some n):live S id:=by
 unfold live cur
 cases hH:S.H.get id with
 | none=>simp only [h]; simp
 | some b=>cases b <;> simp
theorem qo {S:St} {id:Nat} {b:wD} (h:S.H.get id=some b):live S id:=by
 unfold live cur; rw [h]; cases b <;> simp
theorem eH.lt {S:St} (wf:S.Wf) {a:eH} (h:a.ok S):∀ id ∈ a.fp,id < S.nx:=by
 intro id hid
 cases a with
 | box i cs=>simp only [eH.fp,List.mem_singleton] at hid; subst hid; exact wf _ (qo h)
 | grow v xs =>
  cases v <;> simp only [eH.fp,List.not_mem_nil,List.mem_singleton] at hid
  subst hid
  exact wf _ (yG h.2.2.1)
 | obj i k x=>simp only [eH.fp,List.mem_singleton] at hid; subst hid; exact wf _ (qo h)
 | map i m=>simp only [eH.fp,List.mem_singleton] at hid; subst hid; exact wf _ (qo h)
 | row sz v xs =>
  cases v <;> simp only [eH.fp,List.not_mem_nil,List.mem_singleton] at hid
  subst hid
  obtain ⟨_,_,hc⟩:=h.2.2.2.2.2.2; exact wf _ (qo hc)
 | abs ids p =>
  obtain ⟨b,hb⟩:=h.1 id hid
  exact wf _ (qo hb)
theorem eH.keep {S S':St} {a:eH} (h:a.ok S) (hH:∀ id ∈ a.fp,S'.H.get id=S.H.get id) (hT:∀ id ∈ a.fp,S'.T.get id=S.T.get id):a.ok S':=by
 cases a with
 | box i cs=>simp only [eH.ok] at h ⊢; rw [hH i (by simp [eH.fp])]; exact h
 | grow v xs =>
  cases v with
  | tsl ys tok=>simp only [eH.ok] at h ⊢; rw [hH tok (by simp [eH.fp]),hT tok (by simp [eH.fp])]; exact h
  | d x=>cases x with
   | sl ys t=>cases t <;> exact h
   | _=>exact h
  | _=>exact h
 | obj i k x=>simp only [eH.ok] at h ⊢; rw [hH i (by simp [eH.fp])]; exact h
 | map i m=>simp only [eH.ok] at h ⊢; rw [hH i (by simp [eH.fp])]; exact h
 | row sz v xs =>
  cases v with
  | msl id g off len lim sz=>simp only [eH.ok] at h ⊢; rw [hH id (by simp [eH.fp])]; exact h
  | d x=>cases x with
   | sl ys t=>cases ys <;> cases t <;> exact h
   | _=>exact h
  | _=>exact h
 | abs ids p=>exact ⟨fun id hid=>by rw [hH id hid]; exact h.1 id hid,fun S2 h2=>h.2 S2 (fun id hid=>(h2 id hid).trans (hH id hid))⟩
theorem Has.start {S:St} (wf:S.Wf):Has S S []:=⟨wf,(fun a h=>by cases h),by simp,wf,.refl S,(fun a h=>by cases h)⟩
theorem Has.pure:Has ay ay []:=.start fun id h=>absurd rfl h
theorem Dn {α β:Type} (f:α→List β) {l' l:List α} (s:l'.Sublist l):(l'.map f).flatten.Sublist (l.map f).flatten:=by
 induction s with
 | slnil=>exact List.Sublist.refl _
 | cons a _ ih=>exact ih.trans (by simp)
 | cons_cons a _ ih=>simpa using ih.append_left (f a)
theorem Has.new {B S:St} {l:List eH} (h:Has B S l) (b:wD) {a:eH} (hf:a.fp=[S.nx]) (ha:a.ok (bX S b)):Has B (bX S b) (a :: l):=by
 have hlt:∀ x ∈ l,∀ id ∈ x.fp,id < S.nx:=fun x hx=>eH.lt h.wf (h.ok x hx)
 refine ⟨fun id hl=>?_,fun x hx=>?_,?_,h.bwf,⟨Nat.le_trans h.keeps.nx (Nat.le_succ _),fun id b' hb'=>?_,fun id n hn=>h.keeps.T id n hn⟩,fun x hx id hid=>?_⟩
 rotate_left 3
 ·
  have:=h.bwf.H hb'
  have:=h.keeps.nx
  simp only [bX,AL.aR]
  rw [if_neg (by omega)]; exact h.keeps.H id b' hb'
 ·
  rcases List.mem_cons.1 hx with rfl | hx
  ·
   rw [hf,List.mem_singleton] at hid
   subst hid
   have hnl:¬ live B S.nx:=fun hl=>by have:=h.bwf _ hl; have:=h.keeps.nx; omega
   refine ⟨?_,?_⟩
   ·
    cases hB:B.H.get S.nx with
    | none=>rfl
    | some b'=>exact (hnl (qo hB)).elim
   ·
    cases hB:B.T.get S.nx with
    | none=>rfl
    | some b'=>exact (hnl (yG hB)).elim
  ·
   exact h.out x hx id hid
 ·
  show id < S.nx + 1
  unfold live cur at hl
  simp only [bX,AL.aR] at hl
  by_cases hi:S.nx=id
  ·
   omega
  ·
   rw [if_neg hi] at hl
   have:=h.wf id hl
   omega
 ·
  rcases List.mem_cons.1 hx with rfl | hx
  ·
   exact ha
  ·
   refine eH.keep (h.ok x hx) (fun id hid=>?_) (fun id hid=>rfl)
   have:=hlt x hx id hid
   simp only [bX,AL.aR]
   rw [if_neg (by omega)]
 ·
  rw [List.map_cons,List.flatten_cons,hf,List.singleton_append,List.nodup_cons]
  refine ⟨fun hm=>?_,h.nd⟩
  obtain ⟨fps,hfps,hid⟩:=List.mem_flatten.1 hm
  obtain ⟨x,hx,rfl⟩:=List.mem_map.1 hfps
  have:=hlt x hx _ hid
  omega
theorem Has.box {B S:St} {l:List eH} (h:Has B S l) (cs:List AV):Has B (bX S (.cells 0 cs)) (.box S.nx cs :: l) :=
 h.new _ rfl (by simp [eH.ok,bX,AL.aR])
theorem Has.yx {B S:St} {l:List eH} (h:Has B S l):AL.has S.H S.nx=false:=by
 cases hb:AL.has S.H S.nx with
 | false=>rfl
 | true =>
  obtain ⟨b,hb⟩:=AL.uT hb
  have:=h.wf _ (qo hb)
  omega
theorem xY {l:List eH} (hn:(l.map eH.fp).flatten.Nodup) {i j:Nat} {a b:eH} (ha:l[i]? = some a) (hb:l[j]? = some b) (hij:i ≠ j) {id:Nat} (h1:id ∈ a.fp) (h2:id ∈ b.fp):False:=by
 induction l generalizing i j with
 | nil=>simp at ha
 | cons x l ih =>
  rw [List.map_cons,List.flatten_cons,List.nodup_append] at hn
  obtain ⟨n1,n2,n3⟩:=hn
  cases i with
  | zero =>
   cases j with
   | zero=>exact hij rfl
   | succ j =>
    simp only [List.getElem?_cons_zero,Option.some.injEq] at ha
    subst ha
    simp only [List.getElem?_cons_succ] at hb
    exact n3 id h1 id (List.mem_flatten.2 ⟨_,List.mem_map.2 ⟨b,List.mem_of_getElem? hb,rfl⟩,h2⟩) rfl
  | succ i =>
   simp only [List.getElem?_cons_succ] at ha
   cases j with
   | zero =>
    simp only [List.getElem?_cons_zero,Option.some.injEq] at hb
    subst hb
    exact n3 id h2 id (List.mem_flatten.2 ⟨_,List.mem_map.2 ⟨a,List.mem_of_getElem? ha,rfl⟩,h1⟩) rfl
   | succ j =>
    simp only [List.getElem?_cons_succ] at hb
    exact ih n2 ha hb (by omega)
theorem Has.set {B S S':St} {l:List eH} (h:Has B S l) {i:Nat} {a a':eH} (hi:l[i]? = some a) (hf:a'.fp=a.fp) (ha:a'.ok S') (wf:S'.Wf)
  (hH:∀ id,id ∉ a.fp→S'.H.get id=S.H.get id) (hT:∀ id,id ∉ a.fp→S'.T.get id=S.T.get id) (hnx:S'.nx=S.nx):Has B S' (l.set i a'):=by
 have hil:i < l.length:=(List.getElem?_eq_some_iff.1 hi).1
 have hma:=List.mem_of_getElem? hi
 refine ⟨wf,fun x hx=>?_,?_,h.bwf,⟨by rw [hnx]; exact h.keeps.nx,fun id b hb=>?_,fun id n hn=>?_⟩,fun x hx id hid=>?_⟩
 rotate_left 2
 ·
  rw [hH id (fun q=>by rw [(h.out a hma id q).1] at hb; cases hb)]; exact h.keeps.H id b hb
 ·
  rw [hT id (fun q=>by rw [(h.out a hma id q).2] at hn; cases hn)]; exact h.keeps.T id n hn
 ·
  rcases List.mem_or_eq_of_mem_set hx with hx | rfl
  ·
   exact h.out x hx id hid
  ·
   rw [hf] at hid; exact h.out a hma id hid
 ·
  obtain ⟨j,hj,rfl⟩:=List.getElem_of_mem hx
  rw [List.length_set] at hj
  by_cases hij:i=j
  ·
   subst hij; rw [List.getElem_set_self]; exact ha
  ·
   rw [List.getElem_set_ne hij]
   have hlj:l[j]? = some l[j]:=List.getElem?_eq_getElem hj
   refine eH.keep (h.ok l[j] (List.getElem_mem hj)) (fun id hid=>hH id (fun q=>xY h.nd hi hlj hij q hid)) (fun id hid=>hT id (fun q=>xY h.nd hi hlj hij q hid))
 ·
  have:(l.set i a').map eH.fp=l.map eH.fp:=by
   apply List.ext_getElem?
   intro j
   rw [List.getElem?_map,List.getElem?_map,List.getElem?_set]
   by_cases hij:i=j
   ·
    subst hij; have:=(List.getElem?_eq_some_iff.1 hi).2; simp [hil,hf,this]
   ·
    simp [hij]
  rw [this]; exact h.nd
theorem Has.at {B S:St} {l:List eH} (h:Has B S l) {i:Nat} {a:eH} (hi:l[i]? = some a):a.ok S:=h.ok a (List.mem_of_getElem? hi)
theorem Has.write {B S:St} {l:List eH} (h:Has B S l) {i id:Nat} {cs cs':List AV} (hi:l[i]? = some (.box id cs)):Has B { S with H:=S.H.set id (.cells 0 cs') } (l.set i (.box id cs')):=by
 have hid:=h.at hi
 refine h.set hi rfl (by simp [eH.ok,AL.aR]) (fun j hl=>?_) (fun j hj=>?_) (fun j hj=>rfl) rfl
 ·
  refine h.wf j ?_
  unfold live cur at hl ⊢
  simp only [AL.aR] at hl
  by_cases hij:id=j
  ·
   subst hij; rw [show S.H.get id=_ from hid]; simp
  ·
   rw [if_neg hij] at hl; exact hl
 ·
  simp only [eH.fp,List.mem_singleton] at hj
  simp only [AL.aR]
  rw [if_neg (fun q=>hj q.symm)]
end
end Go.Ev

namespace Go.Ev
noncomputable section
set_option linter.unusedVariables false
set_option linter.unusedSimpArgs false
variable {R:bL} {C:gK} {P:Program} {nt:Nat}
def nO:Option wD→Option wD→Prop
 | some (.cells g' cs'),some (.cells g cs)=>g'=g∧kT cs' cs
 | a,b=>a=b
theorem nO.refl (a:Option wD):nO a a:=by
 cases a with
 | none=>rfl
 | some b=>cases b with
  | cells g cs=>exact ⟨rfl,.refl _⟩
  | map m=>rfl
  | obj k x=>rfl
structure kV (S2 S:St):Prop where
 nx:S2.nx=S.nx
 T:∀ id,S2.T.get id=S.T.get id
 H:∀ id,nO (S2.H.get id) (S.H.get id)
theorem nO.cases {a b:Option wD} (h:nO a b):a=b∨∃ g cs' cs,a=some (.cells g cs')∧b=some (.cells g cs)∧kT cs' cs:=by
 unfold nO at h
 split at h
 ·
  obtain ⟨rfl,h⟩:=h; exact .inr ⟨_,_,_,rfl,rfl,h⟩
 ·
  exact .inl h
theorem kV.cur {S2 S:St} (k:kV S2 S) (id:Nat):cur S2 id=cur S id:=by
 unfold Ev.cur
 rcases (k.H id).cases with h | ⟨g,cs',cs,h1,h2,_⟩
 ·
  rw [h,k.T]
 ·
  rw [h1,h2]
theorem kV.isIt {S2 S:St} (k:kV S2 S) {id g:Nat}:isIt S2 id g↔isIt S id g:=by
 unfold Ev.isIt
 rcases (k.H id).cases with h | ⟨g,cs',cs,h1,h2,_⟩
 ·
  rw [h]
 ·
  rw [h1,h2]; simp
theorem kV.live {S2 S:St} (k:kV S2 S) {id:Nat}:live S2 id↔live S id:=by unfold Ev.live; rw [k.cur]
theorem kV.refl (S:St):kV S S:=⟨rfl,fun _=>rfl,fun _=>nO.refl _⟩
theorem aF.ja {cx:Cx} {S2 S:St} {w:World} (k:kV S2 S) {x:AV} {v:Value} (h:aF cx S w x v):aF cx S2 w x v:=by
 have nm:∀ {id g:Nat},Names S id g→Names S2 id g:=fun h=>⟨by rw [k.nx]; exact h.1,fun g' hg=>h.2 g' (by rw [← k.cur]; exact hg)⟩
 have cr:∀ {id:Nat} {o:Option Nat},cur S2 id=o→cur S id=o:=fun h=>by rw [← k.cur]; exact h
 induction h with
 | d x v hd=>exact .d x v hd
 | tsl xs tok b off cap hn hd hp=>exact .tsl xs tok b off cap (nm hn) hd (fun hc=>hp (cr hc))
 | ptr id g off b hn hp=>exact .ptr id g off b (nm hn) (fun hc=>hp (cr hc))
 | msl id g off len lim sz b cap hn hl hcap h63 hp=>exact .msl id g off len lim sz b cap (nm hn) hl hcap h63 (fun hc=>hp (cr hc))
 | any v=>exact .any v
 | eptr x off b o vs hd hc=>exact .eptr x off b o vs hd hc
 | map id b hn hp=>exact .map id b (nm hn) (fun hc=>hp (cr hc))
 | asl id g off len sz b hn h63 hp=>exact .asl id g off len sz b (nm hn) h63 (fun hc=>hp (cr hc))
 | fn f cs vs hl hr ih=>exact .fn f cs vs hl ih
 | agg xs vs hl ho hr ih=>exact .agg xs vs hl ho ih
 | tup xs vs hl hr ih=>exact .tup xs vs hl ih
 | it0 k' g since st b seen hn hp =>
  exact .it0 k' g since st b seen (nm hn) (fun hk=>by
   obtain ⟨p1,p2,p3,p4⟩:=hp (k.isIt.1 hk)
   exact ⟨p1,p2,fun i hi hf=>p3 i (by rw [← k.cur]; exact hi) hf,p4⟩)
 | it k' g id since st b m seen hn hni hm hp =>
  exact .it k' g id since st b m seen (nm hn) (nm hni) (fun hc=>hm (cr hc)) (fun hk=>by
   obtain ⟨p1,p2,p3,p4⟩:=hp (k.isIt.1 hk)
   exact ⟨p1,p2,fun i hi hf=>p3 i (by rw [← k.cur]; exact hi) hf,p4⟩)
theorem aS.ja {cx:Cx} {S2 S:St} {w:World} (h:aS R cx S w) (k:kV S2 S):aS R cx S2 w where
 wf:=fun id hl=>by rw [k.nx]; exact h.wf id (k.live.1 hl)
 dis:=fun id b hb=>by
  rw [k.T]
  rcases (k.H id).cases with q | ⟨g,cs',cs,h1,h2,_⟩
  ·
   rw [q] at hb; exact h.dis id b hb
  ·
   exact h.dis id _ h2
 cells:=fun id g cs hb=>by
  rcases (k.H id).cases with q | ⟨g',cs',ds,h1,h2,h3⟩
  ·
   rw [q] at hb
   obtain ⟨c1,c2,arr,el,c3,c4,c5⟩:=h.cells id g cs hb
   refine ⟨c1,c2,arr,el,c3,c4,fun i x hx=>?_⟩
   obtain ⟨v,v1,v2,v3⟩:=c5 i x hx
   exact ⟨v,v1,v2.ja k,v3⟩
  ·
   rw [h1] at hb; cases hb
   obtain ⟨c1,c2,arr,el,c3,c4,c5⟩:=h.cells id _ ds h2
   refine ⟨c1,c2,arr,el,c3,by rw [h3.len]; exact c4,fun i x hx=>?_⟩
   have hlt:i < ds.length:=by rw [← h3.len]; exact (List.getElem?_eq_some_iff.1 hx).1
   have hy:=List.getElem?_eq_getElem hlt
   obtain ⟨v,v1,v2,v3⟩:=c5 i _ hy
   exact ⟨v,v1,(h3.get hx hy _ _ _ _ v2).ja k,v3⟩
 maps:=fun id es hb=>by
  rcases (k.H id).cases with q | ⟨g',cs',ds,h1,h2,h3⟩
  ·
   rw [q] at hb
   obtain ⟨c1,c2,ms,clk,c3,c4,c5⟩:=h.maps id es hb
   refine ⟨c1,c2,ms,clk,c3,c4,fun i p m hp hm=>?_⟩
   obtain ⟨v1,v2⟩:=c5 i p m hp hm
   exact ⟨v1,v2.ja k⟩
  ·
   rw [h1] at hb; cases hb
 objs:=fun id kd x hb=>by
  rcases (k.H id).cases with q | ⟨g',cs',ds,h1,h2,h3⟩
  ·
   rw [q] at hb; exact h.objs id kd x hb
  ·
   rw [h1] at hb; cases hb
 toks:=fun id en hb=>h.toks id en (by rw [← k.T]; exact hb)
 sep:=fun id id' b a1 a2=>h.sep id id' b (k.live.1 a1) (k.live.1 a2)
 lt:=h.lt
 stat:=h.stat
theorem Ext.ja {cx cx':Cx} {S2 S S':St} {w w':World} (k:kV S2 S) (e:Ext cx S2 w cx' S' w'):Ext cx S w cx' S' w' where
 size:=e.size
 os:=e.os
 tape:=e.tape
 output:=e.output
 nx:=by rw [← k.nx]; exact e.nx
 prot:=e.prot
 other:=fun b hb hn=>e.other b hb (fun id hl hf=>by
  obtain ⟨q1,g,q2,q3⟩:=hn id (k.live.1 hl) hf
  exact ⟨by rw [k.nx]; exact q1,g,k.isIt.2 q2,q3⟩)
 own:=fun id b hl hf=>by
  obtain ⟨q1,q2⟩:=e.own id b hl hf
  rw [k.nx] at q1 q2
  exact ⟨fun h=>⟨k.live.1 (q1 h).1,(q1 h).2⟩,q2⟩
 back:=fun id g hid hi=>by
  obtain ⟨g',h⟩:=e.back id g (by rw [k.nx]; exact hid) hi
  exact ⟨g',k.isIt.1 h⟩
 keep:=fun id g b hid h0 hi hf=>e.keep id g b (by rw [k.nx]; exact hid) (k.isIt.2 h0) hi hf
 curs:=fun id g hid hg=>by
  obtain ⟨g0,h0,h1⟩:=e.curs id g (by rw [k.nx]; exact hid) hg
  exact ⟨g0,by rw [← k.cur]; exact h0,h1⟩
theorem Fin.ja {cx:Cx} {S2 S:St} {w:World} {a:Act} {K:Exit→Act→World→Prop} (k:kV S2 S) {r:qU} (h:Fin R cx S w nt a K r):Fin R cx S2 w nt a K r:=by
 obtain ⟨x,e,S'⟩:=r
 cases x with
 | normal=>exact fun cx' a' w' q1 q2 q3 q4=>h cx' a' w' q1 (q2.ja k) q3 q4
 | exit id=>exact fun cx' a' w' q1 q2 q3 q4=>h cx' a' w' q1 (q2.ja k) q3 q4
 | ret=>exact fun cx' a' w' q1 q2 q3 q4=>h cx' a' w' q1 (q2.ja k) q3 q4
 | panic v=>exact fun cx' a' w' u q1 q2 q3 q4=>h cx' a' w' u q1 (q2.ja k) q3 q4
theorem ig.ja {cx:Cx} {S2 S:St} {w:World} {e:Env} {a:Act} (k:kV S2 S) (h:ig cx S w nt e a):ig cx S2 w nt e a :=
 ⟨h.size,fun t x hx=>let ⟨v,v1,v2⟩:=h.rel t x hx; ⟨v,v1,v2.ja k⟩⟩
theorem aj.ja {c:Code} {e:Env} {S2 S:St} {Q:qU→Prop} (k:kV S2 S) (h:aj R P nt c e S2 Q):aj R P nt c e S Q :=
 fun cx w a K h1 h2 h3=>h cx w a K (h1.ja k) (h2.ja k) (fun r q=>(h3 r q).ja k)
theorem kS.ja {c:Code} {e:Env} {S2 S:St} {Q:qU→Prop} (k:kV S2 S) (h:kS R P nt c e S2 Q):kS R P nt c e S Q :=
 fun cx w a K h1 h2 h3=>h cx w a K (h1.ja k) (h2.ja k) (fun r q=>(h3 r q).ja k)
theorem aj.ghost {c:Code} {e e2:Env} {S S2:St} {Q:qU→Prop} (g:mM R nt e S e2 S2) (h:aj R P nt c e2 S2 Q):aj R P nt c e S Q:=fun cx w a K h1 h2 h3=>by
 obtain ⟨c2,q1,q2,q3⟩:=g cx w a h1 h2
 exact h c2 w a K q1 q3 (fun r q=>(h3 r q).trans q2 rfl)
theorem kS.ghost {c:Code} {e e2:Env} {S S2:St} {Q:qU→Prop} (g:mM R nt e S e2 S2) (h:kS R P nt c e2 S2 Q):kS R P nt c e S Q:=fun cx w a K h1 h2 h3=>by
 obtain ⟨c2,q1,q2,q3⟩:=g cx w a h1 h2
 exact h c2 w a K q1 q3 (fun r q=>(h3 r q).trans q2 rfl)
end
end Go.Ev

namespace Go.Ev
noncomputable section
set_option linter.unusedVariables false
set_option linter.unusedSimpArgs false
variable {B:St}
section steps
variable {R:bL} {C:gK} {nt:Nat} {ops:Array Oper} {rest:List Oper} {e:Env} {S S':St} {Q:Stp→Prop} {l l':List eH} {t ty:Nat} {p:String} {af:Array Edge} {g:Option (Nat × Bool)}
theorem ai.one {o:Oper} (hw:dZ ops e o=some true) (h:Ab R C nt o.dst o.op e S (fun r=>match r with
  | .go e' S'=>ai R C nt ops rest e' S' Q
  | .stop v S'=>Q (.stop v S'))):ai R C nt ops (o :: rest) e S Q:=⟨e,S,.refl e S,.inr (.inl ⟨e,.refl e,hw,h⟩)⟩
theorem ai.val {op:Op} {v:AV} (hw:dZ ops e { dst:=some t,op:=op,type:=ty,pos:=p,after:=af,guard:=g }=some true) (ho:oper C (ic e) S op=some (.val v S')) (ht:Nat.blt t nt=true) (k:ai R C nt ops rest ((t,v) :: e) S' Q) :
  ai R C nt ops ({ dst:=some t,op:=op,type:=ty,pos:=p,after:=af,guard:=g } :: rest) e S Q :=
 ai.one hw (.inl ⟨v,S',_,ho,by simp only [Env.put,ht,cond_true],k⟩)
theorem ai.skip {op:Op} (hw:dZ ops e { dst:=none,op:=op,type:=ty,pos:=p,after:=af,guard:=g }=some true) (ho:oper C (ic e) S op=some (.skip S')) (k:ai R C nt ops rest e S' Q) :
  ai R C nt ops ({ dst:=none,op:=op,type:=ty,pos:=p,after:=af,guard:=g } :: rest) e S Q :=
 ai.one hw (.inr (.inl ⟨S',ho,rfl,k⟩))
theorem ai.ret {op:Op} {f:Nat} {args:List AV} {v:AV} (hw:dZ ops e { dst:=some t,op:=op,type:=ty,pos:=p,after:=af,guard:=g }=some true) (ho:oper C (ic e) S op=some (.call f args)) (hs:gm R C.P f args S (fun r=>r=(none,v,S'))) (ht:Nat.blt t nt=true) (k:ai R C nt ops rest ((t,v) :: e) S' Q) :
  ai R C nt ops ({ dst:=some t,op:=op,type:=ty,pos:=p,after:=af,guard:=g } :: rest) e S Q :=
 ai.one hw (.inr (.inr (.inl ⟨f,args,ho,hs.mono fun r hr=>by subst hr; exact ⟨_,by simp only [Env.put,ht,cond_true],k⟩⟩)))
theorem ai.no {op:Op} (hw:dZ ops e { dst:=some t,op:=op,type:=ty,pos:=p,after:=af,guard:=g }=some false) (ht:Nat.blt t nt=true)
  (k:ai R C nt ops rest ((t,.tup []) :: e) S Q) :
  ai R C nt ops ({ dst:=some t,op:=op,type:=ty,pos:=p,after:=af,guard:=g } :: rest) e S Q :=
 ⟨e,S,.refl e S,.inr (.inr (.inl ⟨e,_,.refl e,hw,(by simp only [Env.put,ht,cond_true]),k⟩))⟩
theorem ai.app:∀ (l1:List Oper) {l2:List Oper} {e:Env} {S:St} {Q:Stp→Prop},ai R C nt ops l1 e S (fun r=>match r with | .go e' S'=>ai R C nt ops l2 e' S' Q | .stop v S'=>Q (.stop v S'))→ai R C nt ops (l1 ++ l2) e S Q
 | [],l2,e,S,Q,⟨e2,hs,h⟩=>ai.weak hs h
 | o :: l1,l2,e,S,Q,⟨e2,S2,hs,h⟩=>⟨e2,S2,hs,h.mono fun r hr=>by
   cases r with
   | go e' S'=>exact ai.app l1 hr
   | stop v S'=>exact hr⟩
theorem ai.mono:∀ {L:List Oper} {e:Env} {S:St} {Q Q':Stp→Prop},ai R C nt ops L e S Q→(∀ r,Q r→Q' r)→ai R C nt ops L e S Q'
 | [],e,S,Q,Q',⟨e2,hs,h⟩,hq=>⟨e2,hs,hq _ h⟩
 | o :: l1,e,S,Q,Q',⟨e2,S2,hs,h⟩,hq=>⟨e2,S2,hs,h.mono fun r hr=>by
   cases r with
   | go e' S'=>exact ai.mono hr hq
   | stop v S'=>exact hq _ hr⟩
end steps
section opers
variable {C:gK} {e:Env} {ρ:Operand→Option AV} {S:St} {l l':List eH} {v:AV} {x y:Operand} {t:Nat}
theorem ah (h:ρ x=some v):oper C ρ S (.assign x)=some (.val v S):=by simp only [oper,h,Option.map_some]
theorem ae (h:ρ x=some v):oper C ρ S (.move x)=some (.val v S):=by simp only [oper,h,Option.map_some]
theorem au {c:Operand} {b:Bool} (hc:ρ c=some (.d (.bool b))) (h:ρ (if b then x else y)=some v):oper C ρ S (.pick c x y)=some (.val v S):=by simp only [oper,hc,h,Option.map_some]
theorem CX (H:Has B S l) {cs:List AV} (h:ρ x=some v) (hp:v.plain=true) (hc:v.cells=cs):oper C ρ S (.box t x)=some (.val (.ptr S.nx 0 0) (bX S (.cells 0 cs))):=by
 subst hc
 simp only [oper,h,hp,if_true,H.yx,cond_false]; rfl
theorem AZ (H:Has B S l) {z:D} {cs:List AV} (ho:C.objT t=none) (hz:zeroOf C.P t=some z) (hc:(AV.d z).cells=cs):oper C ρ S (.alloc t)=some (.val (.ptr S.nx 0 0) (bX S (.cells 0 cs))):=by
 subst hc
 simp only [oper,ho,hz,Option.map_some,H.yx,cond_false]; rfl
theorem ax {s fld id g off fo ft o':Nat} (h:ρ x=some (.ptr id g off)) (hf:fE C.P s fld=some (fo,ft)) (hz:Nat.beq (aH C.P ft) 0=false) (ho:off + fo=o'):oper C ρ S (.fieldAddr s x fld)=some (.val (.ptr id g o') S):=by
 subst ho
 simp only [oper,h,hf]
 rw [if_neg (fun q=>by rw [q] at hz; simp at hz)]
theorem aG {P:Program} {cs:List AV} {off:Nat} (ha:gW P t=some false) (h:cs[off]? = some v):part P t cs off=some v:=by simp only [part,ha,h]
theorem jQ {P:Program} {cs:List AV} {off n:Nat} (ha:gW P t=some true) (hz:aH P t=n) (hl:Nat.ble (off + n) cs.length=true):part P t cs off=some (jI ((cs.drop off).take n)):=by
 subst hz
 simp only [part,ha]; rw [if_pos (Nat.le_of_ble_eq_true hl)]
theorem dB {P:Program} {cs:List D} {off:Nat} {d:D} (ha:gW P t=some false) (h:cs[off]? = some d):ik P t cs off=some d:=by simp only [ik,ha,h]
theorem xM {P:Program} {cs:List D} {off n:Nat} (ha:gW P t=some true) (hz:aH P t=n) (hl:Nat.ble (off + n) cs.length=true):ik P t cs off=some (.agg ((cs.drop off).take n)):=by
 subst hz
 simp only [ik,ha]; rw [if_pos (Nat.le_of_ble_eq_true hl)]
theorem aB (H:Has B S l) {i id off:Nat} {cs:List AV} (h:ρ x=some (.ptr id 0 off)) (hi:l[i]? = some (.box id cs)) (hp:part C.P t cs off=some v):oper C ρ S (.load t x)=some (.val v S):=by
 have hb:S.H.get id=some (.cells 0 cs):=H.at hi
 simp only [oper,h,nA,St.look,hb,Nat.beq_refl,cond_true,hp,Option.map_some]
theorem aX {off:Nat} {d r:D} (h:ρ x=some (.eptr d off)) (hp:ik C.P t d.cells off=some r):oper C ρ S (.load t x)=some (.val (.d r) S):=by
 simp only [oper,h,nA,hp,Option.map_some]
theorem Am (H:Has B S l) {i id off n:Nat} {cs cv:List AV} (ha:ρ x=some (.ptr id 0 off)) (hy:ρ y=some v) (hcv:v.cells=cv) (hn:cv.length=n) (hz:aH C.P t=n) (hp:v.plain=true) (hag:(gW C.P t).isSome=true) (hi:l[i]? = some (.box id cs)) (hb:Nat.ble (off + n) cs.length=true) :
  oper C ρ S (.store t x y)=some (.skip { S with H:=S.H.set id (.cells 0 (setAt cs off cv)) }):=by
 subst hcv
 subst hn
 have hg:S.H.get id=some (.cells 0 cs):=H.at hi
 simp only [oper,ha,hy,uD,hg]
 rw [if_pos ⟨hz.symm,hp,hag⟩,if_pos trivial,if_pos (Nat.le_of_ble_eq_true hb)]
 rfl
theorem cz {tt:Nat} {n:Nat} (h:ρ x=some v) (ht:p8 C tt v=true) (hn:mo v S=some n):oper C ρ S (.call { callee:=.builtin .len,args:=#[x],argTypes:=#[tt] })=some (.val (.d (.int .i64 (n:Int))) S):=by
 have:iW ρ [x]=some [v]:=by simp only [iW,h,Option.map_some]
 simp only [oper,this,lq,List.getElem?_toArray,List.getElem?_cons_zero,ht,if_true,hn,Option.map_some]
theorem ak {op:BinOp} {ty:Nat} {a b:AV} {r:D} (hx:ρ x=some a) (hy:ρ y=some b) (hb:gU C.P t op a b=some r):oper C ρ S (.binOp op t x y ty)=some (.val (.d r) S):=by
 simp only [oper,hx,hy,hb,Option.map_some]
theorem bY {b:Bool} (hx:ρ x=some (.d (.bool b))):oper C ρ S (.unOp .not t x)=some (.val (.d (.bool (!b))) S):=by simp only [oper,hx]
theorem fD {src dst:Nat} {k k':IntKind} {n:Int} (hx:ρ x=some (.d (.int k n))) (hs:(C.P.underlying src).isSome=true) (hk:Bf C.P dst=some k'):oper C ρ S (.convert src dst x)=some (.val (.d (.int k' (k'.wrap n))) S):=by
 simp only [oper,hx,uR,hs,if_true,hk,Option.map_some]
theorem aC {i:Nat} {vs:List AV} (hx:ρ x=some (.tup vs)) (hi:vs[i]? = some v):oper C ρ S (.extract x i)=some (.val v S):=by simp only [oper,hx,hi,Option.map_some]
theorem aA {f:Nat} {arr_:Array Operand} {ts:Array Nat} {args:List AV} (ha:iW ρ arr_.toList=some args) (hf:ρ (.func f)=some (.fn f [])):oper C ρ S (.call { callee:=.value (.func f),args:=arr_,argTypes:=ts })=some (.call f args):=by
 simp only [oper,hf,ha,List.append_nil]
theorem bO {n:Int} {k:IntKind} {r:AV} (hx:ρ x=some v) (hy:ρ y=some (.d (.int k n))) (hi:jG C t v (.d (.int k n))=some r):oper C ρ S (.indexAddr t x y)=some (.val r S):=by simp only [oper,hx,hy,hi,Option.map_some]
theorem bM {n:Int} {k:IntKind} {s:List UInt8} {c:UInt8} (hx:ρ x=some (.d (.str s))) (hy:ρ y=some (.d (.int k n))) (hn:0 ≤ n) (ht:nI C.P t=true) (hc:s[n.toNat]? = some c):oper C ρ S (.index t x y)=some (.val (.d (.int .u8 c.toNat)) S):=by
 simp only [oper,hx,hy,hn,ht,decide_true,Bool.and_self,if_true,hc,Option.map_some]
theorem Be {fld fo ft:Nat} {cs:List D} {d:D} (hx:ρ x=some (.d (.agg cs))) (hf:fE C.P t fld=some (fo,ft)) (hp:ik C.P ft cs fo=some d):oper C ρ S (.field t x fld)=some (.val (.d d) S):=by
 simp only [oper,hx,hf,hp,Option.map_some]
theorem bf {P:Program} {k:IntKind} {a b:Int}:gU P t .add (.d (.int k a)) (.d (.int k b))=some (.int k (k.wrap (a + b))):=by simp only [gU,if_true,j3]
theorem fM {P:Program} {k:IntKind} {a b:Int}:gU P t .sub (.d (.int k a)) (.d (.int k b))=some (.int k (k.wrap (a - b))):=by simp only [gU,if_true,j3]
theorem CZ {P:Program} {k:IntKind} {a b:Int} (h:b ≠ 0):gU P t .rem (.d (.int k a)) (.d (.int k b))=some (.int k (a.tmod b)):=by simp only [gU,if_true,j3,if_neg h]
def BX (k:IntKind) (a b:Int):Int:=k.wrap (BitVec.ofInt k.bits a &&& BitVec.ofInt k.bits b).toNat
def Bv (k:IntKind) (a b:Int):Int:=k.wrap (BitVec.ofInt k.bits a ||| BitVec.ofInt k.bits b).toNat
theorem zD {P:Program} {k:IntKind} {a b:Int}:gU P t .and (.d (.int k a)) (.d (.int k b))=some (.int k (BX k a b)):=by simp only [gU,if_true,j3]; rfl
theorem BI {P:Program} {k:IntKind} {a b:Int}:gU P t .or (.d (.int k a)) (.d (.int k b))=some (.int k (Bv k a b)):=by simp only [gU,if_true,j3]; rfl
theorem cZ {P:Program} {k:IntKind} {a b:Int}:gU P t .eql (.d (.int k a)) (.d (.int k b))=some (.bool (a == b)):=by simp only [gU,if_true,j3]
theorem iA {P:Program} {k:IntKind} {a b:Int}:gU P t .neq (.d (.int k a)) (.d (.int k b))=some (.bool (a != b)):=by simp only [gU,if_true,j3]
theorem bE {P:Program} {k:IntKind} {a b:Int}:gU P t .lss (.d (.int k a)) (.d (.int k b))=some (.bool (decide (a < b))):=by simp only [gU,if_true,j3]
theorem fQ {P:Program} {k:IntKind} {a b:Int}:gU P t .leq (.d (.int k a)) (.d (.int k b))=some (.bool (decide (a ≤ b))):=by simp only [gU,if_true,j3]
theorem fO {P:Program} {k:IntKind} {a b:Int}:gU P t .gtr (.d (.int k a)) (.d (.int k b))=some (.bool (decide (b < a))):=by simp only [gU,if_true,j3]
theorem dN {P:Program} {k:IntKind} {a b:Int}:gU P t .geq (.d (.int k a)) (.d (.int k b))=some (.bool (decide (b ≤ a))):=by simp only [gU,if_true,j3]
theorem Eb {P:Program} {a b:List UInt8} (h:a.length + b.length ≤ 4611686018427387904):gU P t .add (.d (.str a)) (.d (.str b))=some (.str (a ++ b)):=by simp only [gU,sH,if_pos h]
theorem jf {P:Program} {a b:List UInt8}:gU P t .eql (.d (.str a)) (.d (.str b))=some (.bool (a == b)):=by simp only [gU,sH]
theorem jJ {P:Program} {a b:List UInt8}:gU P t .neq (.d (.str a)) (.d (.str b))=some (.bool (!(a == b))):=by simp only [gU,sH]
theorem bQ {s:List UInt8} (h:nI C.P t=true):p8 C t (.d (.str s))=true:=by
 unfold nI at h
 unfold p8
 split at h
 ·
  rename_i hu; simp only [hu]
 ·
  cases h
theorem DX {xs:List D} {b:Bool} (h:(cu C.P t).isSome=true):p8 C t (.d (.sl xs b))=true:=by
 unfold cu at h
 unfold p8
 split at h
 ·
  rename_i hu; simp only [hu]
 ·
  cases h
def idx {α:Type} (l:List α) (n:Int):Option α:=if 0 ≤ n then l[n.toNat]? else none
theorem aW {α:Type} {l:List α} {n:Int} {x:α} (h:idx l n=some x):0 ≤ n∧l[n.toNat]? = some x:=by
 unfold idx at h
 split at h
 ·
  rename_i hn; exact ⟨hn,h⟩
 ·
  cases h
theorem df {α:Type} {enc:α→D} {l:List α} {n:Int} {k:IntKind} {z:α} {el:Nat} {b:Bool} (h:idx l n=some z) (he:cu C.P t=some el) (ha:(gW C.P el).isSome=true) (hz:(enc z).cells.length=aH C.P el) :
  jG C t (.d (.sl (l.map enc) b)) (.d (.int k n))=some (.eptr (enc z) 0):=by
 obtain ⟨h0,h1⟩:=aW h
 have:(l.map enc)[n.toNat]? = some (enc z):=by rw [List.getElem?_map,h1]; rfl
 simp only [jG,he,h0,ha,decide_true,Bool.and_self,if_true,this,hz]
end opers
theorem av.nil:av [] []:=⟨[],rfl,.nil⟩
theorem av.fw {x:AV} {d d':D} {xs:List AV} {ds:List D} (h:vH x=some d') (hc:lY d d') (k:av xs ds):av (x :: xs) (d :: ds):=by
 obtain ⟨ds',k1,k2⟩:=k
 exact ⟨d' :: ds',by simp only [jW,h,k1,Option.map_some],.cons hc k2⟩
theorem av.eq {d:D} {xs:List AV} {ds:List D} (k:av xs ds):av (.d d :: xs) (d :: ds):=.fw rfl (.refl d) k
theorem bg {α:Type} {c:Bool} {x y:α} {r:α} (hb:c=true) (h:(if c=true then x else y)=r):x=r:=by rw [if_pos hb] at h; exact h
theorem aZ {α:Type} {c:Bool} {x y:α} {r:α} (hb:c=false) (h:(if c=true then x else y)=r):y=r:=by rw [if_neg (by rw [hb]; simp)] at h; exact h
theorem bind_some {α β:Type} {o:Option α} {f:α→Option β} {r:β} (h:o.bind f=some r):∃ z,o=some z∧f z=some r:=Option.bind_eq_some_iff.1 h
section code
variable {R:bL} {P:Program} {nt:Nat}
def At (R:bL) (nt:Nat) (B:St) {α:Type} (sem:α→Prop) (env:α→Env) (shape:α→List eH) (e:Env) (S:St):Prop:=∃ a e1 S1 S2,mM R nt e S e1 S1∧kV S2 S1∧aa (env a) e1∧Has B S2 (shape a)∧sem a
theorem aj.join {α:Type} (sem:α→Prop) (env:α→Env) (shape:α→List eH) {x y:Code} {e:Env} {S:St} {Q:qU→Prop}
  (hj:∀ a S',Has B S' (shape a)→sem a→aj R P nt y (env a) S' Q)
  (hx:aj R P nt x e S (zN (At R nt B sem env shape) Q)):aj R P nt (.seq x y) e S Q :=
 aj.seq (hx.mono fun r hr=>by
  obtain ⟨q,e',S'⟩:=r
  cases q with
  | normal=>obtain ⟨a,e1,S1,S2,hg,h0,h1,h2,h3⟩:=hr; exact (((hj a S2 h2 h3).weak h1).ja h0).ghost hg
  | exit id=>exact hr
  | ret=>exact hr
  | panic v=>exact hr)
theorem kS.ind {α:Type} (sem:Nat→α→Prop) (env:α→Env) (shape:α→List eH) {c:Code} {Q:qU→Prop} (h0:∀ a,¬ sem 0 a)
  (step:∀ k a S,Has B S (shape a)→sem (k + 1) a→aj R P nt c (env a) S (zN (At R nt B (sem k) env shape) Q)) :
  ∀ k a S,Has B S (shape a)→sem k a→kS R P nt c (env a) S Q
 | 0,a,S,_,h=>(h0 a h).elim
 | k + 1,a,S,hH,h=>kS.round ((step k a S hH h).mono fun r hr=>by
   obtain ⟨q,e',S'⟩:=r
   cases q with
   | normal=>obtain ⟨a',e1,S1,S2,hg,h4,h1,h2,h3⟩:=hr; exact (((kS.ind sem env shape h0 step k a' S2 h2 h3).weak h1).ja h4).ghost hg
   | exit id=>exact hr
   | ret=>exact hr
   | panic v=>exact hr)
theorem kS.start {α:Type} (sem:Nat→α→Prop) (env:α→Env) (shape:α→List eH) {c:Code} {e:Env} {S:St} {Q:qU→Prop} (h0:∀ a,¬ sem 0 a)
  (step:∀ k a S,Has B S (shape a)→sem (k + 1) a→aj R P nt c (env a) S (zN (At R nt B (sem k) env shape) Q))
  (k:Nat) (hat:At R nt B (sem k) env shape e S):aj R P nt (.loop c) e S Q:=by
 obtain ⟨a,e1,S1,S2,hg,h4,hs,hH,h⟩:=hat
 exact aj.loop ((((kS.ind sem env shape h0 step k a S2 hH h).weak hs).ja h4).ghost hg)
end code
theorem Has.IA {S:St} {l:List eH} (h:Has B S l) (is:List Nat) (hn:is.Nodup) {l':List eH} (hl:is.map (fun i=>l[i]?)=l'.map some):Has B S l':=by
 have hget:∀ (j:Nat) (a:eH),l'[j]? = some a→∃ i,is[j]? = some i∧l[i]? = some a:=fun j a hj=>by
  have:(is.map (fun i=>l[i]?))[j]? = some (some a):=by rw [hl,List.getElem?_map,hj]; rfl
  rw [List.getElem?_map,Option.map_eq_some_iff] at this
  exact this
 refine ⟨h.wf,fun a ha=>?_,?_,h.bwf,h.keeps,fun a ha=>?_⟩
 rotate_left 2
 ·
  obtain ⟨j,hj,rfl⟩:=List.getElem_of_mem ha
  obtain ⟨i,_,hi⟩:=hget j _ (List.getElem?_eq_getElem hj)
  exact h.out _ (List.mem_of_getElem? hi)
 ·
  obtain ⟨j,hj,rfl⟩:=List.getElem_of_mem ha
  obtain ⟨i,_,hi⟩:=hget j _ (List.getElem?_eq_getElem hj)
  exact h.at hi
 ·
  clear hl
  induction l' generalizing is with
  | nil=>simp
  | cons a l' ih =>
   cases is with
   | nil=>obtain ⟨i,hi,_⟩:=hget 0 a rfl; simp at hi
   | cons i is =>
    have hn':=List.nodup_cons.1 hn
    have hi:l[i]? = some a:=by
     obtain ⟨i',h1,h2⟩:=hget 0 a rfl
     simp at h1; subst h1; exact h2
    rw [List.map_cons,List.flatten_cons,List.nodup_append]
    have own:a.fp.Nodup:=by
     cases a with
     | grow v xs=>cases v <;> simp [eH.fp]
     | row sz v xs=>cases v <;> simp [eH.fp]
     | abs ids p=>exact h.nd.sublist (List.sublist_flatten_of_mem (List.mem_map.2 ⟨_,List.mem_of_getElem? hi,rfl⟩))
     | _=>simp [eH.fp]
    refine ⟨own,ih is hn'.2 (fun j b hj=>?_),fun x hx y hy hxy=>?_⟩
    ·
     obtain ⟨i',h1,h2⟩:=hget (j + 1) b (by simpa using hj)
     exact ⟨i',by simpa using h1,h2⟩
    ·
     subst hxy
     obtain ⟨fps,hfps,hid⟩:=List.mem_flatten.1 hy
     obtain ⟨b,hb,rfl⟩:=List.mem_map.1 hfps
     obtain ⟨j,hj,rfl⟩:=List.getElem_of_mem hb
     obtain ⟨i',h1,h2⟩:=hget (j + 1) l'[j] (by simp)
     refine xY h.nd hi h2 (fun q=>?_) hx hid
     subst q
     exact hn'.1 (List.mem_of_getElem? (by simpa using h1))
end
end Go.Ev

namespace Go.Ev
noncomputable section
set_option linter.unusedVariables false
set_option linter.unusedSimpArgs false
variable {B:St}
theorem oI {S:St} {v:AV} {xs:List D} (h:(eH.grow v xs).ok S):(∃ d,vH v=some d∧d.cn=.sl (D.Gd xs) false)∧mJ v=some xs∧mo v S=some xs.length∧v.plain=true∧v.cells=[v]:=by
 simp only [eH.ok] at h
 split at h
 ·
  subst h; exact ⟨⟨_,rfl,rfl⟩,rfl,rfl,rfl,rfl⟩
 ·
  subst h; exact ⟨⟨_,rfl,rfl⟩,rfl,rfl,rfl,rfl⟩
 ·
  obtain ⟨rfl,_,_⟩:=h; exact ⟨⟨_,rfl,rfl⟩,rfl,rfl,rfl,rfl⟩
 ·
  exact h.elim
theorem lY.nU (xs:List D) (t:Bool):lY (.sl xs false) (.sl xs t):=fun w fr v h=>by
 refine ⟨?_,h.2⟩
 have h1:=h.1
 generalize hcs:v.cells.toList=cs at h1 ⊢
 cases h1 with
 | sl0 a cap _ _=>exact .sl0 a cap false (fun h=>by cases h)
 | sl _ _ b off cap sz vs hne hcap ht hsz hlen hx hc=>exact .sl xs false b off cap sz vs hne hcap (fun h=>by cases h) hsz hlen hx hc
theorem lY.bJ (b:Bool):lY (.sl [] b) .bJ:=fun w fr v h=>by
 refine ⟨?_,h.2⟩
 have h1:=h.1
 generalize hcs:v.cells.toList=cs at h1 ⊢
 cases h1
 exact .sl0 none 0 b (fun _=>rfl)
theorem Dq {S:St} {v:AV} {xs:List D} (h:(eH.grow v xs).ok S):∃ d,vH v=some d∧lY (.sl xs false) d:=by
 simp only [eH.ok] at h
 split at h
 ·
  subst h; exact ⟨_,rfl,.bJ false⟩
 ·
  subst h; exact ⟨_,rfl,.nU _ _⟩
 ·
  obtain ⟨rfl,_,_⟩:=h; exact ⟨_,rfl,.refl _⟩
 ·
  exact h.elim
theorem Bl {C:gK} {S:St} {l:List eH} (H:Has B S l) {i t:Nat} {v:AV} {xs:List D} (hi:l[i]? = some (.grow v xs)) (h:(cu C.P t).isSome=true):p8 C t v=true:=by
 have hg:=H.at hi
 unfold cu at h
 unfold p8
 split at h
 ·
  rename_i hu
  simp only [hu]
  simp only [eH.ok] at hg
  split at hg
  ·
   rfl
  ·
   rfl
  ·
   rfl
  ·
   exact hg.elim
 ·
  cases h
theorem Ah {S S':St} {l:List eH} (H:Has B S l) {i:Nat} {v:AV} {xs:List D} (hi:l[i]? = some (.grow v xs)):mo v S'=some xs.length:=by
 have hg:=H.at hi
 simp only [eH.ok] at hg
 split at hg
 ·
  subst hg; rfl
 ·
  subst hg; rfl
 ·
  obtain ⟨rfl,_⟩:=hg; rfl
 ·
  exact hg.elim
theorem Has.FT {S:St} {l:List eH} (H:Has B S l) {a:eH} (hf:a.fp=[]) (ha:a.ok S):Has B S (a :: l) where
 wf:=H.wf
 ok:=fun x hx=>by
  rcases List.mem_cons.1 hx with rfl | hx
  ·
   exact ha
  ·
   exact H.ok x hx
 nd:=by rw [List.map_cons,List.flatten_cons,hf,List.nil_append]; exact H.nd
 bwf:=H.bwf
 keeps:=H.keeps
 out:=fun x hx id hid=>by
  rcases List.mem_cons.1 hx with rfl | hx
  ·
   rw [hf] at hid; cases hid
  ·
   exact H.out x hx id hid
theorem Has.rQ {S:St} {l:List eH} (H:Has B S l):Has B S (.grow (.d .bJ) [] :: l):=H.FT rfl rfl
theorem Has.E5 {S S':St} {l:List eH} (h:Has B S l) {i:Nat} {a a':eH} (hi:l[i]? = some a) (hf0:a.fp=[]) (hf:a'.fp=[S.nx]) (ha:a'.ok S') (wf:S'.Wf)
  (hH:∀ id,id < S.nx→S'.H.get id=S.H.get id) (hT:∀ id,id < S.nx→S'.T.get id=S.T.get id) (hnx:S.nx ≤ S'.nx):Has B S' (l.set i a'):=by
 have hil:i < l.length:=(List.getElem?_eq_some_iff.1 hi).1
 have hlt:∀ x ∈ l,∀ id ∈ x.fp,id < S.nx:=fun x hx=>eH.lt h.wf (h.ok x hx)
 have hBlt:∀ id b,B.H.get id=some b→id < S.nx:=fun id b hb=>Nat.lt_of_lt_of_le (h.bwf.H hb) h.keeps.nx
 have hBltT:∀ id n,B.T.get id=some n→id < S.nx:=fun id b hb=>Nat.lt_of_lt_of_le (h.bwf _ (yG hb)) h.keeps.nx
 refine ⟨wf,fun x hx=>?_,?_,h.bwf,⟨Nat.le_trans h.keeps.nx hnx,fun id b hb=>?_,fun id n hn=>?_⟩,fun x hx id hid=>?_⟩
 rotate_left 2
 ·
  rw [hH id (hBlt id b hb)]; exact h.keeps.H id b hb
 ·
  rw [hT id (hBltT id n hn)]; exact h.keeps.T id n hn
 ·
  rcases List.mem_or_eq_of_mem_set hx with hx | rfl
  ·
   exact h.out x hx id hid
  ·
   rw [hf,List.mem_singleton] at hid
   subst hid
   refine ⟨?_,?_⟩
   ·
    cases hB:B.H.get S.nx with
    | none=>rfl
    | some b'=>have:=hBlt _ _ hB; omega
   ·
    cases hB:B.T.get S.nx with
    | none=>rfl
    | some b'=>have:=hBltT _ _ hB; omega
 ·
  obtain ⟨j,hj,rfl⟩:=List.getElem_of_mem hx
  rw [List.length_set] at hj
  by_cases hij:i=j
  ·
   subst hij; rw [List.getElem_set_self]; exact ha
  ·
   rw [List.getElem_set_ne hij]
   exact eH.keep (h.ok l[j] (List.getElem_mem hj)) (fun id hid=>hH id (hlt _ (List.getElem_mem hj) id hid)) (fun id hid=>hT id (hlt _ (List.getElem_mem hj) id hid))
 ·
  have hperm:∀ (l:List eH) (i:Nat),l[i]? = some a→(∀ x ∈ l,∀ id ∈ x.fp,id < S.nx)→(l.map eH.fp).flatten.Nodup→((l.set i a').map eH.fp).flatten.Nodup∧∀ id ∈ ((l.set i a').map eH.fp).flatten,id=S.nx∨id ∈ (l.map eH.fp).flatten:=by
   intro l
   induction l with
   | nil=>intro i hi; simp at hi
   | cons x l ih =>
    intro i hi hlt hnd
    rw [List.map_cons,List.flatten_cons,List.nodup_append] at hnd
    obtain ⟨n1,n2,n3⟩:=hnd
    cases i with
    | zero =>
     simp only [List.getElem?_cons_zero,Option.some.injEq] at hi
     subst hi
     simp only [List.set_cons_zero,List.map_cons,List.flatten_cons,hf,hf0,List.nil_append,List.singleton_append,List.nodup_cons]
     refine ⟨⟨fun hm=>?_,n2⟩,fun id hid=>?_⟩
     ·
      obtain ⟨fps,hfps,hid⟩:=List.mem_flatten.1 hm
      obtain ⟨y,hy,rfl⟩:=List.mem_map.1 hfps
      have:=hlt y (List.mem_cons_of_mem _ hy) _ hid
      omega
     ·
      rcases List.mem_cons.1 hid with rfl | hid
      ·
       exact .inl rfl
      ·
       exact .inr hid
    | succ i =>
     simp only [List.getElem?_cons_succ] at hi
     obtain ⟨m1,m2⟩:=ih i hi (fun y hy=>hlt y (List.mem_cons_of_mem _ hy)) n2
     simp only [List.set_cons_succ,List.map_cons,List.flatten_cons]
     refine ⟨List.nodup_append.2 ⟨n1,m1,fun u hu v hv huv=>?_⟩,fun id hid=>?_⟩
     ·
      subst huv
      rcases m2 u hv with rfl | hv
      ·
       have:=hlt x List.mem_cons_self _ hu; omega
      ·
       exact n3 u hu u hv rfl
     ·
      rcases List.mem_append.1 hid with hid | hid
      ·
       exact .inr (List.mem_append.2 (.inl hid))
      ·
       rcases m2 id hid with rfl | hid
       ·
        exact .inl rfl
       ·
        exact .inr (List.mem_append.2 (.inr hid))
  exact (hperm l i hi hlt h.nd).1
def app {α:Type} (nb:Nat) (l ys:List α):Option (List α):=if (l.length + ys.length) * nb ≤ bound then some (l ++ ys) else none
theorem yZ {α:Type} {nb:Nat} {l ys r:List α} (h:app nb l ys=some r):(l.length + ys.length) * nb ≤ bound∧r=l ++ ys:=by
 unfold app at h
 split at h
 ·
  rename_i hb; exact ⟨hb,(Option.some.inj h).symm⟩
 ·
  cases h
theorem aQ {α:Type} {enc:α→D} {n:Nat} (h:∀ z,(enc z).cells.length=n):∀ (l:List α),sizes n (l.map enc)=true
 | []=>rfl
 | x :: l=>by simp only [List.map_cons,sizes,h,Nat.beq_refl,aQ h l,Bool.and_self]
theorem zT {C:gK} {S:St} {l:List eH} (H:Has B S l) {i:Nat} {v:AV} {xs ys:List D} (hi:l[i]? = some (.grow v xs)) {el nb:Nat} (hb:(xs.length + ys.length) * nb ≤ bound) (hnb:bytesOf C.P el=nb) (h0:(Nat.blt 0 nb && Nat.ble nb 65536)=true)
  (hx:sizes (aH C.P el) xs=true) (hy:sizes (aH C.P el) ys=true) (hz:iB C el=true):∃ v' S',iF C el S v ys=some (v',S')∧Has B S' (l.set i (.grow v' (xs ++ ys))):=by
 subst hnb
 simp only [Bool.and_eq_true] at h0
 have h1:=Nat.le_of_ble_eq_true h0.1
 have h2:=Nat.le_of_ble_eq_true h0.2
 have h1:0 < bytesOf C.P el:=h1
 have hinfo:(C.P.info? el).isSome=true:=by
  unfold iB at hz
  cases hq:C.P.info? el with
  | none=>rw [hq] at hz; cases hz
  | some x=>rfl
 have hil:i < l.length:=(List.getElem?_eq_some_iff.1 hi).1
 have hg:=H.at hi
 by_cases hne:ys.length=0
 ·
  have:ys=[]:=List.eq_nil_of_length_eq_zero hne
  subst this
  refine ⟨v,S,?_,?_⟩
  ·
   simp only [eH.ok] at hg
   split at hg <;> simp_all [iF]
  ·
   rw [List.append_nil]
   have:l.set i (.grow v xs)=l:=by
    apply List.ext_getElem?
    intro j
    rw [List.getElem?_set]
    by_cases hij:i=j
    ·
     subst hij; simp [hil]; exact (List.getElem?_eq_some_iff.1 hi).2.symm
    ·
     simp [hij]
   rw [this]; exact H
 ·
  have fresh:S.H.get S.nx=none:=H.wf.fresh (Nat.le_refl _)
  have new:∀ zs:List D,zs ≠ []→(eH.grow v xs).fp=[]→Has B { S with T:=S.T.set S.nx zs.length,nx:=S.nx + 1 } (l.set i (.grow (.tsl zs S.nx) zs)):=fun zs hzs hfp=>by
   refine H.E5 hi hfp rfl ⟨rfl,hzs,by simp [AL.aR],fresh⟩ (fun id hl=>?_) (fun id hid=>rfl) (fun id hid=>by simp only [AL.aR]; rw [if_neg (by omega)]) (Nat.le_succ _)
   show id < S.nx + 1
   unfold live cur at hl
   cases hH:S.H.get id with
   | some b=>have:=H.wf.H hH; omega
   | none =>
    simp only [hH,AL.aR] at hl
    by_cases hq:S.nx=id
    ·
     omega
    ·
     rw [if_neg hq] at hl
     cases hT:S.T.get id with
     | none=>exact absurd hT hl
     | some n=>have:=H.wf id (yG hT); omega
  simp only [eH.ok] at hg
  split at hg
  ·
   subst hg
   refine ⟨_,_,?_,new ys (fun q=>hne (by rw [q]; rfl)) rfl⟩
   simp only [List.length_nil,Nat.zero_add] at hb
   simp only [iF,if_neg hne,if_pos (show ys.length * bytesOf C.P el ≤ bound∧0 < bytesOf C.P el∧bytesOf C.P el ≤ 65536∧sizes (aH C.P el) ys=true∧iB C el=true from ⟨hb,h1,h2,hy,hz⟩)]
  ·
   rename_i zs
   subst hg
   refine ⟨_,_,?_,new (zs ++ ys) (fun q=>hne (by simp at q; simp [q.2])) rfl⟩
   simp only [iF,if_neg hne,if_pos (show (zs.length + ys.length) * bytesOf C.P el ≤ bound∧0 < bytesOf C.P el∧bytesOf C.P el ≤ 65536∧sizes (aH C.P el) ys=true∧sizes (aH C.P el) zs=true∧iB C el=true from ⟨hb,h1,h2,hy,hx,hz⟩),if_true,List.length_append]
  ·
   rename_i zs tok
   obtain ⟨rfl,hne2,hT,hHt⟩:=hg
   have hpos:0 < zs.length:=List.length_pos_iff.2 hne2
   refine ⟨.tsl (zs ++ ys) tok,{ S with T:=S.T.set tok (zs.length + ys.length) },?_,?_⟩
   ·
    simp only [iF,if_neg hne,if_pos (show (zs.length + ys.length) * bytesOf C.P el ≤ bound∧0 < bytesOf C.P el∧bytesOf C.P el ≤ 65536∧sizes (aH C.P el) ys=true∧sizes (aH C.P el) zs=true∧iB C el=true from ⟨hb,h1,h2,hy,hx,hz⟩),hT]
    rw [if_pos ⟨trivial,hpos⟩]
   ·
    refine H.set hi rfl ⟨rfl,by simp [hne2],by simp [AL.aR],hHt⟩ (fun id hl=>?_) (fun id hid=>rfl) (fun id hid=>?_) rfl
    ·
     show id < S.nx
     refine H.wf id ?_
     unfold live cur at hl ⊢
     cases hH:S.H.get id with
     | some b=>cases b <;> simp
     | none =>
      simp only [hH,AL.aR] at hl ⊢
      by_cases hq:tok=id
      ·
       subst hq; rw [hT]; simp
      ·
       rw [if_neg hq] at hl; exact hl
    ·
     simp only [eH.fp,List.mem_singleton] at hid
     simp only [AL.aR]; rw [if_neg (fun q=>hid q.symm)]
  ·
   exact hg.elim
theorem yY {C:gK} {ρ:Operand→Option AV} {x y:Operand} {S:St} {l:List eH} (H:Has B S l) {i t u:Nat} {v vy:AV} {xs ys:List D} (hx:ρ x=some v) (hy:ρ y=some vy) (hi:l[i]? = some (.grow v xs)) (hd:mJ vy=some ys) (hnr:C.rowT t=false) (hu:iU C u=true) {el nb:Nat} (he:cu C.P t=some el)
  (hb:(xs.length + ys.length) * nb ≤ bound) (hnb:bytesOf C.P el=nb) (h0:(Nat.blt 0 nb && Nat.ble nb 65536)=true) (hsx:sizes (aH C.P el) xs=true) (hsy:sizes (aH C.P el) ys=true) (hz:iB C el=true) :
  ∃ v' S',oper C ρ S (.call { callee:=.builtin .append,args:=#[x,y],argTypes:=#[t,u] })=some (.val v' S')∧Has B S' (l.set i (.grow v' (xs ++ ys))):=by
 obtain ⟨v',S',h1,h2⟩:=zT (C:=C) H hi hb hnb h0 hsx hsy hz
 refine ⟨v',S',?_,h2⟩
 have hm:iW ρ [x,y]=some [v,vy]:=by simp only [iW,hx,hy,Option.map_some]
 have hg:=H.at hi
 simp only [oper,hm,lq,List.getElem?_toArray,List.getElem?_cons_zero,List.getElem?_cons_succ,hu,if_true,he]
 simp only [eH.ok] at hg
 split at hg
 ·
  simp only [hnr,cond_false,hd,h1,Option.map_some]
 ·
  simp only [hnr,cond_false,hd,h1,Option.map_some]
 ·
  simp only [hnr,cond_false,hd,h1,Option.map_some]
 ·
  exact hg.elim
def cut {α:Type} (l:List α) (lo hi:Int):Option (List α):=if 0 ≤ lo∧lo ≤ hi∧hi ≤ l.length then some ((l.take hi.toNat).drop lo.toNat) else none
theorem lQ {α:Type} {l r:List α} {lo hi:Int} (h:cut l lo hi=some r):(0 ≤ lo∧lo ≤ hi∧hi ≤ l.length)∧r=(l.take hi.toNat).drop lo.toNat:=by
 unfold cut at h
 split at h
 ·
  rename_i hb; exact ⟨hb,(Option.some.inj h).symm⟩
 ·
  cases h
end
end Go.Ev

namespace Go.Ev
noncomputable section
set_option linter.unusedVariables false
set_option linter.unusedSimpArgs false
variable {B:St}
section steps
variable {R:bL} {C:gK} {nt:Nat} {ops:Array Oper} {rest:List Oper} {e:Env} {S S':St} {Q:Stp→Prop} {l l':List eH} {t ty:Nat} {p:String} {af:Array Edge} {g:Option (Nat × Bool)} {v:AV} {x y:Operand}
theorem ai.box {bt:Nat} {cs:List AV} (H:Has B S l) (hw:dZ ops e { dst:=some t,op:=.box bt x,type:=ty,pos:=p,after:=af,guard:=g }=some true) (hx:ic e x=some v) (hp:v.plain=true) (hc:v.cells=cs) (ht:Nat.blt t nt=true)
  (k:∀ b S',Has B S' (.box b cs :: l)→ai R C nt ops rest ((t,.ptr b 0 0) :: e) S' Q) :
  ai R C nt ops ({ dst:=some t,op:=.box bt x,type:=ty,pos:=p,after:=af,guard:=g } :: rest) e S Q :=
 ai.val hw (CX H hx hp hc) ht (k _ _ (H.box cs))
theorem ai.alloc {bt:Nat} {z:D} {cs:List AV} (H:Has B S l) (hw:dZ ops e { dst:=some t,op:=.alloc bt,type:=ty,pos:=p,after:=af,guard:=g }=some true) (ho:C.objT bt=none) (hz:zeroOf C.P bt=some z) (hc:(AV.d z).cells=cs) (ht:Nat.blt t nt=true)
  (k:∀ b S',Has B S' (.box b cs :: l)→ai R C nt ops rest ((t,.ptr b 0 0) :: e) S' Q) :
  ai R C nt ops ({ dst:=some t,op:=.alloc bt,type:=ty,pos:=p,after:=af,guard:=g } :: rest) e S Q :=
 ai.val hw (AZ H ho hz hc) ht (k _ _ (H.box cs))
theorem ai.store {bt i id off n:Nat} {cs cv cs':List AV} (H:Has B S l) (hw:dZ ops e { dst:=none,op:=.store bt x y,type:=ty,pos:=p,after:=af,guard:=g }=some true) (ha:ic e x=some (.ptr id 0 off)) (hy:ic e y=some v) (hi:l[i]? = some (.box id cs)) (hcv:v.cells=cv) (hn:cv.length=n) (hz:aH C.P bt=n) (hp:v.plain=true) (hag:(gW C.P bt).isSome=true) (hb:Nat.ble (off + n) cs.length=true)
  (hs:setAt cs off cv=cs') (hl:l.set i (.box id cs')=l') (k:∀ S',Has B S' l'→ai R C nt ops rest e S' Q) :
  ai R C nt ops ({ dst:=none,op:=.store bt x y,type:=ty,pos:=p,after:=af,guard:=g } :: rest) e S Q:=by
 subst hs
 subst hl
 exact ai.skip hw (Am H ha hy hcv hn hz hp hag hi hb) (k _ (H.write hi))
theorem ai.append {t1 u i:Nat} {vy:AV} {xs ys zs:List D} {el nb:Nat} (H:Has B S l) (hw:dZ ops e { dst:=some t,op:=.call { callee:=.builtin .append,args:=#[x,y],argTypes:=#[t1,u] },type:=ty,pos:=p,after:=af,guard:=g }=some true)
  (hx:ic e x=some v) (hy:ic e y=some vy) (hi:l[i]? = some (.grow v xs)) (hd:mJ vy=some ys) (hnr:C.rowT t1=false) (hu:iU C u=true) (he:cu C.P t1=some el) (hb:(xs.length + ys.length) * nb ≤ bound) (hnb:bytesOf C.P el=nb) (h0:(Nat.blt 0 nb && Nat.ble nb 65536)=true)
  (hsx:sizes (aH C.P el) xs=true) (hsy:sizes (aH C.P el) ys=true) (hz:iB C el=true) (ht:Nat.blt t nt=true) (hzs:xs ++ ys=zs)
  (k:∀ v' S',Has B S' (l.set i (.grow v' zs))→ai R C nt ops rest ((t,v') :: e) S' Q) :
  ai R C nt ops ({ dst:=some t,op:=.call { callee:=.builtin .append,args:=#[x,y],argTypes:=#[t1,u] },type:=ty,pos:=p,after:=af,guard:=g } :: rest) e S Q:=by
 subst hzs
 obtain ⟨v',S',h1,h2⟩:=yY (ρ:=ic e) H hx hy hi hd hnr hu he hb hnb h0 hsx hsy hz
 exact ai.val hw h1 ht (k v' S' h2)
theorem aa.put {t:Nat} {x y:AV} {e2 e:Env} (h:aa e2 e) (hl:Less y x):aa ((t,y) :: e2) ((t,x) :: e):=fun u z hz=>by
 rw [AL.gG] at hz ⊢
 by_cases hu:t=u
 ·
  rw [if_pos hu] at hz ⊢; cases hz; exact ⟨x,rfl,hl⟩
 ·
  rw [if_neg hu] at hz ⊢; exact h u z hz
def BR (t:Nat):Env→Bool
 | []=>true
 | (k,_) :: l=>!(Nat.beq k t) && BR t l
theorem xE {t:Nat}:∀ {e:Env},BR t e=true→AL.get e t=none
 | [],_=>rfl
 | (k,v) :: l,h=>by
  simp only [BR,Bool.and_eq_true,Bool.not_eq_true'] at h
  rw [AL.gG,if_neg (fun q=>by subst q; rw [Nat.beq_refl] at h; cases h.1)]
  exact xE h.2
theorem aa.push {t:Nat} {x:AV} {e2 e:Env} (hk:BR t e2=true) (h:aa e2 e):aa e2 ((t,x) :: e):=fun u z hz=>by
 have:t ≠ u:=fun q=>by subst q; rw [xE hk] at hz; cases hz
 rw [AL.gG,if_neg this]
 exact h u z hz
theorem ai.aT {L:List Oper} (n t:Nat) (v:AV) (h:ai R C nt ops (L.take n) e S (fun r=>∃ e',r=.go e' S∧aa ((t,v) :: e) e')) (k:ai R C nt ops (L.drop n) ((t,v) :: e) S Q):ai R C nt ops L e S Q:=by
 have:=ai.app (R:=R) (C:=C) (nt:=nt) (ops:=ops) (L.take n) (l2:=L.drop n) (e:=e) (S:=S) (Q:=Q) (h.mono fun r hr=>by obtain ⟨e',rfl,hw⟩:=hr; exact ai.weak hw k)
 rwa [List.take_append_drop] at this
theorem ai.bool {b c:Bool} (hb:b=c) (k:ai R C nt ops rest ((t,.d (.bool c)) :: e) S Q):ai R C nt ops rest ((t,.d (.bool b)) :: e) S Q:=by subst hb; exact k
theorem ai.less {y':AV} (h:Less y' v) (k:ai R C nt ops rest ((t,y') :: e) S Q):ai R C nt ops rest ((t,v) :: e) S Q:=ai.weak (aa.top h) k
end steps
theorem Less.eq {x y:AV} (h:x=y):Less x y:=by subst h; exact .refl x
theorem Aw:∀ (l:List D),jW (l.map .d)=some l
 | []=>rfl
 | x :: l=>by simp [jW,vH,Aw l]
theorem xy:∀ {cs:List AV} {xs:List D},wH cs=some xs→jW cs=some xs
 | [],xs,h=>by simp only [wH,Option.some.injEq] at h; subst h; rfl
 | .d x :: l,xs,h=>by
  simp only [wH,Option.map_eq_some_iff] at h
  obtain ⟨ys,h1,rfl⟩:=h
  simp [jW,vH,xy h1]
theorem CS {ys xs:List D} (h:ku ys xs) (hy:∀ y ∈ ys,y.isAgg=false) (hx:∀ x ∈ xs,x.isAgg=false):lY (.agg ys) (.agg xs):=fun w fr v hr=>by
 refine ⟨?_,hr.2⟩
 have h1:=hr.1
 generalize hcs:v.cells.toList=cs at h1 ⊢
 cases h1 with
 | agg _ _ hl ho hn hh =>
  refine .agg ys cs (by rw [hl,h.len]) ho hy (fun i y u hi hu=>?_)
  have hlt:i < xs.length:=by rw [← h.len]; exact (List.getElem?_eq_some_iff.1 hi).1
  have hx':=List.getElem?_eq_getElem hlt
  have ho':=ho u (List.mem_of_getElem? hu)
  have:=hh i _ u hx' hu
  have hcell:u.cells = #[u]∧sj u=false:=by
   cases u <;> simp_all [Value.oneCell',Value.cells,sj]
  have hd:bA w fr xs[i] u:=⟨by rw [hcell.1]; exact this,by rw [hcell.2]; exact hx _ (List.mem_of_getElem? hx')⟩
  have:=(h.get hi hx' w fr u hd).1
  rw [hcell.1] at this
  exact this
def aU (cs:List AV) (ds:List D):Prop:=∃ ds',jW cs=some ds'∧ku ds ds'∧(∀ d ∈ ds,d.isAgg=false)∧∀ d ∈ ds',d.isAgg=false
theorem aU.nil:aU [] []:=⟨[],rfl,.nil,by simp,by simp⟩
theorem aU.fw {x:AV} {d d':D} {xs:List AV} {ds:List D} (h:vH x=some d') (hc:lY d d') (h1:d.isAgg=false) (h2:d'.isAgg=false) (k:aU xs ds):aU (x :: xs) (d :: ds):=by
 obtain ⟨ds',k1,k2,k3,k4⟩:=k
 exact ⟨d' :: ds',by simp only [jW,h,k1,Option.map_some],.cons hc k2,fun y hy=>by rcases List.mem_cons.1 hy with rfl | hy; exact h1; exact k3 y hy,fun y hy=>by rcases List.mem_cons.1 hy with rfl | hy; exact h2; exact k4 y hy⟩
theorem aU.eq {d:D} {xs:List AV} {ds:List D} (h:d.isAgg=false) (k:aU xs ds):aU (.d d :: xs) (d :: ds):=.fw rfl (.refl d) h h k
theorem aU.pack {cs:List AV} {ds:List D} (h:aU cs ds):av [jI cs] [.agg ds]:=by
 obtain ⟨ds',h1,h2,h3,h4⟩:=h
 refine ⟨[.agg ds'],?_,.cons (CS h2 h3 h4) .nil⟩
 have:vH (jI cs)=some (.agg ds'):=by
  unfold jI
  split
  ·
   rename_i xs hx
   have:=xy hx
   rw [h1] at this
   cases this
   rfl
  ·
   show (jW cs).map D.agg=_
   rw [h1]; rfl
 simp only [jW,this,Option.map_some]
theorem av.less {x:AV} {d:D} (h:av [x] [d]):Less (.d d) x:=by
 obtain ⟨ds',h1,h2⟩:=h
 simp only [jW] at h1
 split at h1
 ·
  rename_i y hy
  simp only [Option.map_some,Option.some.injEq] at h1
  subst h1
  cases h2 with
  | cons h _=>exact fun cx S w v hr=>.d _ _ (h _ _ _ (kz hy hr))
 ·
  cases h1
theorem Less.jI {cs:List AV} {ds:List D} (h:aU cs ds):Less (.d (.agg ds)) (jI cs):=h.pack.less
theorem av.grow {α:Type} {enc:α→D} {S:St} {l:List eH} (H:Has B S l) {i:Nat} {v:AV} {xs:List α} (hi:l[i]? = some (.grow v (xs.map enc))) {vs:List AV} {ds:List D} (k:av vs ds):av (v :: vs) (.sl (xs.map enc) false :: ds):=by
 obtain ⟨d,h1,h2⟩:=Dq (H.at hi)
 exact av.fw h1 h2 k
theorem aU.grow {α:Type} {enc:α→D} {S:St} {l:List eH} (H:Has B S l) {i:Nat} {v:AV} {xs:List α} (hi:l[i]? = some (.grow v (xs.map enc))) {vs:List AV} {ds:List D} (k:aU vs ds):aU (v :: vs) (.sl (xs.map enc) false :: ds):=by
 obtain ⟨d,h1,h2⟩:=Dq (H.at hi)
 refine aU.fw h1 h2 rfl ?_ k
 have hg:=H.at hi
 simp only [eH.ok] at hg
 split at hg
 ·
  cases h1; rfl
 ·
  cases h1; rfl
 ·
  cases h1; rfl
 ·
  exact hg.elim
theorem eG {v:AV} {d:D} (h:av [v] [d]):∃ v',vV v=some v'∧za (.d d) v':=by
 obtain ⟨ds',h1,h2⟩:=h
 simp only [jW] at h1
 split at h1
 ·
  rename_i y hy
  simp only [Option.map_some,Option.some.injEq] at h1
  subst h1
  cases h2 with
  | cons h2 _ =>
  refine ⟨.d y,?_,.one h2⟩
  unfold vV
  split
  ·
   simp [vH] at hy
  ·
   rw [hy]; rfl
 ·
  cases h1
theorem fT {vs:List AV} {ds:List D} (h:av vs ds):∃ v',vV (.tup vs)=some v'∧za (.tup (ds.map .d)) v':=by
 obtain ⟨ds',h1,h2⟩:=h
 exact ⟨.tup (ds'.map .d),by simp only [vV,h1,Option.map_some],.tup h2⟩
theorem jr {C:gK} {fn:Func} {e:Env} {S:St} {l:List eH} (H:Has B S l) {a t i id:Nat} {cs:List AV} {v:AV} (hf:fn.results = #[.cell a t]) (ha:AL.get e a=some (.ptr id 0 0)) (hi:l[i]? = some (.box id cs)) (hp:part C.P t cs 0=some v):mQ C fn e S=some v:=by
 have hb:S.H.get id=some (.cells 0 cs):=H.at hi
 simp only [mQ,hf,iW,xH,ha,nA,St.look,hb,Nat.beq_refl,cond_true,hp,Option.map_some]
end
end Go.Ev

namespace Go.Ev
set_option linter.unusedVariables false
set_option linter.unusedSimpArgs false
variable {B:St}
abbrev Str:=List UInt8
abbrev FR {α:Type} (enc:α→D) (l:List α):D:=.sl (l.map enc) false
theorem Less.agg' {cs:List AV} {ds:List D} {d:D} (h:aU cs ds) (hd:d=.agg ds):Less (.d d) (Ev.jI cs):=by subst hd; exact Less.jI h
theorem av.oP {cs:List AV} {ds:List D} {d:D} (h:aU cs ds) (hd:d=.agg ds):av [Ev.jI cs] [d]:=by subst hd; exact h.pack
theorem EN {α:Type} {enc:α→D} {S:St} {l:List eH} (H:Has B S l) {i:Nat} {v:AV} {xs:List α} (hi:l[i]? = some (.grow v (xs.map enc))):Less (.d (.sl (xs.map enc) false)) v:=(av.grow H hi .nil).less
theorem dC {α:Type} {enc:α→D} {nb:Nat} {l ys r:List α} (h:app nb l ys=some r):((l.map enc).length + (ys.map enc).length) * nb ≤ bound:=by
 have:=(yZ h).1
 simpa using this
theorem gB {α:Type} {enc:α→D} {nb:Nat} {l ys r:List α} (h:app nb l ys=some r):l.map enc ++ ys.map enc=r.map enc:=by
 rw [(yZ h).2,List.map_append]
def CK (k:IntKind) (a b:Int):Option Int:=if b=0 then none else some (a.tmod b)
theorem xO {P:Program} {t:Nat} {k:IntKind} {a b z:Int} (h:CK k a b=some z):gU P t .rem (.d (.int k a)) (.d (.int k b))=some (.int k z):=by
 unfold CK at h
 split at h
 ·
  cases h
 ·
  rename_i hb; rw [CZ hb]; cases h; rfl
def cat (a b:Str):Option Str:=if a.length + b.length ≤ 4611686018427387904 then some (a ++ b) else none
theorem sJ {P:Program} {t:Nat} {a b z:Str} (h:cat a b=some z):gU P t .add (.d (.str a)) (.d (.str b))=some (.str z):=by
 unfold cat at h
 split at h
 ·
  rename_i hb; rw [Eb hb]; cases h; rfl
 ·
  cases h
def wI (a b:Int):Int:=if b < a then b else a
section
variable {C:gK} {ρ:Operand→Option AV} {S:St} {x y z:Operand} {t:Nat}
theorem vP {k:IntKind} {a b:Int} {ts:Array Nat} (hx:ρ x=some (.d (.int k a))) (hy:ρ y=some (.d (.int k b))):oper C ρ S (.call { callee:=.builtin .min,args:=#[x,y],argTypes:=ts })=some (.val (.d (.int k (wI a b))) S):=by
 have:iW ρ [x,y]=some [.d (.int k a),.d (.int k b)]:=by simp only [iW,hx,hy,Option.map_some]
 simp only [oper,this,lq,qE,if_true,Option.map_some]; rfl
theorem aI {α:Type} {enc:α→D} {l:List α} {b:Bool} {tt:Nat} (h:ρ x=some (.d (.sl (l.map enc) b))) (ht:(cu C.P tt).isSome=true):oper C ρ S (.call { callee:=.builtin .len,args:=#[x],argTypes:=#[tt] })=some (.val (.d (.int .i64 (l.length:Int))) S) :=
 cz h (DX ht) (by simp [mo])
theorem xq {α:Type} {enc:α→D} {xs:List α} {tt:Nat} {S0:St} {l:List eH} (H:Has B S0 l) {i:Nat} {v:AV} (hi:l[i]? = some (.grow v (xs.map enc))) (h:ρ x=some v) (ht:(cu C.P tt).isSome=true):oper C ρ S (.call { callee:=.builtin .len,args:=#[x],argTypes:=#[tt] })=some (.val (.d (.int .i64 (xs.length:Int))) S) :=
 cz h (Bl H hi ht) (by rw [Ah H hi]; simp)
theorem Aa {fld fo ft:Nat} {cs:List D} {d0 d:D} (he:d0=.agg cs) (hx:ρ x=some (.d d0)) (hf:fE C.P t fld=some (fo,ft)) (hp:ik C.P ft cs fo=some d):oper C ρ S (.field t x fld)=some (.val (.d d) S):=by subst he; exact Be hx hf hp
theorem qR:∀ (l:List Int),jR (l.map (D.int .u8))=some (l.map fun n=>UInt8.ofNat n.toNat)
 | []=>rfl
 | n :: l=>by simp only [List.map_cons,jR,qR l,Option.map_some]
theorem kL {src dst:Nat} {l:List Int} {b:Bool} (h:ρ x=some (.d (.sl (l.map (D.int .u8)) b))) (hd:nI C.P dst=true) (hs:oK C src=true):oper C ρ S (.convert src dst x)=some (.val (.d (.str (l.map fun n=>UInt8.ofNat n.toNat))) S):=by
 simp only [oper,h,uR,hd,hs,Bool.and_self,if_true,qR,Option.map_some]
def wu (l:List (Nat × Nat)):Nat→Option (Nat × Nat):=fun i=>l[i]?
def placesOf (P:Program) (t:Nat):Option (List (Nat × Nat)):=match P.underlying t with
 | some (.struct fs)=>if fs.all fun f=>(P.underlying f.type).isSome then some (fs.toList.map fun x=>(x.offset,aH P x.type)) else none
 | _=>none
theorem r9 {l:List (Nat × Nat)} (h:placesOf C.P t=some l):oper.P_place C t=some (wu l):=by
 unfold placesOf at h
 unfold oper.P_place
 split at h
 ·
  rename_i fs hu
  simp only [hu]
  split at h
  ·
   rename_i ha
   rw [if_pos ha]
   simp only [Option.some.injEq] at h
   subst h
   congr 1
   funext i
   simp [wu]
  ·
   cases h
 ·
  cases h
theorem dw {ps:Array (Nat × Operand)} {z:D} {pv:List (Nat × AV)} {pl:Nat→Option (Nat × Nat)} {cs:List AV} (hz:zeroOf C.P t=some z) (he:qO ρ ps=some pv) (hp:oper.P_place C t=some pl) (hf:j4 lW pl (AV.d z).cells pv=some cs):oper C ρ S (.build t ps)=some (.val (jI cs) S):=by
 simp only [oper,hz,he,hp,hf,Option.map_some]
inductive qw (sz:Nat):List AV→List D→Prop
 | nil:qw sz [] []
 | cons {v:AV} {d:D} {vs:List AV} {ds:List D} (h:vH v=some d) (hl:d.cells.length=sz) (k:qw sz vs ds):qw sz (v :: vs) (d :: ds)
def Ae (n:Nat):List AV→List (Nat × AV)
 | []=>[]
 | v :: l=>(n,v) :: Ae (n + 1) l
theorem xA {α:Type}:∀ (l a b c:List α),l.length=b.length→setAt (a ++ b ++ c) a.length l=a ++ l ++ c
 | [],a,b,c,h=>by
  have:b=[]:=List.eq_nil_of_length_eq_zero h.symm
  subst this; simp [setAt]
 | v :: l,a,b,c,h=>by
  cases b with
  | nil=>simp at h
  | cons w b =>
   simp only [List.length_cons,Nat.add_right_cancel_iff] at h
   have:=xA l (a ++ [v]) b c h
   simp only [setAt]
   have e:(a ++ w :: b ++ c).set a.length v=a ++ [v] ++ b ++ c:=by
    simp [List.set_append]
   rw [e,show a.length + 1=(a ++ [v]).length by simp,this]
   simp
theorem Bh {sz:Nat} {vs:List AV} {ds:List D} (h:qw sz vs ds):∀ (done:List D) (todo:List D),(∀ d ∈ done,d.cells.length=sz)→todo.length=vs.length * sz →
  j4 cellsD (fun i=>some (i * sz,sz)) ((done.map D.cells).flatten ++ todo) (Ae done.length vs)=some (((done ++ ds).map D.cells).flatten):=by
 induction h with
 | nil =>
  intro done todo _ ht
  have:todo=[]:=List.eq_nil_of_length_eq_zero (by simpa using ht)
  subst this
  simp [Ae,j4]
 | @cons v d vs ds h hl k ih =>
  intro done todo hd ht
  have hlen:((done.map D.cells).flatten).length=done.length * sz:=by
   clear ih ht
   induction done with
   | nil=>simp
   | cons x l ihl =>
    simp only [List.map_cons,List.flatten_cons,List.length_append,hd x List.mem_cons_self,List.length_cons,ihl (fun d h=>hd d (List.mem_cons_of_mem _ h))]
    rw [Nat.add_mul]; omega
  simp only [List.length_cons] at ht
  rw [Nat.add_mul,Nat.one_mul] at ht
  have hc:cellsD v=some d.cells:=by simp only [cellsD,h]
  simp only [Ae,j4,hc]
  rw [if_pos ⟨hl,by rw [List.length_append,hlen,hl]; omega⟩]
  have e1:todo=todo.take sz ++ todo.drop sz:=(List.take_append_drop sz todo).symm
  have e2:setAt ((done.map D.cells).flatten ++ todo) (done.length * sz) d.cells=((done ++ [d]).map D.cells).flatten ++ todo.drop sz:=by
   rw [e1,← List.append_assoc,← hlen,xA _ _ _ _ (by rw [hl,List.length_take]; omega)]
   simp
  rw [e2]
  have:=ih (done ++ [d]) (todo.drop sz) (fun x hx=>by
   rcases List.mem_append.1 hx with hx | hx
   ·
    exact hd x hx
   ·
    rw [List.mem_singleton.1 hx]; exact hl) (by rw [List.length_drop]; omega)
  rw [show (done ++ [d]).length=done.length + 1 by simp] at this
  rw [this]
  simp
theorem uO {sz:Nat}:∀ (ds:List D),(∀ d ∈ ds,d.cells.length=sz)→chunk sz ds.length ((ds.map D.cells).flatten)=ds.map D.cells
 | [],_=>rfl
 | d :: ds,h=>by
  have hd:=h d List.mem_cons_self
  simp only [List.length_cons,chunk,List.map_cons,List.flatten_cons]
  rw [List.take_append_of_le_length (by omega),List.take_of_length_le (by omega),List.drop_append_of_le_length (by omega),List.drop_of_length_le (by omega),List.nil_append,uO ds (fun d hd=>h d (List.mem_cons_of_mem _ hd))]
theorem vB {ag:Bool}:∀ (ds:List D),(∀ d ∈ ds,if ag=true then d.isAgg=true else d.isAgg=false)→iW (sQ ag) (ds.map D.cells)=some ds
 | [],_=>rfl
 | d :: ds,h=>by
  have hd:=h d List.mem_cons_self
  have:sQ ag d.cells=some d:=by
   unfold sQ
   cases ag with
   | true =>
    simp only [if_true] at hd ⊢
    cases d <;> simp_all [D.isAgg,D.cells]
   | false =>
    simp only [Bool.false_eq_true,if_false] at hd ⊢
    cases d <;> simp_all [D.isAgg,D.cells]
  simp only [List.map_cons,iW,this,vB ds (fun d hd=>h d (List.mem_cons_of_mem _ hd)),Option.map_some]
theorem qw.len {sz:Nat} {vs:List AV} {ds:List D} (h:qw sz vs ds):ds.length=vs.length∧∀ d ∈ ds,d.cells.length=sz:=by
 induction h with
 | nil=>exact ⟨rfl,by simp⟩
 | cons h hl k ih=>exact ⟨by simp [ih.1],fun d hd=>by rcases List.mem_cons.1 hd with rfl | hd; exact hl; exact ih.2 d hd⟩
theorem aK {n el sz:Nat} {ag:Bool} {ps:Array (Nat × Operand)} {zd:D} {vs:List AV} {ds:List D} (hr:C.rowT t=false) (he:cu C.P t=some el) (ha:gW C.P el=some ag) (hz:zeroOf C.P el=some zd) (hs:aH C.P el=sz) (hzl:zd.cells.length=sz) (hb:n * sz ≤ 16777216∧0 < n * sz)
  (hv:qw sz vs ds) (hn:vs.length=n) (hg:∀ d ∈ ds,if ag=true then d.isAgg=true else d.isAgg=false) (hev:qO ρ ps=some (Ae 0 vs)):oper C ρ S (.buildSlice t n ps)=some (.val (.d (.sl ds true)) S):=by
 obtain ⟨k1,k2⟩:=hv.len
 subst hs
 have f1:=Bh hv [] ((List.replicate n zd.cells).flatten) (by simp) (by
  rw [List.length_flatten,List.map_replicate,List.sum_replicate_nat,hzl,hn])
 simp only [List.map_nil,List.flatten_nil,List.nil_append,List.length_nil] at f1
 have f2:=uO ds k2
 rw [k1,hn] at f2
 simp only [oper,Ea,hr,Bool.false_and,cond_false,he,hev]
 rw [if_pos hb.1,if_neg (by omega)]
 simp only [hz,hzl,if_true,f1,ha,f2,vB ds hg,Option.map_some]
end
end Go.Ev
namespace Go.Ev
end Go.Ev
namespace Go.Ev
variable {B:St}
theorem A9 {S:St} {l:List eH} (H:Has B S l) {i:Nat} {v:AV} {xs:List D} (hi:l[i]? = some (.grow v xs)):lW v=some [v]:=by
 obtain ⟨_,_,_,h1,h2⟩:=oI (H.at hi)
 simp only [lW,h1,h2,cond_true]
end Go.Ev
namespace Go.Ev
def yA (u:Option TypeDesc) (a b:D):Option Bool:=match u,a,b with
 | some .bool,.bool a,.bool b=>some (a == b)
 | some (.int _),.int k a,.int k' b=>if k=k' then some (a == b) else none
 | some .string,.str a,.str b=>some (a == b)
 | _,_,_=>none
def yF (P:Program):List Field→List D→List D→Option Bool
 | [],_,_=>some true
 | f :: l,xs,ys=>match f.name == "_", xs[f.offset]?,ys[f.offset]? with
  | false,some a,some b=>(match gW P f.type,yA (P.underlying f.type) a b,yF P l xs ys with
   | some false,some p,some q=>some (p && q)
   | _,_,_=>none)
  | _,_,_=>none
theorem Af {P:Program} {n t:Nat} {a b:D} {p:Bool} (h:yA (P.underlying t) a b=some p):jY P (n + 1) t a b=some p:=by
 unfold yA at h
 split at h
 ·
  rename_i hu; simp only [jY,hu]; exact h
 ·
  rename_i hu; simp only [jY,hu]; exact h
 ·
  rename_i hu; simp only [jY,hu]; exact h
 ·
  cases h
theorem sM {P:Program} {n:Nat} {xs ys:List D}:∀ (fs:List Field) {b:Bool},yF P fs xs ys=some b→fs.foldr (fun f k=>if f.name = "_" then k else
    match ik P f.type xs f.offset,ik P f.type ys f.offset with
    | some a,some b=>match jY P (n + 1) f.type a b with
     | some true=>k
     | some false=>some false
     | none=>none
    | _,_=>none) (some true)=some b
 | [],b,h=>h
 | f :: l,b,h=>by
  simp only [yF] at h
  split at h
  ·
   rename_i a c hn hx hy
   split at h
   ·
    rename_i p q ha hp hq
    cases h
    have hne:¬ f.name = "_" := fun e=>by rw [e] at hn; cases hn
    simp only [List.foldr_cons,if_neg hne]
    have h1:ik P f.type xs f.offset=some a:=by simp only [ik,ha,hx]
    have h2:ik P f.type ys f.offset=some c:=by simp only [ik,ha,hy]
    have ih:=sM (n:=n) l hq
    have h3:=Af (n:=n) hp
    simp only [h1,h2,h3]
    cases p with
    | true=>simp only [Bool.true_and]; exact ih
    | false=>simp only [Bool.false_and]
   ·
    cases h
  ·
   cases h
theorem zx {P:Program} {n t:Nat} {fs:Array Field} {xs ys:List D} (hu:P.underlying t=some (.struct fs)) (g2:P.stoodInHeld t=false):jY P (n + 1 + 1) t (.agg xs) (.agg ys)=fs.toList.foldr (fun f k=>if f.name = "_" then k else
    match ik P f.type xs f.offset,ik P f.type ys f.offset with
    | some a,some b=>match jY P (n + 1) f.type a b with
     | some true=>k
     | some false=>some false
     | none=>none
    | _,_=>none) (some true):=by
 generalize n + 1=m
 simp only [jY,hu,g2,Bool.false_eq_true,if_false]
 rfl
theorem Dk {P:Program} {t:Nat} {fs:Array Field} {xs ys:List D} {b:Bool} (g1:P.eqGuardType P.depth t=false) (hu:P.underlying t=some (.struct fs)) (g2:P.stoodInHeld t=false) (h:yF P fs.toList xs ys=some b) :
  AV.eqv P t (.d (.agg xs)) (.d (.agg ys))=some b:=by
 have h1:AV.eqv P t (.d (.agg xs)) (.d (.agg ys))=jY P 20 t (.agg xs) (.agg ys):=by
  show (if P.eqGuardType P.depth t then none else jY P 20 t (.agg xs) (.agg ys))=_
  rw [g1]; rfl
 rw [h1,zx (n:=18) hu g2]
 exact sM fs.toList h
theorem Ag {P:Program} {t:Nat} {x y:D} {xs ys:List D} {b:Bool} (hx:x=.agg xs) (hy:y=.agg ys) (h:AV.eqv P t (.d (.agg xs)) (.d (.agg ys))=some b):gU P t .neq (.d x) (.d y)=some (.bool (!b)):=by
 subst hx hy; simp only [gU,h,Option.map_some]
end Go.Ev

namespace Go.Ev
set_option linter.unusedVariables false
set_option linter.unusedSimpArgs false
variable {B:St}
variable {R:bL} {C:gK} {nt:Nat}
section rules
variable {T:List Fact} {ops:Array Oper} {rest:List (Nat × Oper)} {I K:List Nat} {e:Env} {S S':St} {Q:Env→St→Prop} {l l':List eH} {t ty i:Nat} {p:String} {af:Array Edge} {g:Option (Nat × Bool)} {v:AV} {x y:Operand}
end rules
end Go.Ev
namespace Go.Ev
end Go.Ev
namespace Go.Ev
end Go.Ev

namespace Go.Ev
set_option linter.unusedVariables false
set_option linter.unusedSimpArgs false
variable {R:bL} {C:gK} {P:Program} {nt:Nat} {B:St}
theorem kT.rel {ys xs:List AV} (h:kT ys xs) {cx:Cx} {S:St} {w:World} {us:List Value} (hr:∀ (i:Nat) (x:AV) (u:Value),xs[i]? = some x→us[i]? = some u→aF cx S w x u) :
  ∀ (i:Nat) (y:AV) (u:Value),ys[i]? = some y→us[i]? = some u→aF cx S w y u:=fun i y u hy hu=>by
 have hlt:i < xs.length:=by rw [← h.len]; exact (List.getElem?_eq_some_iff.1 hy).1
 have hx:=List.getElem?_eq_getElem hlt
 exact h.get hy hx _ _ _ _ (hr i _ u hx hu)
theorem gm.DV {f:Nat} {args args':List AV} {S:St} {Q:Out→Prop} (h:gm R P f args' S Q) (hl:kT args' args):gm R P f args S Q :=
 ⟨h.1,fun cx w us h1 h2 h3=>h.2 cx w us h1 (by rw [h2,hl.len]) (hl.rel h3)⟩
theorem SpecS.of_wp {f:Nat} {fn:Func} {c:Code} (hf:C.P.funcs[f]? = some fn) (hc:fn.body=some c) (hn:(fn.name == "runtime.NumGoroutine")=false) {args:List AV} (hle:Nat.ble args.length fn.ntmps=true) {S:St} {v:AV}
  (h:S.Wf→aj R C.P fn.ntmps c (ou 0 args) S (EO C fn (fun r=>r.1=none∧nX S r.2.2∧∃ v',vV r.2.1=some v'∧za v v'))):gm R C.P f args S (fun r=>r=(none,v,S)):=by
 refine ⟨⟨fn,hf,by simp [hc],by simpa using hn⟩,fun cx w us hS hl hr=>?_⟩
 have hs:=gm.of_wp hf hc hn (args:=args) (Nat.le_of_ble_eq_true hle) (h hS.wf)
 refine (hs.2 cx w us hS hl hr).mono (fun e w' he=>?_)
 obtain ⟨⟨p,v1,S1⟩,⟨hp,hk,v',hv,ha⟩,cx1,k1,k2,k3⟩:=he
 simp only at hp hv hk
 subst hp
 obtain ⟨d1,d2⟩:=Ca hS.wf k1 k2 (hk.sub hS)
 obtain ⟨u,rfl,k3⟩:=k3
 exact ⟨_,rfl,cx1,d1,d2,u,rfl,ha.rel (u6 hv k3 (fun _ _ q=>q))⟩
theorem Bn {ρ:Operand→Option AV} {S:St} {x:Operand} {g:Nat} {caps:List AV} {arr_:Array Operand} {ts:Array Nat} {args:List AV} (hx:ρ x=some (.fn g caps)) (ha:iW ρ arr_.toList=some args):oper C ρ S (.call { callee:=.value x,args:=arr_,argTypes:=ts })=some (.call g (args ++ caps)):=by
 simp only [oper,hx,ha]
theorem wE {ρ:Operand→Option AV} {S:St} {g:Nat} {caps:Array Operand} {cs:List AV} (h:iW ρ caps.toList=some cs):oper C ρ S (.makeFunc (.func g) #[] caps)=some (.val (.fn g cs) S):=by
 simp only [oper,h,Option.map_some]
theorem AQ {ρ:Operand→Option AV} {S:St} {l:List eH} {x:Operand} {t id off:Nat} {cs:List AV} {v:AV} (H:Has B S l) (hb:B.H.get id=some (.cells 0 cs)) (h:ρ x=some (.ptr id 0 off)) (hp:part C.P t cs off=some v):oper C ρ S (.load t x)=some (.val v S):=by
 have hb:=H.keeps.H _ _ hb
 simp only [oper,h,nA,St.look,hb,Nat.beq_refl,cond_true,hp,Option.map_some]
end Go.Ev
namespace Go.Ev
theorem fA {pl:Nat→Option (Nat × Nat)} {cells:List AV} {i off size:Nat} {v:AV} {rest:List (Nat × AV)} {cs' r:List AV} (hp:pl i=some (off,size)) (hc:lW v=some cs') (hl:cs'.length=size) (hb:Nat.ble (off + cs'.length) cells.length=true) (k:j4 lW pl (setAt cells off cs') rest=some r):j4 lW pl cells ((i,v) :: rest)=some r:=by
 simp only [j4,hp,hc]
 rw [if_pos ⟨hl,Nat.le_of_ble_eq_true hb⟩]; exact k
theorem rM {P:Program} {t:Nat} {a b:Bool} (h:P.underlying t=some .bool):gU P t .eql (.d (.bool a)) (.d (.bool b))=some (.bool (a == b)):=by
 simp only [gU,AV.eqv,jY,h,Option.map_some]
theorem Co {P:Program} {t:Nat} {a b:Bool} (h:P.underlying t=some .bool):gU P t .neq (.d (.bool a)) (.d (.bool b))=some (.bool (!(a == b))):=by
 simp only [gU,AV.eqv,jY,h,Option.map_some]
def tV (k:IntKind) (a b:Int):Option Int:=if b < 0 then none else some (k.wrap (a * 2 ^ (min b.toNat k.bits)))
def yX (k:IntKind) (a b:Int):Option Int:=if b < 0 then none else some (a.fdiv (2 ^ (min b.toNat k.bits)))
theorem xg {P:Program} {t:Nat} {k k':IntKind} {a b z:Int} (h:tV k a b=some z):gU P t .shl (.d (.int k a)) (.d (.int k' b))=some (.int k z):=by
 unfold tV at h
 split at h
 ·
  cases h
 ·
  rename_i hb; cases h; simp only [gU,si,if_neg hb]
theorem xu {P:Program} {t:Nat} {k k':IntKind} {a b z:Int} (h:yX k a b=some z):gU P t .shr (.d (.int k a)) (.d (.int k' b))=some (.int k z):=by
 unfold yX at h
 split at h
 ·
  cases h
 ·
  rename_i hb; cases h; simp only [gU,si,if_neg hb]
theorem map_nil {α β:Type} {f:α→β} {l:List α} (h:l.map f=[]):l=[]:=List.map_eq_nil_iff.1 h
theorem zZ {α:Type} {enc:α→D} {C:gK} {t el:Nat} {l r:List α} {b:Bool} {lo hi:Option D} {x y:Int} (he:cu C.P t=some el) (hu:(C.P.underlying el).isSome=true) (hlen:∀ z,(enc z).cells.length=aH C.P el)
  (hlo:il lo 0=some x.toNat∧0 ≤ x) (hhi:il hi (l.map enc).length=some y.toNat∧0 ≤ y) (h:cut l x y=some r):∃ b',qZ C t (l.map enc) b lo hi none=some (.sl (r.map enc) b')∧(b=false→b'=false):=by
 obtain ⟨⟨h1,h2,h3⟩,rfl⟩:=lQ h
 have hh:vR (aH C.P el) (l.map enc)=true:=by
  cases l with
  | nil=>rfl
  | cons z l=>simp [vR,hlen]
 refine ⟨b && Nat.beq y.toNat (l.map enc).length,?_,fun h=>by rw [h]; rfl⟩
 have e1:decide (x.toNat ≤ y.toNat)=true:=decide_eq_true (by omega)
 have e2:decide (y.toNat ≤ (l.map enc).length)=true:=decide_eq_true (by simp; omega)
 simp only [qZ,he,hh,hu,Bool.and_self,if_true,hlo.1,hhi.1,e1,e2]
 simp [List.map_take,List.map_drop]
section
variable {α:Type} {enc:α→D} {C:gK} {ρ:Operand→Option AV} {S:St} {t el:Nat} {x lo hi:Operand} {l r:List α} {k k':IntKind} {a c:Int}
theorem lD {k:IntKind} {a:Int} (h:0 ≤ a):asNat (.int k a)=some a.toNat:=by simp only [asNat,if_pos h]
theorem AJ (hx:ρ x=some (.d (.sl (l.map enc) false))) (hl:ρ lo=some (.d (.int k a))) (he:cu C.P t=some el) (hu:(C.P.underlying el).isSome=true) (hlen:∀ z,(enc z).cells.length=aH C.P el) (h:cut l a (l.length:Int)=some r) :
  oper C ρ S (.slice t x (some lo) none none)=some (.val (.d (.sl (r.map enc) false)) S):=by
 have hb:=(lQ h).1
 obtain ⟨b',h1,h2⟩:=zZ (C:=C) (b:=false) (lo:=some (.int k a)) (hi:=none) he hu hlen ⟨lD (k:=k) hb.1,hb.1⟩ ⟨by simp [il],by omega⟩ h
 rw [h2 rfl] at h1
 simp only [oper,hx,wO,hl,ny,h1,Option.map_some]
theorem nS (hx:ρ x=some (.d (.sl (l.map enc) false))) (hh:ρ hi=some (.d (.int k' c))) (he:cu C.P t=some el) (hu:(C.P.underlying el).isSome=true) (hlen:∀ z,(enc z).cells.length=aH C.P el) (h:cut l 0 c=some r) :
  oper C ρ S (.slice t x none (some hi) none)=some (.val (.d (.sl (r.map enc) false)) S):=by
 have hb:=(lQ h).1
 obtain ⟨b',h1,h2⟩:=zZ (C:=C) (b:=false) (lo:=none) (hi:=some (.int k' c)) he hu hlen ⟨rfl,by omega⟩ ⟨lD (k:=k') (by omega),by omega⟩ h
 rw [h2 rfl] at h1
 simp only [oper,hx,wO,hh,ny,h1,Option.map_some]
end
section
variable {C:gK} {ρ:Operand→Option AV} {S:St} {t:Nat} {x lo hi:Operand} {s r:Str} {k k':IntKind} {a c:Int}
theorem yc {lo hi:Option D} {x y:Int} (ht:nI C.P t=true) (hlo:il lo 0=some x.toNat∧0 ≤ x) (hhi:il hi s.length=some y.toNat∧0 ≤ y) (h:cut s x y=some r):ny C t (.d (.str s)) lo hi none=some (.d (.str r)):=by
 obtain ⟨⟨h1,h2,h3⟩,rfl⟩:=lQ h
 have e1:decide (x.toNat ≤ y.toNat)=true:=decide_eq_true (by omega)
 have e2:decide (y.toNat ≤ s.length)=true:=decide_eq_true (by omega)
 simp only [ny,Option.isSome_none,ht,Bool.not_true,Bool.or_self,Bool.false_eq_true,if_false,hlo.1,hhi.1,e1,e2,Bool.and_self,if_true]
theorem zI (hx:ρ x=some (.d (.str s))) (hl:ρ lo=some (.d (.int k a))) (hh:ρ hi=some (.d (.int k' c))) (ht:nI C.P t=true) (h:cut s a c=some r) :
  oper C ρ S (.slice t x (some lo) (some hi) none)=some (.val (.d (.str r)) S):=by
 have hb:=(lQ h).1
 have h1:=yc (C:=C) (lo:=some (.int k a)) (hi:=some (.int k' c)) ht ⟨lD (k:=k) hb.1,hb.1⟩ ⟨lD (k:=k') (by omega),by omega⟩ h
 simp only [oper,hx,wO,hl,hh,h1,Option.map_some]
theorem pE (hx:ρ x=some (.d (.str s))) (hl:ρ lo=some (.d (.int k a))) (ht:nI C.P t=true) (h:cut s a (s.length:Int)=some r) :
  oper C ρ S (.slice t x (some lo) none none)=some (.val (.d (.str r)) S):=by
 have hb:=(lQ h).1
 have h1:=yc (C:=C) (lo:=some (.int k a)) (hi:=none) ht ⟨lD (k:=k) hb.1,hb.1⟩ ⟨by simp [il],by omega⟩ h
 simp only [oper,hx,wO,hl,h1,Option.map_some]
theorem sV (hx:ρ x=some (.d (.str s))) (hh:ρ hi=some (.d (.int k' c))) (ht:nI C.P t=true) (h:cut s 0 c=some r) :
  oper C ρ S (.slice t x none (some hi) none)=some (.val (.d (.str r)) S):=by
 have hb:=(lQ h).1
 have h1:=yc (C:=C) (lo:=none) (hi:=some (.int k' c)) ht ⟨rfl,by omega⟩ ⟨lD (k:=k') (by omega),by omega⟩ h
 simp only [oper,hx,wO,hh,h1,Option.map_some]
end
end Go.Ev

namespace Go.Ev
noncomputable section
set_option linter.unusedVariables false
set_option linter.unusedSimpArgs false
theorem Has.obj {B S:St} {l:List eH} (h:Has B S l) (k:Nat) (x:D):Has B (bX S (.obj k x)) (.obj S.nx k x :: l) :=
 h.new _ rfl (by simp [eH.ok,bX,AL.aR])
theorem Has.setObj {B S:St} {l:List eH} (h:Has B S l) {i id k:Nat} {x y:D} (hi:l[i]? = some (.obj id k x)):Has B { S with H:=S.H.set id (.obj k y) } (l.set i (.obj id k y)):=by
 have hid:=h.at hi
 refine h.set hi rfl (by simp [eH.ok,AL.aR]) (fun j hl=>?_) (fun j hj=>?_) (fun j hj=>rfl) rfl
 ·
  refine h.wf j ?_
  unfold live cur at hl ⊢
  simp only [AL.aR] at hl
  by_cases hij:id=j
  ·
   subst hij; rw [show S.H.get id=_ from hid]; simp
  ·
   rw [if_neg hij] at hl; exact hl
 ·
  simp only [eH.fp,List.mem_singleton] at hj
  simp only [AL.aR]
  rw [if_neg (fun q=>hj q.symm)]
theorem Has.Fp {B S:St} {l:List eH} (h:Has B S l) {i id k:Nat} {x:D} (hi:l[i]? = some (.obj id k x)):Has B { S with H:=S.H.del id } (l.eraseIdx i):=by
 have hil:i < l.length:=(List.getElem?_eq_some_iff.1 hi).1
 have hma:=List.mem_of_getElem? hi
 have hoth:∀ j a,(l.eraseIdx i)[j]? = some a→∃ j',j' ≠ i∧l[j']? = some a:=fun j a hj=>by
  rw [List.getElem?_eraseIdx] at hj
  split at hj
  ·
   exact ⟨j,by omega,hj⟩
  ·
   exact ⟨j + 1,by omega,hj⟩
 have hne:∀ a ∈ l.eraseIdx i,∀ z ∈ a.fp,z ≠ id:=fun a ha z hz q=>by
  subst q
  obtain ⟨j,hj,rfl⟩:=List.getElem_of_mem ha
  obtain ⟨j',hne,hj'⟩:=hoth j _ (List.getElem?_eq_getElem hj)
  exact xY h.nd hj' hi hne hz (by simp [eH.fp])
 refine ⟨fun j hl=>h.wf j ?_,fun a ha=>?_,h.nd.sublist (Dn eH.fp (List.eraseIdx_sublist l i)),h.bwf,⟨h.keeps.nx,fun j b hb=>?_,fun j n hn=>h.keeps.T j n hn⟩,fun a ha=>h.out a ((List.eraseIdx_sublist l i).subset ha)⟩
 ·
  unfold live cur at hl ⊢
  simp only [AL.nL] at hl
  by_cases hij:id=j
  ·
   subst hij; rw [show S.H.get id=_ from h.at hi]; simp
  ·
   rw [if_neg hij] at hl; exact hl
 ·
  refine eH.keep (h.ok a ((List.eraseIdx_sublist l i).subset ha)) (fun z hz=>?_) (fun z hz=>rfl)
  simp only [AL.nL]
  rw [if_neg (fun q=>hne a ha z hz q.symm)]
 ·
  have:=h.keeps.H j b hb
  simp only [AL.nL]
  rw [if_neg (fun q=>by
   subst q
   have:=(h.out _ hma id (by simp [eH.fp])).1
   rw [this] at hb; cases hb)]
  exact this
def rY (s:Str) (c:Int):Option Str:=if 0 ≤ c∧c < 256∧s.length + 1 ≤ bound then some (s ++ [UInt8.ofNat c.toNat]) else none
def FE (s t:Str):Option Str:=if s.length + t.length ≤ bound then some (s ++ t) else none
section
variable {R:bL} {C:gK} {nt:Nat} {ops:Array Oper} {rest:List Oper} {e:Env} {B S S':St} {Q:Stp→Prop} {l l':List eH} {t ty:Nat} {p:String} {af:Array Edge} {g:Option (Nat × Bool)} {v:AV} {x y:Operand}
structure zf (R:bL) (P:Program) (fb fs ft:Nat):Prop where
 wb:∀ (S:St) (id:Nat) (s:Str) (c:Int) (r:Str),S.H.get id=some (.obj 1 (.str s))→rY s c=some r→gm R P fb [.ptr id 0 0,.d (.int .u8 c)] S (fun o=>o=(none,.d .nili,{ S with H:=S.H.set id (.obj 1 (.str r)) }))
 ws:∀ (S:St) (id:Nat) (s u r:Str),S.H.get id=some (.obj 1 (.str s))→FE s u=some r→gm R P fs [.ptr id 0 0,.d (.str u)] S (fun o=>o=(none,.tup [.d (.int .i64 (u.length:Nat)),.d .nili],{ S with H:=S.H.set id (.obj 1 (.str r)) }))
 st:∀ (S:St) (id:Nat) (s:Str),S.H.get id=some (.obj 1 (.str s))→gm R P ft [.ptr id 0 0] S (fun o=>o=(none,.d (.str s),{ S with H:=S.H.del id }))
theorem ai.zo {bt:Nat} (H:Has B S l) (hw:dZ ops e { dst:=some t,op:=.alloc bt,type:=ty,pos:=p,after:=af,guard:=g }=some true) (ho:C.objT bt=some (1,.str [])) (ht:Nat.blt t nt=true)
  (k:∀ b S',Has B S' (.obj b 1 (.str []) :: l)→ai R C nt ops rest ((t,.ptr b 0 0) :: e) S' Q) :
  ai R C nt ops ({ dst:=some t,op:=.alloc bt,type:=ty,pos:=p,after:=af,guard:=g } :: rest) e S Q :=
 ai.val hw (v:=.ptr S.nx 0 0) (S':=bX S (.obj 1 (.str []))) (by simp only [oper,ho,H.yx,cond_false]) ht (k _ _ (H.obj 1 (.str [])))
theorem ai.wb {fb fs ft i id:Nat} (X:zf R C.P fb fs ft) {s r:Str} {c:Int} {arr_:Array Operand} {ts:Array Nat} (H:Has B S l) (hw:dZ ops e { dst:=some t,op:=.call { callee:=.value (.func fb),args:=arr_,argTypes:=ts },type:=ty,pos:=p,after:=af,guard:=g }=some true)
  (ha:iW (ic e) arr_.toList=some [.ptr id 0 0,.d (.int .u8 c)]) (hi:l[i]? = some (.obj id 1 (.str s))) (hr:rY s c=some r) (ht:Nat.blt t nt=true)
  (k:∀ S',Has B S' (l.set i (.obj id 1 (.str r)))→ai R C nt ops rest ((t,.d .nili) :: e) S' Q) :
  ai R C nt ops ({ dst:=some t,op:=.call { callee:=.value (.func fb),args:=arr_,argTypes:=ts },type:=ty,pos:=p,after:=af,guard:=g } :: rest) e S Q :=
 ai.ret hw (aA ha rfl) (X.wb S id s c r (H.at hi) hr) ht (k _ (H.setObj hi))
theorem ai.st {fb fs ft i id:Nat} (X:zf R C.P fb fs ft) {s:Str} {arr_:Array Operand} {ts:Array Nat} (H:Has B S l) (hw:dZ ops e { dst:=some t,op:=.call { callee:=.value (.func ft),args:=arr_,argTypes:=ts },type:=ty,pos:=p,after:=af,guard:=g }=some true)
  (ha:iW (ic e) arr_.toList=some [.ptr id 0 0]) (hi:l[i]? = some (.obj id 1 (.str s))) (ht:Nat.blt t nt=true)
  (k:∀ S',Has B S' (l.eraseIdx i)→ai R C nt ops rest ((t,.d (.str s)) :: e) S' Q) :
  ai R C nt ops ({ dst:=some t,op:=.call { callee:=.value (.func ft),args:=arr_,argTypes:=ts },type:=ty,pos:=p,after:=af,guard:=g } :: rest) e S Q :=
 ai.ret hw (aA ha rfl) (X.st S id s (H.at hi)) ht (k _ (H.Fp hi))
end
def jP (n:Nat) (s c:Str):Option Str:=if s.length ≤ bound∧c.length ≤ 1000∧(c.all fun b=>decide (b.toNat < 128))=true then some (Lib.trimS s c) else none
def strings_IndexByte (n:Nat) (s:Str) (c:Int):Option Int:=some (Lib.indexByte s c.toNat.toUInt8)
def bN (c:UInt8):List UInt8→List (List UInt8)
 | []=>[[]]
 | b :: l=>if b == c then [] :: bN c l else match bN c l with
  | []=>[[b]]
  | x :: r=>(b :: x) :: r
def strings_Split (n:Nat) (s sep:Str):Option (List Str):=match sep with
 | [c]=>if s.length ≤ 4000000 then some (bN c s) else none
 | _=>none
def strings_Join (n:Nat) (l:List Str) (sep:Str):Option Str:=if (Lib.join l sep).length ≤ bound∧l.length ≤ bound then some (Lib.join l sep) else none
end
end Go.Ev

namespace Go.Ev
noncomputable section
set_option linter.unusedVariables false
set_option linter.unusedSimpArgs false
set_option linter.unusedSectionVars false
section
variable {κ ν:Type} [BEq κ] [LawfulBEq κ]
def CO (ek:κ→D) (ev:ν→D):Nat→List (κ × ν)→List (D × AV × Nat)
 | _,[]=>[]
 | i,(k,v) :: l=>(ek k,.d (ev v),i) :: CO ek ev (i + 1) l
def mD (ek:κ→D) (ev:ν→D) (m:List (κ × ν)):uk:={ es:=CO ek ev 0 m,clk:=m.length }
def kU (k:κ):List (κ × ν)→Nat→Option (Nat × ν)
 | [],_=>none
 | (a,b) :: l,i=>if k == a then some (i,b) else kU k l (i + 1)
def Bt (m:List (κ × ν)) (k:κ):Option ν:=(kU k m 0).map (·.2)
def oO (m:List (κ × ν)) (k:κ) (z:ν):ν:=(Bt m k).getD z
def vw (m:List (κ × ν)) (k:κ) (v:ν):List (κ × ν):=match kU k m 0 with
 | some (i,_)=>m.set i (k,v)
 | none=>m ++ [(k,v)]
structure wQ (P:Program) (t:Nat) (ek:κ→D):Prop where
 eq:∀ a b,jY P 20 t (ek a) (ek b)=some (a == b)
 same:∀ a,D.same (ek a) (ek a)=true
 ok:∀ a,ma P t (ek a)=true
theorem vN {P:Program} {t:Nat} {ek:κ→D} {ev:ν→D} (K:wQ P t ek) (k:κ):∀ (m:List (κ × ν)) (i j:Nat),jV P t (ek k) (CO ek ev i m) j=some ((kU k m j).map fun r=>(r.1,.d (ev r.2)))
 | [],i,j=>rfl
 | (a,b) :: l,i,j=>by
  simp only [CO,jV,K.eq,kU]
  cases hb:k == a with
  | true =>
   have:=eq_of_beq hb
   subst this
   simp [K.same]
  | false=>simp only [vN K k l (i + 1) (j + 1)]; rfl
theorem DU {C:gK} {t kt et id:Nat} {S:St} {ek:κ→D} {ev:ν→D} {m:List (κ × ν)} {k:κ} {z:ν} (hk:pV C t=some (kt,et)) (K:wQ C.P kt ek) (hz:zeroOf C.P et=some (ev z)) (hm:S.H.get id=some (.map (mD ek ev m))) :
  oC C t S (.map id) (ek k) false=some (.d (ev (oO m k z))):=by
 simp only [oC,hk,mapOf,hm,K.ok,if_true,mD,vN K]
 unfold oO Bt
 cases kU k m 0 with
 | none=>simp [hz]
 | some r=>simp
theorem vg (ek:κ→D) (ev:ν→D) (k:κ) (v:ν):∀ (m:List (κ × ν)) (i:Nat),CO ek ev i m ++ [(ek k,.d (ev v),i + m.length)]=CO ek ev i (m ++ [(k,v)])
 | [],i=>rfl
 | (a,b) :: l,i=>by
  have:=vg ek ev k v l (i + 1)
  simp only [CO,List.cons_append,List.length_cons]
  rw [show i + (l.length + 1)=i + 1 + l.length by omega,this]
theorem BG (ek:κ→D) (ev:ν→D) (k:κ) (v:ν):∀ (m:List (κ × ν)) (i j:Nat),(CO ek ev i m).modify j (fun p=>(ek k,.d (ev v),p.2.2))=CO ek ev i (m.set j (k,v))
 | [],i,j=>by simp [CO]
 | (a,b) :: l,i,0=>by simp [CO]
 | (a,b) :: l,i,j + 1=>by
  have:=BG ek ev k v l (i + 1) j
  simp only [CO,List.set_cons_succ,List.modify_succ_cons,this]
theorem Eh {C:gK} {t kt et id:Nat} {S:St} {ek:κ→D} {ev:ν→D} {m:List (κ × ν)} {k:κ} {v:ν} (hk:pV C t=some (kt,et)) (K:wQ C.P kt ek) (hm:S.H.get id=some (.map (mD ek ev m))) :
  oG C t S (.map id) (ek k) (.d (ev v))=some { S with H:=S.H.set id (.map (mD ek ev (vw m k v))) }:=by
 simp only [oG,hk,hm,K.ok,AV.plain,Bool.and_self,if_true,mD,vN K]
 unfold vw
 cases hf:kU k m 0 with
 | none =>
  have:=vg ek ev k v m 0
  rw [Nat.zero_add] at this
  simp [this]
 | some r=>simp [BG]
theorem Has.map {B S:St} {l:List eH} (h:Has B S l) (m:uk):Has B (bX S (.map m)) (.map S.nx m :: l) :=
 h.new _ rfl (by simp [eH.ok,bX,AL.aR])
omit [BEq κ] [LawfulBEq κ] in
theorem Has.Fa {B S:St} {l:List eH} (h:Has B S l) {i id:Nat} {m m':uk} (hi:l[i]? = some (.map id m)):Has B { S with H:=S.H.set id (.map m') } (l.set i (.map id m')):=by
 have hid:=h.at hi
 refine h.set hi rfl (by simp [eH.ok,AL.aR]) (fun j hl=>?_) (fun j hj=>?_) (fun j hj=>rfl) rfl
 ·
  refine h.wf j ?_
  unfold live cur at hl ⊢
  simp only [AL.aR] at hl
  by_cases hij:id=j
  ·
   subst hij; rw [show S.H.get id=_ from hid]; simp
  ·
   rw [if_neg hij] at hl; exact hl
 ·
  simp only [eH.fp,List.mem_singleton] at hj
  simp only [AL.aR]
  rw [if_neg (fun q=>hj q.symm)]
end
theorem CV {P:Program} {t:Nat} (h:P.underlying t=some .string):wQ P t D.str where
 eq:=fun a b=>by simp only [jY,h]
 same:=fun a=>by simp [D.same]
 ok:=fun a=>by simp only [ma,ll,kD,h,Bool.and_self]
section
variable {κ ν:Type} [BEq κ] [LawfulBEq κ] {R:bL} {C:gK} {nt:Nat} {ops:Array Oper} {rest:List Oper} {e:Env} {B S S':St} {Q:Stp→Prop} {l l':List eH} {t ty:Nat} {p:String} {af:Array Edge} {g:Option (Nat × Bool)} {x y w:Operand} {ρ:Operand→Option AV} {ek:κ→D} {ev:ν→D} {m:List (κ × ν)} {k:κ} {v z:ν}
theorem ai.makeMap {t1 kt et:Nat} (ek:κ→D) (ev:ν→D) (H:Has B S l) (hw:dZ ops e { dst:=some t,op:=.makeMap t1 none,type:=ty,pos:=p,after:=af,guard:=g }=some true) (hk:pV C t1=some (kt,et)) (ht:Nat.blt t nt=true)
  (k:∀ b S',Has B S' (.map b (mD ek ev []) :: l)→ai R C nt ops rest ((t,.map b) :: e) S' Q) :
  ai R C nt ops ({ dst:=some t,op:=.makeMap t1 none,type:=ty,pos:=p,after:=af,guard:=g } :: rest) e S Q :=
 ai.val hw (v:=.map S.nx) (S':=bX S (.map (mD ek ev []))) (by simp only [oper,hk,H.yx,cond_false]; rfl) ht (k _ _ (H.map _))
theorem yu {t1 kt et id i:Nat} (H:Has B S l) (hi:l[i]? = some (.map id (mD ek ev m))) (hm:ρ x=some (.map id)) (hky:ρ y=some (.d (ek k))) (hk:pV C t1=some (kt,et)) (K:wQ C.P kt ek) (hz:zeroOf C.P et=some (ev z)) :
  oper C ρ S (.lookup t1 x y false)=some (.val (.d (ev (oO m k z))) S):=by
 simp only [oper,hm,hky,DU hk K hz (H.at hi),Option.map_some]
theorem ai.mapUpdate {t1 kt et id i:Nat} (H:Has B S l) (hw:dZ ops e { dst:=none,op:=.mapUpdate t1 x y w,type:=ty,pos:=p,after:=af,guard:=g }=some true) (hi:l[i]? = some (.map id (mD ek ev m))) (hm:ic e x=some (.map id)) (hky:ic e y=some (.d (ek k))) (hv:ic e w=some (.d (ev v))) (hk:pV C t1=some (kt,et)) (K:wQ C.P kt ek)
  (kk:∀ S',Has B S' (l.set i (.map id (mD ek ev (vw m k v))))→ai R C nt ops rest e S' Q) :
  ai R C nt ops ({ dst:=none,op:=.mapUpdate t1 x y w,type:=ty,pos:=p,after:=af,guard:=g } :: rest) e S Q :=
 ai.skip hw (by simp only [oper,hm,hky,hv,Eh hk K (H.at hi),Option.map_some]) (kk _ (H.Fa hi))
end
end
end Go.Ev

namespace Go.Ev
noncomputable section
set_option linter.unusedVariables false
set_option linter.unusedSimpArgs false
theorem EC {L l1 l2:List Nat} {listed:Array Bool} {i:Nat} (hlt':i < listed.size) (hsp:(L.filter fun i=>!listed.getD i false)=l1 ++ i :: l2) (hne1:∀ k ∈ l1,k ≠ i) (hne2:∀ k ∈ l2,k ≠ i) :
  L.filter (fun j=>!(listed.setIfInBounds i true).getD j false)=l1 ++ l2:=by
 have:(fun j=>!(listed.setIfInBounds i true).getD j false)=(fun j=>(!listed.getD j false) && decide (j ≠ i)):=by
  funext j
  by_cases hj:i=j
  ·
   subst hj; simp [hlt']
  ·
   rw [getD_set_ne false hj]; simp [Ne.symm hj]
 rw [this,← List.filter_filter]
 have hcomm:∀ (l:List Nat) (p q:Nat→Bool),(l.filter p).filter q=(l.filter q).filter p:=fun l p q=>by
  rw [List.filter_filter,List.filter_filter]; congr 1; funext a; exact Bool.and_comm _ _
 rw [hcomm,hsp,List.filter_append,List.filter_cons]
 simp only [ne_eq,not_true_eq_false,decide_false,Bool.false_eq_true,if_false]
 congr 1
 ·
  rw [List.filter_eq_self]; intro k hk; simpa using hne1 k hk
 ·
  rw [List.filter_eq_self]; intro k hk; simpa using hne2 k hk
theorem Fg {ops:Array Oper} (hr:qb ops=true) {listed:Array Bool} (hcl:Closed ops listed) {i:Nat} {o:Oper} (h2:ops[i]? = some o) (h3:∀ e ∈ o.after,Region.binds .any e=true→listed.getD e.on false=true) :
  ∀ k,k < i→((Region.before ops).getD i 0).testBit k=true→listed.getD k false=true:=by
 intro k hk hb
 obtain ⟨r1,r2,_⟩:=lU hr h2
 have hlt:i < ops.size:=(Array.getElem?_eq_some_iff.1 h2).1
 have hkx:∃ x,ops[k]? = some x:=⟨ops[k],by simp [show k < ops.size by omega]⟩
 obtain ⟨x,hx⟩:=hkx
 have:=r2 k x hk hx
 rw [if_pos hb] at this
 obtain ⟨ed,he,hbnd,hor⟩:=this
 rcases hor with q | q
 ·
  rw [← q]; exact h3 ed he hbnd
 ·
  by_cases hke:k < ed.on
  ·
   exact hcl ed.on (h3 ed he hbnd) k hke q
  ·
   rcases Nat.lt_or_ge ed.on k with q1 | q1
   ·
    exfalso
    have hel:ed.on < ops.size:=by have:=r1 ed he hbnd; omega
    have:=(lU hr (show ops[ed.on]? = some ops[ed.on] by simp [hel])).2.2 k (by omega)
    rw [this] at q; cases q
   ·
    have:k=ed.on:=by omega
    rw [this]; exact h3 ed he hbnd
theorem Bu {ops:Array Oper} {listed:Array Bool} (hcl:Closed ops listed) {i:Nat} (hclo:∀ k,k < i→((Region.before ops).getD i 0).testBit k=true→listed.getD k false=true):Closed ops (listed.setIfInBounds i true):=by
 intro j hj k hkj hb
 by_cases hij:i=j
 ·
  subst hij
  exact getD_set_true (hclo k hkj hb)
 ·
  rw [getD_set_ne false hij] at hj
  exact getD_set_true (hcl j hj k hkj hb)
theorem Br {ops:Array Oper} (hr:qb ops=true) {listed:Array Bool} (hsz:listed.size=ops.size) {m:Nat} (m1:m < ops.size) (m2:listed.getD m false=false):Region.ready .any ops listed ≠ []:=by
 have hex:∃ m,m < ops.size∧listed.getD m false=false∧∀ k,k < m→listed.getD k false=true:=by
  induction m using Nat.strongRecOn with
  | _ m ihm =>
   by_cases hall:∀ k,k < m→listed.getD k false=true
   ·
    exact ⟨m,m1,m2,hall⟩
   ·
    have:∃ k,k < m∧listed.getD k false=false:=by
     refine Classical.byContradiction fun hc=>hall fun k hk=>?_
     cases hv:listed.getD k false with
     | true=>rfl
     | false=>exact absurd ⟨k,hk,hv⟩ hc
    obtain ⟨k,hk,hv⟩:=this
    exact ihm k hk (by omega) hv
 obtain ⟨m,hmlt,hm2,hmin⟩:=hex
 have hmo:ops[m]? = some ops[m]:=by simp [hmlt]
 have hready:m ∈ Region.ready .any ops listed:=by
  rw [mem_ready]
  refine ⟨by have:m < listed.size:=(by omega); simp [this] at hm2 ⊢; exact hm2,ops[m],hmo,fun ed he hb=>?_⟩
  have hon:=(lU hr hmo).1 ed he hb
  exact hmin ed.on hon
 intro hnone
 rw [hnone] at hready
 cases hready
end
end Go.Ev

namespace Go.Ev
noncomputable section
set_option linter.unusedVariables false
set_option linter.unusedSimpArgs false
variable {R:bL} {C:gK} {nt:Nat}
section
variable {B:St} {T:List Fact} {ops:Array Oper} {rest:List (Nat × Oper)} {I K:List Nat} {e:Env} {S S':St} {Q:Env→St→Prop} {l l':List eH} {t ty i:Nat} {p:String} {af:Array Edge} {g:Option (Nat × Bool)} {v:AV} {x y:Operand}
end
end
end Go.Ev

namespace Go.Ev
noncomputable section
set_option linter.unusedVariables false
set_option linter.unusedSimpArgs false
variable {R:bL} {C:gK} {P:Program} {nt:Nat} {B:St}
open Classical in
end
end Go.Ev

namespace Go.Ev
noncomputable section
set_option linter.unusedVariables false
set_option linter.unusedSimpArgs false
variable {R:bL} {P:Program} {B:St}
section
variable {C:gK} {ρ:Operand→Option AV} {S:St} {l:List eH} {x y:Operand} {t:Nat} {v:AV}
end
end
end Go.Ev

namespace Go.Ev
noncomputable section
set_option linter.unusedVariables false
set_option linter.unusedSimpArgs false
variable {R:bL} {P:Program} {B:St}
section
variable {C:gK} {ρ:Operand→Option AV} {S:St} {l:List eH} {x y:Operand} {t:Nat} {v:AV}
end
theorem av.EG:∀ {args:List AV} {ds:List D},av args ds→kT (ds.map .d) args
 | [],ds,⟨ds',h1,h2⟩=>by simp [jW] at h1; subst h1; cases h2; exact .nil
 | x :: xs,ds,⟨ds',h1,h2⟩=>by
  simp only [jW] at h1
  split at h1
  ·
   rename_i d hd
   obtain ⟨ds2,h3,rfl⟩:=Option.map_eq_some_iff.1 h1
   cases h2 with
   | cons h k=>exact .cons (fun cx S w v hr=>.d _ _ (h _ _ _ (kz hd hr))) (av.EG ⟨ds2,h3,k⟩)
  ·
   cases h1
section
variable {C:gK} {nt:Nat}
section steps
variable {ops:Array Oper} {rest:List Oper} {e:Env} {S S':St} {Q:Stp→Prop} {l l':List eH} {t ty:Nat} {p:String} {af:Array Edge} {g:Option (Nat × Bool)} {x y:Operand} {v:AV}
end steps
end
end
end Go.Ev

namespace Go.Ev
noncomputable section
set_option linter.unusedVariables false
set_option linter.unusedSimpArgs false
variable {R:bL} {P:Program} {B:St}
section
variable {C:gK} {nt:Nat} {ops:Array Oper} {rest:List Oper} {e:Env} {S S':St} {Q:Stp→Prop} {l l':List eH} {t ty:Nat} {p:String} {af:Array Edge} {g:Option (Nat × Bool)} {x y:Operand} {v:AV}
end
end
end Go.Ev
namespace Go.Ev
end Go.Ev
namespace Go.Ev
noncomputable section
set_option linter.unusedVariables false
section
variable {R:bL} {C:gK} {nt:Nat} {B:St} {ops:Array Oper} {rest:List Oper} {e:Env} {S S':St} {Q:Stp→Prop} {l l':List eH} {t ty:Nat} {p:String} {af:Array Edge} {g:Option (Nat × Bool)} {x y:Operand} {v:AV}
end
end
end Go.Ev

namespace Go.Ev
noncomputable section
set_option linter.unusedVariables false
set_option linter.unusedSimpArgs false
variable {R:bL} {C:gK} {nt:Nat} {B:St}
theorem El {ops:Array Oper} (hr:qb ops=true) {Q:Exit→Act→World→Prop} (Inv:Array Bool→Act→World→Prop)
  (hstep:∀ listed a w i o (K:Act→World→Prop),listed.size=ops.size→Closed ops listed→listed.getD i false=false→ops[i]? = some o→(∀ k,k < i→((Region.before ops).getD i 0).testBit k=true→listed.getD k false=true)→Inv listed a w →
   (∀ a' w',Inv (listed.setIfInBounds i true) a' w'→K a' w')→wpOp C.P ops Q i K a w)
  (hend:∀ listed a w,(∀ i,i < ops.size→listed.getD i false=true)→Inv listed a w→Q .normal a w) :
  ∀ (fuel:Nat) (listed:Array Bool) {w:World} {a:Act},listed.size=ops.size→Closed ops listed→((List.range ops.size).filter fun i=>!listed.getD i false).length=fuel→Inv listed a w→wpAny C.P .any ops Q fuel listed a w:=by
 intro fuel
 induction fuel with
 | zero =>
  intro listed w a hsz hcl hlen hI
  have hnil:=List.eq_nil_of_length_eq_zero hlen
  have hall:∀ i,i < ops.size→listed.getD i false=true:=fun i hi=>by
   cases hc:listed.getD i false with
   | true=>rfl
   | false =>
    have:i ∈ (List.range ops.size).filter fun i=>!listed.getD i false:=by
     rw [List.mem_filter]; exact ⟨List.mem_range.2 hi,by rw [hc]; rfl⟩
    rw [hnil] at this; cases this
  refine ⟨?_,hend listed a w hall hI⟩
  cases hq:Region.ready .any ops listed with
  | nil=>rfl
  | cons i l =>
   have hi:i ∈ Region.ready .any ops listed:=by rw [hq]; simp
   obtain ⟨h1,o,h2,_⟩:=mem_ready.1 hi
   have hlt:i < ops.size:=(Array.getElem?_eq_some_iff.1 h2).1
   have:=hall i hlt
   have hlt':i < listed.size:=by omega
   simp [hlt'] at h1 this
   rw [h1] at this; cases this
 | succ fuel ih =>
  intro listed w a hsz hcl hlen hI
  refine ⟨fun hnone=>?_,fun i hi=>?_⟩
  ·
   exfalso
   cases hq:(List.range ops.size).filter fun i=>!listed.getD i false with
   | nil=>rw [hq] at hlen; simp at hlen
   | cons m l =>
    have hm:m ∈ (List.range ops.size).filter fun i=>!listed.getD i false:=by rw [hq]; simp
    obtain ⟨hm1,hm2⟩:=List.mem_filter.1 hm
    exact Br hr hsz (List.mem_range.1 hm1) (by simpa using hm2) hnone
  ·
   obtain ⟨h1,o,h2,h3⟩:=mem_ready.1 hi
   have hlt:i < ops.size:=(Array.getElem?_eq_some_iff.1 h2).1
   have hlt':i < listed.size:=by omega
   have h1':listed.getD i false=false:=by simp [hlt'] at h1 ⊢; exact h1
   have hclo:=Fg hr hcl h2 h3
   refine hstep listed a w i o _ hsz hcl h1' h2 hclo hI (fun a' w' hI'=>ih _ (by simpa using hsz) (Bu hcl hclo) ?_ hI')
   have hsp:=hlen
   have hmem:i ∈ (List.range ops.size).filter fun i=>!listed.getD i false:=by
    rw [List.mem_filter]; exact ⟨List.mem_range.2 hlt,by rw [h1']; rfl⟩
   obtain ⟨l1,l2,hq⟩:=List.append_of_mem hmem
   have hnd:((List.range ops.size).filter fun i=>!listed.getD i false).Nodup:=List.Pairwise.filter _ List.nodup_range
   rw [hq] at hnd
   have hn2:=(List.nodup_append.1 hnd)
   have hne1:∀ k ∈ l1,k ≠ i:=fun k hk=>hn2.2.2 k hk i (by simp)
   have hne2:∀ k ∈ l2,k ≠ i:=fun k hk q=>by
    subst q
    exact (List.nodup_cons.1 hn2.2.1).1 hk
   rw [EC hlt' hq hne1 hne2]
   rw [hq] at hsp
   simp at hsp ⊢; omega
def EF (cx:Cx) (S:St) (w:World) (a:Act) (t:Nat) (x:AV):Prop:=∃ v,a.tmps[t]? = some v∧aF cx S w x v
structure qP (nt:Nat) (ops:Array Oper) (e0:Env) (listed:Array Bool) (ws:List (Option AV)) (cx:Cx) (S:St) (w:World) (a:Act):Prop where
 size:nt ≤ a.tmps.size
 new:∀ k o t,ops[k]? = some o→o.dst=some t→listed.getD k false=true→(∀ j o',j ≠ k→ops[j]? = some o'→o'.dst=some t→listed.getD j false=true→j < k)→∃ x,ws[k]? = some (some x)∧EF cx S w a t x
 old:∀ t x,AL.get e0 t=some x→(∀ j o',ops[j]? = some o'→o'.dst=some t→listed.getD j false=false)→EF cx S w a t x
abbrev Src:=List (Nat × Option Nat)
def mP (ws:List (Option AV)) (e0:Env):Src→Option Env
 | []=>some []
 | (t,some k) :: l=>match ws[k]? with
  | some (some x)=>(mP ws e0 l).map ((t,x) :: ·)
  | _=>none
 | (t,none) :: l=>match AL.get e0 t with
  | some x=>(mP ws e0 l).map ((t,x) :: ·)
  | none=>none
def sW (ops:Array Oper) (k t:Nat):Bool:=match ops[k]? with
 | some o=>(match o.dst with | some d=>Nat.beq d t | none=>false)
 | none=>false
theorem lC {ops:Array Oper} {k t:Nat}:sW ops k t=true↔∃ o,ops[k]? = some o∧o.dst=some t:=by
 unfold sW
 cases h:ops[k]? with
 | none=>simp
 | some o =>
  cases hd:o.dst with
  | none=>simp [hd]
  | some d=>simp [hd]
def Bg (ops:Array Oper) (Bi:Nat) (i:Nat):Src→Bool
 | []=>true
 | (t,some k) :: l=>sW ops k t && Nat.testBit Bi k && ((List.range ops.size).all fun j=>!(sW ops j t) || Nat.beq j k || Nat.blt j k || Nat.beq j i || Nat.testBit ((Region.before ops).getD j 0) i) && Bg ops Bi i l
 | (t,none) :: l=>((List.range ops.size).all fun j=>!(sW ops j t) || Nat.beq j i || Nat.testBit ((Region.before ops).getD j 0) i) && Bg ops Bi i l
def CE (ops:Array Oper):Src→Bool
 | []=>true
 | (t,some k) :: l=>sW ops k t && ((List.range ops.size).all fun j=>!(sW ops j t) || Nat.beq j k || Nat.blt j k) && CE ops l
 | (t,none) :: l=>((List.range ops.size).all fun j=>!(sW ops j t)) && CE ops l
theorem pM {ops:Array Oper} {e0:Env} {listed:Array Bool} {ws:List (Option AV)} {cx:Cx} {S:St} {w:World} {a:Act} (h:qP nt ops e0 listed ws cx S w a):∀ {L:Src} {e:Env},mP ws e0 L=some e →
  (∀ t k,(t,some k) ∈ L→∃ o,ops[k]? = some o∧o.dst=some t∧listed.getD k false=true∧∀ j o',j ≠ k→ops[j]? = some o'→o'.dst=some t→listed.getD j false=true→j < k) →
  (∀ t,(t,none) ∈ L→∀ j o',ops[j]? = some o'→o'.dst=some t→listed.getD j false=false)→ig cx S w nt e a
 | [],e,he,_,_=>by
  simp only [mP,Option.some.injEq] at he
  subst he
  exact ⟨h.size,fun t x hx=>by simp [AL.get] at hx⟩
 | (t,some k) :: L,e,he,hA,hB=>by
  simp only [mP] at he
  split at he
  ·
   rename_i x hx
   obtain ⟨e',he',rfl⟩:=Option.map_eq_some_iff.1 he
   have ih:=pM h he' (fun t k hm=>hA t k (List.mem_cons_of_mem _ hm)) (fun t hm=>hB t (List.mem_cons_of_mem _ hm))
   refine ⟨h.size,fun u y hy=>?_⟩
   rw [AL.gG] at hy
   by_cases hu:t=u
   ·
    subst hu
    rw [if_pos rfl] at hy; cases hy
    obtain ⟨o,h1,h2,h3,h4⟩:=hA t k List.mem_cons_self
    obtain ⟨x',hx',hs⟩:=h.new k o t h1 h2 h3 h4
    rw [hx] at hx'; cases hx'
    exact hs
   ·
    rw [if_neg hu] at hy; exact ih.rel u y hy
  ·
   cases he
 | (t,none) :: L,e,he,hA,hB=>by
  simp only [mP] at he
  split at he
  ·
   rename_i x hx
   obtain ⟨e',he',rfl⟩:=Option.map_eq_some_iff.1 he
   have ih:=pM h he' (fun t k hm=>hA t k (List.mem_cons_of_mem _ hm)) (fun t hm=>hB t (List.mem_cons_of_mem _ hm))
   refine ⟨h.size,fun u y hy=>?_⟩
   rw [AL.gG] at hy
   by_cases hu:t=u
   ·
    subst hu
    rw [if_pos rfl] at hy; cases hy
    exact h.old t x hx (hB t List.mem_cons_self)
   ·
    rw [if_neg hu] at hy; exact ih.rel u y hy
  ·
   cases he
theorem pF {ops:Array Oper} (hr:qb ops=true) {i k:Nat} (hi:i < ops.size) (h:((Region.before ops).getD i 0).testBit k=true):k < i:=by
 rcases Nat.lt_or_ge k i with q | q
 ·
  exact q
 ·
  have:=(lU hr (show ops[i]? = some ops[i] by simp [hi])).2.2 k q
  rw [this] at h; cases h
theorem zJ {ops:Array Oper} (hr:qb ops=true) {e0:Env} {listed:Array Bool} (hcl:Closed ops listed) {ws:List (Option AV)} {cx:Cx} {S:St} {w:World} {a:Act} (h:qP nt ops e0 listed ws cx S w a) {i:Nat} (hi:i < ops.size) (hun:listed.getD i false=false)
  (hclo:∀ k,k < i→((Region.before ops).getD i 0).testBit k=true→listed.getD k false=true) {L:Src} {e:Env} (he:mP ws e0 L=some e) (hb:Bg ops ((Region.before ops).getD i 0) i L=true):ig cx S w nt e a:=by
 have late:∀ j,j < ops.size→((Region.before ops).getD j 0).testBit i=true→listed.getD j false=true→False:=fun j hj hb hl=>by
  have:=hcl j hl i (pF hr hj hb) hb
  rw [this] at hun; cases hun
 have key:(∀ t k,(t,some k) ∈ L→∃ o,ops[k]? = some o∧o.dst=some t∧listed.getD k false=true∧∀ j o',j ≠ k→ops[j]? = some o'→o'.dst=some t→listed.getD j false=true→j < k) ∧
   (∀ t,(t,none) ∈ L→∀ j o',ops[j]? = some o'→o'.dst=some t→listed.getD j false=false):=by
  clear he
  induction L with
  | nil=>exact ⟨fun t k hm=>(by cases hm),fun t hm=>(by cases hm)⟩
  | cons p L ih =>
   obtain ⟨t,s⟩:=p
   cases s with
   | some k =>
    simp only [Bg,Bool.and_eq_true] at hb
    obtain ⟨⟨⟨b1,b2⟩,b3⟩,b4⟩:=hb
    obtain ⟨ih1,ih2⟩:=ih b4
    refine ⟨fun u q hm=>?_,fun u hm=>?_⟩
    ·
     rcases List.mem_cons.1 hm with hm | hm
     ·
      cases hm
      obtain ⟨o,h1,h2⟩:=lC.1 b1
      refine ⟨o,h1,h2,hclo k (pF hr hi b2) b2,fun j o' hjk hj hd hl=>?_⟩
      have hjl:j < ops.size:=(Array.getElem?_eq_some_iff.1 hj).1
      have:=List.all_eq_true.1 b3 j (List.mem_range.2 hjl)
      simp only [lC.2 ⟨o',hj,hd⟩,Bool.not_true,Bool.false_or,Bool.or_eq_true] at this
      rcases this with ((q | q) | q) | q
      ·
       exact absurd (Nat.eq_of_beq_eq_true q) hjk
      ·
       exact Nat.le_of_ble_eq_true q
      ·
       rw [Nat.eq_of_beq_eq_true q,hun] at hl; cases hl
      ·
       exact (late j hjl q hl).elim
     ·
      exact ih1 u q hm
    ·
     rcases List.mem_cons.1 hm with hm | hm
     ·
      cases hm
     ·
      exact ih2 u hm
   | none =>
    simp only [Bg,Bool.and_eq_true] at hb
    obtain ⟨b3,b4⟩:=hb
    obtain ⟨ih1,ih2⟩:=ih b4
    refine ⟨fun u q hm=>?_,fun u hm=>?_⟩
    ·
     rcases List.mem_cons.1 hm with hm | hm
     ·
      cases hm
     ·
      exact ih1 u q hm
    ·
     rcases List.mem_cons.1 hm with hm | hm
     ·
      cases hm
      intro j o' hj hd
      have hjl:j < ops.size:=(Array.getElem?_eq_some_iff.1 hj).1
      have:=List.all_eq_true.1 b3 j (List.mem_range.2 hjl)
      simp only [lC.2 ⟨o',hj,hd⟩,Bool.not_true,Bool.false_or,Bool.or_eq_true] at this
      rcases this with q | q
      ·
       rw [Nat.eq_of_beq_eq_true q]; exact hun
      ·
       cases hl:listed.getD j false with
       | false=>rfl
       | true=>exact (late j hjl q hl).elim
     ·
      exact ih2 u hm
 exact pM h he key.1 key.2
theorem D9 {ops:Array Oper} {e0:Env} {listed:Array Bool} (hall:∀ i,i < ops.size→listed.getD i false=true) {ws:List (Option AV)} {cx:Cx} {S:St} {w:World} {a:Act} (h:qP nt ops e0 listed ws cx S w a) {L:Src} {e:Env} (he:mP ws e0 L=some e) (hb:CE ops L=true):ig cx S w nt e a:=by
 have key:(∀ t k,(t,some k) ∈ L→∃ o,ops[k]? = some o∧o.dst=some t∧listed.getD k false=true∧∀ j o',j ≠ k→ops[j]? = some o'→o'.dst=some t→listed.getD j false=true→j < k) ∧
   (∀ t,(t,none) ∈ L→∀ j o',ops[j]? = some o'→o'.dst=some t→listed.getD j false=false):=by
  clear he
  induction L with
  | nil=>exact ⟨fun t k hm=>(by cases hm),fun t hm=>(by cases hm)⟩
  | cons p L ih =>
   obtain ⟨t,s⟩:=p
   cases s with
   | some k =>
    simp only [CE,Bool.and_eq_true] at hb
    obtain ⟨⟨b1,b3⟩,b4⟩:=hb
    obtain ⟨ih1,ih2⟩:=ih b4
    refine ⟨fun u q hm=>?_,fun u hm=>?_⟩
    ·
     rcases List.mem_cons.1 hm with hm | hm
     ·
      cases hm
      obtain ⟨o,h1,h2⟩:=lC.1 b1
      refine ⟨o,h1,h2,hall k (Array.getElem?_eq_some_iff.1 h1).1,fun j o' hjk hj hd hl=>?_⟩
      have hjl:j < ops.size:=(Array.getElem?_eq_some_iff.1 hj).1
      have:=List.all_eq_true.1 b3 j (List.mem_range.2 hjl)
      simp only [lC.2 ⟨o',hj,hd⟩,Bool.not_true,Bool.false_or,Bool.or_eq_true] at this
      rcases this with q | q
      ·
       exact absurd (Nat.eq_of_beq_eq_true q) hjk
      ·
       exact Nat.le_of_ble_eq_true q
     ·
      exact ih1 u q hm
    ·
     rcases List.mem_cons.1 hm with hm | hm
     ·
      cases hm
     ·
      exact ih2 u hm
   | none =>
    simp only [CE,Bool.and_eq_true] at hb
    obtain ⟨b3,b4⟩:=hb
    obtain ⟨ih1,ih2⟩:=ih b4
    refine ⟨fun u q hm=>?_,fun u hm=>?_⟩
    ·
     rcases List.mem_cons.1 hm with hm | hm
     ·
      cases hm
     ·
      exact ih1 u q hm
    ·
     rcases List.mem_cons.1 hm with hm | hm
     ·
      cases hm
      intro j o' hj hd
      have hjl:j < ops.size:=(Array.getElem?_eq_some_iff.1 hj).1
      have:=List.all_eq_true.1 b3 j (List.mem_range.2 hjl)
      simp only [lC.2 ⟨o',hj,hd⟩,Bool.not_true,Bool.or_self] at this
      cases this
     ·
      exact ih2 u hm
 exact pM h he key.1 key.2
inductive G7 (R:bL) (C:gK) (nt:Nat) (ops:Array Oper) (S:St) (e:Env) (o:Oper) (x:AV):Prop
 | val {v:AV} (hw:dZ ops e o=some true) (ho:oper C (ic e) S o.op=some (.val v S)) (hl:Less x v)
 | call {f:Nat} {args:List AV} {v:AV} (hw:dZ ops e o=some true) (ho:oper C (ic e) S o.op=some (.call f args)) (hs:gm R C.P f args S (fun r=>r=(none,v,S))) (hl:Less x v)
 | no (hw:dZ ops e o=some false) (hl:Less x (.tup []))
 | step (h:ai R C nt ops [o] e S (fun r=>∃ e' v,r=.go e' S∧(∀ t,o.dst=some t→AL.get e' t=some v∧Less x v)))
inductive Ib (R:bL) (C:gK) (nt:Nat) (ops:Array Oper) (S:St) (e:Env) (o:Oper) (PQ:AV→St→Prop) (Q:AV→St→Prop):Prop
 | val {v:AV} {S':St} (hw:dZ ops e o=some true) (ho:oper C (ic e) S o.op=some (.val v S')) (hq:Q v S')
 | skip {S':St} (hw:dZ ops e o=some true) (ho:oper C (ic e) S o.op=some (.skip S')) (hd:o.dst=none) (hq:Q .any S')
 | call {f:Nat} {args:List AV} (hw:dZ ops e o=some true) (ho:oper C (ic e) S o.op=some (.call f args)) (hs:gm R C.P f args S (fun r=>r.1=none∧Q r.2.1 r.2.2))
 | no (hw:dZ ops e o=some false) (hq:Q (.tup []) S)
 | step (h:ai R C nt ops [o] e S (fun r=>∃ e' v S',r=.go e' S'∧(∀ t,o.dst=some t→AL.get e' t=some v)∧Q v S'))
 | stepX (h:ai R C nt ops [o] e S (fun r=>match r with | .go e' S'=>∃ v,(∀ t,o.dst=some t→AL.get e' t=some v)∧Q v S' | .stop v S'=>PQ v S'))
theorem qd (hR:lZ R C) {ops:Array Oper} {o:Oper} {e:Env} {S:St} {Q:Stp→Prop} (h:rT R C nt ops o e S Q) {cx:Cx} {w:World} {a:Act} (hS:aS R cx S w) (he:ig cx S w nt e a)
  {K:Act→World→Prop} {Kx:Exit→Act→World→Prop} (hno:∀ v S',Q (.stop v S')→∀ cx' w' u,aS R cx' S' w'→Ext cx S w cx' S' w'→aF cx' S' w' v u→Kx (.panic [{ v:=u,recovered:=false }]) a w') (hk:∀ e' S' cx' w' u,Q (.go e' S')→aS R cx' S' w'→Ext cx S w cx' S' w'→ig cx' S' w' nt e' (a.put o.dst u)→K (a.put o.dst u) w') (hnx:∀ t,o.op ≠ .next (.tmp t) false) {i:Nat} (hi:ops[i]? = some o):wpOp C.P ops Kx i K a w:=by
 have hrefl:=Ext.refl (cx:=cx) w hS.wf
 rcases h with ⟨t,rs,h1,h2,h3⟩ | ⟨e2,hw,h1,h2⟩ | ⟨e2,e',hw,h1,h2,h3⟩ | ⟨e2,hw,h1,h2⟩
 ·
  exact absurd h1 (hnx t)
 rotate_left 2
 ·
  have he2:=he.weak hw
  unfold wpOp
  rw [hi]
  simp only
  rw [if_pos (dY he2 h1)]
  left
  unfold Oper.wp
  rcases h2 cx w a hS he2 with ⟨cx',w',u,v,S',e',q1,q2,q3,q4,q5,q6⟩ | ⟨u,v,q1,q2,q3⟩
  ·
   rw [q1]
   exact hk _ _ cx' w' u q6 q2 q3 ((he2.mono q3).put q5 q4)
  ·
   rw [q1]
   exact hno _ _ q3 cx w u hS hrefl q2
 ·
  have he2:=he.weak hw
  unfold wpOp
  rw [hi]
  simp only
  rw [if_pos (dY he h1)]
  left
  rcases h2 with ⟨v,S',e',h1,h2,h3⟩ | ⟨S',h1,h2,h3⟩ | ⟨f,args,h1,h2⟩ | ⟨t,x,y,ty,xs,b,el,hop,hx,hy,hu,hq⟩
  rotate_left 3
  ·
   have rx:=he2.eval x _ hx
   have ry:=he2.eval y _ hy
   obtain ⟨a0,n,c,ex,hnil⟩:=zb rx.dd
   have ey:a.eval y=.slice none 0 0:=by
    have:=ry.dd.val rfl
    generalize a.eval y=z at this
    cases this
    rfl
   have hrun:(execOp a.eval o).run C.P w=.ok (.value (.bool a0.isNone)) w:=by
    obtain ⟨dst,op,ty',pos,after,guard⟩:=o
    simp only at hop
    subst hop
    exact oM (by
     rw [ex,ey]
     have hg:(eqGuard .eql t x y (.slice a0 n c) (.slice none 0 0)).run C.P w=.ok () w:=fH rfl
     simp only [Sem.run_bind,hg,Result.andThen_ok]
     exact Lib.run_eql_slice_nil w t el a0 n c 0 0 hu)
   obtain ⟨e',hp,hk'⟩:=hq a0.isNone (fun h=>hnil (by cases a0 with | none=>rfl | some a=>cases h))
   unfold Oper.wp
   rw [hrun]
   exact hk _ _ cx w _ hk' hS hrefl (he2.put hp (.of_bool _))
  ·
   obtain ⟨cx',w',u,k1,k2,k3,k4⟩:=gI hR hS he2.eval o h1
   unfold Oper.wp
   rw [k1]
   exact hk _ _ cx' w' u h3 k2 k3 ((he2.mono k3).put h2 k4)
  ·
   obtain ⟨cx',w',k1,k2,k3⟩:=gI hR hS he2.eval o h1
   unfold Oper.wp
   rw [k1]
   refine hk _ _ cx' w' undef h3 k2 k3 ?_
   rw [h2]
   exact he2.mono k3
  ·
   obtain ⟨us,k1,k2,k3⟩:=gI hR hS he2.eval o h1
   obtain ⟨⟨fn,f1,f2,f3⟩,hcalls⟩:=h2
   unfold Oper.wp
   rw [k3 fn f1 f2 f3]
   refine (hcalls cx w us hS k1 k2).mono (fun en w' hen=>?_)
   obtain ⟨⟨p,v,S'⟩,hq,cx',m1,m2,m3⟩:=hen
   cases p with
   | none =>
    obtain ⟨u,rfl,m3⟩:=m3
    obtain ⟨e',hp,hq⟩:=hq
    exact hk _ _ cx' _ _ hq m1 m2 ((he2.mono m2).put hp m3)
   | some p =>
    obtain ⟨u,rfl,m3⟩:=m3
    exact hno _ _ hq cx' w' u m1 m2 m3
 ·
  have he2:=he.weak hw
  unfold wpOp
  rw [hi]
  simp only
  rw [if_neg (by rw [dY he h1]; simp)]
  split at h2
  ·
   rename_i hd
   subst h2
   refine hk _ _ cx w _ h3 hS hrefl ?_
   rw [hd]
   exact he2
  ·
   rename_i t hd
   refine hk _ _ cx w _ h3 hS hrefl ?_
   rw [hd]
   exact he2.put h2 (.tup [] [] rfl (fun i x v hx=>by simp at hx))
theorem uK {cx:Cx} {S:St} {w:World} {a:Act} {e:Env} {t:Nat} {u:Value} {v:AV} (he:ig cx S w nt e (a.put (some t) u)) (hv:AL.get e t=some v):aF cx S w v u:=by
 obtain ⟨u',h1,h2⟩:=he.rel t v hv
 simp only [Act.put] at h1
 have hlt:t < a.tmps.size:=by
  have:=(Array.getElem?_eq_some_iff.1 h1).1
  simpa using this
 rw [Array.getElem?_setIfInBounds_self_of_lt hlt] at h1
 cases h1
 exact h2
theorem CG (hR:lZ R C) {ops:Array Oper} {o:Oper} {e:Env} {S:St} {x:AV} (h:G7 R C nt ops S e o x) {cx:Cx} {w:World} {a:Act} (hS:aS R cx S w) (he:ig cx S w nt e a)
  {K:Act→World→Prop} {Kx:Exit→Act→World→Prop} (hk:∀ cx' w' u,aS R cx' S w'→Ext cx S w cx' S w'→(∀ t,o.dst=some t→aF cx' S w' x u)→K (a.put o.dst u) w') (hnx:∀ t,o.op ≠ .next (.tmp t) false) {i:Nat} (hi:ops[i]? = some o):wpOp C.P ops Kx i K a w:=by
 have hrefl:=Ext.refl (cx:=cx) w hS.wf
 unfold wpOp
 rw [hi]
 simp only
 cases h with
 | val hw ho hl =>
  rw [if_pos (dY he hw)]
  left
  obtain ⟨cx',w',u,k1,k2,k3,k4⟩:=gI hR hS he.eval o ho
  unfold Oper.wp
  rw [k1]
  exact hk cx' w' u k2 k3 (fun _ _=>hl _ _ _ _ k4)
 | call hw ho hs hl =>
  rw [if_pos (dY he hw)]
  left
  obtain ⟨us,k1,k2,k3⟩:=gI hR hS he.eval o ho
  obtain ⟨⟨fn,f1,f2,f3⟩,hcalls⟩:=hs
  unfold Oper.wp
  rw [k3 fn f1 f2 f3]
  refine (hcalls cx w us hS k1 k2).mono (fun en w' hen=>?_)
  obtain ⟨r,rfl,cx',m1,m2,m3⟩:=hen
  obtain ⟨u,rfl,m3⟩:=m3
  exact hk cx' w' u m1 m2 (fun _ _=>hl _ _ _ _ m3)
 | no hw hl =>
  rw [if_neg (by rw [dY he hw]; simp)]
  have hv:aF cx S w x (.tuple #[]):=hl _ _ _ _ (.tup [] [] rfl (fun i x v hx=>by simp at hx))
  exact hk cx w _ hS hrefl (fun _ _=>hv)
 | step h =>
  obtain ⟨e2,S2,hw,h⟩:=h
  obtain ⟨cx2,gS,gx,ge⟩:=hw cx w a hS he
  have:=qd hR h gS ge (K:=K) (Kx:=Kx) (fun v S' hq=>by obtain ⟨_,_,hc,_⟩:=hq; cases hc) (fun e' S' cx' w' u hq q1 q2 q3=>?_) hnx hi
  ·
   unfold wpOp at this
   rw [hi] at this
   exact this
  ·
   obtain ⟨e3,hw3,e4,v,hq1,hq2⟩:=hq
   cases hq1
   refine hk cx' w' u q1 (gx.trans q2) (fun t ht=>?_)
   obtain ⟨g1,g2⟩:=hq2 t ht
   rw [ht] at q3
   exact g2 _ _ _ _ (uK (q3.weak hw3) g1)
theorem Ch (hR:lZ R C) {ops:Array Oper} {o:Oper} {e:Env} {S:St} {PQ Q:AV→St→Prop} (h:Ib R C nt ops S e o PQ Q) {cx:Cx} {w:World} {a:Act} (hS:aS R cx S w) (he:ig cx S w nt e a)
  {K:Act→World→Prop} {Kx:Exit→Act→World→Prop} (hx:∀ v S' cx' w' u,PQ v S'→aS R cx' S' w'→Ext cx S w cx' S' w'→aF cx' S' w' v u→Kx (.panic [{ v:=u,recovered:=false }]) a w') (hk:∀ v S' cx' w' u,Q v S'→aS R cx' S' w'→Ext cx S w cx' S' w'→(∀ t,o.dst=some t→aF cx' S' w' v u)→K (a.put o.dst u) w') (hnx:∀ t,o.op ≠ .next (.tmp t) false) {i:Nat} (hi:ops[i]? = some o):wpOp C.P ops Kx i K a w:=by
 have hrefl:=Ext.refl (cx:=cx) w hS.wf
 unfold wpOp
 rw [hi]
 simp only
 cases h with
 | val hw ho hq =>
  rw [if_pos (dY he hw)]
  left
  obtain ⟨cx',w',u,k1,k2,k3,k4⟩:=gI hR hS he.eval o ho
  unfold Oper.wp
  rw [k1]
  exact hk _ _ cx' w' u hq k2 k3 (fun _ _=>k4)
 | skip hw ho hd hq =>
  rw [if_pos (dY he hw)]
  left
  obtain ⟨cx',w',k1,k2,k3⟩:=gI hR hS he.eval o ho
  unfold Oper.wp
  rw [k1]
  exact hk _ _ cx' w' undef hq k2 k3 (fun _ _=>.any _)
 | call hw ho hs =>
  rw [if_pos (dY he hw)]
  left
  obtain ⟨us,k1,k2,k3⟩:=gI hR hS he.eval o ho
  obtain ⟨⟨fn,f1,f2,f3⟩,hcalls⟩:=hs
  unfold Oper.wp
  rw [k3 fn f1 f2 f3]
  refine (hcalls cx w us hS k1 k2).mono (fun en w' hen=>?_)
  obtain ⟨⟨p,v,S'⟩,⟨hp,hq⟩,cx',m1,m2,m3⟩:=hen
  simp only at hp
  subst hp
  obtain ⟨u,rfl,m3⟩:=m3
  exact hk _ _ cx' w' u hq m1 m2 (fun _ _=>m3)
 | no hw hq =>
  rw [if_neg (by rw [dY he hw]; simp)]
  exact hk _ _ cx w _ hq hS hrefl (fun _ _=>.tup [] [] rfl (fun i x v hx=>by simp at hx))
 | step h =>
  obtain ⟨e2,S2,hw,h⟩:=h
  obtain ⟨cx2,gS,gx,ge⟩:=hw cx w a hS he
  have:=qd hR h gS ge (K:=K) (Kx:=Kx) (fun v S' hq=>by obtain ⟨_,_,_,hc,_⟩:=hq; cases hc) (fun e' S' cx' w' u hq q1 q2 q3=>?_) hnx hi
  ·
   unfold wpOp at this
   rw [hi] at this
   exact this
  ·
   obtain ⟨e3,hw3,e4,v,S4,hq1,hq2,hq3⟩:=hq
   cases hq1
   refine hk v S' cx' w' u hq3 q1 (gx.trans q2) (fun t ht=>?_)
   have g1:=hq2 t ht
   rw [ht] at q3
   exact uK (q3.weak hw3) g1
 | stepX h =>
  obtain ⟨e2,S2,hw,h⟩:=h
  obtain ⟨cx2,gS,gx,ge⟩:=hw cx w a hS he
  have:=qd hR h gS ge (K:=K) (Kx:=Kx) (fun v S' hq cx' w' u q1 q2 q3=>hx v S' cx' w' u hq q1 (gx.trans q2) q3) (fun e' S' cx' w' u hq q1 q2 q3=>?_) hnx hi
  ·
   unfold wpOp at this
   rw [hi] at this
   exact this
  ·
   obtain ⟨e3,hw3,v,hq2,hq3⟩:=hq
   refine hk v S' cx' w' u hq3 q1 (gx.trans q2) (fun t ht=>?_)
   have g1:=hq2 t ht
   rw [ht] at q3
   exact uK (q3.weak hw3) g1
inductive mZ:List (Option AV)→List (Option AV)→Prop
 | nil:mZ [] []
 | new {x:Option AV} {a b:List (Option AV)} (k:mZ a b):mZ (x :: a) (none :: b)
 | old {x y:AV} {a b:List (Option AV)} (h:Less y x) (k:mZ a b):mZ (some y :: a) (some x :: b)
theorem mZ.get {a b:List (Option AV)} (h:mZ a b):∀ {k:Nat} {x:AV},b[k]? = some (some x)→∃ y,a[k]? = some (some y)∧Less y x:=by
 induction h with
 | nil=>intro k x h; simp at h
 | new k ih =>
  intro k x h
  cases k with
  | zero=>simp at h
  | succ k=>simpa using ih (by simpa using h)
 | old h k ih =>
  intro k x hx
  cases k with
  | zero=>simp at hx; subst hx; exact ⟨_,rfl,h⟩
  | succ k=>simpa using ih (by simpa using hx)
theorem qP.step {ops:Array Oper} (hr:qb ops=true) (hnt:∀ (k:Nat) (o:Oper) (t:Nat),ops[k]? = some o→o.dst=some t→t < nt) {e0:Env} {listed:Array Bool} (hsz:listed.size=ops.size) (hcl:Closed ops listed) {ws ws':List (Option AV)} {i:Nat} (hle:∀ k x,k ≠ i→ws[k]? = some (some x)→∃ y,ws'[k]? = some (some y)∧Less y x) {cx cx':Cx} {S S':St} {w w':World} {a:Act} (h:qP nt ops e0 listed ws cx S w a)
  {o:Oper} (hi:ops[i]? = some o) (hun:listed.getD i false=false) (ex:Ext cx S w cx' S' w') {u:Value} (hu:∀ t,o.dst=some t→∃ x,ws'[i]? = some (some x)∧aF cx' S' w' x u):qP nt ops e0 (listed.setIfInBounds i true) ws' cx' S' w' (a.put o.dst u):=by
 have hlt:i < ops.size:=(Array.getElem?_eq_some_iff.1 hi).1
 have size:nt ≤ (a.put o.dst u).tmps.size:=by
  cases hd:o.dst with
  | none=>exact h.size
  | some t=>simp only [Act.put,Array.size_setIfInBounds]; exact h.size
 have keep:∀ t,o.dst ≠ some t→(a.put o.dst u).tmps[t]? = a.tmps[t]?:=fun t ht=>by
  cases hd:o.dst with
  | none=>rfl
  | some d =>
   have:d ≠ t:=fun q=>ht (by rw [hd,q])
   simp only [Act.put]
   rw [Array.getElem?_setIfInBounds_ne this]
 refine ⟨size,fun k ok t hk hd hlk hlast=>?_,fun t x hx hno=>?_⟩
 ·
  by_cases hki:k=i
  ·
   subst hki
   rw [hi] at hk; cases hk
   obtain ⟨x,hx,hr⟩:=hu t hd
   refine ⟨x,hx,u,?_,hr⟩
   have htn:=hnt k o t hi hd
   have:=h.size
   rw [hd]
   simp only [Act.put]
   rw [Array.getElem?_setIfInBounds_self_of_lt (by omega)]
  ·
   have hlk':listed.getD k false=true:=by rwa [getD_set_ne false (fun q=>hki q.symm)] at hlk
   have hklt:k < ops.size:=(Array.getElem?_eq_some_iff.1 hk).1
   have hdi:o.dst ≠ some t:=fun hdi=>by
    have hik:=hlast i o (fun q=>hki q.symm) hi hdi (by have hlt':i < listed.size:=(by omega); simp [hlt'])
    obtain ⟨r1,r2,_⟩:=lU hr hk
    have:=r2 i o hik hi
    split at this
    ·
     rename_i hb
     have:=hcl k hlk' i hik hb
     rw [hun] at this; cases this
    ·
     simp only [Oper.apart,hdi,hd,Bool.and_eq_true] at this
     simp at this
   obtain ⟨x,hx,v,v1,v2⟩:=h.new k ok t hk hd hlk' (fun j o' hjk hj hdj hlj=>hlast j o' hjk hj hdj (by
    by_cases hji:i=j
    ·
     subst hji; rw [hun] at hlj; cases hlj
    ·
     rw [getD_set_ne false hji]; exact hlj))
   obtain ⟨y,hy,hyx⟩:=hle k x hki hx
   exact ⟨y,hy,v,by rw [keep t hdi]; exact v1,hyx _ _ _ _ (v2.mono ex)⟩
 ·
  have hdi:o.dst ≠ some t:=fun hdi=>by
   have:=hno i o hi hdi
   have hlt':i < listed.size:=by omega
   simp [hlt'] at this
  obtain ⟨v,v1,v2⟩:=h.old t x hx (fun j o' hj hdj=>by
   have:=hno j o' hj hdj
   by_cases hji:i=j
   ·
    subst hji; exact hun
   ·
    rwa [getD_set_ne false hji] at this)
  exact ⟨v,by rw [keep t hdi]; exact v1,v2.mono ex⟩
inductive RL (R:bL) (C:gK) (nt:Nat) (ops:Array Oper) (srcs:List Src) (e0:Env) (ws:List (Option AV)) (S:St):List Nat→Prop
 | nil:RL R C nt ops srcs e0 ws S []
 | cons {i:Nat} {o:Oper} {x:AV} {e:Env} {os:List Nat} (ho:ops[i]? = some o) (hx:ws[i]? = some (some x)) (he:mP ws e0 (srcs.getD i [])=some e) (h:G7 R C nt ops S e o x) (k:RL R C nt ops srcs e0 ws S os):RL R C nt ops srcs e0 ws S (i :: os)
theorem RL.get {ops:Array Oper} {srcs:List Src} {e0:Env} {ws:List (Option AV)} {S:St} {os:List Nat} (h:RL R C nt ops srcs e0 ws S os):∀ {i:Nat},i ∈ os→∃ o x e,ops[i]? = some o∧ws[i]? = some (some x)∧mP ws e0 (srcs.getD i [])=some e∧G7 R C nt ops S e o x:=by
 induction h with
 | nil=>intro i h; cases h
 | cons ho hx he h k ih =>
  intro i hi
  rcases List.mem_cons.1 hi with rfl | hi
  ·
   exact ⟨_,_,_,ho,hx,he,h⟩
  ·
   exact ih hi
def Dt (i:Nat) (l:List Nat):Bool:=l.any fun j=>Nat.beq j i
theorem vJ {i:Nat} {l:List Nat}:Dt i l=true↔i ∈ l:=by
 simp only [Dt,List.any_eq_true]
 constructor
 ·
  rintro ⟨j,hj,hb⟩; rw [← Nat.eq_of_beq_eq_true hb]; exact hj
 ·
  intro h; exact ⟨i,h,Nat.beq_refl i⟩
def yP (ops:Array Oper) (os done:List Nat) (w:Option Nat) (W:List Nat):Bool :=
 (os.all fun j=>!Dt j W) &&   (List.range ops.size).all fun i=>Dt i os || Dt i done || (done.any fun d=>Nat.testBit ((Region.before ops).getD d 0) i) || (match w with | some w=>Nat.beq i w || Nat.testBit ((Region.before ops).getD i 0) w | none=>false)
def Ed (R:bL) (C:gK) (nt:Nat) (ops:Array Oper) (srcs:List Src) (fin:Src) (e0:Env) (PQ:AV→St→Prop) (Q:Env→St→Prop):List Nat→List Nat→List (Option AV)→St→Prop
 | [],done,ws,S=>∃ os,yP ops os done none []=true∧RL R C nt ops srcs e0 ws S os∧∃ E,mP ws e0 fin=some E∧Q E S
 | i :: W,done,ws,S=>∃ os,yP ops os done (some i) (i :: W)=true∧RL R C nt ops srcs e0 ws S os∧∃ o e,ops[i]? = some o∧mP ws e0 (srcs.getD i [])=some e ∧
   Ib R C nt ops S e o PQ (fun v S'=>∃ ws',mZ ws' ws∧(∀ t,o.dst=some t→∃ x,ws'[i]? = some (some x)∧Less x v)∧Ed R C nt ops srcs fin e0 PQ Q W (i :: done) ws' S')
def EH (ops:Array Oper) (nt:Nat) (srcs:List Src) (fin:Src):Bool :=
 qb ops && CE ops fin && (List.range ops.size).all fun i=>Bg ops ((Region.before ops).getD i 0) i (srcs.getD i []) && (match ops[i]? with | some o=>(match o.dst with | some t=>Nat.blt t nt | none=>true) && (match o.op with | .next _ _=>false | _=>true) | none=>true)
theorem aj.l6 (hR:lZ R C) (hm:C.P.follows .mixedOrders=true) {id:Nat} {ops:Array Oper} (srcs:List Src) (fin:Src) (ht:EH ops nt srcs fin=true) (W:List Nat) (hWn:W.Nodup) {e0:Env} {S:St} (ws:List (Option AV)) {Q:qU→Prop}
  (h:Ed R C nt ops srcs fin e0 (fun v S'=>Q (.panic v,e0,S')) (fun e' S'=>Q (.normal,e',S')) W [] ws S):aj R C.P nt (.region id ops true) e0 S Q:=by
 simp only [EH,Bool.and_eq_true] at ht
 obtain ⟨⟨hr,hfin⟩,hall⟩:=ht
 have hsrc:∀ i,i < ops.size→Bg ops ((Region.before ops).getD i 0) i (srcs.getD i [])=true:=fun i hi=>by
  have:=List.all_eq_true.1 hall i (List.mem_range.2 hi)
  simp only [Bool.and_eq_true] at this
  exact this.1
 have hnt:∀ (k:Nat) (o:Oper) (t:Nat),ops[k]? = some o→o.dst=some t→t < nt:=fun k o t hk hd=>by
  have:=List.all_eq_true.1 hall k (List.mem_range.2 (Array.getElem?_eq_some_iff.1 hk).1)
  simp only [Bool.and_eq_true,hk,hd] at this
  exact Nat.le_of_ble_eq_true this.2.1
 have hnx:∀ (k:Nat) (o:Oper),ops[k]? = some o→∀ t,o.op ≠ .next (.tmp t) false:=fun k o hk t ho=>by
  have:=List.all_eq_true.1 hall k (List.mem_range.2 (Array.getElem?_eq_some_iff.1 hk).1)
  simp only [Bool.and_eq_true,hk,ho] at this
  cases this.2.2
 intro cx w a Kx hS he hk
 refine wp_region_any hm ?_
 obtain ⟨d1,d2⟩:=nQ hR.toObjOk hS
 let Inv:Array Bool→Act→World→Prop:=fun listed a' w'=>a'.defers=a.defers∧∃ W' done ws' S' cx',Ed R C nt ops srcs fin e0 (fun v S'=>Q (.panic v,e0,S')) (fun e' S'=>Q (.normal,e',S')) W' done ws' S'∧(∀ i ∈ done,listed.getD i false=true)∧(∀ i ∈ W',listed.getD i false=false)∧W'.Nodup ∧
  aS R cx' S' w'∧Ext cx S w cx' S' w'∧qP nt ops e0 listed ws' cx' S' w' a'
 have repf:∀ i,(Array.replicate ops.size false).getD i false=false:=fun i=>Cc _ _
 refine El hr Inv ?_ ?_ ops.size (Array.replicate ops.size false) (by simp) (fun j hj=>by rw [repf] at hj; cases hj) ?_ ?_
 ·
  intro listed a' w' i o K hsz hcl hun hi hclo ⟨hd,W',done,ws',S',cx',hD,hdone,hW',hnd,s1,x1,env⟩ hK
  have hlt:i < ops.size:=(Array.getElem?_eq_some_iff.1 hi).1
  have rstep:∀ os,RL R C nt ops srcs e0 ws' S' os→i ∈ os→i ∉ W'→wpOp C.P ops Kx i K a' w':=fun os hrl hio hiw=>by
   obtain ⟨o2,x,e,h1,h2,h3,h4⟩:=hrl.get hio
   rw [hi] at h1; cases h1
   have hrel:=zJ hr hcl env hlt hun hclo h3 (hsrc i hlt)
   refine CG hR h4 s1 hrel (fun cx2 w2 u q1 q2 q3=>hK _ _ ⟨by rw [put_defers]; exact hd,W',done,ws',S',cx2,hD,fun j hj=>?_,fun j hj=>?_,hnd,q1,x1.trans q2,?_⟩) (hnx i o hi) hi
   ·
    by_cases hij:i=j
    ·
     subst hij; exact getD_set_true (hdone i hj)
    ·
     rw [getD_set_ne false hij]; exact hdone j hj
   ·
    have hij:i ≠ j:=fun q=>hiw (q ▸ hj)
    rw [getD_set_ne false hij]; exact hW' j hj
   ·
    exact qP.step hr hnt hsz hcl (fun k y _ hy=>⟨y,hy,.refl y⟩) env hi hun q2 (fun t ht=>⟨x,h2,q3 t ht⟩)
  have cov:∀ os w0,yP ops os done w0 W'=true→(i ∈ os∧i ∉ W')∨∃ w1,w0=some w1∧(i=w1∨listed.getD w1 false=true):=fun os w0 hc=>by
   simp only [yP,Bool.and_eq_true] at hc
   obtain ⟨c1,c2⟩:=hc
   have:=List.all_eq_true.1 c2 i (List.mem_range.2 hlt)
   simp only [Bool.or_eq_true] at this
   rcases this with ((q | q) | q) | q
   ·
    left
    have hio:=vJ.1 q
    refine ⟨hio,fun hiw=>?_⟩
    have:=List.all_eq_true.1 c1 i hio
    rw [vJ.2 hiw] at this; cases this
   ·
    have:=hdone i (vJ.1 q)
    rw [hun] at this; cases this
   ·
    obtain ⟨d,hd1,hd2⟩:=List.any_eq_true.1 q
    have hl:=hdone d hd1
    have hdlt:d < ops.size:=by
     rcases Nat.lt_or_ge d ops.size with q | q
     ·
      exact q
     ·
      have:listed.getD d false=false:=by simp [show listed.size ≤ d by omega]
      rw [hl] at this; cases this
    have:=hcl d hl i (pF hr hdlt hd2) hd2
    rw [hun] at this; cases this
   ·
    right
    cases w0 with
    | none=>cases q
    | some w1 =>
     simp only [Bool.or_eq_true] at q
     refine ⟨w1,rfl,q.imp Nat.eq_of_beq_eq_true (fun q=>hclo w1 (pF hr hlt q) q)⟩
  cases W' with
  | nil =>
   obtain ⟨os,hc,hrl,_⟩:=_root_.id hD
   rcases cov os none hc with h | ⟨w1,h,_⟩
   ·
    exact rstep os hrl h.1 h.2
   ·
    cases h
  | cons w0 W2 =>
   obtain ⟨os,hc,hrl,o2,e,h1,h2,h3⟩:=_root_.id hD
   rcases cov os (some w0) hc with h | ⟨w1,h,hq⟩
   ·
    exact rstep os hrl h.1 h.2
   ·
    cases h
    rcases hq with rfl | hq
    ·
     rw [hi] at h1; cases h1
     have hrel:=zJ hr hcl env hlt hun hclo h2 (hsrc i hlt)
     refine Ch hR h3 s1 hrel (fun v S2 cx2 w2 u hqv q1 q2 q3=>hk (.panic v,e0,S2) hqv cx2 a' w2 u q1 (x1.trans q2) q3 hd) (fun v S2 cx2 w2 u hqv q1 q2 q3=>?_) (hnx i o hi) hi
     obtain ⟨ws2,l1,l2,l3⟩:=hqv
     refine hK _ _ ⟨by rw [put_defers]; exact hd,W2,i :: done,ws2,S2,cx2,l3,fun j hj=>?_,fun j hj=>?_,(List.nodup_cons.1 hnd).2,q1,x1.trans q2,?_⟩
     ·
      by_cases hij:i=j
      ·
       subst hij
       have hlt':i < listed.size:=by omega
       simp [hlt']
      ·
       rw [getD_set_ne false hij]
       rcases List.mem_cons.1 hj with q | q
       ·
        exact absurd q.symm hij
       ·
        exact hdone j q
     ·
      have hij:i ≠ j:=fun q=>(List.nodup_cons.1 hnd).1 (q ▸ hj)
      rw [getD_set_ne false hij]; exact hW' j (List.mem_cons_of_mem _ hj)
     ·
      exact qP.step hr hnt hsz hcl (fun k y _ hy=>l1.get hy) env hi hun q2 (fun t ht=>by
       obtain ⟨x,k1,k2⟩:=l2 t ht
       exact ⟨x,k1,k2 _ _ _ _ (q3 t ht)⟩)
    ·
     have:=hW' w0 List.mem_cons_self
     rw [hq] at this; cases this
 ·
  intro listed a' w' hall' ⟨hd,W',done,ws',S',cx',hD,hdone,hW',hnd,s1,x1,env⟩
  cases W' with
  | nil =>
   obtain ⟨os,hc,hrl,E,hE,hQ⟩:=hD
   exact hk (.normal,E,S') hQ cx' a' w' s1 x1 (D9 hall' env hE hfin) hd
  | cons w0 W2 =>
   obtain ⟨os,hc,hrl,o2,e,h1,h2,h3⟩:=hD
   have:=hall' w0 (Array.getElem?_eq_some_iff.1 h1).1
   rw [hW' w0 List.mem_cons_self] at this; cases this
 ·
  have:((List.range ops.size).filter fun i=>!(Array.replicate ops.size false).getD i false)=List.range ops.size:=by
   rw [List.filter_eq_self]; intro i hi; rw [repf]; rfl
  rw [this]; simp
 ·
  refine ⟨rfl,W,[],ws,S,cx,h,fun i hi=>(by cases hi),fun i hi=>repf i,hWn,d1,d2,he.size,fun k o t _ _ hl _=>?_,fun t x hx _=>?_⟩
  ·
   rw [repf] at hl; cases hl
  ·
   obtain ⟨v,v1,v2⟩:=he.rel t x hx
   exact ⟨v,v1,v2.mono d2⟩
end
end Go.Ev
namespace Go.Ev
end Go.Ev

namespace Go.Ev
noncomputable section
open Go.Shelf Go.RowKit Go.Proofs
set_option linter.unusedVariables false
set_option linter.unusedSimpArgs false
end
end Go.Ev

namespace Go.Ev
noncomputable section
open Go.Shelf Go.RowKit Go.Proofs
set_option linter.unusedVariables false
set_option linter.unusedSimpArgs false
def kY (P:Program):gK:={ P:=P,good:=fun _=>false,rowT:=fun _=>false,prim:=fun _ _ _=>none,objT:=fun _=>none,hasPrim:=fun _=>false }
theorem En {P:Program} {w:World} {t t2 e ty:Nat} {ie:TypeInfo} (hu:P.underlying t=some (.slice e)) (hi:P.info? e=some ie) (hz0:ie.zero=some (.int .u8 0)) (hz1:ie.size=1) (hz2:ie.bytes=1)
  (h2:iU (kY P) t2=true) {v u:Value} {n m:Nat} {xs news:List Value} (hown:w.ownsRow 0 e 1 v n xs)
  (hn:(Builtin.lenOf u).run P w=.ok m w) (hnew:∀ w',w'.heap=w.heap→(Builtin.firstCells 1 m u).run P w'=.ok news.toArray w') (hl:news.length=m) (h1:∀ x ∈ news,x.oneCell'=true) (hb:n + m ≤ bound) :
  ∃ v' w',(Builtin.append_ #[t,t2] ty #[v,u]).run P w=.ok v' w'∧w'.ownsRow 0 e 1 v' (n + m) (xs ++ news)∧w.grownBy w' v.ownBlock∧(v'.ownBlock=v.ownBlock∨v'.ownBlock=some w.heap.size):=by
 have hxl:xs.length=n:=by have:=hown.1; omega
 have hlen:(xs ++ news).length=(n + m) * 1:=by rw [List.length_append,hxl,hl]; omega
 have hmax:maxLen=9223372036854775807:=by decide
 have grows:∀ (base:Option Addr) (cap:Nat) (row:Option Nat),n ≤ cap→¬ n + m ≤ cap→(∀ w',w'.heap=w.heap→(Builtin.firstCells ie.size n (.slice base n cap)).run P w'=.ok xs.toArray w') →
   ∃ v' w',(Builtin.append_ #[t,t2] ty #[.slice base n cap,u]).run P w=.ok v' w'∧w'.ownsRow 0 e 1 v' (n + m) (xs ++ news)∧w.grownBy w' row∧(v'.ownBlock=some w.heap.size):=by
  intro base cap row hnc hroom hold
  obtain ⟨nc,n1,n63,n2⟩:=iE (C:=kY P) (w:=w) (ty:=ty) (sLen:=n) (sCap:=cap) (n:=m) (base:=base) (u:=u) hu hi h2 hn hroom (by omega) (by omega) (by rw [hz2,Nat.mul_one]; exact hb) hz0 (hold _ rfl) (by rw [hz1]; exact hnew w.drew rfl)
  refine ⟨_,_,n2,⟨hlen,.inr ⟨w.heap.size,nc,_,rfl,Nat.zero_le _,heap_alloc_new w.drew _,n1,by omega,?_,?_⟩⟩,⟨rfl,rfl,rfl,by rw [size_alloc]; exact Nat.le_succ _,fun k hk _=>heap_alloc_old w.drew _ hk⟩,rfl⟩
  ·
   simp [iZ,Value.cells,hxl,hl]; omega
  ·
   have:(n + m) * 1=(xs ++ news).length:=hlen.symm
   rw [this]
   simp only [Array.toList_append,List.append_assoc]
   rw [← List.append_assoc]
   exact List.take_left
 rcases hown.2 with ⟨rfl,rfl⟩ | ⟨g,cap,cur,rfl,_,hg,hnc,hcm,hcs,htake⟩
 ·
  have hxe:xs=[]:=List.eq_nil_of_length_eq_zero hxl
  subst hxe
  by_cases hm:m=0
  ·
   subst hm
   have hne:news=[]:=List.eq_nil_of_length_eq_zero hl
   subst hne
   refine ⟨.slice none 0 0,w,?_,World.ownsRow_nil w 0 e 1,⟨rfl,rfl,rfl,Nat.le_refl _,fun _ _ _=>rfl⟩,.inl rfl⟩
   exact run_append_fits (C:=kY P) (ty:=ty) (sLen:=0) (sCap:=0) (n:=0) (base:=none) hu hi h2 hn (Nat.le_refl _) (by rw [hz1]; exact hnew w rfl)
  ·
   obtain ⟨v',w',a1,a2,a3,a4⟩:=grows none 0 (Value.ownBlock (.slice none 0 0)) (Nat.le_refl _) (by omega) (fun w' _=>by simp [Builtin.firstCells,loadCells,loadCellsFrom])
   exact ⟨v',w',a1,a2,a3,.inr a4⟩
 ·
  rw [Nat.mul_one] at hcs htake
  by_cases hroom:n + m ≤ cap
  ·
   obtain ⟨w',r1,r2,r3,r4,r5,r6,r7,r8⟩:=gZ (P:=P) news w g (n * ie.size) 0 cur e (0,0) hg h1 (by rw [hz1]; omega) (.inl rfl)
   refine ⟨.slice (some ⟨g,0,none⟩) (n + m) cap,w',?_,⟨hlen,.inr ⟨g,cap,_,rfl,Nat.zero_le _,r8,hroom,hcm,?_,?_⟩⟩,⟨r4,r5,r6,by rw [r2]; exact Nat.le_refl _,fun k _ hk=>r3 k (fun q=>hk (by rw [q]; rfl))⟩,.inl rfl⟩
   ·
    refine (run_append_fits (C:=kY P) (ty:=ty) (sLen:=n) (sCap:=cap) (n:=m) (base:=some ⟨g,0,none⟩) hu hi h2 hn hroom (by rw [hz1]; exact hnew w rfl)).trans ?_
    simp only [iw,Nat.zero_add]
    show ((storeCells ⟨g,n * ie.size,none⟩ news 0).run P w).andThen _=_
    rw [r1]; rfl
   ·
    simp [dU,hcs]
   ·
    rw [hz1,Nat.mul_one,Nat.mul_one,Nat.add_zero]
    apply List.ext_getElem?
    intro j
    rw [List.getElem?_take,List.getElem?_append,hxl]
    by_cases hj:j < n + m
    ·
     rw [if_pos hj,fe _ _ _ _ (by simp; omega)]
     by_cases hj2:j < n
     ·
      rw [if_neg (by omega),if_pos hj2,← htake,List.getElem?_take,if_pos hj2]
     ·
      rw [if_pos (by omega),if_neg hj2]
    ·
     rw [if_neg hj,if_neg (by omega),List.getElem?_eq_none (by omega)]
  ·
   obtain ⟨v',w',a1,a2,a3,a4⟩:=grows (some ⟨g,0,none⟩) cap (some g) hnc hroom (fun w' hh=>by
    have hg':w'.heap[g]? = some (.cells cur e (0,0)):=by rw [hh]; exact hg
    have:=lL (P:=P) (w:=w') (b:=g) (o:=0) (n:=n * ie.size) hg' (by rw [hz1]; omega)
    rw [hz1,Nat.mul_one,List.drop_zero,htake] at this
    rw [hz1]
    simpa [Builtin.firstCells] using this)
   exact ⟨v',w',a1,a2,a3,.inr a4⟩
theorem oZ {P:Program} {w:World} {ops:Array Oper} {rest:List Oper} {o:Oper} {a:Act} {Q:Exit→Act→World→Prop} (hgd:o.guard=none) (s x:Operand) (t t2:TypeId)
  (ho:o.op=.call { callee:=.builtin .append,args:=#[s,x],argTypes:=#[t,t2] })
  (e:TypeId) (ie:TypeInfo) (hu:P.underlying t=some (.slice e)) (hi:P.info? e=some ie) (hz0:ie.zero=some (.int .u8 0)) (hz1:ie.size=1) (hz2:ie.bytes=1) (h2:iU (kY P) t2=true)
  (v:Value) (n:Nat) (xs:List Value) (hs:a.eval s=v) (hown:w.ownsRow 0 e 1 v n xs) (u:Value) (m:Nat) (news:List Value) (hx:a.eval x=u)
  (hn:(Builtin.lenOf u).run P w=.ok m w) (hnew:∀ w',w'.heap=w.heap→(Builtin.firstCells 1 m u).run P w'=.ok news.toArray w') (hl:news.length=m) (h1:∀ y ∈ news,y.oneCell'=true) (hb:n + m ≤ bound)
  (h:∀ v' w',w'.ownsRow 0 e 1 v' (n + m) (xs ++ news)→w.grownBy w' v.ownBlock→(v'.ownBlock=v.ownBlock∨v'.ownBlock=some w.heap.size)→wpList P ops Q rest (a.put o.dst v') w'):wpList P ops Q (o :: rest) a w :=
 wpList_plain hgd fun _ hK=>by
  obtain ⟨v',w',hr,a1,a2,a3⟩:=En (ty:=o.type) hu hi hz0 hz1 hz2 h2 hown hn hnew hl h1 hb
  unfold Oper.wp execOp
  simp only [ho,resolve,invoke,builtin,Sem.run_bind,Sem.run_pure,Result.andThen_ok,List.map_toArray,List.map_cons,List.map_nil,hs,hx,hr]
  exact hK _ _ (h v' w' a1 a2 a3)
def uw (w w':World) (b:Nat) (v:Value) (xs:List Value) (T e:Nat):Prop :=
 (w'.os=w.os∧w'.tape=w.tape∧w'.output=w.output∧w.heap.size ≤ w'.heap.size) ∧
 ∃ v',w'.heap[b]? = some (.cells #[.pointer (some ⟨b,0,none⟩),v'] T (0,0))∧w'.ownsRow 0 e 1 v' xs.length xs∧v'.ownBlock ≠ some b ∧
  (∀ k,k < w.heap.size→k ≠ b→some k ≠ v.ownBlock→w'.heap[k]? = w.heap[k]?)∧(∀ g,v'.ownBlock=some g→v.ownBlock=some g∨w.heap.size ≤ g)
structure qG (T e:Nat) (b:Nat) (p v:Value) (xs:List Value) (w:World):Prop where
 hp:p=.pointer none∨p=.pointer (some ⟨b,0,none⟩)
 blk:w.heap[b]? = some (.cells #[p,v] T (0,0))
 own:w.ownsRow 0 e 1 v xs.length xs
 ne:v.ownBlock ≠ some b
theorem wY {P:Program} {ρ:Ren} (L:Lays.n240 P ρ) (X:Builder.X72 P ρ) {b:Nat} {p v:Value} {xs:List Value} {w:World} (h:qG (ρ.t 72) (ρ.t 5) b p v xs w) :
  Calls P (ρ.f 240) #[.pointer (some ⟨b,0,none⟩)] w fun e w'=>e=.returned (.tuple #[])∧qG (ρ.t 72) (ρ.t 5) b (.pointer (some ⟨b,0,none⟩)) v xs w' ∧
   w'.os=w.os∧w'.tape=w.tape∧w'.output=w.output∧w'.heap.size=w.heap.size∧∀ k,k ≠ b→w'.heap[k]? = w.heap[k]?:=by
 obtain ⟨hp,hb,hown,hne⟩:=h
 have hlt:b < w.heap.size:=by
  rcases Nat.lt_or_ge b w.heap.size with h' | h'
  ·
   exact h'
  ·
   simp [Array.getElem?_eq_none h'] at hb
 rcases hp with rfl | rfl
 ·
  refine (Any.Builder_copyCheck_fresh L X b w (by rw [Lib.cell_of_heap hb]; rfl) (by simp [World.shape?,hb]) (by simp [World.frozen?,hb])).mono ?_
  rintro e w' ⟨rfl,rfl⟩
  have hoth:∀ k,k ≠ b→(w.setCell ⟨b,0,none⟩ (.pointer (some ⟨b,0,none⟩))).heap[k]? = w.heap[k]?:=fun k hk=>by simp [World.setCell,Array.getElem?_modify,Ne.symm hk]
  refine ⟨rfl,⟨.inr rfl,by simp [World.setCell,Array.getElem?_modify,hb],hown.kept (row:=some b) ⟨rfl,rfl,rfl,by simp [World.setCell],fun k _ hk=>hoth k (fun q=>hk (by rw [q]))⟩ (.inr hne),hne⟩,rfl,rfl,rfl,by simp [World.setCell],hoth⟩
 ·
  refine (Any.Builder_copyCheck_used L X b w (by rw [Lib.cell_of_heap hb]; rfl)).mono ?_
  rintro e w' ⟨rfl,rfl⟩
  exact ⟨rfl,⟨.inr rfl,hb,hown,hne⟩,rfl,rfl,rfl,rfl,fun _ _=>rfl⟩
theorem BA {T e:Nat} {b:Nat} {v v':Value} {xs xs':List Value} {w w1 w2:World} (h1:qG T e b (.pointer (some ⟨b,0,none⟩)) v xs w1)
  (q1:w1.os=w.os) (q2:w1.tape=w.tape) (q3:w1.output=w.output) (q4:w1.heap.size=w.heap.size) (q5:∀ k,k ≠ b→w1.heap[k]? = w.heap[k]?)
  (hown':w2.ownsRow 0 e 1 v' xs'.length xs') (hgrow:w1.grownBy w2 v.ownBlock) (hblk:∀ g,v'.ownBlock=some g→v.ownBlock=some g∨w1.heap.size ≤ g) (hTe:T ≠ e):uw w (w2.setCell ⟨b,1,none⟩ v') b v xs' T e:=by
 obtain ⟨hp,hb,hown,hne⟩:=h1
 have hlt:b < w1.heap.size:=by
  rcases Nat.lt_or_ge b w1.heap.size with h' | h'
  ·
   exact h'
  ·
   simp [Array.getElem?_eq_none h'] at hb
 have hb2:w2.heap[b]? = some (.cells #[.pointer (some ⟨b,0,none⟩),v] T (0,0)):=by
  rw [hgrow.block b hlt (fun e=>hne e.symm)]; exact hb
 have hne':v'.ownBlock ≠ some b:=fun q=>by
  rcases hown'.2 with ⟨rfl,_⟩ | ⟨g,cap,cur,rfl,_,hg,_⟩
  ·
   simp [Value.ownBlock] at q
  ·
   simp [Value.ownBlock] at q
   subst q
   rw [hb2] at hg
   simp at hg
   exact hTe hg.2
 have hoth:∀ k,k ≠ b→(w2.setCell ⟨b,1,none⟩ v').heap[k]? = w2.heap[k]?:=fun k hk=>by simp [World.setCell,Array.getElem?_modify,Ne.symm hk]
 refine ⟨⟨hgrow.os.trans q1,hgrow.tape.trans q2,hgrow.output.trans q3,by have:=hgrow.size; simp [World.setCell]; omega⟩,v',by simp [World.setCell,Array.getElem?_modify,hb2],
  hown'.kept (row:=some b) ⟨rfl,rfl,rfl,by simp [World.setCell],fun k _ hk=>hoth k (fun q=>hk (by rw [q]))⟩ (.inr hne'),hne',fun k hk hkb hkv=>?_,fun g hg=>by rw [← q4]; exact hblk g hg⟩
 rw [hoth k hkb,hgrow.block k (by omega) hkv]
 exact q5 k hkb
set_option maxHeartbeats 2000000 in
set_option maxRecDepth 100000 in
theorem wN {P:Program} {ρ:Ren} (L:Lays.n167 P ρ) (X:Builder.Extra P ρ) {b:Nat} {p v:Value} {xs:List Value} {w:World} (h:qG (ρ.t 72) (ρ.t 5) b p v xs w) (c:Int) (hlen:xs.length + 1 ≤ bound) :
  Calls P (ρ.f 167) #[.pointer (some ⟨b,0,none⟩),.int .u8 c] w fun e w'=>e=.returned .nilIface∧uw w w' b v (xs ++ [.int .u8 c]) (ρ.t 72) (ρ.t 5):=by
 obtain ⟨i0,hi,hz0,hz1,hz2⟩:=info_parts X.infoByte
 have mixed:=L.mixed
 have t72:=L.t72; have a72:=L.a72; have z72:=L.z72; have v72:=L.v72; have u72:=run_underlying L.t72
 have t70:=L.t70; have a70:=L.a70; have z70:=L.z70; have v70:=L.v70; have u70:=run_underlying L.t70
 have t5:=L.t5; have a5:=L.a5; have z5:=L.z5; have v5:=L.v5; have u5:=run_underlying L.t5
 have t37:=L.t37; have a37:=L.a37; have z37:=L.z37; have v37:=L.v37; have u37:=run_underlying L.t37
 have t9:=L.t9; have a9:=L.a9; have z9:=L.z9; have v9:=L.v9; have u9:=run_underlying L.t9
 have t4:=L.t4; have a4:=L.a4; have z4:=L.z4; have v4:=L.v4; have u4:=run_underlying L.t4
 have t164:=L.t164; have a164:=L.a164; have z164:=L.z164; have v164:=L.v164; have u164:=run_underlying L.t164
 have e240:∀ args w,(callFunc (ρ.f 240) args).run P w=.ok (.enter (ρ.f 240) args) w:=enters_of L.f240 (by kernel_rfl) rfl
 go_enter L.f167,Body.n167_ntmps ρ
 go_wp2_with (go_at_fn (ρ.f 240); refine (wY { L with } X.toX72 h).mono ?_)
 rintro e w1 ⟨rfl,h1,q1,q2,q3,q4,q5⟩
 have hb1:=h1.blk
 have c0:w1.cell? ⟨b,0,none⟩=some (.pointer (some ⟨b,0,none⟩)):=by rw [Lib.cell_of_heap hb1]; rfl
 have c1:w1.cell? ⟨b,1,none⟩=some v:=by rw [Lib.cell_of_heap hb1]; rfl
 have hlt:b < w1.heap.size:=by
  rcases Nat.lt_or_ge b w1.heap.size with h' | h'
  ·
   exact h'
  ·
   simp [Array.getElem?_eq_none h'] at hb1
 have hsrc:iU (kY P) (ρ.t 37)=true:=by simp [iU,kY,L.t37]
 go_wp2_with (at_builtin; refine oZ rfl _ _ (ρ.t 37) (ρ.t 37) rfl (ρ.t 5) i0 L.t37 hi hz0 hz1 hz2 hsrc _ _ _ rfl (h1.own.alloc _) _ 1 [.int .u8 c] rfl rfl ?c1 rfl ?c2 hlen ?_)
 case c1 =>
  intro w' hw'
  show (Builtin.firstCells 1 1 (.slice (some ⟨w.heap.size,0,none⟩) 1 1)).run P w'=_
  rw [← q4]
  have:=lL (P:=P) (w:=w') (b:=w1.heap.size) (o:=0) (n:=1) (arr:=#[.int .u8 c]) (el:=ρ.t 5) (fz:=(0,0)) (by rw [hw']; exact heap_alloc_new w1 _) (by simp)
  simpa [Builtin.firstCells] using this
 case c2=>intro u hu; simp at hu; subst hu; rfl
 intro v' w2 hown' hgrow hblk
 have hb2:w2.heap[b]? = some (.cells #[.pointer (some ⟨b,0,none⟩),v] (ρ.t 72) (0,0)):=by
  rw [hgrow.block b (by simp; omega) (fun e=>h1.ne e.symm),Lib.alloc_old w1 _ b hlt]
  exact hb1
 have d0:w2.cell? ⟨b,0,none⟩=some (.pointer (some ⟨b,0,none⟩)):=by rw [Lib.cell_of_heap hb2]; rfl
 have d1:w2.cell? ⟨b,1,none⟩=some v:=by rw [Lib.cell_of_heap hb2]; rfl
 have f1:w2.frozen? ⟨b,1,none⟩=false:=Lib.frozen_of_heap hb2 1
 obtain ⟨g,cap,rfl⟩:∃ g cap,v'=.slice (some ⟨g,0,none⟩) (xs.length + 1) cap:=by
  rcases hown'.2 with ⟨_,h0⟩ | ⟨g,cap,cur,hv,_⟩
  ·
   omega
  ·
   exact ⟨g,cap,hv⟩
 go_wp2
 go_ret
 refine ⟨rfl,BA h1 q1 q2 q3 q4 q5 (by simpa using hown') ⟨hgrow.os,hgrow.tape,hgrow.output,by have:=hgrow.size; simp at this; omega,fun k hk hkv=>by rw [hgrow.block k (by simp; omega) hkv]; exact Lib.alloc_old w1 _ k hk⟩ (fun g hg=>?_) X.neB5⟩
 rcases hblk with hq | hq
 ·
  exact .inl (hq.symm.trans hg)
 ·
  rw [hq] at hg
  simp at hg
  exact .inr (by omega)
set_option maxHeartbeats 2000000 in
set_option maxRecDepth 100000 in
theorem uh {P:Program} {ρ:Ren} (L:Lays.n166 P ρ) (X:Builder.Extra P ρ) {b:Nat} {p v:Value} {xs:List Value} {w:World} (h:qG (ρ.t 72) (ρ.t 5) b p v xs w) (s:ByteArray) (hlen:xs.length + s.size ≤ bound) :
  Calls P (ρ.f 166) #[.pointer (some ⟨b,0,none⟩),.string s] w fun e w'=>e=.returned (.tuple #[.int .i64 s.size,.nilIface])∧uw w w' b v (xs ++ Lib.strCells s) (ρ.t 72) (ρ.t 5):=by
 obtain ⟨i0,hi,hz0,hz1,hz2⟩:=info_parts X.infoByte
 have mixed:=L.mixed
 have t72:=L.t72; have a72:=L.a72; have z72:=L.z72; have v72:=L.v72; have u72:=run_underlying L.t72
 have t70:=L.t70; have a70:=L.a70; have z70:=L.z70; have v70:=L.v70; have u70:=run_underlying L.t70
 have t37:=L.t37; have a37:=L.a37; have z37:=L.z37; have v37:=L.v37; have u37:=run_underlying L.t37
 have t3:=L.t3; have a3:=L.a3; have z3:=L.z3; have v3:=L.v3; have u3:=run_underlying L.t3
 have t9:=L.t9; have a9:=L.a9; have z9:=L.z9; have v9:=L.v9; have u9:=run_underlying L.t9
 have t4:=L.t4; have a4:=L.a4; have z4:=L.z4; have v4:=L.v4; have u4:=run_underlying L.t4
 have t164:=L.t164; have a164:=L.a164; have z164:=L.z164; have v164:=L.v164; have u164:=run_underlying L.t164
 have t5:=X.t5; have a5:=X.a5; have z5:=X.z5; have v5:=X.v5; have u5:=run_underlying X.t5
 have e240:∀ args w,(callFunc (ρ.f 240) args).run P w=.ok (.enter (ρ.f 240) args) w:=enters_of L.f240 (by kernel_rfl) rfl
 go_enter L.f166,Body.n166_ntmps ρ
 go_wp2_with (go_at_fn (ρ.f 240); refine (wY { L with } X.toX72 h).mono ?_)
 rintro e w1 ⟨rfl,h1,q1,q2,q3,q4,q5⟩
 have hb1:=h1.blk
 have c0:w1.cell? ⟨b,0,none⟩=some (.pointer (some ⟨b,0,none⟩)):=by rw [Lib.cell_of_heap hb1]; rfl
 have c1:w1.cell? ⟨b,1,none⟩=some v:=by rw [Lib.cell_of_heap hb1]; rfl
 have hlt:b < w1.heap.size:=by
  rcases Nat.lt_or_ge b w1.heap.size with h' | h'
  ·
   exact h'
  ·
   simp [Array.getElem?_eq_none h'] at hb1
 have hsrc:iU (kY P) (ρ.t 9)=true:=by simp [iU,kY,L.t9]
 have hsl:(Lib.strCells s).length=s.size:=Lib.strCells_length s
 go_wp2_with (at_builtin; refine oZ rfl _ _ (ρ.t 37) (ρ.t 9) rfl (ρ.t 5) i0 L.t37 hi hz0 hz1 hz2 hsrc _ _ _ rfl h1.own _ s.size (Lib.strCells s) rfl rfl ?c1 hsl ?c2 hlen ?_)
 case c1 =>
  intro w' hw'
  show (Builtin.firstCells 1 s.size (.string s)).run P w'=_
  simp only [Builtin.firstCells,Sem.run_pure]
  congr 1
  apply Array.ext'
  simp [Lib.strCells]
 case c2=>intro u hu; simp [Lib.strCells] at hu; obtain ⟨_,_,rfl⟩:=hu; rfl
 intro v' w2 hown' hgrow hblk
 have hb2:w2.heap[b]? = some (.cells #[.pointer (some ⟨b,0,none⟩),v] (ρ.t 72) (0,0)):=by
  rw [hgrow.block b hlt (fun e=>h1.ne e.symm)]
  exact hb1
 have d0:w2.cell? ⟨b,0,none⟩=some (.pointer (some ⟨b,0,none⟩)):=by rw [Lib.cell_of_heap hb2]; rfl
 have d1:w2.cell? ⟨b,1,none⟩=some v:=by rw [Lib.cell_of_heap hb2]; rfl
 have f1:w2.frozen? ⟨b,1,none⟩=false:=Lib.frozen_of_heap hb2 1
 obtain ⟨ao,n',cap,rfl⟩:∃ ao n' cap,v'=.slice ao n' cap:=by
  rcases hown'.2 with ⟨hv,_⟩ | ⟨g,cap,cur,hv,_⟩
  ·
   exact ⟨_,_,_,hv⟩
  ·
   exact ⟨_,_,_,hv⟩
 go_wp2
 go_ret2
 refine ⟨rfl,BA h1 q1 q2 q3 q4 q5 (by simpa [hsl] using hown') hgrow (fun g hg=>?_) X.neB5⟩
 rcases hblk with hq | hq
 ·
  exact .inl (hq.symm.trans hg)
 ·
  rw [hq] at hg
  simp at hg
  exact .inr (by omega)
def Kept (w w':World) (b:Nat) (v:Value):Prop :=
 w'.os=w.os∧w'.tape=w.tape∧w'.output=w.output∧w.heap.size ≤ w'.heap.size∧∀ k,k < w.heap.size→k ≠ b→some k ≠ v.ownBlock→w'.heap[k]? = w.heap[k]?
theorem Kept.same {w w':World} (b:Nat) (v:Value) (h1:w'.os=w.os) (h2:w'.tape=w.tape) (h3:w'.output=w.output) (h4:w'.heap=w.heap):Kept w w' b v :=
 ⟨h1,h2,h3,by rw [h4]; exact Nat.le_refl _,fun k _ _ _=>by rw [h4]⟩
set_option maxHeartbeats 2000000 in
set_option maxRecDepth 100000 in
theorem tT {P:Program} {ρ:Ren} (L:Lays.n169 P ρ) (X:Builder.Extra P ρ) {b:Nat} {p v:Value} {l:List UInt8} {w:World} (h:qG (ρ.t 72) (ρ.t 5) b p v (Lib.byteCells l) w) (h0:l ≠ []) :
  Calls P (ρ.f 169) #[.pointer (some ⟨b,0,none⟩)] w fun e w'=>e=.returned (.string ⟨l.toArray⟩)∧Kept w w' b v:=by
 obtain ⟨hp,hbk,hown,hne⟩:=h
 have hl0:l.length ≠ 0:=by simpa using h0
 rw [Lib.byteCells_length] at hown
 obtain ⟨g,cap,cur,rfl,hg,hnc,hcm,hcs,htake⟩:∃ g cap cur,v=.slice (some ⟨g,0,none⟩) l.length cap∧w.heap[g]? = some (.cells cur (ρ.t 5) (0,0))∧l.length ≤ cap∧cap ≤ maxLen∧cur.size=cap * 1∧cur.toList.take (l.length * 1)=Lib.byteCells l:=by
  rcases hown.2 with ⟨_,hz⟩ | ⟨g,cap,cur,hv,_,r⟩
  ·
   exact absurd hz hl0
  ·
   exact ⟨g,cap,cur,hv,r⟩
 have c1:w.drew.cell? ⟨b,1,none⟩=some (.slice (some ⟨g,0,none⟩) l.length cap):=by
  have:w.drew.heap[b]? = some (.cells #[p,.slice (some ⟨g,0,none⟩) l.length cap] (ρ.t 72) (0,0)):=hbk
  rw [Lib.cell_of_heap this]; rfl
 have hSD:(Builtin.unsafeSliceData_ #[(ρ.t 37)] (ρ.t 127) #[.slice (some ⟨g,0,none⟩) l.length cap]).run P w.drew=.ok (.pointer (some ⟨g,0,none⟩)) w.drew :=
  Lib.run_unsafeSliceData_row _ _ _ _ _ _ (by omega)
 have hUS:(Builtin.unsafeString_ #[(ρ.t 127),(ρ.t 3)] (ρ.t 9) #[.pointer (some ⟨g,0,none⟩),.int .i64 l.length]).run P w.drew=.ok (.string ⟨l.toArray⟩) (w.drew.freeze ⟨g,0,none⟩ l.length):=by
  refine Lib.run_unsafeString_row w.drew (ρ.t 127) (ρ.t 3) (ρ.t 9) (ρ.t 5) L.t127 X.cellsByte g cur.size (by have hg':w.drew.heap[g]? = some (.cells cur (ρ.t 5) (0,0)):=hg; simp [World.shape?,hg']) l h0 (by omega) (by unfold maxLen at hcm; omega) ?_
  intro j x hx
  have:=hown.cells (g:=g) rfl j (.int .u8 x.toNat) (by simp [Lib.byteCells,hx])
  exact this
 have hfin:Kept w (w.drew.freeze ⟨g,0,none⟩ l.length) b (.slice (some ⟨g,0,none⟩) l.length cap):=by
  unfold World.freeze
  rw [if_neg hl0]
  refine ⟨rfl,rfl,rfl,by simp,fun k _ _ hk=>?_⟩
  have hk':g ≠ k:=fun q=>hk (by simp [Value.ownBlock,q])
  simp [Array.getElem?_modify,hk']
  rfl
 have mixed:=L.mixed
 have t72:=L.t72; have a72:=L.a72; have z72:=L.z72; have v72:=L.v72; have u72:=run_underlying L.t72
 have t70:=L.t70; have a70:=L.a70; have z70:=L.z70; have v70:=L.v70; have u70:=run_underlying L.t70
 have t37:=L.t37; have a37:=L.a37; have z37:=L.z37; have v37:=L.v37; have u37:=run_underlying L.t37
 have t127:=L.t127; have a127:=L.a127; have z127:=L.z127; have v127:=L.v127; have u127:=run_underlying L.t127
 have t3:=L.t3; have a3:=L.a3; have z3:=L.z3; have v3:=L.v3; have u3:=run_underlying L.t3
 have t9:=L.t9; have a9:=L.a9; have z9:=L.z9; have v9:=L.v9; have u9:=run_underlying L.t9
 have t5:=X.t5; have a5:=X.a5; have z5:=X.z5; have v5:=X.v5; have u5:=run_underlying X.t5
 go_enter L.f169,Body.n169_ntmps ρ
 go_wp2
 go_region_o
 all_goals (go_wp2; go_ret; exact ⟨rfl,hfin⟩)
set_option maxHeartbeats 2000000 in
set_option maxRecDepth 100000 in
theorem vO {P:Program} {ρ:Ren} (L:Lays.n169 P ρ) (X:Builder.Extra P ρ) {b:Nat} {p:Value} {w:World} (hbk:w.heap[b]? = some (.cells #[p,.slice none 0 0] (ρ.t 72) (0,0))) :
  Calls P (ρ.f 169) #[.pointer (some ⟨b,0,none⟩)] w fun e w'=>e=.returned (.string ⟨#[]⟩)∧Kept w w' b (.slice none 0 0):=by
 have hUS:=Any.unsafeString_none L X
 have c1:w.drew.cell? ⟨b,1,none⟩=some (.slice none 0 0):=by
  have:w.drew.heap[b]? = some (.cells #[p,.slice none 0 0] (ρ.t 72) (0,0)):=hbk
  rw [Lib.cell_of_heap this]; rfl
 have hSD:(Builtin.unsafeSliceData_ #[(ρ.t 37)] (ρ.t 127) #[.slice none 0 0]).run P w.drew=.ok (.pointer none) w.drew:=rfl
 have mixed:=L.mixed
 have t72:=L.t72; have a72:=L.a72; have z72:=L.z72; have v72:=L.v72; have u72:=run_underlying L.t72
 have t70:=L.t70; have a70:=L.a70; have z70:=L.z70; have v70:=L.v70; have u70:=run_underlying L.t70
 have t37:=L.t37; have a37:=L.a37; have z37:=L.z37; have v37:=L.v37; have u37:=run_underlying L.t37
 have t127:=L.t127; have a127:=L.a127; have z127:=L.z127; have v127:=L.v127; have u127:=run_underlying L.t127
 have t3:=L.t3; have a3:=L.a3; have z3:=L.z3; have v3:=L.v3; have u3:=run_underlying L.t3
 have t9:=L.t9; have a9:=L.a9; have z9:=L.z9; have v9:=L.v9; have u9:=run_underlying L.t9
 have t5:=X.t5; have a5:=X.a5; have z5:=X.z5; have v5:=X.v5; have u5:=run_underlying X.t5
 go_enter L.f169,Body.n169_ntmps ρ
 go_wp2
 go_region_o
 all_goals (go_wp2; go_ret; exact ⟨rfl,Kept.same _ _ rfl rfl rfl rfl⟩)
set_option maxHeartbeats 2000000 in
set_option maxRecDepth 100000 in
theorem rD {P:Program} {ρ:Ren} (L:Lays.n169 P ρ) (X:Builder.Extra P ρ) {b g:Nat} {p:Value} {cur:Array Value} {w:World} (hbk:w.heap[b]? = some (.cells #[p,.slice (some ⟨g,0,none⟩) 0 0] (ρ.t 72) (0,0))) (hg:w.heap[g]? = some (.cells cur (ρ.t 5) (0,0))) :
  Calls P (ρ.f 169) #[.pointer (some ⟨b,0,none⟩)] w fun e w'=>e=.returned (.string ⟨#[]⟩)∧Kept w w' b (.slice (some ⟨g,0,none⟩) 0 0):=by
 have hUS:=Any.unsafeString_none L X
 have hlt:b < w.heap.size:=by
  rcases Nat.lt_or_ge b w.heap.size with h' | h'
  ·
   exact h'
  ·
   simp [Array.getElem?_eq_none h'] at hbk
 have c1:w.drew.cell? ⟨b,1,none⟩=some (.slice (some ⟨g,0,none⟩) 0 0):=by
  have:w.drew.heap[b]? = some (.cells #[p,.slice (some ⟨g,0,none⟩) 0 0] (ρ.t 72) (0,0)):=hbk
  rw [Lib.cell_of_heap this]; rfl
 have hSD:(Builtin.unsafeSliceData_ #[(ρ.t 37)] (ρ.t 127) #[.slice (some ⟨g,0,none⟩) 0 0]).run P w.drew=.ok (.pointer (some ⟨w.drew.heap.size,0,none⟩)) (w.drew.alloc (.view ⟨g,0,none⟩ (ρ.t 5))) :=
  Lib.run_unsafeSliceData_zero w.drew _ _ (ρ.t 5) L.t127 ⟨g,0,none⟩ 0 ((ρ.t 5),cur.size) (by have hg':w.drew.heap[g]? = some (.cells cur (ρ.t 5) (0,0)):=hg; simp [World.shape?,hg'])
 have c2:(w.drew.alloc (.view ⟨g,0,none⟩ (ρ.t 5))).cell? ⟨b,1,none⟩=some (.slice (some ⟨g,0,none⟩) 0 0):=by
  have:(w.drew.alloc (.view ⟨g,0,none⟩ (ρ.t 5))).heap[b]? = _:=(Lib.alloc_old w.drew _ b hlt).trans hbk
  rw [Lib.cell_of_heap this]; rfl
 have c3:(w.alloc (.view ⟨g,0,none⟩ (ρ.t 5))).drew.cell? ⟨b,1,none⟩=some (.slice (some ⟨g,0,none⟩) 0 0):=c2
 have c0:w.cell? ⟨b,1,none⟩=some (.slice (some ⟨g,0,none⟩) 0 0):=c1
 have hfin:Kept w (w.drew.alloc (.view ⟨g,0,none⟩ (ρ.t 5))) b (.slice (some ⟨g,0,none⟩) 0 0) :=
  ⟨rfl,rfl,rfl,by rw [size_alloc]; exact Nat.le_succ _,fun k hk _ _=>heap_alloc_old w.drew _ hk⟩
 have mixed:=L.mixed
 have t72:=L.t72; have a72:=L.a72; have z72:=L.z72; have v72:=L.v72; have u72:=run_underlying L.t72
 have t70:=L.t70; have a70:=L.a70; have z70:=L.z70; have v70:=L.v70; have u70:=run_underlying L.t70
 have t37:=L.t37; have a37:=L.a37; have z37:=L.z37; have v37:=L.v37; have u37:=run_underlying L.t37
 have t127:=L.t127; have a127:=L.a127; have z127:=L.z127; have v127:=L.v127; have u127:=run_underlying L.t127
 have t3:=L.t3; have a3:=L.a3; have z3:=L.z3; have v3:=L.v3; have u3:=run_underlying L.t3
 have t9:=L.t9; have a9:=L.a9; have z9:=L.z9; have v9:=L.v9; have u9:=run_underlying L.t9
 have t5:=X.t5; have a5:=X.a5; have z5:=X.z5; have v5:=X.v5; have u5:=run_underlying X.t5
 go_enter L.f169,Body.n169_ntmps ρ
 go_wp2
 go_region_o
 all_goals (go_wp2; go_ret; exact ⟨rfl,hfin⟩)
set_option maxHeartbeats 2000000 in
set_option maxRecDepth 100000 in
theorem um {P:Program} {ρ:Ren} (L:Lays.n169 P ρ) (X:Builder.Extra P ρ) {b g cap:Nat} {p:Value} {w:World} (hc0:cap ≠ 0) (hbk:w.heap[b]? = some (.cells #[p,.slice (some ⟨g,0,none⟩) 0 cap] (ρ.t 72) (0,0))) :
  Calls P (ρ.f 169) #[.pointer (some ⟨b,0,none⟩)] w fun e w'=>e=.returned (.string ⟨#[]⟩)∧Kept w w' b (.slice (some ⟨g,0,none⟩) 0 cap):=by
 have hUS:=Any.unsafeString_none L X
 have c1:w.drew.cell? ⟨b,1,none⟩=some (.slice (some ⟨g,0,none⟩) 0 cap):=by
  have:w.drew.heap[b]? = some (.cells #[p,.slice (some ⟨g,0,none⟩) 0 cap] (ρ.t 72) (0,0)):=hbk
  rw [Lib.cell_of_heap this]; rfl
 have hSD:(Builtin.unsafeSliceData_ #[(ρ.t 37)] (ρ.t 127) #[.slice (some ⟨g,0,none⟩) 0 cap]).run P w.drew=.ok (.pointer (some ⟨g,0,none⟩)) w.drew :=
  Lib.run_unsafeSliceData_row _ _ _ _ _ _ hc0
 clear hc0
 have mixed:=L.mixed
 have t72:=L.t72; have a72:=L.a72; have z72:=L.z72; have v72:=L.v72; have u72:=run_underlying L.t72
 have t70:=L.t70; have a70:=L.a70; have z70:=L.z70; have v70:=L.v70; have u70:=run_underlying L.t70
 have t37:=L.t37; have a37:=L.a37; have z37:=L.z37; have v37:=L.v37; have u37:=run_underlying L.t37
 have t127:=L.t127; have a127:=L.a127; have z127:=L.z127; have v127:=L.v127; have u127:=run_underlying L.t127
 have t3:=L.t3; have a3:=L.a3; have z3:=L.z3; have v3:=L.v3; have u3:=run_underlying L.t3
 have t9:=L.t9; have a9:=L.a9; have z9:=L.z9; have v9:=L.v9; have u9:=run_underlying L.t9
 have t5:=X.t5; have a5:=X.a5; have z5:=X.z5; have v5:=X.v5; have u5:=run_underlying X.t5
 go_enter L.f169,Body.n169_ntmps ρ
 go_wp2
 go_region_o
 all_goals (go_wp2; go_ret; exact ⟨rfl,Kept.same _ _ rfl rfl rfl rfl⟩)
theorem Ba {P:Program} {ρ:Ren} (L:Lays.n169 P ρ) (X:Builder.Extra P ρ) {b:Nat} {p v:Value} {l:List UInt8} {w:World} (h:qG (ρ.t 72) (ρ.t 5) b p v (Lib.byteCells l) w) :
  Calls P (ρ.f 169) #[.pointer (some ⟨b,0,none⟩)] w fun e w'=>e=.returned (.string ⟨l.toArray⟩)∧Kept w w' b v:=by
 by_cases h0:l=[]
 ·
  subst h0
  obtain ⟨hp,hbk,hown,hne⟩:=h
  rcases hown.2 with ⟨rfl,_⟩ | ⟨g,cap,cur,rfl,_,hg,_⟩
  ·
   exact vO L X hbk
  ·
   by_cases hc0:cap=0
   ·
    subst hc0
    exact rD L X hbk hg
   ·
    exact um L X hc0 hbk
 ·
  exact tT L X h h0
end
end Go.Ev

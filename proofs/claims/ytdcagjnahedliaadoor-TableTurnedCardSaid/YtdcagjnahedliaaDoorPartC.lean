import Derived.Test.YtdcagjnahedliaaDoorPartB
import Derived.Shelf.Spec.SlicesInsertGrow
import Derived.Shelf.Strings.Builder1
import Derived.Shelf.Strings.OnBuilder
import Derived.Shelf.Strings.SplitShaped
import Derived.Shelf.Strings.SlTrimAscii
import Derived.Shelf.Small.Strs
import Derived.Shelf.Strings.Cut
import Derived.DataReads
import GoSem.ClaimChange
import Derived.WideShapes
import Derived.ChangeShapes
import Derived.Recover
namespace Go.Ev
noncomputable section
set_option linter.unusedVariables false
set_option linter.unusedSimpArgs false
variable {R:dm} {C:gG} {P:Program} {nt:Nat} {B:St}
inductive KU (v:AV) (d:D):AV→AV→Prop
 | same (x:AV):KU v d x x
 | it:KU v d v (.d d)
inductive vV (v:AV) (d:D):List AV→List AV→Prop
 | nil:vV v d [] []
 | cons {x y:AV} {xs ys:List AV} (h:KU v d x y) (k:vV v d xs ys):vV v d (x :: xs) (y :: ys)
theorem vV.len {v:AV} {d:D} {xs ys:List AV} (h:vV v d xs ys):ys.length=xs.length:=by
 induction h with
 | nil=>rfl
 | cons _ _ ih=>simp [ih]
theorem vV.get {v:AV} {d:D} {xs ys:List AV} (h:vV v d xs ys):∀ {i:Nat} {y:AV},ys[i]? = some y→∃ x,xs[i]? = some x∧KU v d x y:=by
 induction h with
 | nil=>intro i y h; simp at h
 | cons h k ih =>
  intro i y hy
  cases i with
  | zero=>simp at hy; subst hy; exact ⟨_,rfl,h⟩
  | succ i=>simpa using ih (by simpa using hy)
theorem vV.refl (v:AV) (d:D):∀ (l:List AV),vV v d l l
 | []=>.nil
 | x :: l=>.cons (.same x) (.refl v d l)
def NZ (v:AV) (d:D) (b b':uS):Prop:=b'=b∨∃ g cs cs',b=.cells g cs∧b'=.cells g cs'∧vV v d cs cs'
theorem kG {v:Value} (h:v.oneCell'=true):v.cells.toList=[v]∧wU v=false:=by
 cases v <;> simp_all [Value.oneCell',Value.cells,wU]
theorem jc.of_cells {w:World} {fr:Nat→Nat→Prop} {x:D} {vs:List Value} (hf:jQ x.cells=true) (hl:vs.length=x.cells.length) (ho:∀ v ∈ vs,v.oneCell'=true)
  (h:∀ (i:Nat) (c:D) (v:Value),x.cells[i]? = some c→vs[i]? = some v→jc w fr c [v]):jc w fr x vs:=by
 have one:∀ (x:D),x.cells=[x]→(vs.length=x.cells.length)→(∀ (i:Nat) (c:D) (v:Value),x.cells[i]? = some c→vs[i]? = some v→jc w fr c [v])→jc w fr x vs:=fun x hx hl h=>by
  rw [hx] at hl h
  match vs,hl with
  | [v],_=>exact h 0 x v rfl rfl
 cases x with
 | agg ys =>
  simp only [D.cells] at hl h hf
  refine .agg ys vs hl ho (fun y hy=>?_) h
  clear hl h
  induction ys with
  | nil=>cases hy
  | cons z ys ih =>
   simp only [jQ,Bool.and_eq_true,Bool.not_eq_true'] at hf
   rcases List.mem_cons.1 hy with rfl | hy
   ·
    exact hf.1
   ·
    exact ih hf.2 hy
 | _=>exact one _ rfl hl h
theorem flat_get {xs:List D} {sz:Nat} (hsz:∀ x ∈ xs,x.cells.length=sz):∀ {i j:Nat} {x c:D},xs[i]? = some x→x.cells[j]? = some c→((xs.map D.cells).flatten)[i * sz + j]? = some c:=by
 induction xs with
 | nil=>intro i j x c hx; simp at hx
 | cons y xs ih =>
  intro i j x c hx hc
  have hy:=hsz y List.mem_cons_self
  rw [List.map_cons,List.flatten_cons]
  cases i with
  | zero =>
   simp at hx; subst hx
   rw [Nat.zero_mul,Nat.zero_add,List.getElem?_append_left (List.getElem?_eq_some_iff.1 hc).1]; exact hc
  | succ i =>
   have:=ih (fun x hx=>hsz x (List.mem_cons_of_mem _ hx)) (i:=i) (by simpa using hx) hc
   rw [Nat.add_mul,Nat.one_mul,List.getElem?_append_right (by omega)]
   rw [show i * sz + sz + j - y.cells.length=i * sz + j by omega]; exact this
theorem E9 {xs:List D} {sz:Nat} (hsz:∀ x ∈ xs,x.cells.length=sz):((xs.map D.cells).flatten).length=xs.length * sz:=by
 induction xs with
 | nil=>simp
 | cons y xs ih =>
  rw [List.map_cons,List.flatten_cons,List.length_append,ih (fun x hx=>hsz x (List.mem_cons_of_mem _ hx)),hsz y List.mem_cons_self,List.length_cons,Nat.add_mul,Nat.one_mul]; omega
theorem EF {cx:Cx} {S:St} {w:World} (h:bD R cx S w) {id g sz:Nat} {xs:List D} {cs0:List AV} (hcs0:gm ((xs.map D.cells).flatten.map .d) cs0) (hid:S.H.get id=some (.cells g cs0)) (hpos:0 < sz) (hsz:∀ x ∈ xs,x.cells.length=sz∧jQ x.cells=true)
  {fr':Nat→Nat→Prop} (hp:∀ (b o:Nat) (v:Value),¬ cx.fr b o→w.cell? ⟨b,o,none⟩=some v→w.cell? ⟨b,o,none⟩=some v∧¬ fr' b o) (hfr:∀ o,¬ fr' (cx.bm id) o) {u:Value} (hu:aQ cx S w (.msl id g 0 xs.length xs.length sz) u):bT w fr' (.sl xs false) u:=by
 cases hu with
 | msl _ _ _ _ _ _ b cap hn hl hcap h63 hq =>
  obtain ⟨hb,_,_⟩:=hq (by unfold cur; rw [hid])
  subst hb
  obtain ⟨c1,c2,arr,el,c3,⟨c4,c5,c6⟩,c7⟩:=h.cells id g _ hid
  refine ⟨?_,rfl⟩
  by_cases hne:xs=[]
  ·
   subst hne; exact .sl0 _ cap false (fun q=>by cases q)
  have hflat:=E9 (fun x hx=>(hsz x hx).1)
  let vs:Nat→List Value:=fun i=>(List.range sz).map fun j=>(arr[i * sz + j]?).getD default
  have hcell:∀ (i j:Nat) (x:D),xs[i]? = some x→j < sz→∃ c v,x.cells[j]? = some c∧arr[i * sz + j]? = some v∧aQ cx S w (.d c) v∧v.oneCell'=true:=fun i j x hx hj=>by
   have hxl:=(hsz x (List.mem_of_getElem? hx)).1
   have hc:x.cells[j]? = some x.cells[j]:=List.getElem?_eq_getElem (by omega)
   have hfg:=flat_get (fun x hx=>(hsz x hx).1) hx hc
   have hlt:i * sz + j < cs0.length:=by
    have:=(List.getElem?_eq_some_iff.1 hfg).1
    have h2:=hcs0.len
    rw [List.length_map] at h2; omega
   obtain ⟨v,v1,v2,v3⟩:=c7 (i * sz + j) _ (List.getElem?_eq_getElem hlt)
   exact ⟨_,v,hc,v1,hcs0.get (by rw [List.getElem?_map,hfg]; rfl) (List.getElem?_eq_getElem hlt) _ _ _ _ v2,v3⟩
  have hvs:∀ (i j:Nat) (v:Value),(vs i)[j]? = some v→j < sz∧(arr[i * sz + j]?).getD default=v:=fun i j v hv=>by
   simp only [vs,List.getElem?_map,Option.map_eq_some_iff] at hv
   obtain ⟨k,hk,rfl⟩:=hv
   rw [List.getElem?_eq_some_iff] at hk
   obtain ⟨hlt,hk⟩:=hk
   simp at hlt hk
   subst hk
   exact ⟨hlt,rfl⟩
  refine .sl xs false (cx.bm id) 0 cap sz vs hne hcap (fun q=>by cases q) (fun i x hx=>(hsz x (List.mem_of_getElem? hx)).1) (fun i hi=>by simp [vs]) (fun i x hx=>?_) (fun i j v hi hv=>?_)
  ·
   have hm:=hsz x (List.mem_of_getElem? hx)
   refine jc.of_cells hm.2 (by simp [vs,hm.1]) (fun v hv=>?_) (fun j c v hc hv=>?_)
   ·
    obtain ⟨j,hj,rfl⟩:=List.getElem_of_mem hv
    have hj':=List.getElem?_eq_getElem hj
    obtain ⟨k1,k2⟩:=hvs i j _ hj'
    obtain ⟨c,v,_,v1,_,v3⟩:=hcell i j x hx k1
    rw [v1] at k2
    rw [← k2]; exact v3
   ·
    obtain ⟨k1,k2⟩:=hvs i j v hv
    obtain ⟨c',v',h1,v1,v2,v3⟩:=hcell i j x hx k1
    rw [v1] at k2
    simp at k2
    subst k2
    rw [hc] at h1; cases h1
    have:=(v2.dd.mono hp).1
    rw [(kG v3).1] at this
    exact this
  ·
   obtain ⟨k1,k2⟩:=hvs i j v hv
   obtain ⟨c',v',h1,v1,v2,v3⟩:=hcell i j xs[i] (List.getElem?_eq_getElem hi) k1
   rw [v1] at k2
   simp at k2
   subst k2
   refine ⟨?_,hfr _⟩
   simp only [World.cell?,c3,Nat.zero_add]
   simp [v1]
theorem CQ (hR:ObjOk R) {cx:Cx} {S S':St} {w:World} (h:bD R cx S w) {id g sz:Nat} {xs:List D} {cs0:List AV} (hcs0:gm ((xs.map D.cells).flatten.map .d) cs0) (hid:S.H.get id=some (.cells g cs0)) (hpos:0 < sz) (hsz:∀ x ∈ xs,x.cells.length=sz∧jQ x.cells=true)
  (nx:S'.nx=S.nx) (hT:S'.T=S.T) (hH:∀ k b',S'.H.get k=some b'→k ≠ id∧∃ b,S.H.get k=some b∧NZ (.msl id g 0 xs.length xs.length sz) (.sl xs false) b b') :
  ∃ cx',bD R cx' S' w∧Ext cx S w cx' S' w∧∀ u,aQ cx S w (.msl id g 0 xs.length xs.length sz) u→aQ cx' S' w (.d (.sl xs false)) u:=by
 have hl:live S id:=qD hid
 have ownId:∀ k b,live S k→cx.fp k b→b=cx.bm id→k=id:=fun k b hk hf hb=>by
  subst hb
  exact h.sep k id _ hk hl hf ((h.cells id g _ hid).fp _ |>.2 rfl)
 have hcur:∀ k g',cur S' k=some g'→cur S k=some g':=fun k g' hc=>by
  unfold cur at hc ⊢
  cases hk:S'.H.get k with
  | none =>
   rw [hk] at hc
   simp only [hT] at hc
   cases hS:S.H.get k with
   | none=>exact hc
   | some b=>rw [h.tK k b hS] at hc; cases hc
  | some b' =>
   rw [hk] at hc
   obtain ⟨_,b,hb,hz⟩:=hH k b' hk
   rw [hb]
   rcases hz with rfl | ⟨g1,cs,cs',rfl,rfl,_⟩
   ·
    cases b' <;> exact hc
   ·
    exact hc
 have hlive:∀ k,live S' k→live S k:=fun k hk=>by
  cases hc:cur S' k with
  | none=>exact absurd hc hk
  | some g'=>unfold live; rw [hcur k g' hc]; simp
 have hno:¬ live S' id:=fun q=>by
  cases hc:S'.H.get id with
  | some b'=>exact (hH id b' hc).1 rfl
  | none =>
   unfold live cur at q
   rw [hc,hT,h.tK id _ hid] at q
   exact q rfl
 have hit:∀ k g',isIt S' k g'→isIt S k g':=fun k g' q=>by
  obtain ⟨_,b,hb,hz⟩:=hH k _ q
  rcases hz with hz | ⟨g1,cs,cs',_,hz,_⟩
  ·
   rw [← hz] at hb; exact hb
  ·
   cases hz
 let cx':Cx:={ cx with fr:=fun b o=>cx.fr b o∧b ≠ cx.bm id }
 have prot:∀ (b o:Nat) (v:Value),¬ cx.fr b o→w.cell? ⟨b,o,none⟩=some v→w.cell? ⟨b,o,none⟩=some v∧¬ cx'.fr b o:=fun b o v h1 h2=>⟨h2,fun q=>h1 q.1⟩
 have ext:Ext cx S w cx' S' w:=by
  refine ⟨Nat.le_refl _,rfl,rfl,rfl,by rw [nx]; exact Nat.le_refl _,prot,fun b hb hn=>⟨rfl,fun o=>⟨fun q=>q.1,fun q=>⟨q,fun hq=>?_⟩⟩⟩,fun k b hk hf=>⟨fun _=>⟨hlive k hk,.inl hf⟩,fun hge=>?_⟩,fun k g' _ q=>⟨g',hit k g' q⟩,fun k g' b _ _ _ hf=>hf,fun k g' _ hc=>⟨g',hcur k g' hc,Nat.le_refl _,fun _=>⟨rfl,rfl,rfl⟩⟩⟩
  ·
   subst hq
   exact EL hid (by intro x; simp) (hn id hl ((h.cells id g _ hid).fp _ |>.2 rfl))
  ·
   exact absurd (h.wf k (hlive k hk)) (by omega)
 have key:∀ u,aQ cx S w (.msl id g 0 xs.length xs.length sz) u→aQ cx' S' w (.d (.sl xs false)) u:=fun u hu =>
  .d _ _ (EF h hcs0 hid hpos hsz prot (fun o q=>q.2 rfl) hu)
 refine ⟨cx',⟨fun k hk=>by rw [nx]; exact h.wf k (hlive k hk),fun k b' hk=>?_,fun k g' cs' hk=>?_,fun k es hk=>?_,fun k q x hk=>?_,fun k en hk=>?_,fun k k' b a1 a2=>h.sep k k' b (hlive k a1) (hlive k' a2),fun b o q=>h.lt b o q.1,hR.stat _ _ _ _ h.stat prot (h.still ext)⟩,ext,key⟩
 ·
  obtain ⟨_,b,hb,_⟩:=hH k b' hk
  rw [hT]; exact h.tK k b hb
 ·
  obtain ⟨hne',b,hb,hz⟩:=hH k _ hk
  have hex:∃ cs,b=.cells g' cs∧vV (.msl id g 0 xs.length xs.length sz) (.sl xs false) cs cs':=by
   rcases hz with hz | ⟨g1,cs,cs2,h1,h2,h3⟩
   ·
    exact ⟨cs',hz.symm,.refl _ _ _⟩
   ·
    cases h2; exact ⟨cs,h1,h3⟩
  obtain ⟨cs,rfl,hfz⟩:=hex
  obtain ⟨c1,c2,arr,el,c3,⟨c4,c5,c6⟩,c7⟩:=h.cells k g' cs hb
  have hlk:live S k:=qD hb
  refine ⟨c1,fun o=>⟨c2 o,fun hq=>hne' (ownId k _ hlk ((c1 _).2 rfl) hq)⟩,arr,el,c3,⟨c4,by rw [hfz.len]; exact c5,by rw [hfz.len]; exact c6⟩,fun i x hx=>?_⟩
  obtain ⟨y,hy,hfa⟩:=hfz.get hx
  obtain ⟨v,v1,v2,v3⟩:=c7 i y hy
  refine ⟨v,v1,?_,v3⟩
  cases hfa with
  | same=>exact v2.mono ext
  | it=>exact key v v2
 ·
  obtain ⟨hne',b,hb,hz⟩:=hH k _ hk
  have hb':b=.map es:=by
   rcases hz with hz | ⟨g1,cs,cs2,h1,h2,h3⟩
   ·
    exact hz.symm
   ·
    cases h2
  subst hb'
  obtain ⟨c1,c2,ms,clk,c3,c4,c5⟩:=h.maps k es hb
  refine ⟨c1,fun o=>⟨c2 o,fun hq=>hne' (ownId k _ (qD hb) ((c1 _).2 rfl) hq)⟩,ms,clk,c3,c4,fun i p m hp hm=>?_⟩
  obtain ⟨v1,v2⟩:=c5 i p m hp hm
  exact ⟨v1.mono prot,v2.mono ext⟩
 ·
  obtain ⟨hne',b,hb,hz⟩:=hH k _ hk
  have hb':b=.obj q x:=by
   rcases hz with hz | ⟨g1,cs,cs2,h1,h2,h3⟩
   ·
    exact hz.symm
   ·
    cases h2
  subst hb'
  obtain ⟨c1,c2⟩:=h.objs k q x hb
  exact ⟨c1,fun b o hf=>⟨c2 b o hf,fun hq=>hne' (ownId k b (qD hb) hf hq)⟩⟩
 ·
  rw [hT] at hk
  obtain ⟨c1,c2,c3⟩:=h.toks k en hk
  have hkid:k ≠ id:=fun q=>by subst q; rw [h.tK _ _ hid] at hk; cases hk
  exact ⟨c1,fun o ho=>⟨c2 o ho,fun hq=>hkid (ownId k _ (Av hk) ((c1 _).2 rfl) hq)⟩,c3⟩
inductive xP (v:AV) (d:D):List dI→List dI→Prop
 | nil:xP v d [] []
 | same {a:dI} {l l':List dI} (k:xP v d l l'):xP v d (a :: l) (a :: l')
 | box {id:Nat} {cs cs':List AV} {l l':List dI} (h:vV v d cs cs') (k:xP v d l l'):xP v d (.box id cs :: l) (.box id cs' :: l')
theorem xP.KQ {v:AV} {d:D} {l l':List dI} (h:xP v d l l'):l'.map dI.fp=l.map dI.fp:=by
 induction h with
 | nil=>rfl
 | same _ ih=>simp [ih]
 | box _ _ ih=>simp [ih,dI.fp]
theorem xP.mem {v:AV} {d:D} {l l':List dI} (h:xP v d l l') {a':dI} (ha:a' ∈ l'):a' ∈ l∨∃ id cs cs',a'=.box id cs'∧.box id cs ∈ l∧vV v d cs cs':=by
 induction h with
 | nil=>cases ha
 | same _ ih =>
  rcases List.mem_cons.1 ha with rfl | ha
  ·
   exact .inl List.mem_cons_self
  ·
   rcases ih ha with h | ⟨id,cs,cs',h1,h2,h3⟩
   ·
    exact .inl (List.mem_cons_of_mem _ h)
   ·
    exact .inr ⟨id,cs,cs',h1,List.mem_cons_of_mem _ h2,h3⟩
 | box hz _ ih =>
  rcases List.mem_cons.1 ha with rfl | ha
  ·
   exact .inr ⟨_,_,_,rfl,List.mem_cons_self,hz⟩
  ·
   rcases ih ha with h | ⟨id,cs,cs',h1,h2,h3⟩
   ·
    exact .inl (List.mem_cons_of_mem _ h)
   ·
    exact .inr ⟨id,cs,cs',h1,List.mem_cons_of_mem _ h2,h3⟩
theorem xP.Gf {v:AV} {d:D} {l l':List dI} (h:xP v d l l') {id:Nat} {cs':List AV} (ha:dI.box id cs' ∈ l'):∃ cs,.box id cs ∈ l∧vV v d cs cs':=by
 rcases h.mem ha with h | ⟨id2,cs,cs2,h1,h2,h3⟩
 ·
  exact ⟨cs',h,.refl _ _ _⟩
 ·
  cases h1; exact ⟨cs,h2,h3⟩
open Classical in
def DI (l:List dI) (k:Nat) (b:uS):uS:=if h:∃ cs,dI.box k cs ∈ l then .cells 0 (Classical.choose h) else b
def AL.FL {α:Type} (f:Nat→α→α):AL α→AL α
 | []=>[]
 | (k,v) :: l=>(k,f k v) :: AL.FL f l
theorem AL.zW {α:Type} (f:Nat→α→α):∀ (l:AL α) (k:Nat),AL.get (AL.FL f l) k=(AL.get l k).map (f k)
 | [],k=>by simp [AL.FL,AL.get]
 | (a,v) :: l,k=>by
  simp only [AL.FL,AL.iK,AL.zW f l k]
  by_cases h:a=k
  ·
   subst h; simp
  ·
   simp [h]
theorem Gx {l:List dI} (hn:(l.map dI.fp).flatten.Nodup) {a b:dI} (ha:a ∈ l) (hb:b ∈ l) {id:Nat} (h1:id ∈ a.fp) (h2:id ∈ b.fp):a=b:=by
 obtain ⟨i,hi,rfl⟩:=List.getElem_of_mem ha
 obtain ⟨j,hj,rfl⟩:=List.getElem_of_mem hb
 by_cases hij:i=j
 ·
  subst hij; rfl
 ·
  exact (zt hn (List.getElem?_eq_getElem hi) (List.getElem?_eq_getElem hj) hij h1 h2).elim
theorem zN {l:List dI} (hn:(l.map dI.fp).flatten.Nodup) {k:Nat} {cs:List AV} (h:dI.box k cs ∈ l) (b:uS):DI l k b=.cells 0 cs:=by
 have hex:∃ cs,dI.box k cs ∈ l:=⟨cs,h⟩
 unfold DI
 rw [dif_pos hex]
 have:=Gx hn (Classical.choose_spec hex) h (id:=k) (by simp [dI.fp]) (by simp [dI.fp])
 simp only [dI.box.injEq,true_and] at this
 rw [this]
theorem wP {l:List dI} {k:Nat} (h:∀ cs,dI.box k cs ∉ l) (b:uS):DI l k b=b:=by
 unfold DI
 rw [dif_neg (fun ⟨cs,q⟩=>h cs q)]
def Bl (v:AV) (d:D) (e2 e:Env):Prop:=∀ t x,AL.get e2 t=some x→∃ y,AL.get e t=some y∧(Less x y∨(y=v∧x=.d d))
theorem Bl.nil {v:AV} {d:D} {e:Env}:Bl v d [] e:=fun _ _ h=>by simp [AL.get] at h
theorem Bl.cons {v:AV} {d:D} {t:Nat} {x y:AV} {e2 e:Env} (h:AL.get e t=some y) (hl:Less x y) (k:Bl v d e2 e):Bl v d ((t,x) :: e2) e:=fun u z hz=>by
 rw [AL.iK] at hz
 by_cases hu:t=u
 ·
  subst hu; rw [if_pos rfl] at hz; cases hz; exact ⟨y,h,.inl hl⟩
 ·
  rw [if_neg hu] at hz; exact k u z hz
theorem Bl.it {v:AV} {d:D} {t:Nat} {e2 e:Env} (h:AL.get e t=some v) (k:Bl v d e2 e):Bl v d ((t,.d d) :: e2) e:=fun u z hz=>by
 rw [AL.iK] at hz
 by_cases hu:t=u
 ·
  subst hu; rw [if_pos rfl] at hz; cases hz; exact ⟨v,h,.inr ⟨rfl,rfl⟩⟩
 ·
  rw [if_neg hu] at hz; exact k u z hz
theorem dI.Jm {S S':St} {v:AV} {d:D} {l l':List dI} (hz:xP v d l l') (nd':(l'.map dI.fp).flatten.Nodup) (hok:∀ a ∈ l,a.ok S)
  (hH:∀ a ∈ l',∀ k ∈ a.fp,S'.H.get k=(S.H.get k).map (DI l' k)) (hT:S'.T=S.T):∀ a ∈ l',a.ok S':=by
 intro a' ha'
 cases a' with
 | box k cs' =>
  obtain ⟨cs,h1,h2⟩:=hz.Gf ha'
  have:=hok _ h1
  simp only [dI.ok] at this ⊢
  rw [hH _ ha' k (by simp [dI.fp]),this,Option.map_some,zN nd' ha']
 | _ =>
  have hm:_ ∈ l:=(hz.mem ha').resolve_right (fun ⟨_,_,_,q,_⟩=>by cases q)
  refine dI.keep (hok _ hm) (fun k hk=>?_) (fun k hk=>by rw [hT])
  rw [hH _ ha' k hk]
  cases hb:S.H.get k with
  | none=>rfl
  | some b =>
   rw [Option.map_some,wP (fun cs q=>?_)]
   have:=Gx nd' ha' q (id:=k) hk (by simp [dI.fp])
   cases this
theorem Has.freeze (hR:ObjOk R) {S:St} {l l':List dI} (H:Has B S l) {i sz:Nat} {v:AV} {xs:List D} (hi:l[i]? = some (.row sz v xs)) (hz:xP v (.sl xs false) (l.eraseIdx i) l') :
  ∃ S',Has B S' l'∧∀ nt e e2,Bl v (.sl xs false) e2 e→o7 R nt e S e2 S':=by
 have hg:=H.at hi
 have hil:i < l.length:=(List.getElem?_eq_some_iff.1 hi).1
 have hsub:(l.eraseIdx i).Sublist l:=List.eraseIdx_sublist ..
 have nd':(l'.map dI.fp).flatten.Nodup:=by rw [hz.KQ]; exact H.nd.sublist (J9 dI.fp hsub)
 have hfp':∀ a' ∈ l',∃ a ∈ l.eraseIdx i,a.fp=a'.fp:=fun a' ha'=>by
  rcases hz.mem ha' with h | ⟨id,cs,cs',rfl,h2,_⟩
  ·
   exact ⟨a',h,rfl⟩
  ·
   exact ⟨_,h2,rfl⟩
 have hfpl:∀ a' ∈ l',∃ a ∈ l,a.fp=a'.fp:=fun a' ha'=>let ⟨a,h1,h2⟩:=hfp' a' ha'; ⟨a,hsub.subset h1,h2⟩
 have hout:∀ a ∈ l',∀ id ∈ a.fp,B.H.get id=none∧B.T.get id=none:=fun a' ha' id hid=>by
  obtain ⟨a,h1,h2⟩:=hfpl a' ha'
  exact H.out a h1 id (by rw [h2]; exact hid)
 simp only [dI.ok] at hg
 have plain:xs=[]→(∃ b,(v=.d .aO∧b=true)∨(v=.d (.sl [] true)∧b=true))→∃ S',Has B S' l'∧∀ nt e e2,Bl v (.sl xs false) e2 e→o7 R nt e S e2 S':=fun hx hv=>by
  subst hx
  have hless:Less (.d (.sl [] false)) v:=by
   obtain ⟨b,⟨rfl,_⟩ | ⟨rfl,_⟩⟩:=hv
   ·
    exact Li
   ·
    exact JI
  have hF:∀ {cs cs':List AV},vV v (.sl [] false) cs cs'→gm cs' cs:=fun h=>by
   induction h with
   | nil=>exact .nil
   | cons h k ih =>
    refine .cons ?_ ih
    cases h with
    | same=>exact .refl _
    | it=>exact hless
  let S':St:={ S with H:=AL.FL (DI l') S.H }
  have hget:∀ k,S'.H.get k=(S.H.get k).map (DI l' k):=fun k=>AL.zW _ _ _
  have ws:lT S' S:=by
   refine ⟨rfl,fun _=>rfl,fun k=>?_⟩
   rw [hget]
   cases hb:S.H.get k with
   | none=>exact og.refl _
   | some b =>
    rw [Option.map_some]
    by_cases hk:∃ cs',dI.box k cs' ∈ l'
    ·
     obtain ⟨cs',hk⟩:=hk
     obtain ⟨cs,h1,h2⟩:=hz.Gf hk
     have:=H.ok _ (hsub.subset h1)
     simp only [dI.ok] at this
     rw [hb] at this; cases this
     rw [zN nd' hk]
     exact ⟨rfl,hF h2⟩
    ·
     rw [wP (fun cs q=>hk ⟨cs,q⟩)]; exact og.refl _
  refine ⟨S',⟨fun k hk=>H.wf k (ws.live.1 hk),dI.Jm hz nd' (fun a ha=>H.ok a (hsub.subset ha)) (fun a ha k hk=>hget k) rfl,nd',H.bwf,⟨H.keeps.nx,fun k b hb=>?_,H.keeps.T⟩,hout⟩,fun nt e e2 he cx w a h1 h2=>?_⟩
  ·
   rw [hget,H.keeps.H k b hb,Option.map_some,wP (fun cs q=>?_)]
   have:=(hout _ q k (by simp [dI.fp])).1
   rw [this] at hb; cases hb
  ·
   refine ⟨cx,h1.jk ws,Ext.jk ws (Ext.refl w (h1.jk ws).wf),⟨h2.size,fun t x hx=>?_⟩⟩
   obtain ⟨y,hy,hq⟩:=he t x hx
   obtain ⟨u,u1,u2⟩:=h2.rel t y hy
   refine ⟨u,u1,aQ.jk ws ?_⟩
   rcases hq with hq | ⟨rfl,rfl⟩
   ·
    exact hq _ _ _ _ u2
   ·
    exact hless _ _ _ _ u2
 split at hg
 ·
  exact plain hg ⟨true,.inl ⟨rfl,rfl⟩⟩
 ·
  exact plain hg ⟨true,.inr ⟨rfl,rfl⟩⟩
 ·
  rename_i id g off len lim sz'
  obtain ⟨rfl,rfl,rfl,hszz,hpos,hsz,cs0,hcs0,hid⟩:=hg
  subst hszz
  let S':St:={ S with H:=AL.FL (DI l') (AL.del S.H id) }
  have hget:∀ k,S'.H.get k=if id=k then none else (S.H.get k).map (DI l' k):=fun k=>by
   show AL.get (AL.FL _ _) k=_
   rw [AL.zW,AL.yU]
   by_cases hk:id=k <;> simp [hk]
  have hnot:∀ a ∈ l',∀ k ∈ a.fp,id ≠ k:=fun a' ha' k hk hq=>by
   subst hq
   obtain ⟨a,h1,h2⟩:=hfp' a' ha'
   rw [← h2] at hk
   obtain ⟨j,hj,hja⟩:=List.mem_eraseIdx_iff_getElem?.1 h1
   exact zt H.nd hi hja (fun q=>hj q.symm) (id:=id) (by simp [dI.fp]) hk
  have hB:B.H.get id=none:=(H.out _ (List.mem_of_getElem? hi) id (by simp [dI.fp])).1
  have hlive:∀ k,live S' k→live S k:=fun k hk=>by
   unfold live cur at hk ⊢
   rw [hget] at hk
   by_cases hq:id=k
   ·
    subst hq; rw [hid]; simp
   ·
    rw [if_neg hq] at hk
    cases hb:S.H.get k with
    | none=>rw [hb] at hk; exact hk
    | some b=>cases b <;> simp
  refine ⟨S',⟨fun k hk=>H.wf k (hlive k hk),dI.Jm hz nd' (fun a ha=>H.ok a (hsub.subset ha)) (fun a ha k hk=>by rw [hget,if_neg (hnot a ha k hk)]) rfl,nd',H.bwf,⟨H.keeps.nx,fun k b hb=>?_,H.keeps.T⟩,hout⟩,fun nt e e2 he cx w a h1 h2=>?_⟩
  ·
   rw [hget,if_neg (fun q=>by subst q; rw [hB] at hb; cases hb),H.keeps.H k b hb,Option.map_some,wP (fun cs q=>?_)]
   have:=(hout _ q k (by simp [dI.fp])).1
   rw [this] at hb; cases hb
  ·
   have hA:∀ k b',S'.H.get k=some b'→k ≠ id∧∃ b,S.H.get k=some b∧NZ (.msl id g 0 xs.length xs.length sz') (.sl xs false) b b':=fun k b' hb'=>by
    rw [hget] at hb'
    by_cases hq:id=k
    ·
     rw [if_pos hq] at hb'; cases hb'
    ·
     rw [if_neg hq] at hb'
     obtain ⟨b,hb,rfl⟩:=Option.map_eq_some_iff.1 hb'
     refine ⟨fun q=>hq q.symm,b,hb,?_⟩
     by_cases hk:∃ cs',dI.box k cs' ∈ l'
     ·
      obtain ⟨cs',hk⟩:=hk
      obtain ⟨cs,h3,h4⟩:=hz.Gf hk
      have:=H.ok _ (hsub.subset h3)
      simp only [dI.ok] at this
      rw [hb] at this; cases this
      rw [zN nd' hk]
      exact .inr ⟨0,cs,cs',rfl,rfl,h4⟩
     ·
      rw [wP (fun cs q=>hk ⟨cs,q⟩)]; exact .inl rfl
   obtain ⟨cx',k1,k2,k3⟩:=CQ hR h1 hcs0 hid hpos hsz (S':=S') rfl rfl hA
   refine ⟨cx',k1,k2,⟨h2.size,fun t x hx=>?_⟩⟩
   obtain ⟨y,hy,hq⟩:=he t x hx
   obtain ⟨u,u1,u2⟩:=h2.rel t y hy
   refine ⟨u,u1,?_⟩
   rcases hq with hq | ⟨rfl,rfl⟩
   ·
    exact (hq _ _ _ _ u2).mono k2
   ·
    exact k3 u u2
 ·
  exact hg.elim
end
end Go.Ev

namespace Go.Ev
noncomputable section
set_option linter.unusedVariables false
set_option linter.unusedSimpArgs false
variable {R:dm} {P:Program} {B:St}
theorem gm.drop {ys xs:List AV} (h:gm ys xs):∀ n,gm (ys.drop n) (xs.drop n):=by
 induction h with
 | nil=>intro n; rw [List.drop_nil]; exact .nil
 | cons h k ih=>intro n; cases n with
  | zero=>exact .cons h k
  | succ n=>exact ih n
theorem gm.take {ys xs:List AV} (h:gm ys xs):∀ n,gm (ys.take n) (xs.take n):=by
 induction h with
 | nil=>intro n; rw [List.take_nil]; exact .nil
 | cons h k ih=>intro n; cases n with
  | zero=>exact .nil
  | succ n=>exact .cons h (ih n)
theorem gm.append {a b c d:List AV} (h:gm a b) (k:gm c d):gm (a ++ c) (b ++ d):=by
 induction h with
 | nil=>exact k
 | cons h _ ih=>exact .cons h ih
theorem gm.set {ys xs:List AV} (h:gm ys xs) {y x:AV} (hl:Less y x):∀ n,gm (ys.set n y) (xs.set n x):=by
 induction h with
 | nil=>intro n; exact .nil
 | cons h k ih=>intro n; cases n with
  | zero=>exact .cons hl k
  | succ n=>exact .cons h (ih n)
theorem gm.setAt {cy cx:List AV} (hc:gm cy cx):∀ {ys xs:List AV} (h:gm ys xs) (n:Nat),gm (setAt ys n cy) (setAt xs n cx):=by
 induction hc with
 | nil=>intro ys xs h n; exact h
 | cons h k ih=>intro ys xs hh n; exact ih (hh.set h n) (n + 1)
theorem BV {α β:Type} (f:α→β):∀ (l cs:List α) (n:Nat),(setAt cs n l).map f=setAt (cs.map f) n (l.map f)
 | [],cs,n=>rfl
 | x :: l,cs,n=>by rw [setAt,BV f l,List.map_set]; rfl
theorem CL {cx:Cx} {S:St} {w:World} {d:D} {v:Value} (h:aQ cx S w (.d d) v) (hd:d.isAgg=false):v.oneCell'=true∧v.cells.toList=[v]:=by
 have h2:=h.dd.2
 have h1:=h.dd.1
 rw [hd] at h2
 cases v with
 | agg _=>cases h2
 | tuple vs =>
  generalize hcs:(Value.tuple vs).cells.toList=cs at h1
  cases h1 <;> first | (simp [Value.cells] at hcs; done) | (cases hd; done)
 | _=>exact ⟨rfl,rfl⟩
theorem Less.LK {ws:List AV} {ds:List D} (h:gm (ds.map .d) ws) (hf:jQ ds=true):Less (.d (.agg ds)) (Ev.iY ws):=by
 intro cx S w v hr
 have hall:∀ d ∈ ds,d.isAgg=false:=by
  clear h
  induction ds with
  | nil=>intro d hd; cases hd
  | cons z ys ih =>
   simp only [jQ,Bool.and_eq_true,Bool.not_eq_true'] at hf
   intro d hd
   rcases List.mem_cons.1 hd with rfl | hd
   ·
    exact hf.1
   ·
    exact ih hf.2 d hd
 have hlen:ws.length=ds.length:=by have:=h.len; rw [List.length_map] at this; exact this.symm
 have core:∀ (vs:List Value),vs.length=ws.length→(∀ u ∈ vs,u.oneCell'=true)→(∀ (i:Nat) (x:AV) (u:Value),ws[i]? = some x→vs[i]? = some u→aQ cx S w x u)→jc w cx.fr (.agg ds) vs:=fun vs hl ho hh=>by
  refine .agg ds vs (by rw [hl,hlen]) ho hall (fun i d u hd hu=>?_)
  have hlt:i < ws.length:=by rw [hlen]; exact (List.getElem?_eq_some_iff.1 hd).1
  have hx:=List.getElem?_eq_getElem hlt
  have hd':=h.get (i:=i) (by rw [List.getElem?_map,hd]; rfl) hx _ _ _ _ (hh i _ u hx hu)
  have:=hd'.dd.1
  rwa [(CL hd' (hall d (List.mem_of_getElem? hd))).2] at this
 unfold Ev.iY at hr
 split at hr
 ·
  rename_i xs hxs
  have hws:ws=xs.map .d:=by
   clear hr core hlen h
   induction ws generalizing xs with
   | nil=>simp [uN] at hxs; subst hxs; rfl
   | cons x l ih =>
    cases x <;> simp only [uN] at hxs <;> try (cases hxs)
    obtain ⟨ys,h1,rfl⟩:=Option.map_eq_some_iff.1 hxs
    rw [ih ys h1]; rfl
  have hd:=hr.dd
  refine .d _ _ ⟨?_,hd.2⟩
  have h1:=hd.1
  generalize hcs:v.cells.toList=cs at h1 ⊢
  cases h1 with
  | agg _ _ hl ho hn hh =>
   refine core cs (by rw [hws,List.length_map]; exact hl) ho (fun i x u hx hu=>?_)
   rw [hws,List.getElem?_map,Option.map_eq_some_iff] at hx
   obtain ⟨y,hy,rfl⟩:=hx
   have:=hh i y u hy hu
   have ho':=ho u (List.mem_of_getElem? hu)
   exact .d _ _ ⟨by rw [(kG ho').1]; exact this,by rw [(kG ho').2]; exact hn y (List.mem_of_getElem? hy)⟩
 ·
  cases hr with
  | agg _ vs hl ho hh =>
   refine .d _ _ ⟨?_,rfl⟩
   simp only [Value.cells]
   exact core vs hl ho hh
def qM (v p:AV) (n off:Nat):Prop:=∃ id g len lim sz,v=.msl id g 0 len lim sz∧p=.ptr id g (n * sz + off)
theorem y7 {S:St} {sz:Nat} {v:AV} {xs:List D} (h:(dI.row sz v xs).ok S) {n:Nat} {d:D} (hn:xs[n]? = some d) :
  ∃ id g cs,v=.msl id g 0 xs.length xs.length sz∧0 < sz∧(∀ x ∈ xs,x.cells.length=sz∧jQ x.cells=true)∧gm ((xs.map D.cells).flatten.map .d) cs∧S.H.get id=some (.cells g cs):=by
 simp only [dI.ok] at h
 split at h
 ·
  subst h; simp at hn
 ·
  subst h; simp at hn
 ·
  rename_i id g off len lim sz'
  obtain ⟨rfl,rfl,rfl,rfl,h1,h2,cs,h3,h4⟩:=h
  exact ⟨id,g,cs,rfl,h1,h2,h3,h4⟩
 ·
  exact h.elim
section
variable {C:gG} {ρ:Operand→Option AV} {S:St} {l:List dI} {x y:Operand} {t:Nat} {v:AV}
theorem En {α:Type} {enc:α→D} {xs:List α} {i sz:Nat} (H:Has B S l) (hi:l[i]? = some (.row sz v (xs.map enc))) {n:Int} {k:IntKind} {z:α} {el:Nat} (hx:ρ x=some v) (hy:ρ y=some (.d (.int k n)))
  (h:idx xs n=some z) (he:bO C.P t=some el) (ha:(eO C.P el).isSome=true) (hz:(enc z).cells.length=aL C.P el) :
  ∃ p,oper C ρ S (.indexAddr t x y)=some (.val p S)∧qM v p n.toNat 0:=by
 obtain ⟨h0,h1⟩:=kC h
 have hm:(xs.map enc)[n.toNat]? = some (enc z):=by rw [List.getElem?_map,h1]; rfl
 obtain ⟨id,g,cs,rfl,hpos,hsz,hcs,hid⟩:=y7 (H.at hi) hm
 have hszel:sz=aL C.P el:=by rw [← hz]; exact ((hsz _ (List.mem_of_getElem? hm)).1).symm
 have hlt:n.toNat < (xs.map enc).length:=(List.getElem?_eq_some_iff.1 hm).1
 refine ⟨_,bE hx hy (r:=.ptr id g (0 + n.toNat * aL C.P el)) ?_,id,g,_,_,sz,rfl,by rw [hszel]; simp⟩
 simp only [jh,he,h0,ha,decide_true,Bool.and_self,if_true]
 rw [if_pos ⟨hlt,hszel⟩]
theorem Bn {s fld fo ft o' n off:Nat} {p:AV} (hp:qM v p n off) (h:ρ x=some p) (hf:bQ C.P s fld=some (fo,ft)) (hz:Nat.beq (aL C.P ft) 0=false) (ho:off + fo=o') :
  ∃ p',oper C ρ S (.fieldAddr s x fld)=some (.val p' S)∧qM v p' n o':=by
 obtain ⟨id,g,len,lim,sz,rfl,rfl⟩:=hp
 subst ho
 exact ⟨_,ai h hf hz rfl,id,g,len,lim,sz,rfl,by rw [Nat.add_assoc]⟩
theorem DZ {xs:List D} {sz:Nat} (hsz:∀ x ∈ xs,x.cells.length=sz):∀ {n:Nat} {d:D},xs[n]? = some d→∃ a b,(xs.map D.cells).flatten=a ++ d.cells ++ b∧a.length=n * sz∧∀ d',((xs.set n d').map D.cells).flatten=a ++ d'.cells ++ b:=by
 induction xs with
 | nil=>intro n d h; simp at h
 | cons y xs ih =>
  intro n d h
  cases n with
  | zero =>
   simp at h; subst h
   exact ⟨[],(xs.map D.cells).flatten,by simp,by simp,fun d'=>by simp⟩
  | succ n =>
   obtain ⟨a,b,h1,h2,h3⟩:=ih (fun x hx=>hsz x (List.mem_cons_of_mem _ hx)) (n:=n) (by simpa using h)
   refine ⟨y.cells ++ a,b,by rw [List.map_cons,List.flatten_cons,h1]; simp,?_,fun d'=>by rw [List.set_cons_succ,List.map_cons,List.flatten_cons,h3]; simp⟩
   rw [List.length_append,h2,hsz y List.mem_cons_self,Nat.add_mul,Nat.one_mul]; omega
theorem Ih {l:List D} (h:jQ l=true):∀ {i:Nat} {d:D},l[i]? = some d→d.isAgg=false:=by
 induction l with
 | nil=>intro i d hd; simp at hd
 | cons y l ih =>
  simp only [jQ,Bool.and_eq_true,Bool.not_eq_true'] at h
  intro i d hd
  cases i with
  | zero=>simp at hd; subst hd; exact h.1
  | succ i=>exact ih h.2 (by simpa using hd)
theorem Jh {l:List D} (h:∀ d ∈ l,d.isAgg=false):jQ l=true:=by
 induction l with
 | nil=>rfl
 | cons y l ih=>simp only [jQ,h y List.mem_cons_self,ih (fun d hd=>h d (List.mem_cons_of_mem _ hd)),Bool.not_false,Bool.and_self]
theorem BS {l:List D} (h:jQ l=true):∀ d ∈ l,d.isAgg=false:=fun d hd=>by
 obtain ⟨i,hi,rfl⟩:=List.getElem_of_mem hd
 exact Ih h (List.getElem?_eq_getElem hi)
theorem DF {xs:List D} {i n off sz:Nat} {d r:D} {p:AV} (H:Has B S l) (hi:l[i]? = some (.row sz v xs)) (hp:qM v p n off) (hd:xs[n]? = some d) (h:ρ x=some p) (hr:iR C.P t d.cells off=some r) :
  ∃ w,oper C ρ S (.load t x)=some (.val w S)∧Less (.d r) w:=by
 obtain ⟨id,g,cs,rfl,hpos,hsz,hcs,hid⟩:=y7 (H.at hi) hd
 obtain ⟨id',g',len,lim,sz',he,rfl⟩:=hp
 cases he
 have hdl:=hsz d (List.mem_of_getElem? hd)
 obtain ⟨a,b,h1,h2,h3⟩:=DZ (fun x hx=>(hsz x hx).1) hd
 have hlen:cs.length=((xs.map D.cells).flatten).length:=by have:=hcs.len; rw [List.length_map] at this; exact this.symm
 rw [h1] at hcs hlen
 simp only [List.length_append,h2,hdl.1] at hlen
 have key:∃ w,part C.P t cs (n * sz + off)=some w∧Less (.d r) w:=by
  unfold iR at hr
  unfold part
  split at hr
  ·
   rename_i hag
   split at hr
   ·
    rename_i hb
    cases hr
    rw [hdl.1] at hb
    refine ⟨_,?_,Less.LK (ws:=(cs.drop (n * sz + off)).take (aL C.P t)) ?_ ?_⟩
    ·
     rw [if_pos (by omega)]
    ·
     have:=(hcs.drop (n * sz + off)).take (aL C.P t)
     rw [← List.map_drop,← List.map_take] at this
     have e:((a ++ d.cells ++ b).drop (n * sz + off)).take (aL C.P t)=(d.cells.drop off).take (aL C.P t):=by
      rw [List.append_assoc,← h2,List.drop_append,List.drop_of_length_le (by omega),List.nil_append,show a.length + off - a.length=off by omega,List.drop_append,List.take_append]
      rw [show aL C.P t - (d.cells.drop off).length=0 by rw [List.length_drop,hdl.1]; omega,List.take_zero,List.append_nil]
     rw [e] at this; exact this
    ·
     refine Jh (fun c hc=>BS hdl.2 c ?_)
     exact List.mem_of_mem_drop (List.mem_of_mem_take hc)
   ·
    cases hr
  ·
   rename_i hag
   have hlt:off < d.cells.length:=(List.getElem?_eq_some_iff.1 hr).1
   rw [hdl.1] at hlt
   have hx:=List.getElem?_eq_getElem (l:=cs) (i:=n * sz + off) (by omega)
   refine ⟨_,hx,hcs.get (i:=n * sz + off) ?_ hx⟩
   rw [List.getElem?_map,List.append_assoc,List.getElem?_append_right (by omega),h2,show n * sz + off - n * sz=off by omega,List.getElem?_append_left (by rw [hdl.1]; exact hlt),hr]; rfl
  ·
   cases hr
 obtain ⟨w,k1,k2⟩:=key
 exact ⟨w,by simp only [oper,h,oQ,St.look,hid,Nat.beq_refl,cond_true,k1,Option.map_some],k2⟩
theorem I5 {α:Type} {a b cs cv:List α} {off:Nat} (h:off + cv.length ≤ cs.length):setAt (a ++ cs ++ b) (a.length + off) cv=a ++ setAt cs off cv ++ b:=by
 induction cv generalizing cs off with
 | nil=>rfl
 | cons c cv ih =>
  simp only [List.length_cons] at h
  rw [setAt,setAt]
  have e:(a ++ cs ++ b).set (a.length + off) c=a ++ cs.set off c ++ b:=by
   rw [List.append_assoc,List.set_append_right _ _ (by omega),show a.length + off - a.length=off by omega,List.set_append_left _ _ (by omega),← List.append_assoc]
  rw [e,Nat.add_assoc]
  exact ih (by rw [List.length_set]; omega)
theorem AZ {xs:List D} {i n off sz:Nat} {d d':D} {p vy:AV} {cv:List D} (H:Has B S l) (hi:l[i]? = some (.row sz v xs)) (hp:qM v p n off) (hd:xs[n]? = some d) (h:ρ x=some p) (hy:ρ y=some vy)
  (hcv:gm (cv.map .d) vy.cells) (hn:cv.length=aL C.P t) (hpl:vy.plain=true) (hag:(eO C.P t).isSome=true) (hb:Nat.ble (off + cv.length) d.cells.length=true) (hs:setAt d.cells off cv=d'.cells) (hf:jQ d'.cells=true) :
  ∃ S',oper C ρ S (.store t x y)=some (.skip S')∧Has B S' (l.set i (.row sz v (xs.set n d'))):=by
 obtain ⟨id,g,cs,rfl,hpos,hsz,hcs,hid⟩:=y7 (H.at hi) hd
 obtain ⟨id',g',len,lim,sz',he,rfl⟩:=hp
 cases he
 have hdl:=hsz d (List.mem_of_getElem? hd)
 obtain ⟨a,b,h1,h2,h3⟩:=DZ (fun x hx=>(hsz x hx).1) hd
 have hlen:cs.length=((xs.map D.cells).flatten).length:=by have:=hcs.len; rw [List.length_map] at this; exact this.symm
 have hb:=Nat.le_of_ble_eq_true hb
 have hvl:vy.cells.length=cv.length:=by have:=hcv.len; rw [List.length_map] at this; exact this.symm
 rw [h1] at hlen
 simp only [List.length_append,h2,hdl.1] at hlen
 rw [hdl.1] at hb
 refine ⟨{ S with H:=S.H.set id (.cells g (setAt cs (n * sz + off) vy.cells)) },?_,?_⟩
 ·
  simp only [oper,h,hy,xc,hid]
  rw [if_pos ⟨hvl.trans hn,hpl,hag⟩,if_pos trivial,if_pos (by omega)]
  rfl
 ·
  refine H.set hi rfl ?_ (fun j hl=>?_) (fun j hj=>?_) (fun j hj=>rfl) rfl
  ·
   refine ⟨rfl,by simp,by simp,rfl,hpos,fun z hz=>?_,_,?_,by simp [AL.bq]; rfl⟩
   ·
    rcases List.mem_or_eq_of_mem_set hz with hz | rfl
    ·
     exact hsz z hz
    ·
     exact ⟨by rw [← hs,Ct]; exact hdl.1,hf⟩
   ·
    rw [h3,← hs,← I5 (by rw [hdl.1]; exact hb),h2,BV,← h1]
    exact gm.setAt hcv hcs _
  ·
   refine H.wf j ?_
   unfold live cur at hl ⊢
   simp only [AL.bq] at hl
   by_cases hij:id=j
   ·
    subst hij; rw [hid]; simp
   ·
    rw [if_neg hij] at hl; exact hl
  ·
   simp only [dI.fp,List.mem_singleton] at hj
   simp only [AL.bq]
   rw [if_neg (fun q=>hj q.symm)]
theorem Hw {xs:List D} {i tt sz:Nat} (H:Has B S l) (hi:l[i]? = some (.row sz v xs)) (h:(bO C.P tt).isSome=true):qW C tt v=true∧l7 v S=some xs.length:=by
 have hg:=H.at hi
 have hu:∃ e,C.P.underlying tt=some (.slice e):=by
  unfold bO at h
  split at h
  ·
   rename_i hu; exact ⟨_,hu⟩
  ·
   cases h
 obtain ⟨e,hu⟩:=hu
 simp only [dI.ok] at hg
 split at hg
 ·
  subst hg; exact ⟨by simp [qW,hu],rfl⟩
 ·
  subst hg; exact ⟨by simp [qW,hu],rfl⟩
 ·
  obtain ⟨rfl,rfl,rfl,_⟩:=hg; exact ⟨by simp [qW,hu],rfl⟩
 ·
  exact hg.elim
theorem jv {α:Type} {enc:α→D} {xs:List α} {tt i sz:Nat} (H:Has B S l) (hi:l[i]? = some (.row sz v (xs.map enc))) (h:ρ x=some v) (ht:(bO C.P tt).isSome=true):oper C ρ S (.call { callee:=.builtin .len,args:=#[x],argTypes:=#[tt] })=some (.val (.d (.int .i64 (xs.length:Int))) S):=by
 obtain ⟨h1,h2⟩:=Hw (C:=C) H hi ht
 exact uh h h1 (by rw [h2]; simp)
end
end
end Go.Ev

namespace Go.Ev
noncomputable section
set_option linter.unusedVariables false
set_option linter.unusedSimpArgs false
variable {R:dm} {P:Program} {B:St}
theorem Gd {C:gG} {S:St} {y:AV} {ys:List D} {sz:Nat} (h:kN y=some ys) (hs:sizes sz ys=true):ou S sz y=some ((ys.map D.cells).flatten.map .d,ys.length):=by
 cases y with
 | d x=>cases x <;> simp only [kN] at h <;> first | (cases h; done) | (cases h; simp [ou,uK,kN,hs,sizes]; try simpa [sizes] using hs)
 | tsl zs tok=>simp only [kN] at h; cases h; simp [ou,uK,kN,hs]
 | _=>simp only [kN] at h; cases h
section
variable {C:gG} {ρ:Operand→Option AV} {S:St} {l:List dI} {x y:Operand} {t:Nat} {v:AV}
theorem Ar {i u:Nat} {vy:AV} {xs ys:List D} {el nb:Nat} (H:Has B S l) (hx:ρ x=some v) (hy:ρ y=some vy) (hi:l[i]? = some (.row (aL C.P el) v xs)) (hd:kN vy=some ys) (hnr:C.rowT t=true) (hu:jR C u=true) (he:bO C.P t=some el)
  (hb:(xs.length + ys.length) * nb ≤ bound) (hnb:bytesOf C.P el=nb) (h0:(Nat.blt 0 nb && Nat.ble nb 65536)=true) (hsy:sizes (aL C.P el) ys=true) (hfy:∀ z ∈ ys,jQ z.cells=true) (hpos:Nat.blt 0 (aL C.P el)=true) (hz:gX C el=true) :
  ∃ v' S',oper C ρ S (.call { callee:=.builtin .append,args:=#[x,y],argTypes:=#[t,u] })=some (.val v' S')∧Has B S' (l.set i (.row (aL C.P el) v' (xs ++ ys))):=by
 subst hnb
 have hm:jw ρ [x,y]=some [v,vy]:=by simp only [jw,hx,hy,Option.map_some]
 have hpos:0 < aL C.P el:=Nat.le_of_ble_eq_true hpos
 have hinfo:(C.P.info? el).isSome=true:=by
  unfold gX at hz
  cases hq:C.P.info? el with
  | none=>rw [hq] at hz; cases hz
  | some x=>rfl
 have hgrow:∀ n,n=xs.length + ys.length→xE C el n=true:=fun n hn=>by
  simp only [Bool.and_eq_true] at h0
  simp only [xE,hz,Bool.and_true,Bool.and_eq_true]
  exact ⟨⟨Nat.ble_eq_true_of_le (by rw [hn]; exact hb),h0.1⟩,h0.2⟩
 have hsrc:=Gd (C:=C) (S:=S) hd hsy
 have hil:i < l.length:=(List.getElem?_eq_some_iff.1 hi).1
 have hsame:∀ w,l[i]? = some (.row (aL C.P el) w xs)→l.set i (.row (aL C.P el) w xs)=l:=fun w hw=>by
  apply List.ext_getElem?
  intro j
  rw [List.getElem?_set]
  by_cases hij:i=j
  ·
   subst hij; simp [hil]; exact (List.getElem?_eq_some_iff.1 hw).2.symm
  ·
   simp [hij]
 have fresh:S.H.get S.nx=none:=H.wf.fresh (Nat.le_refl _)
 have hysz:=pY hsy
 have first:∀ w,(w=.d .aO∨w=.d (.sl [] true))→l[i]? = some (.row (aL C.P el) w xs)→xs=[]→∃ v' S',kX C el S w [] vy=some (v',S')∧Has B S' (l.set i (.row (aL C.P el) v' (xs ++ ys))):=fun w hw hiw hxs=>by
  subst hxs
  by_cases hn:ys.length=0
  ·
   have:ys=[]:=List.eq_nil_of_length_eq_zero hn
   subst this
   refine ⟨w,S,?_,?_⟩
   ·
    simp only [kX,hsrc,List.length_nil,if_true,hinfo]
   ·
    rw [List.append_nil,hsame w hiw]; exact H
  ·
   refine ⟨.msl S.nx 0 0 ys.length ys.length (aL C.P el),{ S with H:=S.H.set S.nx (.cells 0 ((ys.map D.cells).flatten.map .d)),nx:=S.nx + 1 },?_,?_⟩
   ·
    simp only [kX,hsrc]
    rw [if_neg hn,if_pos ⟨hn,hpos,rfl,by rw [List.length_nil]; exact hgrow _ (by simp)⟩]
    simp
   ·
    have hfp:(dI.row (aL C.P el) w []).fp=[]:=by rcases hw with rfl | rfl <;> rfl
    refine H.JW hiw hfp rfl ⟨rfl,rfl,rfl,rfl,hpos,fun z hz=>⟨hysz z hz,hfy z hz⟩,_,.refl _,by simp [AL.bq]⟩ (fun id hl=>?_) (fun id hid=>by simp only [AL.bq]; rw [if_neg (by omega)]) (fun id hid=>rfl) (Nat.le_succ _)
    show id < S.nx + 1
    unfold live cur at hl
    simp only [AL.bq] at hl
    by_cases hq:S.nx=id
    ·
     omega
    ·
     rw [if_neg hq] at hl
     have:=H.wf id hl
     omega
 have hg:=H.at hi
 simp only [oper,hm,jq,List.getElem?_toArray,List.getElem?_cons_zero,List.getElem?_cons_succ,hu,if_true,he]
 simp only [dI.ok] at hg
 split at hg
 ·
  subst hg
  obtain ⟨v',S',h1,h2⟩:=first _ (.inl rfl) hi rfl
  exact ⟨v',S',by simp only [hnr,cond_true,h1,Option.map_some],h2⟩
 ·
  subst hg
  obtain ⟨v',S',h1,h2⟩:=first _ (.inr rfl) hi rfl
  exact ⟨v',S',by simp only [hnr,cond_true,h1,Option.map_some],h2⟩
 ·
  rename_i id g off len lim sz'
  obtain ⟨rfl,rfl,rfl,rfl,_,hsz,cs,hcs,hid⟩:=hg
  have hlen:cs.length=xs.length * aL C.P el:=by
   have:=hcs.len
   rw [List.length_map,E9 (fun x hx=>(hsz x hx).1)] at this; exact this.symm
  by_cases hn:ys.length=0
  ·
   have:ys=[]:=List.eq_nil_of_length_eq_zero hn
   subst this
   refine ⟨.msl id g 0 xs.length xs.length (aL C.P el),S,?_,?_⟩
   rotate_left 1
   ·
    rw [List.append_nil,hsame _ hi]; exact H
   ·
    simp only [rG,hsrc,St.look,hid,Nat.beq_refl,cond_true]
    rw [if_pos ⟨trivial,hpos,by omega⟩]
    simp
  ·
   refine ⟨.msl id (g + 1) 0 (xs.length + ys.length) (xs.length + ys.length) (aL C.P el),{ S with H:=S.H.set id (.cells (g + 1) (cs.take (xs.length * aL C.P el) ++ (ys.map D.cells).flatten.map .d)) },?_,?_⟩
   ·
    have hm':0 < ys.length * aL C.P el:=Nat.mul_pos (by omega) hpos
    simp only [rG,hsrc,St.look,hid,Nat.beq_refl,cond_true]
    rw [if_pos ⟨trivial,hpos,by omega⟩,if_neg hn,if_neg (by omega),if_pos ⟨trivial,hgrow _ rfl⟩]
    rfl
   ·
    refine H.set hi rfl ⟨rfl,by simp,by simp,rfl,hpos,fun z hz=>?_,cs.take (xs.length * aL C.P el) ++ (ys.map D.cells).flatten.map .d,?_,by simp only [AL.bq,if_true]⟩ (fun j hl=>?_) (fun j hj=>?_) (fun j hj=>rfl) rfl
    ·
     rcases List.mem_append.1 hz with hz | hz
     ·
      exact hsz z hz
     ·
      exact ⟨hysz z hz,hfy z hz⟩
    ·
     rw [List.map_append,List.flatten_append,List.map_append,← hlen,List.take_of_length_le (Nat.le_refl _)]
     exact hcs.append (.refl _)
    ·
     refine H.wf j ?_
     unfold live cur at hl ⊢
     simp only [AL.bq] at hl
     by_cases hij:id=j
     ·
      subst hij; rw [hid]; simp
     ·
      rw [if_neg hij] at hl; exact hl
    ·
     simp only [dI.fp,List.mem_singleton] at hj
     simp only [AL.bq]
     rw [if_neg (fun q=>hj q.symm)]
 ·
  exact hg.elim
theorem Has.JN {B S:St} {l:List dI} (H:Has B S l) (sz:Nat):Has B S (.row sz (.d .aO) [] :: l):=H.GV rfl rfl
theorem Has.Gi {B S:St} {l:List dI} (H:Has B S l) (sz:Nat):Has B S (.row sz (.d (.sl [] true)) [] :: l):=H.GV rfl rfl
end
def qb (R:dm) (S:St) (x:AV) (d:D):Prop:=∀ cx w u,bD R cx S w→aQ cx S w x u→bT w (fun _ _=>False) d u
inductive uV (R:dm) (S:St):List AV→List D→Prop
 | nil:uV R S [] []
 | cons {x:AV} {d:D} {xs:List AV} {ds:List D} (h:qb R S x d) (k:uV R S xs ds):uV R S (x :: xs) (d :: ds)
theorem uV.len {S:St} {xs:List AV} {ds:List D} (h:uV R S xs ds):ds.length=xs.length:=by
 induction h with
 | nil=>rfl
 | cons _ _ ih=>simp [ih]
theorem uV.get {S:St} {xs:List AV} {ds:List D} (h:uV R S xs ds):∀ {i:Nat} {d:D},ds[i]? = some d→∃ x,xs[i]? = some x∧qb R S x d:=by
 induction h with
 | nil=>intro i d h; simp at h
 | cons h k ih =>
  intro i d hd
  cases i with
  | zero=>simp at hd; subst hd; exact ⟨_,rfl,h⟩
  | succ i=>simpa using ih (by simpa using hd)
theorem bT.Ja {w:World} {fr:Nat→Nat→Prop} {d:D} {u:Value} (h:bT w fr d u):bT w (fun _ _=>False) d u:=h.mono (fun b o v h1 h2=>⟨h2,fun q=>q⟩)
theorem qb.less {S:St} {x:AV} {d:D} (h:Less (.d d) x):qb R S x d:=fun cx w u h1 h2=>(h _ _ _ _ h2).dd.Ja
theorem qb.row {S:St} {l:List dI} (H:Has B S l) {i sz:Nat} {v:AV} {xs:List D} (hi:l[i]? = some (.row sz v xs)):qb R S v (.sl xs false):=by
 intro cx w u h1 h2
 have hg:=H.at hi
 simp only [dI.ok] at hg
 split at hg
 ·
  subst hg; exact (Li _ _ _ _ h2).dd.Ja
 ·
  subst hg; exact (JI _ _ _ _ h2).dd.Ja
 ·
  obtain ⟨rfl,rfl,rfl,rfl,hpos,hsz,cs,hcs,hid⟩:=hg
  exact EF h1 hcs hid hpos hsz (fun b o v q1 q2=>⟨q2,fun q=>q⟩) (fun o q=>q) h2
 ·
  exact hg.elim
theorem qb.agg {S:St} {cs:List AV} {ds:List D} (h:uV R S cs ds) (hf:jQ ds=true):qb R S (Ev.iY cs) (.agg ds):=by
 intro cx w u h1 h2
 have core:∀ (vs:List Value),vs.length=cs.length→(∀ u ∈ vs,u.oneCell'=true)→(∀ (i:Nat) (x:AV) (u:Value),cs[i]? = some x→vs[i]? = some u→aQ cx S w x u)→jc w (fun _ _=>False) (.agg ds) vs:=fun vs hl ho hh=>by
  refine .agg ds vs (by rw [hl,h.len]) ho (BS hf) (fun i d u hd hu=>?_)
  obtain ⟨x,hx,hlx⟩:=h.get hd
  have:=(hlx cx w u h1 (hh i x u hx hu)).1
  rwa [(kG (ho u (List.mem_of_getElem? hu))).1] at this
 unfold Ev.iY at h2
 split at h2
 ·
  rename_i xs hxs
  have hws:cs=xs.map .d:=by
   clear h2 core h
   induction cs generalizing xs with
   | nil=>simp [uN] at hxs; subst hxs; rfl
   | cons x l ih =>
    cases x <;> simp only [uN] at hxs <;> try (cases hxs)
    obtain ⟨ys,h1,rfl⟩:=Option.map_eq_some_iff.1 hxs
    rw [ih ys h1]; rfl
  have hd:=h2.dd
  refine ⟨?_,hd.2⟩
  have h1:=hd.1
  generalize hcs:u.cells.toList=cs at h1 ⊢
  cases h1 with
  | agg _ _ hl ho hn hh =>
   refine core cs (by rw [hws,List.length_map]; exact hl) ho (fun i x u hx hu=>?_)
   rw [hws,List.getElem?_map,Option.map_eq_some_iff] at hx
   obtain ⟨y,hy,rfl⟩:=hx
   have:=hh i y u hy hu
   have ho':=ho u (List.mem_of_getElem? hu)
   exact .d _ _ ⟨by rw [(kG ho').1]; exact this,by rw [(kG ho').2]; exact hn y (List.mem_of_getElem? hy)⟩
 ·
  cases h2 with
  | agg _ vs hl ho hh =>
   refine ⟨?_,rfl⟩
   simp only [Value.cells]
   exact core vs hl ho hh
def KE:D→Bool
 | .bool _=>true
 | .int _ _=>true
 | .str _=>true
 | _=>false
def DJ:AV→Bool
 | .d x=>KE x
 | .tup l=>l.all fun x=>match x with | .d x=>KE x | _=>false
 | _=>false
theorem bT.Ll {w w':World} {fr fr':Nat→Nat→Prop} {d:D} {u:Value} (hs:KE d=true) (h:bT w fr d u):bT w' fr' d u:=by
 refine ⟨?_,h.2⟩
 have h1:=h.1
 generalize hcs:u.cells.toList=cs at h1 ⊢
 cases h1 <;> first | (cases hs; done) | constructor
theorem aQ.Ll {cx cx':Cx} {S S':St} {w w':World} {x:AV} {u:Value} (hs:DJ x=true) (h:aQ cx S w x u):aQ cx' S' w' x u:=by
 cases h with
 | d x _ h=>exact .d _ _ (bT.Ll hs h)
 | tup xs vs hl h =>
  refine .tup xs vs hl (fun i x v hx hv=>?_)
  simp only [DJ,List.all_eq_true] at hs
  have:=hs x (List.mem_of_getElem? hx)
  have hr:=h i x v hx hv
  cases hr with
  | d x _ h=>exact .d _ _ (bT.Ll this h)
  | _=>cases this
 | _=>cases hs
theorem bN.Ja (hR:ObjOk R) {f:Nat} {ds:List D} {v:AV} (h:bN R P f ds v) (hv:DJ v=true) {args:List AV} {S:St} (ha:uV R S args ds):eQ R P f args S (fun r=>r=(none,v,S)):=by
 have hargs:aD (ds.map .d) ds:=⟨ds,CZ ds,.refl ds⟩
 obtain ⟨hf,hs⟩:=h (ds.map .d) aF hargs
 refine ⟨hf,fun cx w us hS hl hr=>?_⟩
 let cxL:Cx:={ cx with fr:=fun _ _=>False }
 have hL:bD R cxL aF w:=by
  have hp:=D7 hS
  exact ⟨hp.wf,hp.tK,fun id g cs hb=>by simp [aF,AL.get] at hb,fun id es hb=>by simp [aF,AL.get] at hb,fun id k x hb=>by simp [aF,AL.get] at hb,fun id en hb=>by simp [aF,AL.get] at hb,fun id id' b hl=>absurd rfl hl,fun b o q=>q.elim,hR.stat _ _ _ _ hS.stat (fun b o v q1 q2=>⟨q2,fun q=>q⟩) (fun b _ _=>⟨rfl,fun o q=>q⟩)⟩
 refine (hs cxL w us hL (by rw [hl,List.length_map,ha.len]) (fun i x u hx hu=>?_)).mono (fun e w' he=>?_)
 ·
  rw [List.getElem?_map,Option.map_eq_some_iff] at hx
  obtain ⟨d,hd,rfl⟩:=hx
  obtain ⟨x,hx,hlx⟩:=ha.get hd
  exact .d _ _ (hlx cx w u hS (hr i x u hx hu))
 ·
  obtain ⟨r,rfl,cx1,k1,k2,k3⟩:=he
  obtain ⟨u,rfl,k3⟩:=k3
  have hb:∀ b,b < w.heap.size→w'.heap[b]? = w.heap[b]?:=fun b hb=>(k2.other b hb (fun id hl=>absurd rfl hl)).1
  have ex:Ext cx S w cx S w':=Ext.old hS k2.size hb k2.os k2.tape k2.output
  exact ⟨_,rfl,cx,bD.old hR hS k2.size hb ex,ex,u,rfl,k3.Ll hv⟩
theorem Has.comp {S S':St} {l l':List dI} (H:Has B S l) (K:Has S S' l') (hd:∀ id b,S'.H.get id=some b→S'.T.get id=none):Has B S' (l' ++ l) where
 wf:=K.wf
 ok:=fun a ha=>by
  rcases List.mem_append.1 ha with ha | ha
  ·
   exact K.ok a ha
  ·
   have hok:=H.ok a ha
   have hl:=dI.lt H.wf hok
   cases a with
   | box id cs=>exact K.keeps.H _ _ hok
   | obj id k x=>exact K.keeps.H _ _ hok
   | map id m=>exact K.keeps.H _ _ hok
   | grow v xs =>
    cases v with
    | tsl ys tok =>
     obtain ⟨h1,h2,h3,h4⟩:=hok
     refine ⟨h1,h2,K.keeps.T _ _ h3,?_⟩
     cases hb:S'.H.get tok with
     | none=>rfl
     | some b=>have:=hd _ _ hb; rw [K.keeps.T _ _ h3] at this; cases this
    | d x=>cases x with
     | sl ys t=>cases t <;> exact hok
     | _=>exact hok
    | _=>exact hok
   | row sz v xs =>
    cases v with
    | msl id g off len lim sz' =>
     obtain ⟨h1,h2,h3,h4,h5,h6,cs,h7,h8⟩:=hok
     exact ⟨h1,h2,h3,h4,h5,h6,cs,h7,K.keeps.H _ _ h8⟩
    | d x=>cases x with
     | sl ys t=>cases ys <;> cases t <;> exact hok
     | _=>exact hok
    | _=>exact hok
   | abs ids p=>exact dI.NF hok (fun id b hid hb=>K.keeps.H _ _ hb)
 nd:=by
  rw [List.map_append,List.flatten_append,List.nodup_append]
  refine ⟨K.nd,H.nd,fun a ha b hb hab=>?_⟩
  subst hab
  obtain ⟨KQ,h1,h2⟩:=List.mem_flatten.1 ha
  obtain ⟨x,hx,rfl⟩:=List.mem_map.1 h1
  obtain ⟨KQ,h3,h4⟩:=List.mem_flatten.1 hb
  obtain ⟨y,hy,rfl⟩:=List.mem_map.1 h3
  obtain ⟨o1,o2⟩:=K.out x hx a h2
  have hok:=H.ok y hy
  cases y with
  | box id cs=>simp only [dI.fp,List.mem_singleton] at h4; subst h4; simp only [dI.ok] at hok; rw [o1] at hok; cases hok
  | obj id k x=>simp only [dI.fp,List.mem_singleton] at h4; subst h4; simp only [dI.ok] at hok; rw [o1] at hok; cases hok
  | map id m=>simp only [dI.fp,List.mem_singleton] at h4; subst h4; simp only [dI.ok] at hok; rw [o1] at hok; cases hok
  | grow v xs =>
   cases v <;> simp only [dI.fp,List.not_mem_nil,List.mem_singleton] at h4
   subst h4
   have:=hok.2.2.1
   rw [o2] at this; cases this
  | row sz v xs =>
   cases v <;> simp only [dI.fp,List.not_mem_nil,List.mem_singleton] at h4
   subst h4
   obtain ⟨cs,_,h8⟩:=hok.2.2.2.2.2.2
   rw [o1] at h8; cases h8
  | abs ids p =>
   obtain ⟨b,hb⟩:=hok.1 a h4
   rw [o1] at hb; cases hb
 bwf:=H.bwf
 keeps:=H.keeps.trans K.keeps
 out:=fun a ha id hid=>by
  rcases List.mem_append.1 ha with ha | ha
  ·
   obtain ⟨o1,o2⟩:=K.out a ha id hid
   refine ⟨?_,?_⟩
   ·
    cases hb:B.H.get id with
    | none=>rfl
    | some b=>have:=H.keeps.H _ _ hb; rw [o1] at this; cases this
   ·
    cases hb:B.T.get id with
    | none=>rfl
    | some b=>have:=H.keeps.T _ _ hb; rw [o2] at this; cases this
  ·
   exact H.out a ha id hid
def mK (R:dm) (P:Program) (f:Nat) (ds:List D) (res:AV→List dI→Prop):Prop :=
 ∀ args S,S.Wf→aD args ds→eQ R P f args S (fun o=>o.1=none∧∃ v l,Less v o.2.1∧res v l∧Has S o.2.2 l)
theorem eQ.tK {f:Nat} {args:List AV} {S:St} {Q:Out→Prop} (h:eQ R P f args S Q):eQ R P f args S (fun o=>Q o∧∀ id b,o.2.2.H.get id=some b→o.2.2.T.get id=none) :=
 ⟨h.1,fun cx w us h1 h2 h3=>(h.2 cx w us h1 h2 h3).mono fun e w' ⟨r,q,cx',k,k2⟩=>⟨r,⟨q,k.tK⟩,cx',k,k2⟩⟩
theorem aD.Jz:∀ {args:List AV} {ds:List D},aD args ds→gm (ds.map .d) args
 | [],ds,⟨ds',h1,h2⟩=>by simp [nC] at h1; subst h1; cases h2; exact .nil
 | x :: xs,ds,⟨ds',h1,h2⟩=>by
  simp only [nC] at h1
  split at h1
  ·
   rename_i d hd
   obtain ⟨ds2,h3,rfl⟩:=Option.map_eq_some_iff.1 h1
   cases h2 with
   | cons h k=>exact .cons (fun cx S w v hr=>.d _ _ (h _ _ _ (nR hd hr))) (aD.Jz ⟨ds2,h3,k⟩)
  ·
   cases h1
section
variable {C:gG} {nt:Nat}
theorem mK.of_wp {f:Nat} {fn:Func} {c:Code} (hf:C.P.funcs[f]? = some fn) (hc:fn.body=some c) (hn:(fn.name == "runtime.NumGoroutine")=false) {ds:List D} (hle:Nat.ble ds.length fn.ntmps=true) {res:AV→List dI→Prop}
  (h:∀ S,S.Wf→ax R C.P fn.ntmps c (rf 0 (ds.map .d)) S (JU C fn (fun o=>o.1=none∧∃ v l,Less v o.2.1∧res v l∧Has S o.2.2 l))):mK R C.P f ds res:=fun args S hw ha =>
 (eQ.of_wp hf hc hn (by simpa using Nat.le_of_ble_eq_true hle) (h S hw)).uY ha.Jz
section steps
variable {ops:Array Oper} {rest:List Oper} {e:Env} {S S':St} {Q:Stp→Prop} {l l':List dI} {t ty:Nat} {p:String} {af:Array Edge} {g:Option (Nat × Bool)} {x y:Operand} {v:AV}
theorem ae.Bg {op:Op} {f:Nat} {args:List AV} {ds:List D} {res:AV→List dI→Prop} (H:Has B S l) (hw:bV ops e { dst:=some t,op:=op,type:=ty,pos:=p,after:=af,guard:=g }=some true) (ho:oper C (dB e) S op=some (.call f args)) (hs:mK R C.P f ds res) (ha:aD args ds) (ht:Nat.blt t nt=true)
  (k:∀ v S' l',res v l'→Has B S' (l' ++ l)→ae R C nt ops rest ((t,v) :: e) S' Q) :
  ae R C nt ops ({ dst:=some t,op:=op,type:=ty,pos:=p,after:=af,guard:=g } :: rest) e S Q :=
 ae.one hw (.inr (.inr (.inl ⟨f,args,ho,(hs args S H.wf ha).tK.mono fun r hr=>by
  obtain ⟨p,w,S'⟩:=r
  obtain ⟨⟨h1,v,l',h2,h3,h4⟩,hd⟩:=hr
  simp only at h1 h2 h3 h4 hd
  subst h1
  exact ⟨_,by simp only [Env.put,ht,cond_true],ae.weak (aa.top h2) (k v S' l' h3 (H.comp h4 hd))⟩⟩)))
theorem ae.J8 {op:Op} {f:Nat} {args:List AV} {ds:List D} (hR:ObjOk R) (hw:bV ops e { dst:=some t,op:=op,type:=ty,pos:=p,after:=af,guard:=g }=some true) (ho:oper C (dB e) S op=some (.call f args)) (hs:bN R C.P f ds v) (hv:DJ v=true) (ha:uV R S args ds) (ht:Nat.blt t nt=true)
  (k:ae R C nt ops rest ((t,v) :: e) S Q) :
  ae R C nt ops ({ dst:=some t,op:=op,type:=ty,pos:=p,after:=af,guard:=g } :: rest) e S Q :=
 ae.ret hw ho (hs.Ja hR hv ha) ht k
theorem ae.Mo {α:Type} {enc:α→D} {xs:List α} {i sz tt:Nat} {n:Int} {k:IntKind} {z:α} {el:Nat} (H:Has B S l) (hw:bV ops e { dst:=some t,op:=.indexAddr tt x y,type:=ty,pos:=p,after:=af,guard:=g }=some true) (hi:l[i]? = some (.row sz v (xs.map enc))) (hx:dB e x=some v) (hy:dB e y=some (.d (.int k n)))
  (h:idx xs n=some z) (he:bO C.P tt=some el) (ha:(eO C.P el).isSome=true) (hz:(enc z).cells.length=aL C.P el) (ht:Nat.blt t nt=true)
  (k:∀ p,qM v p n.toNat 0→ae R C nt ops rest ((t,p) :: e) S Q) :
  ae R C nt ops ({ dst:=some t,op:=.indexAddr tt x y,type:=ty,pos:=p,after:=af,guard:=g } :: rest) e S Q:=by
 obtain ⟨p,h1,h2⟩:=En (C:=C) (ρ:=dB e) H hi hx hy h he ha hz
 exact ae.val hw h1 ht (k p h2)
theorem ae.Kq {s fld fo ft o' n off:Nat} {q:AV} (hp:qM v q n off) (hw:bV ops e { dst:=some t,op:=.fieldAddr s x fld,type:=ty,pos:=p,after:=af,guard:=g }=some true) (h:dB e x=some q) (hf:bQ C.P s fld=some (fo,ft)) (hz:Nat.beq (aL C.P ft) 0=false) (ho:off + fo=o') (ht:Nat.blt t nt=true)
  (k:∀ p,qM v p n o'→ae R C nt ops rest ((t,p) :: e) S Q) :
  ae R C nt ops ({ dst:=some t,op:=.fieldAddr s x fld,type:=ty,pos:=p,after:=af,guard:=g } :: rest) e S Q:=by
 obtain ⟨p,h1,h2⟩:=Bn (C:=C) (S:=S) (ρ:=dB e) hp h hf hz ho
 exact ae.val hw h1 ht (k p h2)
theorem ae.Le {xs:List D} {i n off sz tt:Nat} {d r:D} {q:AV} (H:Has B S l) (hw:bV ops e { dst:=some t,op:=.load tt x,type:=ty,pos:=p,after:=af,guard:=g }=some true) (hi:l[i]? = some (.row sz v xs)) (hp:qM v q n off) (hd:xs[n]? = some d) (h:dB e x=some q) (hr:iR C.P tt d.cells off=some r) (ht:Nat.blt t nt=true)
  (k:ae R C nt ops rest ((t,.d r) :: e) S Q) :
  ae R C nt ops ({ dst:=some t,op:=.load tt x,type:=ty,pos:=p,after:=af,guard:=g } :: rest) e S Q:=by
 obtain ⟨w,h1,h2⟩:=DF (C:=C) (ρ:=dB e) H hi hp hd h hr
 exact ae.val hw h1 ht (ae.less h2 k)
theorem ae.JZ {xs:List D} {i n off sz tt:Nat} {d d':D} {q vy:AV} {cv:List D} (H:Has B S l) (hw:bV ops e { dst:=none,op:=.store tt x y,type:=ty,pos:=p,after:=af,guard:=g }=some true) (hi:l[i]? = some (.row sz v xs)) (hp:qM v q n off) (hd:xs[n]? = some d) (h:dB e x=some q) (hy:dB e y=some vy)
  (hcv:gm (cv.map .d) vy.cells) (hn:cv.length=aL C.P tt) (hpl:vy.plain=true) (hag:(eO C.P tt).isSome=true) (hb:Nat.ble (off + cv.length) d.cells.length=true) (hs:setAt d.cells off cv=d'.cells) (hf:jQ d'.cells=true)
  (hl:l.set i (.row sz v (xs.set n d'))=l') (k:∀ S',Has B S' l'→ae R C nt ops rest e S' Q) :
  ae R C nt ops ({ dst:=none,op:=.store tt x y,type:=ty,pos:=p,after:=af,guard:=g } :: rest) e S Q:=by
 subst hl
 obtain ⟨S',h1,h2⟩:=AZ (C:=C) (ρ:=dB e) H hi hp hd h hy hcv hn hpl hag hb hs hf
 exact ae.skip hw h1 (k S' h2)
theorem ae.rH {i u t1:Nat} {vy:AV} {xs ys zs:List D} {el nb sz:Nat} (H:Has B S l) (hw:bV ops e { dst:=some t,op:=.call { callee:=.builtin .append,args:=#[x,y],argTypes:=#[t1,u] },type:=ty,pos:=p,after:=af,guard:=g }=some true)
  (hx:dB e x=some v) (hy:dB e y=some vy) (hi:l[i]? = some (.row sz v xs)) (hsz:aL C.P el=sz) (hd:kN vy=some ys) (hnr:C.rowT t1=true) (hu:jR C u=true) (he:bO C.P t1=some el)
  (hb:(xs.length + ys.length) * nb ≤ bound) (hnb:bytesOf C.P el=nb) (h0:(Nat.blt 0 nb && Nat.ble nb 65536)=true) (hsy:sizes (aL C.P el) ys=true) (hfy:∀ z ∈ ys,jQ z.cells=true) (hpos:Nat.blt 0 sz=true) (hz:gX C el=true) (ht:Nat.blt t nt=true) (hzs:xs ++ ys=zs)
  (k:∀ v' S',Has B S' (l.set i (.row sz v' zs))→ae R C nt ops rest ((t,v') :: e) S' Q) :
  ae R C nt ops ({ dst:=some t,op:=.call { callee:=.builtin .append,args:=#[x,y],argTypes:=#[t1,u] },type:=ty,pos:=p,after:=af,guard:=g } :: rest) e S Q:=by
 subst hzs
 subst hsz
 obtain ⟨v',S',h1,h2⟩:=Ar (C:=C) (ρ:=dB e) H hx hy hi hd hnr hu he hb hnb h0 hsy hfy hpos hz
 exact ae.val hw h1 ht (k v' S' h2)
end steps
end
end
end Go.Ev

namespace Go.Ev
noncomputable section
set_option linter.unusedVariables false
set_option linter.unusedSimpArgs false
variable {R:dm} {P:Program} {B:St}
def je {α:Type} (l:List α) (n:Int) (z:α):List α:=l.set n.toNat z
theorem tQ {α:Type} {enc:α→D} (h:∀ x,jQ (enc x).cells=true) (l:List α):∀ z ∈ l.map enc,jQ z.cells=true:=fun z hz=>by
 obtain ⟨x,_,rfl⟩:=List.mem_map.1 hz
 exact h x
theorem nX {S:St} {sz:Nat} {v:AV} {xs:List D} (h:(dI.row sz v xs).ok S):v.plain=true∧v.cells=[v]:=by
 simp only [dI.ok] at h
 split at h
 ·
  exact ⟨rfl,rfl⟩
 ·
  exact ⟨rfl,rfl⟩
 ·
  exact ⟨rfl,rfl⟩
 ·
  exact h.elim
theorem iP (cs:List AV):(Ev.iY cs).plain=true:=by
 unfold Ev.iY
 split <;> rfl
theorem iT (cs:List AV):(Ev.iY cs).cells=cs:=by
 unfold Ev.iY
 split
 ·
  rename_i xs hxs
  simp only [AV.cells]
  induction cs generalizing xs with
  | nil=>simp [uN] at hxs; subst hxs; rfl
  | cons x l ih =>
   cases x <;> simp only [uN] at hxs <;> try (cases hxs)
   obtain ⟨ys,h1,rfl⟩:=Option.map_eq_some_iff.1 hxs
   rw [List.map_cons,ih ys h1]
 ·
  rfl
theorem rX {S:St} {l:List dI} (H:Has B S l) {i sz:Nat} {v:AV} {xs:List D} (hi:l[i]? = some (.row sz v xs)):mR v=some [v]:=by
 obtain ⟨h1,h2⟩:=nX (H.at hi)
 simp only [mR,h1,h2,cond_true]
inductive tO (sz:Nat):List AV→List (List AV)→Prop
 | nil:tO sz [] []
 | cons {v:AV} {c:List AV} {vs:List AV} {cs:List (List AV)} (h:mR v=some c) (hl:c.length=sz) (k:tO sz vs cs):tO sz (v :: vs) (c :: cs)
theorem EP {sz:Nat} {vs:List AV} {cs:List (List AV)} (h:tO sz vs cs):∀ (done:List (List AV)) (todo:List AV),(∀ d ∈ done,d.length=sz)→todo.length=vs.length * sz →
  kT mR (fun i=>some (i * sz,sz)) (done.flatten ++ todo) (vg done.length vs)=some ((done ++ cs).flatten):=by
 induction h with
 | nil =>
  intro done todo _ ht
  have:todo=[]:=List.eq_nil_of_length_eq_zero (by simpa using ht)
  subst this
  simp [vg,kT]
 | @cons v d vs ds h hl k ih =>
  intro done todo hd ht
  have hlen:(done.flatten).length=done.length * sz:=by
   clear ih ht
   induction done with
   | nil=>simp
   | cons x l ihl =>
    simp only [List.flatten_cons,List.length_append,hd x List.mem_cons_self,List.length_cons,ihl (fun d h=>hd d (List.mem_cons_of_mem _ h))]
    rw [Nat.add_mul]; omega
  simp only [List.length_cons] at ht
  rw [Nat.add_mul,Nat.one_mul] at ht
  simp only [vg,kT,h]
  rw [if_pos ⟨hl,by rw [List.length_append,hlen,hl]; omega⟩]
  have e1:todo=todo.take sz ++ todo.drop sz:=(List.take_append_drop sz todo).symm
  have e2:setAt (done.flatten ++ todo) (done.length * sz) d=((done ++ [d])).flatten ++ todo.drop sz:=by
   rw [e1,← List.append_assoc,← hlen,xM _ _ _ _ (by rw [hl,List.length_take]; omega)]
   simp
  rw [e2]
  have:=ih (done ++ [d]) (todo.drop sz) (fun x hx=>by
   rcases List.mem_append.1 hx with hx | hx
   ·
    exact hd x hx
   ·
    rw [List.mem_singleton.1 hx]; exact hl) (by rw [List.length_drop]; omega)
  rw [show (done ++ [d]).length=done.length + 1 by simp] at this
  rw [this]
  simp
inductive zO {α:Type} (enc:α→D):List α→List (List AV)→Prop
 | nil:zO enc [] []
 | cons {x:α} {c:List AV} {xs:List α} {cs:List (List AV)} (h:gm ((enc x).cells.map .d) c) (k:zO enc xs cs):zO enc (x :: xs) (c :: cs)
theorem zO.flat {α:Type} {enc:α→D} {xs:List α} {cs:List (List AV)} (h:zO enc xs cs):gm (((xs.map enc).map D.cells).flatten.map .d) cs.flatten∧xs.length=cs.length:=by
 induction h with
 | nil=>exact ⟨.nil,rfl⟩
 | cons h k ih=>exact ⟨by simp only [List.map_cons,List.flatten_cons,List.map_append]; exact h.append ih.1,by simp [ih.2]⟩
theorem tO.len {sz:Nat} {vs:List AV} {cs:List (List AV)} (h:tO sz vs cs):vs.length=cs.length∧∀ c ∈ cs,c.length=sz:=by
 induction h with
 | nil=>exact ⟨rfl,by simp⟩
 | cons h hl k ih=>exact ⟨by simp [ih.1],fun d hd=>by rcases List.mem_cons.1 hd with rfl | hd; exact hl; exact ih.2 d hd⟩
theorem Bh {α:Type} {enc:α→D} {C:gG} {ρ:Operand→Option AV} {S:St} {l:List dI} {t n el sz:Nat} {ps:Array (Nat × Operand)} {zd:D} {vs:List AV} {cs:List (List AV)} {xs:List α} (H:Has B S l) (hr:C.rowT t=true) (he:bO C.P t=some el) (ha:(eO C.P el).isSome=true) (hz:zeroOf C.P el=some zd) (hs:aL C.P el=sz) (hzl:zd.cells.length=sz) (hb:n * sz ≤ 16777216∧0 < n * sz)
  (hv:tO sz vs cs) (hn:vs.length=n) (hl:zO enc xs cs) (hsz:∀ x,(enc x).cells.length=sz) (hf:∀ x,jQ (enc x).cells=true) (hev:oH ρ ps=some (vg 0 vs)):∃ v S',oper C ρ S (.buildSlice t n ps)=some (.val v S')∧Has B S' (.row sz v (xs.map enc) :: l):=by
 obtain ⟨k1,k2⟩:=hv.len
 obtain ⟨l1,l2⟩:=hl.flat
 subst hs
 have hn0:n ≠ 0:=fun q=>by subst q; simp at hb
 have hpos:0 < aL C.P el:=Nat.pos_of_ne_zero (fun q=>by rw [q] at hb; simp at hb)
 have f1:=EP hv [] ((List.replicate n zd.cells).flatten.map .d) (by simp) (by
  rw [List.length_map,List.length_flatten,List.map_replicate,List.sum_replicate_nat,hzl,hn])
 simp only [List.flatten_nil,List.nil_append,List.length_nil] at f1
 have hrow:nJ C t n=true:=by
  simp only [nJ,hr,Bool.true_and]
  cases hq:Nat.beq n 0
  ·
   rfl
  ·
   exact absurd (Nat.eq_of_beq_eq_true hq) hn0
 refine ⟨.msl S.nx 0 0 n n (aL C.P el),bZ S (.cells 0 cs.flatten),?_,H.new (.cells 0 cs.flatten) (a:=.row (aL C.P el) (.msl S.nx 0 0 n n (aL C.P el)) (xs.map enc)) rfl ⟨rfl,by simp; omega,by simp; omega,rfl,hpos,fun w hw=>?_,cs.flatten,l1,by simp only [bZ,AL.bq,if_true]⟩⟩
 ·
  simp only [oper,hrow,cond_true,hev,nN,he,hz]
  rw [if_pos ⟨hzl,hb.2,hb.1,ha⟩]
  simp only [H.Dq,cond_false,f1,Option.map_some]
  rfl
 ·
  obtain ⟨x,_,rfl⟩:=List.mem_map.1 hw
  exact ⟨hsz x,hf x⟩
section
variable {C:gG} {nt:Nat} {ops:Array Oper} {rest:List Oper} {e:Env} {S S':St} {Q:Stp→Prop} {l l':List dI} {t ty:Nat} {p:String} {af:Array Edge} {g:Option (Nat × Bool)} {x y:Operand} {v:AV}
theorem ae.Ho {α:Type} {enc:α→D} {xs:List α} {i off sz tt:Nat} {n:Int} {z z':α} {q vy:AV} {cv:List D} {cw:List AV} (H:Has B S l) (hw:bV ops e { dst:=none,op:=.store tt x y,type:=ty,pos:=p,after:=af,guard:=g }=some true) (hi:l[i]? = some (.row sz v (xs.map enc))) (hp:qM v q n.toNat off) (hz:idx xs n=some z) (h:dB e x=some q) (hy:dB e y=some vy)
  (hcw:vy.cells=cw) (hcv:gm (cv.map .d) cw) (hn:aL C.P tt=cv.length) (hpl:vy.plain=true) (hag:(eO C.P tt).isSome=true) (hb:Nat.ble (off + cv.length) (enc z).cells.length=true) (hs:setAt (enc z).cells off cv=(enc z').cells) (hf:jQ (enc z').cells=true)
  (k:∀ S',Has B S' (l.set i (.row sz v ((je xs n z').map enc)))→ae R C nt ops rest e S' Q) :
  ae R C nt ops ({ dst:=none,op:=.store tt x y,type:=ty,pos:=p,after:=af,guard:=g } :: rest) e S Q:=by
 subst hcw
 have hd:(xs.map enc)[n.toNat]? = some (enc z):=by rw [List.getElem?_map,(kC hz).2]; rfl
 refine ae.JZ H hw hi hp hd h hy hcv hn.symm hpl hag hb hs hf rfl (fun S' hS=>k S' ?_)
 rw [je,List.map_set]; exact hS
theorem ae.ui {α:Type} {enc:α→D} {tt n el sz:Nat} {ps:Array (Nat × Operand)} {zd:D} {vs:List AV} {cs:List (List AV)} {xs:List α} (H:Has B S l) (hw:bV ops e { dst:=some t,op:=.buildSlice tt n ps,type:=ty,pos:=p,after:=af,guard:=g }=some true) (hr:C.rowT tt=true) (he:bO C.P tt=some el) (ha:(eO C.P el).isSome=true) (hz:zeroOf C.P el=some zd) (hs:aL C.P el=sz) (hzl:zd.cells.length=sz) (hb:n * sz ≤ 16777216∧0 < n * sz)
  (hv:tO sz vs cs) (hn:vs.length=n) (hl:zO enc xs cs) (hsz:∀ x,(enc x).cells.length=sz) (hf:∀ x,jQ (enc x).cells=true) (hev:oH (dB e) ps=some (vg 0 vs)) (ht:Nat.blt t nt=true)
  (k:∀ v S',Has B S' (.row sz v (xs.map enc) :: l)→ae R C nt ops rest ((t,v) :: e) S' Q) :
  ae R C nt ops ({ dst:=some t,op:=.buildSlice tt n ps,type:=ty,pos:=p,after:=af,guard:=g } :: rest) e S Q:=by
 obtain ⟨v',S',h1,h2⟩:=Bh (C:=C) (ρ:=dB e) H hr he ha hz hs hzl hb hv hn hl hsz hf hev
 exact ae.val hw h1 ht (k v' S' h2)
end
end
end Go.Ev
namespace Go.Ev
theorem ng {C:gG} {ρ:Operand→Option AV} {S:St} {t el:Nat} {ag:Bool} (hr:nJ C t 0=false) (he:bO C.P t=some el) (ha:eO C.P el=some ag):oper C ρ S (.buildSlice t 0 #[])=some (.val (.d (.sl [] true)) S):=by
 simp [oper,hr,he,ha,oH,jw,kT,chunk]
end Go.Ev
namespace Go.Ev
noncomputable section
set_option linter.unusedVariables false
def iF (v:AV) (n off:Nat):AV:=match v with
 | .msl id g _ _ _ sz=>.ptr id g (n * sz + off)
 | _=>.any
theorem uD {S:St} {B:St} {l:List dI} (H:Has B S l) {i sz:Nat} {v:AV} {xs:List D} (hi:l[i]? = some (.row sz v xs)) {n:Nat} {d:D} (hd:xs[n]? = some d) (off:Nat):qM v (iF v n off) n off:=by
 obtain ⟨id,g,cs,rfl,_⟩:=y7 (H.at hi) hd
 exact ⟨id,g,_,_,sz,rfl,rfl⟩
theorem qM.eq {v p:AV} {n off:Nat} (h:qM v p n off):p=iF v n off:=by
 obtain ⟨id,g,len,lim,sz,rfl,rfl⟩:=h
 rfl
section
variable {R:dm} {C:gG} {nt:Nat} {B:St} {ops:Array Oper} {rest:List Oper} {e:Env} {S S':St} {Q:Stp→Prop} {l l':List dI} {t ty:Nat} {p:String} {af:Array Edge} {g:Option (Nat × Bool)} {x y:Operand} {v:AV}
theorem ae.iM {α:Type} {enc:α→D} {xs:List α} {i sz tt:Nat} {n:Int} {k:IntKind} {z:α} {el:Nat} (H:Has B S l) (hw:bV ops e { dst:=some t,op:=.indexAddr tt x y,type:=ty,pos:=p,after:=af,guard:=g }=some true) (hi:l[i]? = some (.row sz v (xs.map enc))) (hx:dB e x=some v) (hy:dB e y=some (.d (.int k n)))
  (h:idx xs n=some z) (he:bO C.P tt=some el) (ha:(eO C.P el).isSome=true) (hz:(enc z).cells.length=aL C.P el) (ht:Nat.blt t nt=true)
  (k:ae R C nt ops rest ((t,iF v n.toNat 0) :: e) S Q) :
  ae R C nt ops ({ dst:=some t,op:=.indexAddr tt x y,type:=ty,pos:=p,after:=af,guard:=g } :: rest) e S Q :=
 ae.Mo H hw hi hx hy h he ha hz ht (fun p hp=>by rw [hp.eq]; exact k)
theorem ae.gu {α:Type} {enc:α→D} {xs:List α} {i sz s fld fo ft o' off:Nat} {n:Int} {z:α} (H:Has B S l) (hi:l[i]? = some (.row sz v (xs.map enc))) (hz:idx xs n=some z) (hw:bV ops e { dst:=some t,op:=.fieldAddr s x fld,type:=ty,pos:=p,after:=af,guard:=g }=some true) (h:dB e x=some (iF v n.toNat off)) (hf:bQ C.P s fld=some (fo,ft)) (hb:Nat.beq (aL C.P ft) 0=false) (ho:off + fo=o') (ht:Nat.blt t nt=true)
  (k:ae R C nt ops rest ((t,iF v n.toNat o') :: e) S Q) :
  ae R C nt ops ({ dst:=some t,op:=.fieldAddr s x fld,type:=ty,pos:=p,after:=af,guard:=g } :: rest) e S Q:=by
 have hd:(xs.map enc)[n.toNat]? = some (enc z):=by rw [List.getElem?_map,(kC hz).2]; rfl
 exact ae.Kq (uD H hi hd off) hw h hf hb ho ht (fun p hp=>by rw [hp.eq]; exact k)
theorem ae.lC {α:Type} {enc:α→D} {xs:List α} {i off sz tt:Nat} {n:Int} {z:α} {r:D} (H:Has B S l) (hw:bV ops e { dst:=some t,op:=.load tt x,type:=ty,pos:=p,after:=af,guard:=g }=some true) (hi:l[i]? = some (.row sz v (xs.map enc))) (hz:idx xs n=some z) (h:dB e x=some (iF v n.toNat off)) (hr:iR C.P tt (enc z).cells off=some r) (ht:Nat.blt t nt=true)
  (k:ae R C nt ops rest ((t,.d r) :: e) S Q) :
  ae R C nt ops ({ dst:=some t,op:=.load tt x,type:=ty,pos:=p,after:=af,guard:=g } :: rest) e S Q:=by
 have hd:(xs.map enc)[n.toNat]? = some (enc z):=by rw [List.getElem?_map,(kC hz).2]; rfl
 exact ae.Le H hw hi (uD H hi hd off) hd h hr ht k
theorem ae.gV {α:Type} {enc:α→D} {xs:List α} {i off sz tt:Nat} {n:Int} {z z':α} {vy:AV} {cv:List D} {cw:List AV} (H:Has B S l) (hw:bV ops e { dst:=none,op:=.store tt x y,type:=ty,pos:=p,after:=af,guard:=g }=some true) (hi:l[i]? = some (.row sz v (xs.map enc))) (hz:idx xs n=some z) (h:dB e x=some (iF v n.toNat off)) (hy:dB e y=some vy)
  (hcw:vy.cells=cw) (hcv:gm (cv.map .d) cw) (hn:aL C.P tt=cv.length) (hpl:vy.plain=true) (hag:(eO C.P tt).isSome=true) (hb:Nat.ble (off + cv.length) (enc z).cells.length=true) (hs:setAt (enc z).cells off cv=(enc z').cells) (hf:jQ (enc z').cells=true)
  (k:∀ S',Has B S' (l.set i (.row sz v ((je xs n z').map enc)))→ae R C nt ops rest e S' Q) :
  ae R C nt ops ({ dst:=none,op:=.store tt x y,type:=ty,pos:=p,after:=af,guard:=g } :: rest) e S Q:=by
 have hd:(xs.map enc)[n.toNat]? = some (enc z):=by rw [List.getElem?_map,(kC hz).2]; rfl
 exact ae.Ho H hw hi (uD H hi hd off) hz h hy hcw hcv hn hpl hag hb hs hf k
end
end
end Go.Ev

namespace Go.Ev
noncomputable section
set_option linter.unusedVariables false
set_option linter.unusedSimpArgs false
variable {R:dm} {C:gG} {nt:Nat} {B:St}
theorem GH {ops:Array Oper} (hr:qA ops=true) {Q:Exit→Act→World→Prop} (Inv:Array Bool→Act→World→Prop)
  (hstep:∀ listed a w i o (K:Act→World→Prop),listed.size=ops.size→Closed ops listed→listed.getD i false=false→ops[i]? = some o→(∀ k,k < i→((Region.before ops).getD i 0).testBit k=true→listed.getD k false=true)→Inv listed a w →
   (∀ a' w',Inv (listed.setIfInBounds i true) a' w'→K a' w')→wpOp C.P ops Q i K a w)
  (hend:∀ listed a w,(∀ i,i < ops.size→listed.getD i false=true)→Inv listed a w→Q .normal a w) :
  ∀ (fuel:Nat) (listed:Array Bool) {w:World} {a:Act},listed.size=ops.size→Closed ops listed→((List.range ops.size).filter fun i=>!listed.getD i false).length=fuel→Inv listed a w→wpAny C.P .any ops Q fuel listed a w:=by
 intro fuel
 induction fuel with
 | zero =>
  intro listed w a hsz hcl hlen hI
  have hnil:=List.eq_nil_of_length_eq_zero hlen
  have hall:∀ i,i < ops.size→listed.getD i false=true:=fun i hi=>by
   cases hc:listed.getD i false with
   | true=>rfl
   | false =>
    have:i ∈ (List.range ops.size).filter fun i=>!listed.getD i false:=by
     rw [List.mem_filter]; exact ⟨List.mem_range.2 hi,by rw [hc]; rfl⟩
    rw [hnil] at this; cases this
  refine ⟨?_,hend listed a w hall hI⟩
  cases hq:Region.ready .any ops listed with
  | nil=>rfl
  | cons i l =>
   have hi:i ∈ Region.ready .any ops listed:=by rw [hq]; simp
   obtain ⟨h1,o,h2,_⟩:=mem_ready.1 hi
   have hlt:i < ops.size:=(Array.getElem?_eq_some_iff.1 h2).1
   have:=hall i hlt
   have hlt':i < listed.size:=by omega
   simp [hlt'] at h1 this
   rw [h1] at this; cases this
 | succ fuel ih =>
  intro listed w a hsz hcl hlen hI
  refine ⟨fun hnone=>?_,fun i hi=>?_⟩
  ·
   exfalso
   cases hq:(List.range ops.size).filter fun i=>!listed.getD i false with
   | nil=>rw [hq] at hlen; simp at hlen
   | cons m l =>
    have hm:m ∈ (List.range ops.size).filter fun i=>!listed.getD i false:=by rw [hq]; simp
    obtain ⟨hm1,hm2⟩:=List.mem_filter.1 hm
    exact AB hr hsz (List.mem_range.1 hm1) (by simpa using hm2) hnone
  ·
   obtain ⟨h1,o,h2,h3⟩:=mem_ready.1 hi
   have hlt:i < ops.size:=(Array.getElem?_eq_some_iff.1 h2).1
   have hlt':i < listed.size:=by omega
   have h1':listed.getD i false=false:=by simp [hlt'] at h1 ⊢; exact h1
   have hclo:=Je hr hcl h2 h3
   refine hstep listed a w i o _ hsz hcl h1' h2 hclo hI (fun a' w' hI'=>ih _ (by simpa using hsz) (sI hcl hclo) ?_ hI')
   have hsp:=hlen
   have hmem:i ∈ (List.range ops.size).filter fun i=>!listed.getD i false:=by
    rw [List.mem_filter]; exact ⟨List.mem_range.2 hlt,by rw [h1']; rfl⟩
   obtain ⟨l1,l2,hq⟩:=List.append_of_mem hmem
   have hnd:((List.range ops.size).filter fun i=>!listed.getD i false).Nodup:=List.Pairwise.filter _ List.nodup_range
   rw [hq] at hnd
   have hn2:=(List.nodup_append.1 hnd)
   have hne1:∀ k ∈ l1,k ≠ i:=fun k hk=>hn2.2.2 k hk i (by simp)
   have hne2:∀ k ∈ l2,k ≠ i:=fun k hk q=>by
    subst q
    exact (List.nodup_cons.1 hn2.2.1).1 hk
   rw [Hg hlt' hq hne1 hne2]
   rw [hq] at hsp
   simp at hsp ⊢; omega
def LG (cx:Cx) (S:St) (w:World) (a:Act) (t:Nat) (x:AV):Prop:=∃ v,a.tmps[t]? = some v∧aQ cx S w x v
structure sW (nt:Nat) (ops:Array Oper) (e0:Env) (listed:Array Bool) (ws:List (Option AV)) (cx:Cx) (S:St) (w:World) (a:Act):Prop where
 size:nt ≤ a.tmps.size
 new:∀ k o t,ops[k]? = some o→o.dst=some t→listed.getD k false=true→(∀ j o',j ≠ k→ops[j]? = some o'→o'.dst=some t→listed.getD j false=true→j < k)→∃ x,ws[k]? = some (some x)∧LG cx S w a t x
 old:∀ t x,AL.get e0 t=some x→(∀ j o',ops[j]? = some o'→o'.dst=some t→listed.getD j false=false)→LG cx S w a t x
abbrev Src:=List (Nat × Option Nat)
def qc (ws:List (Option AV)) (e0:Env):Src→Option Env
 | []=>some []
 | (t,some k) :: l=>match ws[k]? with
  | some (some x)=>(qc ws e0 l).map ((t,x) :: ·)
  | _=>none
 | (t,none) :: l=>match AL.get e0 t with
  | some x=>(qc ws e0 l).map ((t,x) :: ·)
  | none=>none
def x9 (ops:Array Oper) (k t:Nat):Bool:=match ops[k]? with
 | some o=>(match o.dst with | some d=>Nat.beq d t | none=>false)
 | none=>false
theorem pW {ops:Array Oper} {k t:Nat}:x9 ops k t=true↔∃ o,ops[k]? = some o∧o.dst=some t:=by
 unfold x9
 cases h:ops[k]? with
 | none=>simp
 | some o =>
  cases hd:o.dst with
  | none=>simp [hd]
  | some d=>simp [hd]
def Fh (ops:Array Oper) (Bi:Nat) (i:Nat):Src→Bool
 | []=>true
 | (t,some k) :: l=>x9 ops k t && Nat.testBit Bi k && ((List.range ops.size).all fun j=>!(x9 ops j t) || Nat.beq j k || Nat.blt j k || Nat.beq j i || Nat.testBit ((Region.before ops).getD j 0) i) && Fh ops Bi i l
 | (t,none) :: l=>((List.range ops.size).all fun j=>!(x9 ops j t) || Nat.beq j i || Nat.testBit ((Region.before ops).getD j 0) i) && Fh ops Bi i l
def Ij (ops:Array Oper):Src→Bool
 | []=>true
 | (t,some k) :: l=>x9 ops k t && ((List.range ops.size).all fun j=>!(x9 ops j t) || Nat.beq j k || Nat.blt j k) && Ij ops l
 | (t,none) :: l=>((List.range ops.size).all fun j=>!(x9 ops j t)) && Ij ops l
theorem uJ {ops:Array Oper} {e0:Env} {listed:Array Bool} {ws:List (Option AV)} {cx:Cx} {S:St} {w:World} {a:Act} (h:sW nt ops e0 listed ws cx S w a):∀ {L:Src} {e:Env},qc ws e0 L=some e →
  (∀ t k,(t,some k) ∈ L→∃ o,ops[k]? = some o∧o.dst=some t∧listed.getD k false=true∧∀ j o',j ≠ k→ops[j]? = some o'→o'.dst=some t→listed.getD j false=true→j < k) →
  (∀ t,(t,none) ∈ L→∀ j o',ops[j]? = some o'→o'.dst=some t→listed.getD j false=false)→jo cx S w nt e a
 | [],e,he,_,_=>by
  simp only [qc,Option.some.injEq] at he
  subst he
  exact ⟨h.size,fun t x hx=>by simp [AL.get] at hx⟩
 | (t,some k) :: L,e,he,hA,hB=>by
  simp only [qc] at he
  split at he
  ·
   rename_i x hx
   obtain ⟨e',he',rfl⟩:=Option.map_eq_some_iff.1 he
   have ih:=uJ h he' (fun t k hm=>hA t k (List.mem_cons_of_mem _ hm)) (fun t hm=>hB t (List.mem_cons_of_mem _ hm))
   refine ⟨h.size,fun u y hy=>?_⟩
   rw [AL.iK] at hy
   by_cases hu:t=u
   ·
    subst hu
    rw [if_pos rfl] at hy; cases hy
    obtain ⟨o,h1,h2,h3,h4⟩:=hA t k List.mem_cons_self
    obtain ⟨x',hx',hs⟩:=h.new k o t h1 h2 h3 h4
    rw [hx] at hx'; cases hx'
    exact hs
   ·
    rw [if_neg hu] at hy; exact ih.rel u y hy
  ·
   cases he
 | (t,none) :: L,e,he,hA,hB=>by
  simp only [qc] at he
  split at he
  ·
   rename_i x hx
   obtain ⟨e',he',rfl⟩:=Option.map_eq_some_iff.1 he
   have ih:=uJ h he' (fun t k hm=>hA t k (List.mem_cons_of_mem _ hm)) (fun t hm=>hB t (List.mem_cons_of_mem _ hm))
   refine ⟨h.size,fun u y hy=>?_⟩
   rw [AL.iK] at hy
   by_cases hu:t=u
   ·
    subst hu
    rw [if_pos rfl] at hy; cases hy
    exact h.old t x hx (hB t List.mem_cons_self)
   ·
    rw [if_neg hu] at hy; exact ih.rel u y hy
  ·
   cases he
theorem p8 {ops:Array Oper} (hr:qA ops=true) {i k:Nat} (hi:i < ops.size) (h:((Region.before ops).getD i 0).testBit k=true):k < i:=by
 rcases Nat.lt_or_ge k i with q | q
 ·
  exact q
 ·
  have:=(kr hr (show ops[i]? = some ops[i] by simp [hi])).2.2 k q
  rw [this] at h; cases h
theorem wu {ops:Array Oper} (hr:qA ops=true) {e0:Env} {listed:Array Bool} (hcl:Closed ops listed) {ws:List (Option AV)} {cx:Cx} {S:St} {w:World} {a:Act} (h:sW nt ops e0 listed ws cx S w a) {i:Nat} (hi:i < ops.size) (hun:listed.getD i false=false)
  (hclo:∀ k,k < i→((Region.before ops).getD i 0).testBit k=true→listed.getD k false=true) {L:Src} {e:Env} (he:qc ws e0 L=some e) (hb:Fh ops ((Region.before ops).getD i 0) i L=true):jo cx S w nt e a:=by
 have late:∀ j,j < ops.size→((Region.before ops).getD j 0).testBit i=true→listed.getD j false=true→False:=fun j hj hb hl=>by
  have:=hcl j hl i (p8 hr hj hb) hb
  rw [this] at hun; cases hun
 have key:(∀ t k,(t,some k) ∈ L→∃ o,ops[k]? = some o∧o.dst=some t∧listed.getD k false=true∧∀ j o',j ≠ k→ops[j]? = some o'→o'.dst=some t→listed.getD j false=true→j < k) ∧
   (∀ t,(t,none) ∈ L→∀ j o',ops[j]? = some o'→o'.dst=some t→listed.getD j false=false):=by
  clear he
  induction L with
  | nil=>exact ⟨fun t k hm=>(by cases hm),fun t hm=>(by cases hm)⟩
  | cons p L ih =>
   obtain ⟨t,s⟩:=p
   cases s with
   | some k =>
    simp only [Fh,Bool.and_eq_true] at hb
    obtain ⟨⟨⟨b1,b2⟩,b3⟩,b4⟩:=hb
    obtain ⟨ih1,ih2⟩:=ih b4
    refine ⟨fun u q hm=>?_,fun u hm=>?_⟩
    ·
     rcases List.mem_cons.1 hm with hm | hm
     ·
      cases hm
      obtain ⟨o,h1,h2⟩:=pW.1 b1
      refine ⟨o,h1,h2,hclo k (p8 hr hi b2) b2,fun j o' hjk hj hd hl=>?_⟩
      have hjl:j < ops.size:=(Array.getElem?_eq_some_iff.1 hj).1
      have:=List.all_eq_true.1 b3 j (List.mem_range.2 hjl)
      simp only [pW.2 ⟨o',hj,hd⟩,Bool.not_true,Bool.false_or,Bool.or_eq_true] at this
      rcases this with ((q | q) | q) | q
      ·
       exact absurd (Nat.eq_of_beq_eq_true q) hjk
      ·
       exact Nat.le_of_ble_eq_true q
      ·
       rw [Nat.eq_of_beq_eq_true q,hun] at hl; cases hl
      ·
       exact (late j hjl q hl).elim
     ·
      exact ih1 u q hm
    ·
     rcases List.mem_cons.1 hm with hm | hm
     ·
      cases hm
     ·
      exact ih2 u hm
   | none =>
    simp only [Fh,Bool.and_eq_true] at hb
    obtain ⟨b3,b4⟩:=hb
    obtain ⟨ih1,ih2⟩:=ih b4
    refine ⟨fun u q hm=>?_,fun u hm=>?_⟩
    ·
     rcases List.mem_cons.1 hm with hm | hm
     ·
      cases hm
     ·
      exact ih1 u q hm
    ·
     rcases List.mem_cons.1 hm with hm | hm
     ·
      cases hm
      intro j o' hj hd
      have hjl:j < ops.size:=(Array.getElem?_eq_some_iff.1 hj).1
      have:=List.all_eq_true.1 b3 j (List.mem_range.2 hjl)
      simp only [pW.2 ⟨o',hj,hd⟩,Bool.not_true,Bool.false_or,Bool.or_eq_true] at this
      rcases this with q | q
      ·
       rw [Nat.eq_of_beq_eq_true q]; exact hun
      ·
       cases hl:listed.getD j false with
       | false=>rfl
       | true=>exact (late j hjl q hl).elim
     ·
      exact ih2 u hm
 exact uJ h he key.1 key.2
theorem EO {ops:Array Oper} {e0:Env} {listed:Array Bool} (hall:∀ i,i < ops.size→listed.getD i false=true) {ws:List (Option AV)} {cx:Cx} {S:St} {w:World} {a:Act} (h:sW nt ops e0 listed ws cx S w a) {L:Src} {e:Env} (he:qc ws e0 L=some e) (hb:Ij ops L=true):jo cx S w nt e a:=by
 have key:(∀ t k,(t,some k) ∈ L→∃ o,ops[k]? = some o∧o.dst=some t∧listed.getD k false=true∧∀ j o',j ≠ k→ops[j]? = some o'→o'.dst=some t→listed.getD j false=true→j < k) ∧
   (∀ t,(t,none) ∈ L→∀ j o',ops[j]? = some o'→o'.dst=some t→listed.getD j false=false):=by
  clear he
  induction L with
  | nil=>exact ⟨fun t k hm=>(by cases hm),fun t hm=>(by cases hm)⟩
  | cons p L ih =>
   obtain ⟨t,s⟩:=p
   cases s with
   | some k =>
    simp only [Ij,Bool.and_eq_true] at hb
    obtain ⟨⟨b1,b3⟩,b4⟩:=hb
    obtain ⟨ih1,ih2⟩:=ih b4
    refine ⟨fun u q hm=>?_,fun u hm=>?_⟩
    ·
     rcases List.mem_cons.1 hm with hm | hm
     ·
      cases hm
      obtain ⟨o,h1,h2⟩:=pW.1 b1
      refine ⟨o,h1,h2,hall k (Array.getElem?_eq_some_iff.1 h1).1,fun j o' hjk hj hd hl=>?_⟩
      have hjl:j < ops.size:=(Array.getElem?_eq_some_iff.1 hj).1
      have:=List.all_eq_true.1 b3 j (List.mem_range.2 hjl)
      simp only [pW.2 ⟨o',hj,hd⟩,Bool.not_true,Bool.false_or,Bool.or_eq_true] at this
      rcases this with q | q
      ·
       exact absurd (Nat.eq_of_beq_eq_true q) hjk
      ·
       exact Nat.le_of_ble_eq_true q
     ·
      exact ih1 u q hm
    ·
     rcases List.mem_cons.1 hm with hm | hm
     ·
      cases hm
     ·
      exact ih2 u hm
   | none =>
    simp only [Ij,Bool.and_eq_true] at hb
    obtain ⟨b3,b4⟩:=hb
    obtain ⟨ih1,ih2⟩:=ih b4
    refine ⟨fun u q hm=>?_,fun u hm=>?_⟩
    ·
     rcases List.mem_cons.1 hm with hm | hm
     ·
      cases hm
     ·
      exact ih1 u q hm
    ·
     rcases List.mem_cons.1 hm with hm | hm
     ·
      cases hm
      intro j o' hj hd
      have hjl:j < ops.size:=(Array.getElem?_eq_some_iff.1 hj).1
      have:=List.all_eq_true.1 b3 j (List.mem_range.2 hjl)
      simp only [pW.2 ⟨o',hj,hd⟩,Bool.not_true,Bool.or_self] at this
      cases this
     ·
      exact ih2 u hm
 exact uJ h he key.1 key.2
inductive Qd (R:dm) (C:gG) (nt:Nat) (ops:Array Oper) (S:St) (e:Env) (o:Oper) (x:AV):Prop
 | val {v:AV} (hw:bV ops e o=some true) (ho:oper C (dB e) S o.op=some (.val v S)) (hl:Less x v)
 | call {f:Nat} {args:List AV} {v:AV} (hw:bV ops e o=some true) (ho:oper C (dB e) S o.op=some (.call f args)) (hs:eQ R C.P f args S (fun r=>r=(none,v,S))) (hl:Less x v)
 | no (hw:bV ops e o=some false) (hl:Less x (.tup []))
 | step (h:ae R C nt ops [o] e S (fun r=>∃ e' v,r=.go e' S∧(∀ t,o.dst=some t→AL.get e' t=some v∧Less x v)))
inductive PI (R:dm) (C:gG) (nt:Nat) (ops:Array Oper) (S:St) (e:Env) (o:Oper) (PQ:AV→St→Prop) (Q:AV→St→Prop):Prop
 | val {v:AV} {S':St} (hw:bV ops e o=some true) (ho:oper C (dB e) S o.op=some (.val v S')) (hq:Q v S')
 | skip {S':St} (hw:bV ops e o=some true) (ho:oper C (dB e) S o.op=some (.skip S')) (hd:o.dst=none) (hq:Q .any S')
 | call {f:Nat} {args:List AV} (hw:bV ops e o=some true) (ho:oper C (dB e) S o.op=some (.call f args)) (hs:eQ R C.P f args S (fun r=>r.1=none∧Q r.2.1 r.2.2))
 | no (hw:bV ops e o=some false) (hq:Q (.tup []) S)
 | step (h:ae R C nt ops [o] e S (fun r=>∃ e' v S',r=.go e' S'∧(∀ t,o.dst=some t→AL.get e' t=some v)∧Q v S'))
 | stepX (h:ae R C nt ops [o] e S (fun r=>match r with | .go e' S'=>∃ v,(∀ t,o.dst=some t→AL.get e' t=some v)∧Q v S' | .stop v S'=>PQ v S'))
theorem vo (hR:jW R C) {ops:Array Oper} {o:Oper} {e:Env} {S:St} {Q:Stp→Prop} (h:xV R C nt ops o e S Q) {cx:Cx} {w:World} {a:Act} (hS:bD R cx S w) (he:jo cx S w nt e a)
  {K:Act→World→Prop} {Kx:Exit→Act→World→Prop} (hno:∀ v S',Q (.stop v S')→∀ cx' w' u,bD R cx' S' w'→Ext cx S w cx' S' w'→aQ cx' S' w' v u→Kx (.panic [{ v:=u,recovered:=false }]) a w') (hk:∀ e' S' cx' w' u,Q (.go e' S')→bD R cx' S' w'→Ext cx S w cx' S' w'→jo cx' S' w' nt e' (a.put o.dst u)→K (a.put o.dst u) w') (hnx:∀ t,o.op ≠ .next (.tmp t) false) {i:Nat} (hi:ops[i]? = some o):wpOp C.P ops Kx i K a w:=by
 have hrefl:=Ext.refl (cx:=cx) w hS.wf
 rcases h with ⟨t,rs,h1,h2,h3⟩ | ⟨e2,hw,h1,h2⟩ | ⟨e2,e',hw,h1,h2,h3⟩ | ⟨e2,hw,h1,h2⟩
 ·
  exact absurd h1 (hnx t)
 rotate_left 2
 ·
  have he2:=he.weak hw
  unfold wpOp
  rw [hi]
  simp only
  rw [if_pos (fD he2 h1)]
  left
  unfold Oper.wp
  rcases h2 cx w a hS he2 with ⟨cx',w',u,v,S',e',q1,q2,q3,q4,q5,q6⟩ | ⟨u,v,q1,q2,q3⟩
  ·
   rw [q1]
   exact hk _ _ cx' w' u q6 q2 q3 ((he2.mono q3).put q5 q4)
  ·
   rw [q1]
   exact hno _ _ q3 cx w u hS hrefl q2
 ·
  have he2:=he.weak hw
  unfold wpOp
  rw [hi]
  simp only
  rw [if_pos (fD he h1)]
  left
  rcases h2 with ⟨v,S',e',h1,h2,h3⟩ | ⟨S',h1,h2,h3⟩ | ⟨f,args,h1,h2⟩ | ⟨t,x,y,ty,xs,b,el,hop,hx,hy,hu,hq⟩
  rotate_left 3
  ·
   have rx:=he2.eval x _ hx
   have ry:=he2.eval y _ hy
   obtain ⟨a0,n,c,ex,hnil⟩:=D8 rx.dd
   have ey:a.eval y=.slice none 0 0:=by
    have:=ry.dd.val rfl
    generalize a.eval y=z at this
    cases this
    rfl
   have hrun:(execOp a.eval o).run C.P w=.ok (.value (.bool a0.isNone)) w:=by
    obtain ⟨dst,op,ty',pos,after,guard⟩:=o
    simp only at hop
    subst hop
    exact uz (by
     rw [ex,ey]
     have hg:(eqGuard .eql t x y (.slice a0 n c) (.slice none 0 0)).run C.P w=.ok () w:=iQ rfl
     simp only [Sem.run_bind,hg,Result.andThen_ok]
     exact Lib.run_eql_slice_nil w t el a0 n c 0 0 hu)
   obtain ⟨e',hp,hk'⟩:=hq a0.isNone (fun h=>hnil (by cases a0 with | none=>rfl | some a=>cases h))
   unfold Oper.wp
   rw [hrun]
   exact hk _ _ cx w _ hk' hS hrefl (he2.put hp (.of_bool _))
  ·
   obtain ⟨cx',w',u,k1,k2,k3,k4⟩:=iC hR hS he2.eval o h1
   unfold Oper.wp
   rw [k1]
   exact hk _ _ cx' w' u h3 k2 k3 ((he2.mono k3).put h2 k4)
  ·
   obtain ⟨cx',w',k1,k2,k3⟩:=iC hR hS he2.eval o h1
   unfold Oper.wp
   rw [k1]
   refine hk _ _ cx' w' undef h3 k2 k3 ?_
   rw [h2]
   exact he2.mono k3
  ·
   obtain ⟨us,k1,k2,k3⟩:=iC hR hS he2.eval o h1
   obtain ⟨⟨fn,f1,f2,f3⟩,hcalls⟩:=h2
   unfold Oper.wp
   rw [k3 fn f1 f2 f3]
   refine (hcalls cx w us hS k1 k2).mono (fun en w' hen=>?_)
   obtain ⟨⟨p,v,S'⟩,hq,cx',m1,m2,m3⟩:=hen
   cases p with
   | none =>
    obtain ⟨u,rfl,m3⟩:=m3
    obtain ⟨e',hp,hq⟩:=hq
    exact hk _ _ cx' _ _ hq m1 m2 ((he2.mono m2).put hp m3)
   | some p =>
    obtain ⟨u,rfl,m3⟩:=m3
    exact hno _ _ hq cx' w' u m1 m2 m3
 ·
  have he2:=he.weak hw
  unfold wpOp
  rw [hi]
  simp only
  rw [if_neg (by rw [fD he h1]; simp)]
  split at h2
  ·
   rename_i hd
   subst h2
   refine hk _ _ cx w _ h3 hS hrefl ?_
   rw [hd]
   exact he2
  ·
   rename_i t hd
   refine hk _ _ cx w _ h3 hS hrefl ?_
   rw [hd]
   exact he2.put h2 (.tup [] [] rfl (fun i x v hx=>by simp at hx))
theorem AQ {cx:Cx} {S:St} {w:World} {a:Act} {e:Env} {t:Nat} {u:Value} {v:AV} (he:jo cx S w nt e (a.put (some t) u)) (hv:AL.get e t=some v):aQ cx S w v u:=by
 obtain ⟨u',h1,h2⟩:=he.rel t v hv
 simp only [Act.put] at h1
 have hlt:t < a.tmps.size:=by
  have:=(Array.getElem?_eq_some_iff.1 h1).1
  simpa using this
 rw [Array.getElem?_setIfInBounds_self_of_lt hlt] at h1
 cases h1
 exact h2
theorem Cn (hR:jW R C) {ops:Array Oper} {o:Oper} {e:Env} {S:St} {x:AV} (h:Qd R C nt ops S e o x) {cx:Cx} {w:World} {a:Act} (hS:bD R cx S w) (he:jo cx S w nt e a)
  {K:Act→World→Prop} {Kx:Exit→Act→World→Prop} (hk:∀ cx' w' u,bD R cx' S w'→Ext cx S w cx' S w'→(∀ t,o.dst=some t→aQ cx' S w' x u)→K (a.put o.dst u) w') (hnx:∀ t,o.op ≠ .next (.tmp t) false) {i:Nat} (hi:ops[i]? = some o):wpOp C.P ops Kx i K a w:=by
 have hrefl:=Ext.refl (cx:=cx) w hS.wf
 unfold wpOp
 rw [hi]
 simp only
 cases h with
 | val hw ho hl =>
  rw [if_pos (fD he hw)]
  left
  obtain ⟨cx',w',u,k1,k2,k3,k4⟩:=iC hR hS he.eval o ho
  unfold Oper.wp
  rw [k1]
  exact hk cx' w' u k2 k3 (fun _ _=>hl _ _ _ _ k4)
 | call hw ho hs hl =>
  rw [if_pos (fD he hw)]
  left
  obtain ⟨us,k1,k2,k3⟩:=iC hR hS he.eval o ho
  obtain ⟨⟨fn,f1,f2,f3⟩,hcalls⟩:=hs
  unfold Oper.wp
  rw [k3 fn f1 f2 f3]
  refine (hcalls cx w us hS k1 k2).mono (fun en w' hen=>?_)
  obtain ⟨r,rfl,cx',m1,m2,m3⟩:=hen
  obtain ⟨u,rfl,m3⟩:=m3
  exact hk cx' w' u m1 m2 (fun _ _=>hl _ _ _ _ m3)
 | no hw hl =>
  rw [if_neg (by rw [fD he hw]; simp)]
  have hv:aQ cx S w x (.tuple #[]):=hl _ _ _ _ (.tup [] [] rfl (fun i x v hx=>by simp at hx))
  exact hk cx w _ hS hrefl (fun _ _=>hv)
 | step h =>
  obtain ⟨e2,S2,hw,h⟩:=h
  obtain ⟨cx2,gS,gx,ge⟩:=hw cx w a hS he
  have:=vo hR h gS ge (K:=K) (Kx:=Kx) (fun v S' hq=>by obtain ⟨_,_,hc,_⟩:=hq; cases hc) (fun e' S' cx' w' u hq q1 q2 q3=>?_) hnx hi
  ·
   unfold wpOp at this
   rw [hi] at this
   exact this
  ·
   obtain ⟨e3,hw3,e4,v,hq1,hq2⟩:=hq
   cases hq1
   refine hk cx' w' u q1 (gx.trans q2) (fun t ht=>?_)
   obtain ⟨g1,g2⟩:=hq2 t ht
   rw [ht] at q3
   exact g2 _ _ _ _ (AQ (q3.weak hw3) g1)
theorem BI (hR:jW R C) {ops:Array Oper} {o:Oper} {e:Env} {S:St} {PQ Q:AV→St→Prop} (h:PI R C nt ops S e o PQ Q) {cx:Cx} {w:World} {a:Act} (hS:bD R cx S w) (he:jo cx S w nt e a)
  {K:Act→World→Prop} {Kx:Exit→Act→World→Prop} (hx:∀ v S' cx' w' u,PQ v S'→bD R cx' S' w'→Ext cx S w cx' S' w'→aQ cx' S' w' v u→Kx (.panic [{ v:=u,recovered:=false }]) a w') (hk:∀ v S' cx' w' u,Q v S'→bD R cx' S' w'→Ext cx S w cx' S' w'→(∀ t,o.dst=some t→aQ cx' S' w' v u)→K (a.put o.dst u) w') (hnx:∀ t,o.op ≠ .next (.tmp t) false) {i:Nat} (hi:ops[i]? = some o):wpOp C.P ops Kx i K a w:=by
 have hrefl:=Ext.refl (cx:=cx) w hS.wf
 unfold wpOp
 rw [hi]
 simp only
 cases h with
 | val hw ho hq =>
  rw [if_pos (fD he hw)]
  left
  obtain ⟨cx',w',u,k1,k2,k3,k4⟩:=iC hR hS he.eval o ho
  unfold Oper.wp
  rw [k1]
  exact hk _ _ cx' w' u hq k2 k3 (fun _ _=>k4)
 | skip hw ho hd hq =>
  rw [if_pos (fD he hw)]
  left
  obtain ⟨cx',w',k1,k2,k3⟩:=iC hR hS he.eval o ho
  unfold Oper.wp
  rw [k1]
  exact hk _ _ cx' w' undef hq k2 k3 (fun _ _=>.any _)
 | call hw ho hs =>
  rw [if_pos (fD he hw)]
  left
  obtain ⟨us,k1,k2,k3⟩:=iC hR hS he.eval o ho
  obtain ⟨⟨fn,f1,f2,f3⟩,hcalls⟩:=hs
  unfold Oper.wp
  rw [k3 fn f1 f2 f3]
  refine (hcalls cx w us hS k1 k2).mono (fun en w' hen=>?_)
  obtain ⟨⟨p,v,S'⟩,⟨hp,hq⟩,cx',m1,m2,m3⟩:=hen
  simp only at hp
  subst hp
  obtain ⟨u,rfl,m3⟩:=m3
  exact hk _ _ cx' w' u hq m1 m2 (fun _ _=>m3)
 | no hw hq =>
  rw [if_neg (by rw [fD he hw]; simp)]
  exact hk _ _ cx w _ hq hS hrefl (fun _ _=>.tup [] [] rfl (fun i x v hx=>by simp at hx))
 | step h =>
  obtain ⟨e2,S2,hw,h⟩:=h
  obtain ⟨cx2,gS,gx,ge⟩:=hw cx w a hS he
  have:=vo hR h gS ge (K:=K) (Kx:=Kx) (fun v S' hq=>by obtain ⟨_,_,_,hc,_⟩:=hq; cases hc) (fun e' S' cx' w' u hq q1 q2 q3=>?_) hnx hi
  ·
   unfold wpOp at this
   rw [hi] at this
   exact this
  ·
   obtain ⟨e3,hw3,e4,v,S4,hq1,hq2,hq3⟩:=hq
   cases hq1
   refine hk v S' cx' w' u hq3 q1 (gx.trans q2) (fun t ht=>?_)
   have g1:=hq2 t ht
   rw [ht] at q3
   exact AQ (q3.weak hw3) g1
 | stepX h =>
  obtain ⟨e2,S2,hw,h⟩:=h
  obtain ⟨cx2,gS,gx,ge⟩:=hw cx w a hS he
  have:=vo hR h gS ge (K:=K) (Kx:=Kx) (fun v S' hq cx' w' u q1 q2 q3=>hx v S' cx' w' u hq q1 (gx.trans q2) q3) (fun e' S' cx' w' u hq q1 q2 q3=>?_) hnx hi
  ·
   unfold wpOp at this
   rw [hi] at this
   exact this
  ·
   obtain ⟨e3,hw3,v,hq2,hq3⟩:=hq
   refine hk v S' cx' w' u hq3 q1 (gx.trans q2) (fun t ht=>?_)
   have g1:=hq2 t ht
   rw [ht] at q3
   exact AQ (q3.weak hw3) g1
inductive q9:List (Option AV)→List (Option AV)→Prop
 | nil:q9 [] []
 | new {x:Option AV} {a b:List (Option AV)} (k:q9 a b):q9 (x :: a) (none :: b)
 | old {x y:AV} {a b:List (Option AV)} (h:Less y x) (k:q9 a b):q9 (some y :: a) (some x :: b)
theorem q9.get {a b:List (Option AV)} (h:q9 a b):∀ {k:Nat} {x:AV},b[k]? = some (some x)→∃ y,a[k]? = some (some y)∧Less y x:=by
 induction h with
 | nil=>intro k x h; simp at h
 | new k ih =>
  intro k x h
  cases k with
  | zero=>simp at h
  | succ k=>simpa using ih (by simpa using h)
 | old h k ih =>
  intro k x hx
  cases k with
  | zero=>simp at hx; subst hx; exact ⟨_,rfl,h⟩
  | succ k=>simpa using ih (by simpa using hx)
theorem sW.step {ops:Array Oper} (hr:qA ops=true) (hnt:∀ (k:Nat) (o:Oper) (t:Nat),ops[k]? = some o→o.dst=some t→t < nt) {e0:Env} {listed:Array Bool} (hsz:listed.size=ops.size) (hcl:Closed ops listed) {ws ws':List (Option AV)} {i:Nat} (hle:∀ k x,k ≠ i→ws[k]? = some (some x)→∃ y,ws'[k]? = some (some y)∧Less y x) {cx cx':Cx} {S S':St} {w w':World} {a:Act} (h:sW nt ops e0 listed ws cx S w a)
  {o:Oper} (hi:ops[i]? = some o) (hun:listed.getD i false=false) (ex:Ext cx S w cx' S' w') {u:Value} (hu:∀ t,o.dst=some t→∃ x,ws'[i]? = some (some x)∧aQ cx' S' w' x u):sW nt ops e0 (listed.setIfInBounds i true) ws' cx' S' w' (a.put o.dst u):=by
 have hlt:i < ops.size:=(Array.getElem?_eq_some_iff.1 hi).1
 have size:nt ≤ (a.put o.dst u).tmps.size:=by
  cases hd:o.dst with
  | none=>exact h.size
  | some t=>simp only [Act.put,Array.size_setIfInBounds]; exact h.size
 have keep:∀ t,o.dst ≠ some t→(a.put o.dst u).tmps[t]? = a.tmps[t]?:=fun t ht=>by
  cases hd:o.dst with
  | none=>rfl
  | some d =>
   have:d ≠ t:=fun q=>ht (by rw [hd,q])
   simp only [Act.put]
   rw [Array.getElem?_setIfInBounds_ne this]
 refine ⟨size,fun k ok t hk hd hlk hlast=>?_,fun t x hx hno=>?_⟩
 ·
  by_cases hki:k=i
  ·
   subst hki
   rw [hi] at hk; cases hk
   obtain ⟨x,hx,hr⟩:=hu t hd
   refine ⟨x,hx,u,?_,hr⟩
   have htn:=hnt k o t hi hd
   have:=h.size
   rw [hd]
   simp only [Act.put]
   rw [Array.getElem?_setIfInBounds_self_of_lt (by omega)]
  ·
   have hlk':listed.getD k false=true:=by rwa [getD_set_ne false (fun q=>hki q.symm)] at hlk
   have hklt:k < ops.size:=(Array.getElem?_eq_some_iff.1 hk).1
   have hdi:o.dst ≠ some t:=fun hdi=>by
    have hik:=hlast i o (fun q=>hki q.symm) hi hdi (by have hlt':i < listed.size:=(by omega); simp [hlt'])
    obtain ⟨r1,r2,_⟩:=kr hr hk
    have:=r2 i o hik hi
    split at this
    ·
     rename_i hb
     have:=hcl k hlk' i hik hb
     rw [hun] at this; cases this
    ·
     simp only [Oper.apart,hdi,hd,Bool.and_eq_true] at this
     simp at this
   obtain ⟨x,hx,v,v1,v2⟩:=h.new k ok t hk hd hlk' (fun j o' hjk hj hdj hlj=>hlast j o' hjk hj hdj (by
    by_cases hji:i=j
    ·
     subst hji; rw [hun] at hlj; cases hlj
    ·
     rw [getD_set_ne false hji]; exact hlj))
   obtain ⟨y,hy,hyx⟩:=hle k x hki hx
   exact ⟨y,hy,v,by rw [keep t hdi]; exact v1,hyx _ _ _ _ (v2.mono ex)⟩
 ·
  have hdi:o.dst ≠ some t:=fun hdi=>by
   have:=hno i o hi hdi
   have hlt':i < listed.size:=by omega
   simp [hlt'] at this
  obtain ⟨v,v1,v2⟩:=h.old t x hx (fun j o' hj hdj=>by
   have:=hno j o' hj hdj
   by_cases hji:i=j
   ·
    subst hji; exact hun
   ·
    rwa [getD_set_ne false hji] at this)
  exact ⟨v,by rw [keep t hdi]; exact v1,v2.mono ex⟩
inductive RL (R:dm) (C:gG) (nt:Nat) (ops:Array Oper) (srcs:List Src) (e0:Env) (ws:List (Option AV)) (S:St):List Nat→Prop
 | nil:RL R C nt ops srcs e0 ws S []
 | cons {i:Nat} {o:Oper} {x:AV} {e:Env} {os:List Nat} (ho:ops[i]? = some o) (hx:ws[i]? = some (some x)) (he:qc ws e0 (srcs.getD i [])=some e) (h:Qd R C nt ops S e o x) (k:RL R C nt ops srcs e0 ws S os):RL R C nt ops srcs e0 ws S (i :: os)
theorem RL.get {ops:Array Oper} {srcs:List Src} {e0:Env} {ws:List (Option AV)} {S:St} {os:List Nat} (h:RL R C nt ops srcs e0 ws S os):∀ {i:Nat},i ∈ os→∃ o x e,ops[i]? = some o∧ws[i]? = some (some x)∧qc ws e0 (srcs.getD i [])=some e∧Qd R C nt ops S e o x:=by
 induction h with
 | nil=>intro i h; cases h
 | cons ho hx he h k ih =>
  intro i hi
  rcases List.mem_cons.1 hi with rfl | hi
  ·
   exact ⟨_,_,_,ho,hx,he,h⟩
  ·
   exact ih hi
def EH (i:Nat) (l:List Nat):Bool:=l.any fun j=>Nat.beq j i
theorem rP {i:Nat} {l:List Nat}:EH i l=true↔i ∈ l:=by
 simp only [EH,List.any_eq_true]
 constructor
 ·
  rintro ⟨j,hj,hb⟩; rw [← Nat.eq_of_beq_eq_true hb]; exact hj
 ·
  intro h; exact ⟨i,h,Nat.beq_refl i⟩
def CK (ops:Array Oper) (os done:List Nat) (w:Option Nat) (W:List Nat):Bool :=
 (os.all fun j=>!EH j W) &&   (List.range ops.size).all fun i=>EH i os || EH i done || (done.any fun d=>Nat.testBit ((Region.before ops).getD d 0) i) || (match w with | some w=>Nat.beq i w || Nat.testBit ((Region.before ops).getD i 0) w | none=>false)
def Kr (R:dm) (C:gG) (nt:Nat) (ops:Array Oper) (srcs:List Src) (fin:Src) (e0:Env) (PQ:AV→St→Prop) (Q:Env→St→Prop):List Nat→List Nat→List (Option AV)→St→Prop
 | [],done,ws,S=>∃ os,CK ops os done none []=true∧RL R C nt ops srcs e0 ws S os∧∃ E,qc ws e0 fin=some E∧Q E S
 | i :: W,done,ws,S=>∃ os,CK ops os done (some i) (i :: W)=true∧RL R C nt ops srcs e0 ws S os∧∃ o e,ops[i]? = some o∧qc ws e0 (srcs.getD i [])=some e ∧
   PI R C nt ops S e o PQ (fun v S'=>∃ ws',q9 ws' ws∧(∀ t,o.dst=some t→∃ x,ws'[i]? = some (some x)∧Less x v)∧Kr R C nt ops srcs fin e0 PQ Q W (i :: done) ws' S')
def GK (ops:Array Oper) (nt:Nat) (srcs:List Src) (fin:Src):Bool :=
 qA ops && Ij ops fin && (List.range ops.size).all fun i=>Fh ops ((Region.before ops).getD i 0) i (srcs.getD i []) && (match ops[i]? with | some o=>(match o.dst with | some t=>Nat.blt t nt | none=>true) && (match o.op with | .next _ _=>false | _=>true) | none=>true)
theorem ax.qi (hR:jW R C) (hm:C.P.follows .mixedOrders=true) {id:Nat} {ops:Array Oper} (srcs:List Src) (fin:Src) (ht:GK ops nt srcs fin=true) (W:List Nat) (hWn:W.Nodup) {e0:Env} {S:St} (ws:List (Option AV)) {Q:vN→Prop}
  (h:Kr R C nt ops srcs fin e0 (fun v S'=>Q (.panic v,e0,S')) (fun e' S'=>Q (.normal,e',S')) W [] ws S):ax R C.P nt (.region id ops true) e0 S Q:=by
 simp only [GK,Bool.and_eq_true] at ht
 obtain ⟨⟨hr,hfin⟩,hall⟩:=ht
 have hsrc:∀ i,i < ops.size→Fh ops ((Region.before ops).getD i 0) i (srcs.getD i [])=true:=fun i hi=>by
  have:=List.all_eq_true.1 hall i (List.mem_range.2 hi)
  simp only [Bool.and_eq_true] at this
  exact this.1
 have hnt:∀ (k:Nat) (o:Oper) (t:Nat),ops[k]? = some o→o.dst=some t→t < nt:=fun k o t hk hd=>by
  have:=List.all_eq_true.1 hall k (List.mem_range.2 (Array.getElem?_eq_some_iff.1 hk).1)
  simp only [Bool.and_eq_true,hk,hd] at this
  exact Nat.le_of_ble_eq_true this.2.1
 have hnx:∀ (k:Nat) (o:Oper),ops[k]? = some o→∀ t,o.op ≠ .next (.tmp t) false:=fun k o hk t ho=>by
  have:=List.all_eq_true.1 hall k (List.mem_range.2 (Array.getElem?_eq_some_iff.1 hk).1)
  simp only [Bool.and_eq_true,hk,ho] at this
  cases this.2.2
 intro cx w a Kx hS he hk
 refine wp_region_any hm ?_
 obtain ⟨d1,d2⟩:=nU hR.toObjOk hS
 let Inv:Array Bool→Act→World→Prop:=fun listed a' w'=>a'.defers=a.defers∧∃ W' done ws' S' cx',Kr R C nt ops srcs fin e0 (fun v S'=>Q (.panic v,e0,S')) (fun e' S'=>Q (.normal,e',S')) W' done ws' S'∧(∀ i ∈ done,listed.getD i false=true)∧(∀ i ∈ W',listed.getD i false=false)∧W'.Nodup ∧
  bD R cx' S' w'∧Ext cx S w cx' S' w'∧sW nt ops e0 listed ws' cx' S' w' a'
 have repf:∀ i,(Array.replicate ops.size false).getD i false=false:=fun i=>p9 _ _
 refine GH hr Inv ?_ ?_ ops.size (Array.replicate ops.size false) (by simp) (fun j hj=>by rw [repf] at hj; cases hj) ?_ ?_
 ·
  intro listed a' w' i o K hsz hcl hun hi hclo ⟨hd,W',done,ws',S',cx',hD,hdone,hW',hnd,s1,x1,env⟩ hK
  have hlt:i < ops.size:=(Array.getElem?_eq_some_iff.1 hi).1
  have rstep:∀ os,RL R C nt ops srcs e0 ws' S' os→i ∈ os→i ∉ W'→wpOp C.P ops Kx i K a' w':=fun os hrl hio hiw=>by
   obtain ⟨o2,x,e,h1,h2,h3,h4⟩:=hrl.get hio
   rw [hi] at h1; cases h1
   have hrel:=wu hr hcl env hlt hun hclo h3 (hsrc i hlt)
   refine Cn hR h4 s1 hrel (fun cx2 w2 u q1 q2 q3=>hK _ _ ⟨by rw [put_defers]; exact hd,W',done,ws',S',cx2,hD,fun j hj=>?_,fun j hj=>?_,hnd,q1,x1.trans q2,?_⟩) (hnx i o hi) hi
   ·
    by_cases hij:i=j
    ·
     subst hij; exact getD_set_true (hdone i hj)
    ·
     rw [getD_set_ne false hij]; exact hdone j hj
   ·
    have hij:i ≠ j:=fun q=>hiw (q ▸ hj)
    rw [getD_set_ne false hij]; exact hW' j hj
   ·
    exact sW.step hr hnt hsz hcl (fun k y _ hy=>⟨y,hy,.refl y⟩) env hi hun q2 (fun t ht=>⟨x,h2,q3 t ht⟩)
  have cov:∀ os w0,CK ops os done w0 W'=true→(i ∈ os∧i ∉ W')∨∃ w1,w0=some w1∧(i=w1∨listed.getD w1 false=true):=fun os w0 hc=>by
   simp only [CK,Bool.and_eq_true] at hc
   obtain ⟨c1,c2⟩:=hc
   have:=List.all_eq_true.1 c2 i (List.mem_range.2 hlt)
   simp only [Bool.or_eq_true] at this
   rcases this with ((q | q) | q) | q
   ·
    left
    have hio:=rP.1 q
    refine ⟨hio,fun hiw=>?_⟩
    have:=List.all_eq_true.1 c1 i hio
    rw [rP.2 hiw] at this; cases this
   ·
    have:=hdone i (rP.1 q)
    rw [hun] at this; cases this
   ·
    obtain ⟨d,hd1,hd2⟩:=List.any_eq_true.1 q
    have hl:=hdone d hd1
    have hdlt:d < ops.size:=by
     rcases Nat.lt_or_ge d ops.size with q | q
     ·
      exact q
     ·
      have:listed.getD d false=false:=by simp [show listed.size ≤ d by omega]
      rw [hl] at this; cases this
    have:=hcl d hl i (p8 hr hdlt hd2) hd2
    rw [hun] at this; cases this
   ·
    right
    cases w0 with
    | none=>cases q
    | some w1 =>
     simp only [Bool.or_eq_true] at q
     refine ⟨w1,rfl,q.imp Nat.eq_of_beq_eq_true (fun q=>hclo w1 (p8 hr hlt q) q)⟩
  cases W' with
  | nil =>
   obtain ⟨os,hc,hrl,_⟩:=_root_.id hD
   rcases cov os none hc with h | ⟨w1,h,_⟩
   ·
    exact rstep os hrl h.1 h.2
   ·
    cases h
  | cons w0 W2 =>
   obtain ⟨os,hc,hrl,o2,e,h1,h2,h3⟩:=_root_.id hD
   rcases cov os (some w0) hc with h | ⟨w1,h,hq⟩
   ·
    exact rstep os hrl h.1 h.2
   ·
    cases h
    rcases hq with rfl | hq
    ·
     rw [hi] at h1; cases h1
     have hrel:=wu hr hcl env hlt hun hclo h2 (hsrc i hlt)
     refine BI hR h3 s1 hrel (fun v S2 cx2 w2 u hqv q1 q2 q3=>hk (.panic v,e0,S2) hqv cx2 a' w2 u q1 (x1.trans q2) q3 hd) (fun v S2 cx2 w2 u hqv q1 q2 q3=>?_) (hnx i o hi) hi
     obtain ⟨ws2,l1,l2,l3⟩:=hqv
     refine hK _ _ ⟨by rw [put_defers]; exact hd,W2,i :: done,ws2,S2,cx2,l3,fun j hj=>?_,fun j hj=>?_,(List.nodup_cons.1 hnd).2,q1,x1.trans q2,?_⟩
     ·
      by_cases hij:i=j
      ·
       subst hij
       have hlt':i < listed.size:=by omega
       simp [hlt']
      ·
       rw [getD_set_ne false hij]
       rcases List.mem_cons.1 hj with q | q
       ·
        exact absurd q.symm hij
       ·
        exact hdone j q
     ·
      have hij:i ≠ j:=fun q=>(List.nodup_cons.1 hnd).1 (q ▸ hj)
      rw [getD_set_ne false hij]; exact hW' j (List.mem_cons_of_mem _ hj)
     ·
      exact sW.step hr hnt hsz hcl (fun k y _ hy=>l1.get hy) env hi hun q2 (fun t ht=>by
       obtain ⟨x,k1,k2⟩:=l2 t ht
       exact ⟨x,k1,k2 _ _ _ _ (q3 t ht)⟩)
    ·
     have:=hW' w0 List.mem_cons_self
     rw [hq] at this; cases this
 ·
  intro listed a' w' hall' ⟨hd,W',done,ws',S',cx',hD,hdone,hW',hnd,s1,x1,env⟩
  cases W' with
  | nil =>
   obtain ⟨os,hc,hrl,E,hE,hQ⟩:=hD
   exact hk (.normal,E,S') hQ cx' a' w' s1 x1 (EO hall' env hE hfin) hd
  | cons w0 W2 =>
   obtain ⟨os,hc,hrl,o2,e,h1,h2,h3⟩:=hD
   have:=hall' w0 (Array.getElem?_eq_some_iff.1 h1).1
   rw [hW' w0 List.mem_cons_self] at this; cases this
 ·
  have:((List.range ops.size).filter fun i=>!(Array.replicate ops.size false).getD i false)=List.range ops.size:=by
   rw [List.filter_eq_self]; intro i hi; rw [repf]; rfl
  rw [this]; simp
 ·
  refine ⟨rfl,W,[],ws,S,cx,h,fun i hi=>(by cases hi),fun i hi=>repf i,hWn,d1,d2,he.size,fun k o t _ _ hl _=>?_,fun t x hx _=>?_⟩
  ·
   rw [repf] at hl; cases hl
  ·
   obtain ⟨v,v1,v2⟩:=he.rel t x hx
   exact ⟨v,v1,v2.mono d2⟩
end
end Go.Ev
namespace Go.Ev
end Go.Ev

namespace Go.Ev
noncomputable section
open Go.Shelf Go.RowKit Go.Proofs
set_option linter.unusedVariables false
set_option linter.unusedSimpArgs false
end
end Go.Ev

namespace Go.Ev
noncomputable section
open Go.Shelf Go.RowKit Go.Proofs
set_option linter.unusedVariables false
set_option linter.unusedSimpArgs false
structure Nj (T e:Nat) (b:Nat) (p v:Value) (xs:List Value) (w:World):Prop where
 hp:p=.pointer none∨p=.pointer (some ⟨b,0,none⟩)
 blk:w.heap[b]? = some (.cells #[p,v] T (0,0))
 own:w.ownsRow 0 e 1 v xs.length xs
 ne:v.ownBlock ≠ some b
end
end Go.Ev

namespace Go.Ev
noncomputable section
open Go.Shelf Go.RowKit Go.Proofs
set_option linter.unusedVariables false
set_option linter.unusedSimpArgs false
def LX (T e:Nat) (k:Nat) (x:D) (w:World) (b:Nat) (F:Nat→Prop):Prop :=
 k=1∧∃ l p v,x=.str l∧Nj T e b p v (Lib.byteCells l) w∧∀ c,F c↔(c=b∨v.ownBlock=some c)
def NT (k:Nat) (w:World) (b:Nat) (F:Nat→Prop):Prop:=k=3∧b < w.heap.size∧∀ c,F c↔c=b
def Qc (T e:Nat) (G:World→(Nat→Nat→Prop)→Prop):dm:={ rel:=fun k x w b F=>LX T e k x w b F∨NT k w b F,G:=G }
def IX (G:World→(Nat→Nat→Prop)→Prop):Prop :=
 ∀ (w w':World) (fr fr':Nat→Nat→Prop),G w fr→(∀ (b o:Nat) (v:Value),¬ fr b o→w.cell? ⟨b,o,none⟩=some v→w'.cell? ⟨b,o,none⟩=some v∧¬ fr' b o)→(∀ b,b < w.heap.size→(∀ o,¬ fr b o)→w'.heap[b]? = w.heap[b]?∧∀ o,¬ fr' b o)→G w' fr'
theorem Ic {e:Nat} {v:Value} {n:Nat} {xs:List Value} {w w':World} (h:w.ownsRow 0 e 1 v n xs) (hk:∀ c,v.ownBlock=some c→w'.heap[c]? = w.heap[c]?):w'.ownsRow 0 e 1 v n xs:=by
 refine ⟨h.1,?_⟩
 rcases h.2 with q | ⟨g,cap,cur,rfl,q1,q2,q3⟩
 ·
  exact .inl q
 ·
  exact .inr ⟨g,cap,cur,rfl,q1,by rw [hk g rfl]; exact q2,q3⟩
theorem Og {T e:Nat} {G:World→(Nat→Nat→Prop)→Prop} (hG:IX G):ObjOk (Qc T e G) where
 frame:=fun k x w w' b F h hF=>by
  rcases h with h | ⟨h1,h2,h3⟩
  ·
   obtain ⟨hk,l,p,v,hx,⟨h1,h2,h3,h4⟩,hf⟩:=h
   exact .inl ⟨hk,l,p,v,hx,⟨h1,by rw [hF b ((hf b).2 (.inl rfl))]; exact h2,Ic h3 (fun c hc=>hF c ((hf c).2 (.inr hc))),h4⟩,hf⟩
  ·
   refine .inr ⟨h1,?_,h3⟩
   have:=hF b ((h3 b).2 rfl)
   rcases Nat.lt_or_ge b w'.heap.size with q | q
   ·
    exact q
   ·
    rw [Array.getElem?_eq_none q,Array.getElem?_eq_getElem h2] at this; cases this
 lt:=fun k x w b F h=>by
  rcases h with h | ⟨h1,h2,h3⟩
  ·
   obtain ⟨hk,l,p,v,hx,⟨h1,h2,h3,h4⟩,hf⟩:=h
   refine ⟨fun c hc=>?_,(hf b).2 (.inl rfl)⟩
   rcases (hf c).1 hc with rfl | hc
   ·
    rcases Nat.lt_or_ge c w.heap.size with q | q
    ·
     exact q
    ·
     rw [Array.getElem?_eq_none q] at h2; cases h2
   ·
    exact (h3.lt c hc).2
  ·
   exact ⟨fun c hc=>by rw [(h3 c).1 hc]; exact h2,(h3 b).2 rfl⟩
 it:=fun x w b F=>by
  constructor
  ·
   rintro (⟨h,_⟩ | ⟨_,h1,h2⟩)
   ·
    cases h
   ·
    exact ⟨h1,h2⟩
  ·
   rintro ⟨h1,h2⟩
   exact .inr ⟨rfl,h1,h2⟩
 stat:=hG
end
end Go.Ev

namespace Go.Ev
noncomputable section
open Go.Shelf Go.RowKit Go.Proofs
set_option linter.unusedVariables false
set_option linter.unusedSimpArgs false
abbrev Prim:=List AV→St→Option (AV × St)
structure Dt (R:dm) (P:Program) (f:Nat) (p:Prim):Prop where
 pure:∀ args S v S',p args S=some (v,S')→(nC args).isSome=true→(wM v).isSome=true→∀ S2,p args S2=some (v,S2)
 calls:∀ args S v S',p args S=some (v,S')→(∃ fn,P.funcs[f]? = some fn∧fn.body.isSome=true∧fn.name ≠ "runtime.NumGoroutine") ∧
  ∀ cx w (us:List Value),bD R cx S w→us.length=args.length→(∀ (i:Nat) (x:AV) (u:Value),args[i]? = some x→us[i]? = some u→aQ cx S w x u) →
  Calls P f us.toArray w (fun e w'=>∃ cx',bD R cx' S' w'∧Ext cx S w cx' S' w'∧∃ u,e=.returned u∧aQ cx' S' w' v u)
end
end Go.Ev

namespace Go.Ev
noncomputable section
open Go.Shelf Go.RowKit Go.Proofs
set_option linter.unusedVariables false
set_option linter.unusedSimpArgs false
def Leaves (w:World) (fr:Nat→Nat→Prop) (v:AV) (e:Ending) (w':World):Prop :=
 Below w.heap.size w w'∧∃ u,e=.returned u∧∀ cx S,cx.fr=fr→aQ cx S w' v u
def qm (spec:List D→Option AV):Prim:=fun args S=>match nC args with
 | some ds=>(spec ds).map fun v=>(v,S)
 | none=>none
theorem Ei {R:dm} (hR:ObjOk R) {P:Program} {f:Nat} {spec:List D→Option AV} (hd:∀ ds v,spec ds=some v→(wM v).isSome=true)
  (hb:∃ fn,P.funcs[f]? = some fn∧fn.body.isSome=true∧fn.name ≠ "runtime.NumGoroutine")
  (hc:∀ ds v,spec ds=some v→∀ (w:World) (fr:Nat→Nat→Prop) (us:List Value),R.G w fr→(∀ b o,fr b o→b < w.heap.size)→us.length=ds.length→(∀ (i:Nat) (y:D) (u:Value),ds[i]? = some y→us[i]? = some u→bT w fr y u) →
   Calls P f us.toArray w (Leaves w fr v)):Dt R P f (qm spec) where
 pure:=fun args S v S' h _ _ S2=>by
  unfold qm at h ⊢
  split at h
  ·
   rename_i ds hds
   simp only [Option.map_eq_some_iff,Prod.mk.injEq] at h
   obtain ⟨a,h1,rfl,_⟩:=h
   simp [hds,h1]
  ·
   cases h
 calls:=fun args S v S' h=>⟨hb,fun cx w us hS hl hr=>by
  unfold qm at h
  split at h
  ·
   rename_i ds hds
   simp only [Option.map_eq_some_iff,Prod.mk.injEq] at h
   obtain ⟨a,h1,rfl,rfl⟩:=h
   obtain ⟨d1,d2⟩:=xn hds
   refine (hc ds a h1 w cx.fr us hS.stat hS.lt (by rw [hl,d1]) (fun i y u hy hu=>?_)).mono (fun e w' hp=>?_)
   ·
    have hlt:i < args.length:=by rw [← d1]; exact (List.getElem?_eq_some_iff.1 hy).1
    have ha:=List.getElem?_eq_getElem hlt
    exact nR (d2 i _ y ha hy) (hr i _ u ha hu)
   ·
    obtain ⟨hbl,u,rfl,hv⟩:=hp
    have e:Ext cx S w cx S w':=Ext.old hS hbl.size (fun b hb=>hbl.block b hb) hbl.os hbl.tape hbl.output
    exact ⟨cx,bD.old hR hS hbl.size (fun b hb=>hbl.block b hb) e,e,u,rfl,hv cx S rfl⟩
  ·
   cases h⟩
theorem Lx (w:World) (fr:Nat→Nat→Prop) (l:List UInt8):bT w fr (.str l) (.string ⟨l.toArray⟩):=by
 have:=jc.str (w:=w) (fr:=fr) ⟨l.toArray⟩
 exact bT.of_cell (by simpa using this) rfl
theorem Hd {w:World} {fr:Nat→Nat→Prop} {l:List UInt8} {u:Value} (h:bT w fr (.str l) u):u=.string ⟨l.toArray⟩:=by
 have a:=h.val rfl
 cases a
 simp
def Ak:List D→Option AV
 | [.str s,.str c]=>if s.length ≤ bound∧c.length ≤ 1000∧(c.all fun b=>decide (b.toNat < 128))=true then some (.d (.str (Lib.trimS s c))) else none
 | _=>none
theorem LC {R:dm} (hR:ObjOk R) {P:Program} {ρ:Ren} (L:Lays.n160 P ρ) (h116:(P.info? (ρ.t 116)).map (fun i=>(i.zero,i.size))=some (some (.agg (Array.replicate 256 (.bool false))),256)) :
  Dt R P (ρ.f 160) (qm Ak):=by
 refine Ei hR (fun ds v h=>?_) ⟨_,L.f160,rfl,by show ¬ ("strings.Trim" = "runtime.NumGoroutine"); decide⟩ (fun ds v h w fr us hG hfr hl hr=>?_)
 ·
  unfold Ak at h
  split at h
  ·
   split at h
   ·
    simp only [Option.some.injEq] at h; subst h; rfl
   ·
    cases h
  ·
   cases h
 ·
  unfold Ak at h
  split at h
  ·
   rename_i s c
   split at h
   ·
    rename_i hc
    obtain ⟨h1,h2,h3⟩:=hc
    simp only [Option.some.injEq] at h; subst h
    match us,hl with
    | [u0,u1],_ =>
    obtain rfl:=Hd (hr 0 _ _ rfl rfl)
    obtain rfl:=Hd (hr 1 _ _ rfl rfl)
    refine (Any.strings_Trim_laid L h116 ⟨s.toArray⟩ ⟨c.toArray⟩ w (by simp [ByteArray.size]; unfold bound at h1; omega) (by simp [ByteArray.size]; omega) (by simpa using ascii_of_all h3)).mono (fun e w' hp=>?_)
    obtain ⟨rfl,hb⟩:=hp
    exact ⟨hb,_,rfl,fun cx S _=>.d _ _ (by simpa using Lx w' cx.fr (Lib.trimS s c))⟩
   ·
    cases h
  ·
   cases h
end
end Go.Ev

namespace Go.Ev
noncomputable section
set_option linter.unusedVariables false
def Qv:World→(Nat→Nat→Prop)→Prop:=fun _ _=>True
theorem PG:IX Qv:=fun _ _ _ _ _ _ _=>trivial
end
end Go.Ev

namespace Go.Ev
noncomputable section
set_option linter.unusedVariables false
set_option linter.unusedSimpArgs false
def Iz:Nat→Nat→Prop:=fun _ _=>False
structure qg (w:World) (ds:List D) (cs:List Value):Prop where
 len:cs.length=ds.length
 one:∀ v ∈ cs,v.oneCell'=true
 flat:∀ d ∈ ds,d.isAgg=false
 rel:∀ (i:Nat) (d:D) (v:Value),ds[i]? = some d→cs[i]? = some v→jc w Iz d [v]
theorem qg.nil {w:World}:qg w [] []:=⟨rfl,by simp,by simp,by simp⟩
theorem qg.append {w:World} {a b:List D} {x y:List Value} (h:qg w a x) (k:qg w b y):qg w (a ++ b) (x ++ y) where
 len:=by simp [h.len,k.len]
 one:=fun v hv=>by rcases List.mem_append.1 hv with q | q; exact h.one v q; exact k.one v q
 flat:=fun v hv=>by rcases List.mem_append.1 hv with q | q; exact h.flat v q; exact k.flat v q
 rel:=fun i d v hd hv=>by
  by_cases hi:i < a.length
  ·
   rw [List.getElem?_append_left hi] at hd
   rw [List.getElem?_append_left (by rw [h.len]; exact hi)] at hv
   exact h.rel i d v hd hv
  ·
   rw [List.getElem?_append_right (by omega)] at hd
   rw [List.getElem?_append_right (by rw [h.len]; omega),h.len] at hv
   exact k.rel _ d v hd hv
theorem qg.single {w:World} {d:D} {v:Value} (h:jc w Iz d [v]) (ho:v.oneCell'=true) (hd:d.isAgg=false):qg w [d] [v] where
 len:=rfl
 one:=by simpa using ho
 flat:=by simpa using hd
 rel:=fun i d' v' h1 h2=>by
  cases i with
  | zero=>simp at h1 h2; subst h1; subst h2; exact h
  | succ i=>simp at h1
theorem qg.Mc {w:World} {x:D} {cs:List Value} (h:qg w x.cells cs):jc w Iz x cs:=by
 cases hx:x.isAgg with
 | true =>
  cases x <;> simp [D.isAgg] at hx
  rename_i xs
  exact .agg xs cs h.len h.one h.flat h.rel
 | false =>
  have hc:x.cells=[x]:=by cases x <;> simp_all [D.isAgg,D.cells]
  rw [hc] at h
  have hl:=h.len
  match cs,hl with
  | [v],_=>exact h.rel 0 x v rfl rfl
def qL (P:Program) (t:Nat) {α:Type} (enc:α→D) (wf:α→Prop):Prop :=
 ∀ {H:Type} (en:TypeId × Value→H) (w:World) (base:Nat) (sp:Nat→Bool) (held:Bool) (fuel:Nat) (cs:List Value) (d:DataW H) (p:List MemPlace),
  DataW.trod en P w base sp held fuel t cs=some (d,p)→∃ x,wf x∧qg w (enc x).cells cs
theorem qL.int {P:Program} {t:Nat} {k:IntKind} (hu:P.underlying t=some (.int k)):qL P t (D.int k) (fun n=>(Lit.int k n).wf=true):=by
 intro H en w base sp held fuel cs d p h
 cases fuel with
 | zero=>cases h
 | succ fuel =>
  simp only [DataW.trod,hu] at h
  split at h <;> first | (simp_all; done) | skip
  rename_i k' k2 n heq
  simp only [Option.some.injEq,TypeDesc.int.injEq] at heq
  subst heq
  split at h
  ·
   rename_i hc
   obtain ⟨rfl,hw⟩:=hc
   exact ⟨n,hw,.single (.int _ _) rfl rfl⟩
  ·
   cases h
theorem qL.bool {P:Program} {t:Nat} (hu:P.underlying t=some .bool):qL P t D.bool (fun _=>True):=by
 intro H en w base sp held fuel cs d p h
 cases fuel with
 | zero=>cases h
 | succ fuel =>
  simp only [DataW.trod,hu] at h
  split at h <;> first | (simp_all; done) | skip
  rename_i b heq
  exact ⟨b,trivial,.single (.bool _) rfl rfl⟩
theorem qL.str {P:Program} {t:Nat} (hu:P.underlying t=some .string):qL P t D.str (fun s=>s.length ≤ maxLen):=by
 intro H en w base sp held fuel cs d p h
 cases fuel with
 | zero=>cases h
 | succ fuel =>
  simp only [DataW.trod,hu] at h
  split at h <;> first | (simp_all; done) | skip
  rename_i s heq
  split at h
  ·
   rename_i hc
   exact ⟨s.data.toList,by simpa using hc,.single (.str _) rfl rfl⟩
  ·
   cases h
theorem xA {w:World} {base:Nat} {a:Addr} {n:Nat} {cs:List Value} (h:w.cells? base a n=some cs):cs.length=n∧∀ j v,cs[j]? = some v→w.cell? (a.add j)=some v:=by
 unfold World.cells? at h
 split at h
 ·
  have hl:=mapM_some_length h
  refine ⟨by simpa using hl,fun j v hj=>?_⟩
  have hlt:j < n:=by have:=(List.getElem?_eq_some_iff.1 hj).1; rw [hl] at this; simpa using this
  have:=mapM_some_get h j j (by simp [hlt])
  rw [this,hj]
 ·
  cases h
theorem qL.slice {P:Program} {t e:Nat} {α:Type} {enc:α→D} {wf:α→Prop} (hu:P.underlying t=some (.slice e)) (he:qL P e enc wf) (hsz:∀ x,(enc x).cells.length=P.cellsOf e) (h0:0 < P.cellsOf e) :
  qL P t (O0 enc) (fun l=>l.length ≤ maxLen∧∀ x ∈ l,wf x):=by
 intro H en w base sp held fuel cs d p h
 cases fuel with
 | zero=>cases h
 | succ fuel =>
  simp only [DataW.trod,hu] at h
  split at h <;> first | (simp_all; done) | skip
  ·
   exact ⟨[],⟨by simp,by simp⟩,.single (.sl0 none 0 false (fun h=>by cases h)) rfl rfl⟩
  ·
   rename_i e' a len cap heq
   simp only [Option.some.injEq,TypeDesc.slice.injEq] at heq
   subst heq
   split at h
   ·
    rename_i hc
    simp only [Option.bind_eq_some_iff] at h
    obtain ⟨els,hels,h⟩:=h
    have hl:=mapM_some_length hels
    have each:∀ i,i < len→∃ x ci,wf x∧w.cells? base (a.add (i * P.cellsOf e)) (P.cellsOf e)=some ci∧qg w (enc x).cells ci:=fun i hi=>by
     have hg:=mapM_some_get hels i i (by simp [hi])
     have hlt:i < els.length:=by rw [hl]; simpa using hi
     rw [List.getElem?_eq_getElem hlt,Option.bind_eq_some_iff] at hg
     obtain ⟨ci,h1,h2⟩:=hg
     obtain ⟨x,hx,hr⟩:=he en w base sp held fuel ci _ _ h2
     exact ⟨x,ci,hx,h1,hr⟩
    by_cases hz:len=0
    ·
     subst hz
     exact ⟨[],⟨by simp,by simp⟩,.single (.sl0 (some a) cap false (fun h=>by cases h)) rfl rfl⟩
    ·
     have hpos:0 < len:=by omega
     have hspot:a.spot=none:=by
      obtain ⟨x,ci,_,h1,_⟩:=each 0 hpos
      obtain ⟨l1,l2⟩:=xA h1
      have hne:0 < ci.length:=by omega
      have:=l2 0 ci[0] (List.getElem?_eq_getElem hne)
      unfold World.cell? at this
      split at this
      ·
       split at this
       ·
        cases this
       ·
        rename_i hs; cases hsp:a.spot with
        | none=>rfl
        | some q=>simp [Addr.add,hsp] at hs
      ·
       cases this
     have:Inhabited α:=⟨(each 0 hpos).choose⟩
     let f:Nat→α:=fun i=>if hi:i < len then (each i hi).choose else default
     let g:Nat→List Value:=fun i=>if hi:i < len then (each i hi).choose_spec.choose else []
     have hfg:∀ i,i < len→wf (f i)∧w.cells? base (a.add (i * P.cellsOf e)) (P.cellsOf e)=some (g i)∧qg w (enc (f i)).cells (g i):=fun i hi=>by
      have:=(each i hi).choose_spec.choose_spec
      simp only [f,g,hi,dif_pos]
      exact this
     let l:=(List.range len).map f
     have hll:l.length=len:=by simp [l]
     have hli:∀ i x,l[i]? = some x→i < len∧x=f i:=fun i x hx=>by
      simp only [l,List.getElem?_map,Option.map_eq_some_iff] at hx
      obtain ⟨j,hj,rfl⟩:=hx
      have:=List.getElem?_eq_some_iff.1 hj
      obtain ⟨h1,h2⟩:=this
      simp at h1 h2
      subst h2
      exact ⟨h1,rfl⟩
     refine ⟨l,⟨by rw [hll]; omega,fun x hx=>?_⟩,?_⟩
     ·
      obtain ⟨i,hi,rfl⟩:=List.getElem_of_mem hx
      obtain ⟨h1,h2⟩:=hli i _ (List.getElem?_eq_getElem hi)
      rw [h2]; exact (hfg i h1).1
     ·
      have ha:a=⟨a.block,a.off,none⟩:=by rw [← hspot]
      refine .single ?_ rfl rfl
      rw [ha]
      have hlm:(l.map enc).length=len:=by simp [hll]
      have key:jc w Iz (.sl (l.map enc) false) [.slice (some ⟨a.block,a.off,none⟩) (l.map enc).length cap]:=by
       refine .sl (l.map enc) false a.block a.off cap (P.cellsOf e) g ?_ (by rw [hlm]; exact hc.2.1) (fun h=>by cases h) (fun i x hi=>?_) (fun i hi=>?_) (fun i x hi=>?_) (fun i j v hi hv=>?_)
       ·
        intro q; rw [q] at hlm; simp at hlm; omega
       ·
        rw [List.getElem?_map,Option.map_eq_some_iff] at hi
        obtain ⟨y,_,rfl⟩:=hi
        exact hsz y
       ·
        exact (xA (hfg i (by rw [hlm] at hi; exact hi)).2.1).1
       ·
        rw [List.getElem?_map,Option.map_eq_some_iff] at hi
        obtain ⟨y,hy,rfl⟩:=hi
        obtain ⟨h1,rfl⟩:=hli i y hy
        exact (hfg i h1).2.2.Mc
       ·
        rw [hlm] at hi
        have:=(xA (hfg i hi).2.1).2 j v hv
        refine ⟨?_,fun q=>q⟩
        rw [← this]
        congr 1
        have hz:∀ (b:Addr) (m:Nat),b.spot=none→b.add m=⟨b.block,b.off + m,none⟩:=fun b m hb=>by
         obtain ⟨b1,b2,b3⟩:=b
         cases hb
         cases m <;> simp [Addr.add]
        rw [hz a _ hspot,hz _ j rfl]
      rw [hlm] at key
      exact key
   ·
    cases h
def Cf (P:Program) (fs:List Field) (off tot:Nat) {β:Type} (enc:β→List D) (wf:β→Prop):Prop :=
 ∀ {H:Type} (en:TypeId × Value→H) (w:World) (base:Nat) (sp:Nat→Bool) (held:Bool) (fuel:Nat) (cs:List Value) (xs:List (DataW H × List MemPlace)),
  (fs.mapM fun f=>DataW.trod en P w base sp held fuel f.type ((cs.drop f.offset).take (P.cellsOf f.type)))=some xs→∃ y,wf y∧qg w (enc y) ((cs.drop off).take tot)
theorem Cf.nil {P:Program} {off:Nat}:Cf P [] off 0 (fun _:Unit=>[]) (fun _=>True) :=
 fun en w base sp held fuel cs xs h=>⟨(),trivial,by simpa using qg.nil⟩
theorem Cf.cons {P:Program} {f:Field} {fs:List Field} {off sz tot:Nat} {α β:Type} {enc:α→D} {wf:α→Prop} {enc2:β→List D} {wf2:β→Prop}
  (ho:f.offset=off) (hz:P.cellsOf f.type=sz) (h:qL P f.type enc wf) (k:Cf P fs (off + sz) tot enc2 wf2) :
  Cf P (f :: fs) off (sz + tot) (fun p:α × β=>(enc p.1).cells ++ enc2 p.2) (fun p=>wf p.1∧wf2 p.2):=by
 intro H en w base sp held fuel cs xs hx
 simp only [List.mapM_cons,Option.pure_def,Option.bind_eq_bind,Option.bind_eq_some_iff] at hx
 obtain ⟨x,hx,ys,hys,_⟩:=hx
 rw [ho,hz] at hx
 obtain ⟨a,a1,a2⟩:=h en w base sp held fuel _ x.1 x.2 hx
 obtain ⟨b,b1,b2⟩:=k en w base sp held fuel cs ys hys
 refine ⟨(a,b),⟨a1,b1⟩,?_⟩
 rw [List.take_add,List.drop_drop]
 exact a2.append b2
theorem qL.struct {P:Program} {t tot:Nat} {fs:Array Field} {α β:Type} {enc:α→D} {wf:α→Prop} {enc2:β→List D} {wf2:β→Prop} (hu:P.underlying t=some (.struct fs)) (hz:P.cellsOf t=tot)
  (h:Cf P fs.toList 0 tot enc2 wf2) (g:β→α) (hg:∀ y,(enc (g y)).cells=enc2 y) (hw:∀ y,wf2 y→wf (g y)):qL P t enc wf:=by
 intro H en w base sp held fuel cs d p hd
 cases fuel with
 | zero=>cases hd
 | succ fuel =>
  simp only [DataW.trod,hu] at hd
  split at hd
  ·
   rename_i hc
   simp only [Option.map_eq_some_iff] at hd
   obtain ⟨xs,hxs,_⟩:=hd
   obtain ⟨y,y1,y2⟩:=h en w base sp held fuel cs xs hxs
   refine ⟨g y,hw y y1,?_⟩
   rw [hg y]
   rw [hz] at hc
   simpa [← hc] using y2
  ·
   cases hd
theorem MV {P:Program} {t:Nat} {fs:Array Field} {α:Type} {enc:α→D} {wf:α→Prop} (hu:P.underlying t=some (.struct fs)) (O:qL P t enc wf) (ha:∀ x,(enc x).isAgg=true)
  {H:Type} {en:TypeId × Value→H} {w:World} {base b0:Nat} {sp:Nat→Bool} {held:Bool} {v:Value} {d:DataW H} {p:List MemPlace} {r:Reach} (hval:Value.okWide P w r b0 t v) (hd:DataW.Trod en P w base sp held t v d p) :
  ∃ x,wf x∧bT w Iz (enc x) v:=by
 unfold Value.okWide at hval
 rw [hu] at hval
 obtain ⟨cs,rfl,_,_⟩:=hval
 obtain ⟨fuel,hf⟩:=hd
 obtain ⟨x,x1,x2⟩:=O en w base sp held fuel _ d p hf
 exact ⟨x,x1,x2.Mc,ha x⟩
theorem N9 {P:Program} {t:Nat} {α:Type} {enc:α→D} {wf:α→Prop} (O:qL P t enc wf) (ha:∀ x,(enc x).isAgg=false)
  {H:Type} {en:TypeId × Value→H} {w:World} {base b0:Nat} {sp:Nat→Bool} {held:Bool} {v:Value} {d:DataW H} {p:List MemPlace} (hval:wU v=false) (hd:DataW.Trod en P w base sp held t v d p) :
  ∃ x,wf x∧bT w Iz (enc x) v:=by
 obtain ⟨fuel,hf⟩:=hd
 obtain ⟨x,x1,x2⟩:=O en w base sp held fuel _ d p hf
 exact ⟨x,x1,x2.Mc,by rw [hval]; exact ha x⟩
end
end Go.Ev

namespace Go.Ev
noncomputable section
set_option linter.unusedVariables false
set_option linter.unusedSimpArgs false
variable {R:dm} {C:gG} {P:Program}
theorem eQ.KY {f:Nat} {p:Prim} (h:Dt R P f p) {args:List AV} {S S':St} {v:AV} (hp:p args S=some (v,S')):eQ R P f args S (fun r=>r=(none,v,S')):=by
 obtain ⟨h1,h2⟩:=h.calls args S v S' hp
 refine ⟨h1,fun cx w us q1 q2 q3=>(h2 cx w us q1 q2 q3).mono (fun e w' ⟨cx',k1,k2,u,k3,k4⟩=>⟨_,rfl,cx',k1,k2,u,k3,k4⟩)⟩
theorem bN.Oc {f:Nat} {spec:List D→Option AV} (h:Dt R P f (qm spec)) {ds:List D} {v:AV} (hv:spec ds=some v):bN R P f ds v:=fun args S ha=>by
 have hp:qm spec (ds.map .d) S=some (v,S):=by
  unfold qm
  rw [CZ]
  simp [hv]
 exact (eQ.KY h hp).uY ha.Jz
theorem KI (hR:ObjOk R) {f:Nat} {ds:List D} {x:D} (h:bN R P f ds (.d x)) (w:World) (hG:R.G w (fun _ _=>False)) (us:List Value) (hl:us.length=ds.length)
  (hr:∀ (i:Nat) (y:D) (u:Value),ds[i]? = some y→us[i]? = some u→bT w (fun _ _=>False) y u) :
  Calls P f us.toArray w (fun e w'=>∃ u,e=.returned u∧bT w' (fun _ _=>False) x u∧RowKit.Below w.heap.size w w'):=by
 let cx:Cx:={ bm:=fun _=>0,fp:=fun _ _=>False,tsz:=fun _=>0,tot:=fun _=>0,fr:=fun _ _=>False }
 have hS:bD R cx aF w:=⟨fun id hl=>absurd rfl hl,fun id b hb=>by simp [aF,AL.get] at hb,fun id g cs hb=>by simp [aF,AL.get] at hb,fun id es hb=>by simp [aF,AL.get] at hb,
  fun id k x hb=>by simp [aF,AL.get] at hb,fun id en hb=>by simp [aF,AL.get] at hb,fun id id' b hl=>absurd rfl hl,fun b o q=>q.elim,hG⟩
 have h2:=(h (ds.map .d) aF ⟨ds,CZ ds,.refl ds⟩).2
 refine (h2 cx w us hS (by simp [hl]) (fun i y u hy hu=>?_)).mono (fun e w' he=>?_)
 ·
  simp only [List.getElem?_map,Option.map_eq_some_iff] at hy
  obtain ⟨z,hz,rfl⟩:=hy
  exact .d z u (hr i z u hz hu)
 ·
  obtain ⟨r,rfl,cx',k1,k2,k3⟩:=he
  obtain ⟨u,rfl,k3⟩:=k3
  obtain ⟨m1,m2,m3⟩:=BQ hR hS k2
  exact ⟨u,rfl,m3 _ _ k3.dd,⟨m2.os,m2.tape,m2.output,m2.size,fun b hb=>(k2.other b hb (fun id hl=>absurd rfl hl)).1⟩⟩
end
end Go.Ev

namespace Go.Ev
noncomputable section
set_option linter.unusedVariables false
set_option linter.unusedSimpArgs false
variable {R:dm} {P:Program} {B:St}
theorem Fg {S:St} {id:Nat}:live S id↔S.H.get id ≠ none∨S.T.get id ≠ none:=by
 unfold live cur
 cases hH:S.H.get id with
 | none=>simp
 | some b=>cases b <;> simp
def without (S:St) (ids:List Nat):St:=ids.foldl (fun S id=>{ S with H:=S.H.del id,T:=S.T.del id }) S
theorem sU:∀ (ids:List Nat) (S:St),(without S ids).nx=S.nx
 | [],S=>rfl
 | id :: l,S=>sU l { S with H:=S.H.del id,T:=S.T.del id }
theorem nK:∀ (ids:List Nat) (S:St) (k:Nat),(without S ids).H.get k=if k ∈ ids then none else S.H.get k
 | [],S,k=>by simp [without]
 | id :: l,S,k=>by
  show (without { S with H:=S.H.del id,T:=S.T.del id } l).H.get k=_
  rw [nK l]
  simp only [AL.yU]
  by_cases h1:k ∈ l
  ·
   simp [h1]
  ·
   by_cases h2:id=k
   ·
    subst h2; simp
   ·
    simp [h1,h2,Ne.symm h2]
theorem nZ:∀ (ids:List Nat) (S:St) (k:Nat),(without S ids).T.get k=if k ∈ ids then none else S.T.get k
 | [],S,k=>by simp [without]
 | id :: l,S,k=>by
  show (without { S with H:=S.H.del id,T:=S.T.del id } l).T.get k=_
  rw [nZ l]
  simp only [AL.yU]
  by_cases h1:k ∈ l
  ·
   simp [h1]
  ·
   by_cases h2:id=k
   ·
    subst h2; simp
   ·
    simp [h1,h2,Ne.symm h2]
theorem dI.there {S:St} {a:dI} (h:a.ok S):∀ id ∈ a.fp,S.H.get id ≠ none∨S.T.get id ≠ none:=fun id hid=>by
 cases a with
 | box i cs=>simp only [dI.fp,List.mem_singleton] at hid; subst hid; left; rw [show S.H.get id=_ from h]; simp
 | obj i k x=>simp only [dI.fp,List.mem_singleton] at hid; subst hid; left; rw [show S.H.get id=_ from h]; simp
 | map i m=>simp only [dI.fp,List.mem_singleton] at hid; subst hid; left; rw [show S.H.get id=_ from h]; simp
 | grow v xs =>
  cases v <;> simp only [dI.fp,List.not_mem_nil,List.mem_singleton] at hid
  subst hid
  right; rw [h.2.2.1]; simp
 | row sz v xs =>
  cases v <;> simp only [dI.fp,List.not_mem_nil,List.mem_singleton] at hid
  subst hid
  obtain ⟨cs,_,h8⟩:=h.2.2.2.2.2.2
  left; rw [h8]; simp
 | abs ids p=>obtain ⟨b,hb⟩:=h.1 id hid; left; rw [hb]; simp
theorem Has.frame {S:St} {l1 l2:List dI} (H:Has B S (l1 ++ l2)):∃ B',Has B' S l1∧∀ S' l1',Has B' S' l1'→(∀ id b,S'.H.get id=some b→S'.T.get id=none)→Has B S' (l1' ++ l2):=by
 let ids:=(l1.map dI.fp).flatten
 let B':=without S ids
 have hmem:∀ a ∈ l1,∀ id ∈ a.fp,id ∈ ids:=fun a ha id hid=>List.mem_flatten.2 ⟨_,List.mem_map.2 ⟨a,ha,rfl⟩,hid⟩
 have hnd:=H.nd
 rw [List.map_append,List.flatten_append,List.nodup_append] at hnd
 have hnot:∀ a ∈ l2,∀ id ∈ a.fp,id ∉ ids:=fun a ha id hid hq =>
  hnd.2.2 id hq id (List.mem_flatten.2 ⟨_,List.mem_map.2 ⟨a,ha,rfl⟩,hid⟩) rfl
 have hBids:∀ id ∈ ids,B.H.get id=none∧B.T.get id=none:=fun id hid=>by
  obtain ⟨KQ,h1,h2⟩:=List.mem_flatten.1 hid
  obtain ⟨a,ha,rfl⟩:=List.mem_map.1 h1
  exact H.out a (List.mem_append_left _ ha) id h2
 have hwf:B'.Wf:=fun id hl=>by
  show id < B'.nx
  rw [sU]
  refine H.wf id (Fg.2 ?_)
  rcases Fg.1 hl with h | h
  ·
   rw [nK] at h
   split at h
   ·
    exact absurd rfl h
   ·
    exact .inl h
  ·
   rw [nZ] at h
   split at h
   ·
    exact absurd rfl h
   ·
    exact .inr h
 refine ⟨B',⟨H.wf,fun a ha=>H.ok a (List.mem_append_left _ ha),hnd.1,hwf,⟨by rw [sU]; exact Nat.le_refl _,fun id b hb=>?_,fun id n hn=>?_⟩,fun a ha id hid=>?_⟩,fun S' l1' K hdis=>?_⟩
 ·
  rw [nK] at hb
  split at hb
  ·
   cases hb
  ·
   exact hb
 ·
  rw [nZ] at hn
  split at hn
  ·
   cases hn
  ·
   exact hn
 ·
  have:=hmem a ha id hid
  rw [nK,nZ,if_pos this,if_pos this]; exact ⟨rfl,rfl⟩
 ·
  have keepH:∀ id b,id ∉ ids→S.H.get id=some b→S'.H.get id=some b:=fun id b hn hb=>K.keeps.H id b (by rw [nK,if_neg hn]; exact hb)
  have keepT:∀ id n,id ∉ ids→S.T.get id=some n→S'.T.get id=some n:=fun id b hn hb=>K.keeps.T id b (by rw [nZ,if_neg hn]; exact hb)
  have hok2:∀ a ∈ l2,a.ok S':=fun a ha=>by
   have hok:=H.ok a (List.mem_append_right _ ha)
   have hn:=hnot a ha
   cases a with
   | box id cs=>exact keepH _ _ (hn _ (by simp [dI.fp])) hok
   | obj id k x=>exact keepH _ _ (hn _ (by simp [dI.fp])) hok
   | map id m=>exact keepH _ _ (hn _ (by simp [dI.fp])) hok
   | grow v xs =>
    cases v with
    | tsl ys tok =>
     obtain ⟨h1,h2,h3,h4⟩:=hok
     have h3':=keepT _ _ (hn tok (by simp [dI.fp])) h3
     refine ⟨h1,h2,h3',?_⟩
     cases hb:S'.H.get tok with
     | none=>rfl
     | some b=>have:=hdis _ _ hb; rw [h3'] at this; cases this
    | d x=>cases x with
     | sl ys t=>cases t <;> exact hok
     | _=>exact hok
    | _=>exact hok
   | row sz v xs =>
    cases v with
    | msl id g off len lim sz' =>
     obtain ⟨h1,h2,h3,h4,h5,h6,cs,h7,h8⟩:=hok
     exact ⟨h1,h2,h3,h4,h5,h6,cs,h7,keepH _ _ (hn id (by simp [dI.fp])) h8⟩
    | d x=>cases x with
     | sl ys t=>cases ys <;> cases t <;> exact hok
     | _=>exact hok
    | _=>exact hok
   | abs ids' p=>exact dI.NF hok (fun id b hid hb=>keepH _ _ (hn id hid) hb)
  refine ⟨K.wf,fun a ha=>?_,?_,H.bwf,⟨?_,fun id b hb=>?_,fun id n hn=>?_⟩,fun a ha id hid=>?_⟩
  ·
   rcases List.mem_append.1 ha with ha | ha
   ·
    exact K.ok a ha
   ·
    exact hok2 a ha
  ·
   rw [List.map_append,List.flatten_append,List.nodup_append]
   refine ⟨K.nd,hnd.2.1,fun a ha b hb hab=>?_⟩
   subst hab
   obtain ⟨KQ,h1,h2⟩:=List.mem_flatten.1 ha
   obtain ⟨x,hx,rfl⟩:=List.mem_map.1 h1
   obtain ⟨KQ,h3,h4⟩:=List.mem_flatten.1 hb
   obtain ⟨y,hy,rfl⟩:=List.mem_map.1 h3
   obtain ⟨o1,o2⟩:=K.out x hx a h2
   have hn:=hnot y hy a h4
   rw [nK,if_neg hn] at o1
   rw [nZ,if_neg hn] at o2
   rcases dI.there (H.ok y (List.mem_append_right _ hy)) a h4 with q | q
   ·
    exact q o1
   ·
    exact q o2
  ·
   have:=K.keeps.nx
   rw [sU] at this
   exact Nat.le_trans H.keeps.nx this
  ·
   exact keepH id b (fun q=>by rw [(hBids id q).1] at hb; cases hb) (H.keeps.H id b hb)
  ·
   exact keepT id n (fun q=>by rw [(hBids id q).2] at hn; cases hn) (H.keeps.T id n hn)
  ·
   rcases List.mem_append.1 ha with ha | ha
   ·
    obtain ⟨o1,o2⟩:=K.out a ha id hid
    by_cases hq:id ∈ ids
    ·
     exact hBids id hq
    ·
     rw [nK,if_neg hq] at o1
     rw [nZ,if_neg hq] at o2
     refine ⟨?_,?_⟩
     ·
      cases hb:B.H.get id with
      | none=>rfl
      | some b=>have:=H.keeps.H _ _ hb; rw [o1] at this; cases this
     ·
      cases hb:B.T.get id with
      | none=>rfl
      | some b=>have:=H.keeps.T _ _ hb; rw [o2] at this; cases this
   ·
    exact H.out a (List.mem_append_right _ ha) id hid
theorem BR.jk {cx:Cx} {S2 S:St} {w:World} {p:Option AV} {v:AV} {e:Ending} (k:lT S2 S) (h:BR cx S w p v e):BR cx S2 w p v e:=by
 cases p with
 | none=>obtain ⟨u,h1,h2⟩:=h; exact ⟨u,h1,h2.jk k⟩
 | some p=>obtain ⟨u,h1,h2⟩:=h; exact ⟨u,h1,h2.jk k⟩
theorem Ext.Dh {cx cx':Cx} {S S' S2:St} {w w':World} (k:lT S2 S') (e:Ext cx S w cx' S' w'):Ext cx S w cx' S2 w' where
 size:=e.size
 os:=e.os
 tape:=e.tape
 output:=e.output
 nx:=by rw [k.nx]; exact e.nx
 prot:=e.prot
 other:=fun b hb hn=>e.other b hb (fun id hl hf=>by
  obtain ⟨h1,g,h2,h3⟩:=hn id hl hf
  exact ⟨h1,g,h2,k.isIt.1 h3⟩)
 own:=fun id b hl hf=>e.own id b (k.live.1 hl) hf
 back:=fun id g hid h=>e.back id g hid (k.isIt.1 h)
 keep:=fun id g b hid h0 h hf=>e.keep id g b hid h0 (k.isIt.1 h) hf
 curs:=fun id g hid hc=>e.curs id g hid (by rw [← k.cur]; exact hc)
theorem eQ.Dh {f:Nat} {args:List AV} {S:St} {Q:Out→Prop} (h:eQ R P f args S (fun o=>∃ S2,lT S2 o.2.2∧Q (o.1,o.2.1,S2))):eQ R P f args S Q :=
 ⟨h.1,fun cx w us h1 h2 h3=>(h.2 cx w us h1 h2 h3).mono fun e w' ⟨r,⟨S2,k,q⟩,cx',m1,m2,m3⟩=>⟨_,q,cx',m1.jk k,m2.Dh k,m3.jk k⟩⟩
def Ef (R:dm) (P:Program) (f:Nat) (args:List AV) (ins:List dI) (res:AV→List dI→Prop):Prop :=
 ∀ B S,Has B S ins→eQ R P f args S (fun o=>o.1=none∧∃ v l,Less v o.2.1∧res v l∧Has B o.2.2 l)
section
variable {C:gG} {nt:Nat}
theorem Ef.of_wp {f:Nat} {fn:Func} {c:Code} (hf:C.P.funcs[f]? = some fn) (hc:fn.body=some c) (hn:(fn.name == "runtime.NumGoroutine")=false) {args:List AV} (hle:Nat.ble args.length fn.ntmps=true) {ins:List dI} {res:AV→List dI→Prop}
  (h:∀ B S,Has B S ins→ax R C.P fn.ntmps c (rf 0 args) S (JU C fn (fun o=>o.1=none∧∃ v l S2,lT S2 o.2.2∧Less v o.2.1∧res v l∧Has B S2 l))):Ef R C.P f args ins res:=fun B S hB=>by
 refine eQ.Dh ((eQ.of_wp hf hc hn (Nat.le_of_ble_eq_true hle) (h B S hB)).mono fun o ho=>?_)
 obtain ⟨h1,v,l,S2,h2,h3,h4,h5⟩:=ho
 exact ⟨S2,h2,h1,v,l,h3,h4,h5⟩
section steps
variable {ops:Array Oper} {rest:List Oper} {e:Env} {S S':St} {Q:Stp→Prop} {l l':List dI} {t ty:Nat} {p:String} {af:Array Edge} {g:Option (Nat × Bool)} {x y:Operand} {v:AV}
theorem ae.OW {op:Op} {f:Nat} {args args':List AV} {ins more:List dI} {res:AV→List dI→Prop} (H:Has B S (ins ++ more)) (hw:bV ops e { dst:=some t,op:=op,type:=ty,pos:=p,after:=af,guard:=g }=some true) (ho:oper C (dB e) S op=some (.call f args)) (hs:Ef R C.P f args' ins res) (ha:gm args' args) (ht:Nat.blt t nt=true)
  (k:∀ v S' l',res v l'→Has B S' (l' ++ more)→ae R C nt ops rest ((t,v) :: e) S' Q) :
  ae R C nt ops ({ dst:=some t,op:=op,type:=ty,pos:=p,after:=af,guard:=g } :: rest) e S Q:=by
 obtain ⟨B',h1,h2⟩:=H.frame
 refine ae.one hw (.inr (.inr (.inl ⟨f,args,ho,((hs B' S h1).uY ha).tK.mono fun r hr=>?_⟩)))
 obtain ⟨p,w,S'⟩:=r
 obtain ⟨⟨q1,v,l',q2,q3,q4⟩,hd⟩:=hr
 simp only at q1 q2 q3 q4 hd
 subst q1
 exact ⟨_,by simp only [Env.put,ht,cond_true],ae.weak (aa.top q2) (k v S' l' q3 (h2 S' l' q4 hd))⟩
end steps
end
theorem Ba {C:gG} {ρ:Operand→Option AV} {S:St} {x:Operand} {i g o:Nat} (hx:ρ x=some (.ptr i g o)):oper C ρ S (.nilCheck x)=some (.val (.ptr i g o) S):=by simp only [oper,hx]
end
end Go.Ev

namespace Go.Ev
noncomputable section
set_option linter.unusedVariables false
set_option linter.unusedSimpArgs false
variable {R:dm} {C:gG} {nt:Nat} {B:St}
def Dw (ops:Array Oper) (os done hs W:List Nat):Bool :=
 (os.all fun j=>!EH j W) && (List.range ops.size).all fun i=>EH i os || EH i done || (done.any fun d=>Nat.testBit ((Region.before ops).getD d 0) i) || (hs.any fun w=>Nat.beq i w || Nat.testBit ((Region.before ops).getD i 0) w)
def JM (R:dm) (C:gG) (nt:Nat) (ops:Array Oper) (srcs:List Src) (fin:Src) (e0:Env) (PQ:AV→St→Prop) (Q:Env→St→Prop):Nat→List Nat→List Nat→List (Option AV)→St→Prop
 | 0,W,done,ws,S=>W=[]∧∃ os,Dw ops os done [] W=true∧RL R C nt ops srcs e0 ws S os∧∃ E,qc ws e0 fin=some E∧Q E S
 | n + 1,W,done,ws,S=>∃ hs os,(hs ≠ []∧∀ h ∈ hs,h ∈ W)∧Dw ops os done hs W=true∧RL R C nt ops srcs e0 ws S os∧∀ i ∈ hs,∃ o e,ops[i]? = some o∧qc ws e0 (srcs.getD i [])=some e ∧
   PI R C nt ops S e o PQ (fun v S'=>∃ ws',q9 ws' ws∧(∀ t,o.dst=some t→∃ x,ws'[i]? = some (some x)∧Less x v)∧JM R C nt ops srcs fin e0 PQ Q n (W.erase i) (i :: done) ws' S')
theorem ax.AP (hR:jW R C) (hm:C.P.follows .mixedOrders=true) {id:Nat} {ops:Array Oper} (srcs:List Src) (fin:Src) (ht:GK ops nt srcs fin=true) (n0:Nat) (W:List Nat) (hWn:W.Nodup) {e0:Env} {S:St} (ws:List (Option AV)) {Q:vN→Prop}
  (h:JM R C nt ops srcs fin e0 (fun v S'=>Q (.panic v,e0,S')) (fun e' S'=>Q (.normal,e',S')) n0 W [] ws S):ax R C.P nt (.region id ops true) e0 S Q:=by
 simp only [GK,Bool.and_eq_true] at ht
 obtain ⟨⟨hr,hfin⟩,hall⟩:=ht
 have hsrc:∀ i,i < ops.size→Fh ops ((Region.before ops).getD i 0) i (srcs.getD i [])=true:=fun i hi=>by
  have:=List.all_eq_true.1 hall i (List.mem_range.2 hi)
  simp only [Bool.and_eq_true] at this
  exact this.1
 have hnt:∀ (k:Nat) (o:Oper) (t:Nat),ops[k]? = some o→o.dst=some t→t < nt:=fun k o t hk hd=>by
  have:=List.all_eq_true.1 hall k (List.mem_range.2 (Array.getElem?_eq_some_iff.1 hk).1)
  simp only [Bool.and_eq_true,hk,hd] at this
  exact Nat.le_of_ble_eq_true this.2.1
 have hnx:∀ (k:Nat) (o:Oper),ops[k]? = some o→∀ t,o.op ≠ .next (.tmp t) false:=fun k o hk t ho=>by
  have:=List.all_eq_true.1 hall k (List.mem_range.2 (Array.getElem?_eq_some_iff.1 hk).1)
  simp only [Bool.and_eq_true,hk,ho] at this
  cases this.2.2
 intro cx w a Kx hS he hk
 refine wp_region_any hm ?_
 obtain ⟨d1,d2⟩:=nU hR.toObjOk hS
 let Inv:Array Bool→Act→World→Prop:=fun listed a' w'=>a'.defers=a.defers∧∃ n' W' done ws' S' cx',JM R C nt ops srcs fin e0 (fun v S'=>Q (.panic v,e0,S')) (fun e' S'=>Q (.normal,e',S')) n' W' done ws' S'∧(∀ i ∈ done,listed.getD i false=true)∧(∀ i ∈ W',listed.getD i false=false)∧W'.Nodup ∧
  bD R cx' S' w'∧Ext cx S w cx' S' w'∧sW nt ops e0 listed ws' cx' S' w' a'
 have repf:∀ i,(Array.replicate ops.size false).getD i false=false:=fun i=>p9 _ _
 refine GH hr Inv ?_ ?_ ops.size (Array.replicate ops.size false) (by simp) (fun j hj=>by rw [repf] at hj; cases hj) ?_ ?_
 ·
  intro listed a' w' i o K hsz hcl hun hi hclo ⟨hd,n',W',done,ws',S',cx',hD,hdone,hW',hnd,s1,x1,env⟩ hK
  have hlt:i < ops.size:=(Array.getElem?_eq_some_iff.1 hi).1
  have rstep:∀ os,RL R C nt ops srcs e0 ws' S' os→i ∈ os→i ∉ W'→wpOp C.P ops Kx i K a' w':=fun os hrl hio hiw=>by
   obtain ⟨o2,x,e,h1,h2,h3,h4⟩:=hrl.get hio
   rw [hi] at h1; cases h1
   have hrel:=wu hr hcl env hlt hun hclo h3 (hsrc i hlt)
   refine Cn hR h4 s1 hrel (fun cx2 w2 u q1 q2 q3=>hK _ _ ⟨by rw [put_defers]; exact hd,n',W',done,ws',S',cx2,hD,fun j hj=>?_,fun j hj=>?_,hnd,q1,x1.trans q2,?_⟩) (hnx i o hi) hi
   ·
    by_cases hij:i=j
    ·
     subst hij; exact getD_set_true (hdone i hj)
    ·
     rw [getD_set_ne false hij]; exact hdone j hj
   ·
    have hij:i ≠ j:=fun q=>hiw (q ▸ hj)
    rw [getD_set_ne false hij]; exact hW' j hj
   ·
    exact sW.step hr hnt hsz hcl (fun k y _ hy=>⟨y,hy,.refl y⟩) env hi hun q2 (fun t ht=>⟨x,h2,q3 t ht⟩)
  have cov:∀ os hs,Dw ops os done hs W'=true→(i ∈ os∧i ∉ W')∨∃ w1 ∈ hs,(i=w1∨listed.getD w1 false=true):=fun os hs hc=>by
   simp only [Dw,Bool.and_eq_true] at hc
   obtain ⟨c1,c2⟩:=hc
   have:=List.all_eq_true.1 c2 i (List.mem_range.2 hlt)
   simp only [Bool.or_eq_true] at this
   rcases this with ((q | q) | q) | q
   ·
    left
    have hio:=rP.1 q
    refine ⟨hio,fun hiw=>?_⟩
    have:=List.all_eq_true.1 c1 i hio
    rw [rP.2 hiw] at this; cases this
   ·
    have:=hdone i (rP.1 q)
    rw [hun] at this; cases this
   ·
    obtain ⟨d,hd1,hd2⟩:=List.any_eq_true.1 q
    have hl:=hdone d hd1
    have hdlt:d < ops.size:=by
     rcases Nat.lt_or_ge d ops.size with q | q
     ·
      exact q
     ·
      have:listed.getD d false=false:=by simp [show listed.size ≤ d by omega]
      rw [hl] at this; cases this
    have:=hcl d hl i (p8 hr hdlt hd2) hd2
    rw [hun] at this; cases this
   ·
    right
    obtain ⟨w1,hw1,q⟩:=List.any_eq_true.1 q
    simp only [Bool.or_eq_true] at q
    exact ⟨w1,hw1,q.imp Nat.eq_of_beq_eq_true (fun q=>hclo w1 (p8 hr hlt q) q)⟩
  cases n' with
  | zero =>
   obtain ⟨_,os,hc,hrl,_⟩:=_root_.id hD
   rcases cov os [] hc with h | ⟨w1,h,_⟩
   ·
    exact rstep os hrl h.1 h.2
   ·
    cases h
  | succ n' =>
   obtain ⟨hs,os,hhs,hc,hrl,hall⟩:=_root_.id hD
   rcases cov os hs hc with h | ⟨w0,h,hq⟩
   ·
    exact rstep os hrl h.1 h.2
   ·
    have hw0:=hhs.2 w0 h
    rcases hq with rfl | hq
    ·
     obtain ⟨o2,e,h1,h2,h3⟩:=hall i h
     rw [hi] at h1; cases h1
     have hrel:=wu hr hcl env hlt hun hclo h2 (hsrc i hlt)
     refine BI hR h3 s1 hrel (fun v S2 cx2 w2 u hqv q1 q2 q3=>hk (.panic v,e0,S2) hqv cx2 a' w2 u q1 (x1.trans q2) q3 hd) (fun v S2 cx2 w2 u hqv q1 q2 q3=>?_) (hnx i o hi) hi
     obtain ⟨ws2,l1,l2,l3⟩:=hqv
     refine hK _ _ ⟨by rw [put_defers]; exact hd,n',W'.erase i,i :: done,ws2,S2,cx2,l3,fun j hj=>?_,fun j hj=>?_,hnd.erase i,q1,x1.trans q2,?_⟩
     ·
      by_cases hij:i=j
      ·
       subst hij
       have hlt':i < listed.size:=by omega
       simp [hlt']
      ·
       rw [getD_set_ne false hij]
       rcases List.mem_cons.1 hj with q | q
       ·
        exact absurd q.symm hij
       ·
        exact hdone j q
     ·
      have hj':=(List.Nodup.mem_erase_iff hnd).1 hj
      rw [getD_set_ne false (fun q=>hj'.1 q.symm)]; exact hW' j hj'.2
     ·
      exact sW.step hr hnt hsz hcl (fun k y _ hy=>l1.get hy) env hi hun q2 (fun t ht=>by
       obtain ⟨x,k1,k2⟩:=l2 t ht
       exact ⟨x,k1,k2 _ _ _ _ (q3 t ht)⟩)
    ·
     have:=hW' w0 hw0
     rw [hq] at this; cases this
 ·
  intro listed a' w' hall' ⟨hd,n',W',done,ws',S',cx',hD,hdone,hW',hnd,s1,x1,env⟩
  cases n' with
  | zero =>
   obtain ⟨_,os,hc,hrl,E,hE,hQ⟩:=hD
   exact hk (.normal,E,S') hQ cx' a' w' s1 x1 (EO hall' env hE hfin) hd
  | succ n' =>
   obtain ⟨hs,os,hhs,hc,hrl,hall⟩:=hD
   obtain ⟨w0,hw0⟩:=List.exists_mem_of_ne_nil hs hhs.1
   obtain ⟨o2,e,h1,h2,h3⟩:=hall w0 hw0
   have:=hall' w0 (Array.getElem?_eq_some_iff.1 h1).1
   rw [hW' w0 (hhs.2 w0 hw0)] at this; cases this
 ·
  have:((List.range ops.size).filter fun i=>!(Array.replicate ops.size false).getD i false)=List.range ops.size:=by
   rw [List.filter_eq_self]; intro i hi; rw [repf]; rfl
  rw [this]; simp
 ·
  refine ⟨rfl,n0,W,[],ws,S,cx,h,fun i hi=>(by cases hi),fun i hi=>repf i,hWn,d1,d2,he.size,fun k o t _ _ hl _=>?_,fun t x hx _=>?_⟩
  ·
   rw [repf] at hl; cases hl
  ·
   obtain ⟨v,v1,v2⟩:=he.rel t x hx
   exact ⟨v,v1,v2.mono d2⟩
end
end Go.Ev

namespace Go.Ev
noncomputable section
set_option linter.unusedVariables false
set_option linter.unusedSimpArgs false
variable {R:dm} {P:Program} {B:St}
section
variable {C:gG} {nt:Nat} {α:Type} {FT:Nat}
section steps
variable {ops:Array Oper} {rest:List Oper} {e:Env} {S S':St} {Q:Stp→Prop} {l l':List dI} {t ty:Nat} {p:String} {af:Array Edge} {g:Option (Nat × Bool)} {x y:Operand} {v:AV}
end steps
end
end
end Go.Ev

namespace Go.Ev
noncomputable section
set_option linter.unusedVariables false
set_option linter.unusedSimpArgs false
variable {R:dm} {C:gG} {nt:Nat} {B:St}
section steps
variable {ops:Array Oper} {rest:List Oper} {e:Env} {S S':St} {Q:Stp→Prop} {l l':List dI} {t ty:Nat} {p:String} {af:Array Edge} {g:Option (Nat × Bool)} {x y:Operand} {v:AV}
theorem ae.qQ {α:Type} {enc:α→D} {xs:List α} {i sz off:Nat} {n:Int} {z:α} (H:Has B S l) (hi:l[i]? = some (.row sz v (xs.map enc))) (hz:idx xs n=some z) (hw:bV ops e { dst:=some t,op:=.nilCheck x,type:=ty,pos:=p,after:=af,guard:=g }=some true) (h:dB e x=some (iF v n.toNat off)) (ht:Nat.blt t nt=true)
  (k:ae R C nt ops rest ((t,iF v n.toNat off) :: e) S Q) :
  ae R C nt ops ({ dst:=some t,op:=.nilCheck x,type:=ty,pos:=p,after:=af,guard:=g } :: rest) e S Q:=by
 have hd:(xs.map enc)[n.toNat]? = some (enc z):=by rw [List.getElem?_map,(kC hz).2]; rfl
 obtain ⟨id,g',len,lim,sz',hv,hp⟩:=uD H hi hd off
 rw [hp] at h k
 exact ae.val hw (Ba h) ht k
end steps
section raw
variable {P:Program} {ops:Array Oper} {a:Act} {w:World} {o1 o2:Oper}
end raw
end
end Go.Ev

namespace Go.Ev
namespace Pr
set_option linter.unusedVariables false
set_option linter.unusedSimpArgs false
structure Attr where
 Name:Str
 Value:Str
 deriving DecidableEq
def aR (x:Attr):D:=.agg [(.str x.Name),(.str x.Value)]
theorem Attr.eq (x:Attr):aR x=.agg [(.str x.Name),(.str x.Value)]:=rfl
theorem Attr.cells (x:Attr):(aR x).cells=[(.str x.Name),(.str x.Value)]:=by rw [Attr.eq]; rfl
theorem Attr.agg (x:Attr):(aR x).isAgg=true:=by rw [Attr.eq]; rfl
theorem Attr.len (x:Attr):(aR x).cells.length=2:=by rw [Attr.cells]; rfl
theorem Attr.cn (x:Attr):(aR x).cn=aR x:=by
 rw [Attr.eq]
 exact Kj (by
  intro d hd
  simp only [List.mem_cons,List.not_mem_nil,or_false] at hd
  rcases hd with rfl | rfl
  ·
   exact rfl
  ·
   exact rfl)
theorem Attr.gT {P:Program} {t:Nat} {x:Attr} (ha:eO P t=some true) (hz:aL P t=2):iR P t (aR x).cells 0=some (aR x):=by
 rw [Attr.cells,lF ha hz rfl,Attr.eq]; rfl
def Attr.beq (x y:Attr):Bool:=((x.Name == y.Name) && ((x.Value == y.Value) && true))
structure dx where
 Kind:Int
 N:Int
 Tag:Str
 Text:Str
 bR:(List Attr)
def eH (x:dx):D:=.agg [(.int .i64 x.Kind),(.int .i64 x.N),(.str x.Tag),(.str x.Text),(.sl ((x.bR).map aR) false),.aO]
theorem dx.eq (x:dx):eH x=.agg [(.int .i64 x.Kind),(.int .i64 x.N),(.str x.Tag),(.str x.Text),(.sl ((x.bR).map aR) false),.aO]:=rfl
theorem dx.cells (x:dx):(eH x).cells=[(.int .i64 x.Kind),(.int .i64 x.N),(.str x.Tag),(.str x.Text),(.sl ((x.bR).map aR) false),.aO]:=by rw [dx.eq]; rfl
theorem dx.bf (x:dx):(AV.d (eH x)).cells=[.d (.int .i64 x.Kind),.d (.int .i64 x.N),.d (.str x.Tag),.d (.str x.Text),.d (.sl ((x.bR).map aR) false),.d .aO]:=by rw [dx.eq]; rfl
theorem dx.agg (x:dx):(eH x).isAgg=true:=by rw [dx.eq]; rfl
theorem dx.len (x:dx):(eH x).cells.length=6:=by rw [dx.cells]; rfl
theorem dx.gT {P:Program} {t:Nat} {x:dx} (ha:eO P t=some true) (hz:aL P t=6):iR P t (eH x).cells 0=some (eH x):=by
 rw [dx.cells,lF ha hz rfl,dx.eq]; rfl
structure Seg where
 Kind:Int
 Text:Str
 deriving DecidableEq
def bB (x:Seg):D:=.agg [(.int .i64 x.Kind),(.str x.Text)]
theorem Seg.eq (x:Seg):bB x=.agg [(.int .i64 x.Kind),(.str x.Text)]:=rfl
theorem Seg.cells (x:Seg):(bB x).cells=[(.int .i64 x.Kind),(.str x.Text)]:=by rw [Seg.eq]; rfl
theorem Seg.bf (x:Seg):(AV.d (bB x)).cells=[.d (.int .i64 x.Kind),.d (.str x.Text)]:=by rw [Seg.eq]; rfl
theorem Seg.agg (x:Seg):(bB x).isAgg=true:=by rw [Seg.eq]; rfl
theorem Seg.len (x:Seg):(bB x).cells.length=2:=by rw [Seg.cells]; rfl
theorem Seg.gT {P:Program} {t:Nat} {x:Seg} (ha:eO P t=some true) (hz:aL P t=2):iR P t (bB x).cells 0=some (bB x):=by
 rw [Seg.cells,lF ha hz rfl,Seg.eq]; rfl
def Seg.beq (x y:Seg):Bool:=((x.Kind == y.Kind) && ((x.Text == y.Text) && true))
structure aH where
 Kind:Int
 Flag:Int
 To:Str
 deriving DecidableEq
def kS (x:aH):D:=.agg [(.int .i64 x.Kind),(.int .i64 x.Flag),(.str x.To)]
theorem aH.eq (x:aH):kS x=.agg [(.int .i64 x.Kind),(.int .i64 x.Flag),(.str x.To)]:=rfl
theorem aH.cells (x:aH):(kS x).cells=[(.int .i64 x.Kind),(.int .i64 x.Flag),(.str x.To)]:=by rw [aH.eq]; rfl
theorem aH.bf (x:aH):(AV.d (kS x)).cells=[.d (.int .i64 x.Kind),.d (.int .i64 x.Flag),.d (.str x.To)]:=by rw [aH.eq]; rfl
theorem aH.agg (x:aH):(kS x).isAgg=true:=by rw [aH.eq]; rfl
def aH.beq (x y:aH):Bool:=((x.Kind == y.Kind) && ((x.Flag == y.Flag) && ((x.To == y.To) && true)))
structure ak where
 Name:Str
 Parent:Int
 dX:(List Seg)
 aJ:Int
 fT:Bool
 aH:aH
def aB (x:ak):D:=.agg [(.str x.Name),(.int .i64 x.Parent),(.sl ((x.dX).map bB) false),(.int .i64 x.aJ),(.bool x.fT),(.int .i64 x.aH.Kind),(.int .i64 x.aH.Flag),(.str x.aH.To)]
theorem ak.eq (x:ak):aB x=.agg [(.str x.Name),(.int .i64 x.Parent),(.sl ((x.dX).map bB) false),(.int .i64 x.aJ),(.bool x.fT),(.int .i64 x.aH.Kind),(.int .i64 x.aH.Flag),(.str x.aH.To)]:=rfl
theorem ak.cells (x:ak):(aB x).cells=[(.str x.Name),(.int .i64 x.Parent),(.sl ((x.dX).map bB) false),(.int .i64 x.aJ),(.bool x.fT),(.int .i64 x.aH.Kind),(.int .i64 x.aH.Flag),(.str x.aH.To)]:=by rw [ak.eq]; rfl
theorem ak.bf (x:ak):(AV.d (aB x)).cells=[.d (.str x.Name),.d (.int .i64 x.Parent),.d (.sl ((x.dX).map bB) false),.d (.int .i64 x.aJ),.d (.bool x.fT),.d (.int .i64 x.aH.Kind),.d (.int .i64 x.aH.Flag),.d (.str x.aH.To)]:=by rw [ak.eq]; rfl
theorem ak.agg (x:ak):(aB x).isAgg=true:=by rw [ak.eq]; rfl
theorem ak.flat (x:ak):jQ (aB x).cells=true:=by rw [ak.cells]; rfl
theorem ak.len (x:ak):(aB x).cells.length=8:=by rw [ak.cells]; rfl
theorem ak.gT {P:Program} {t:Nat} {x:ak} (ha:eO P t=some true) (hz:aL P t=8):iR P t (aB x).cells 0=some (aB x):=by
 rw [ak.cells,lF ha hz rfl,ak.eq]; rfl
structure gQ where
 Parents:(List Int)
 Kinds:(List Int)
 Texts:(List Int)
 Rules:(List Int)
 Flags:(List Int)
 fq:(List Int)
 Comps:(List Int)
def lg (x:gQ):D:=.agg [(.sl ((x.Parents).map (D.int .i64)) false),(.sl ((x.Kinds).map (D.int .i64)) false),(.sl ((x.Texts).map (D.int .i64)) false),(.sl ((x.Rules).map (D.int .i64)) false),(.sl ((x.Flags).map (D.int .i64)) false),(.sl ((x.fq).map (D.int .i64)) false),(.sl ((x.Comps).map (D.int .i64)) false)]
theorem gQ.eq (x:gQ):lg x=.agg [(.sl ((x.Parents).map (D.int .i64)) false),(.sl ((x.Kinds).map (D.int .i64)) false),(.sl ((x.Texts).map (D.int .i64)) false),(.sl ((x.Rules).map (D.int .i64)) false),(.sl ((x.Flags).map (D.int .i64)) false),(.sl ((x.fq).map (D.int .i64)) false),(.sl ((x.Comps).map (D.int .i64)) false)]:=rfl
theorem gQ.cells (x:gQ):(lg x).cells=[(.sl ((x.Parents).map (D.int .i64)) false),(.sl ((x.Kinds).map (D.int .i64)) false),(.sl ((x.Texts).map (D.int .i64)) false),(.sl ((x.Rules).map (D.int .i64)) false),(.sl ((x.Flags).map (D.int .i64)) false),(.sl ((x.fq).map (D.int .i64)) false),(.sl ((x.Comps).map (D.int .i64)) false)]:=by rw [gQ.eq]; rfl
theorem gQ.bf (x:gQ):(AV.d (lg x)).cells=[.d (.sl ((x.Parents).map (D.int .i64)) false),.d (.sl ((x.Kinds).map (D.int .i64)) false),.d (.sl ((x.Texts).map (D.int .i64)) false),.d (.sl ((x.Rules).map (D.int .i64)) false),.d (.sl ((x.Flags).map (D.int .i64)) false),.d (.sl ((x.fq).map (D.int .i64)) false),.d (.sl ((x.Comps).map (D.int .i64)) false)]:=by rw [gQ.eq]; rfl
theorem gQ.agg (x:gQ):(lg x).isAgg=true:=by rw [gQ.eq]; rfl
inductive aK where
 | mk (Kind:Int) (N:Int) (Tag:Str) (Text:Str) (bR:(List Attr)) (Kids:(List aK))
def aK.Kind:aK→Int | .mk x _ _ _ _ _=>x
def aK.N:aK→Int | .mk _ x _ _ _ _=>x
def aK.Tag:aK→Str | .mk _ _ x _ _ _=>x
def aK.Text:aK→Str | .mk _ _ _ x _ _=>x
def aK.bR:aK→(List Attr) | .mk _ _ _ _ x _=>x
def aK.Kids:aK→(List aK) | .mk _ _ _ _ _ x=>x
mutual
def aG:aK→D
 | .mk x0 x1 x2 x3 x4 x5=>.agg [(.int .i64 x0),(.int .i64 x1),(.str x2),(.str x3),(.sl ((x4).map aR) false),.sl (sM x5) false]
def sM:List aK→List D
 | []=>[]
 | x :: l=>aG x :: sM l
end
theorem yE:∀ (l:List aK),sM l=l.map aG
 | []=>rfl
 | x :: l=>by rw [sM,yE l]; rfl
theorem aK.eq (x:aK):aG x=.agg [(.int .i64 x.Kind),(.int .i64 x.N),(.str x.Tag),(.str x.Text),(.sl ((x.bR).map aR) false),(.sl ((x.Kids).map aG) false)]:=by
 cases x
 rw [aG,yE]
 rfl
theorem aK.cells (x:aK):(aG x).cells=[(.int .i64 x.Kind),(.int .i64 x.N),(.str x.Tag),(.str x.Text),(.sl ((x.bR).map aR) false),(.sl ((x.Kids).map aG) false)]:=by rw [aK.eq]; rfl
theorem aK.bf (x:aK):(AV.d (aG x)).cells=[.d (.int .i64 x.Kind),.d (.int .i64 x.N),.d (.str x.Tag),.d (.str x.Text),.d (.sl ((x.bR).map aR) false),.d (.sl ((x.Kids).map aG) false)]:=by rw [aK.eq]; rfl
theorem aK.agg (x:aK):(aG x).isAgg=true:=by rw [aK.eq]; rfl
theorem aK.flat (x:aK):jQ (aG x).cells=true:=by rw [aK.cells]; rfl
theorem aK.len (x:aK):(aG x).cells.length=6:=by rw [aK.cells]; rfl
mutual
theorem aK.cn:∀ (x:aK),(aG x).cn=aG x
 | .mk x0 x1 x2 x3 x4 x5=>by
  rw [aG]
  exact Kj (by
   intro d hd
   simp only [List.mem_cons,List.not_mem_nil,or_false] at hd
   rcases hd with rfl | rfl | rfl | rfl | rfl | rfl
   ·
    exact rfl
   ·
    exact rfl
   ·
    exact rfl
   ·
    exact rfl
   ·
    exact M4 Attr.cn _ _
   ·
    exact congrArg (D.sl · false) (aK.Io x5))
theorem aK.Io:∀ (l:List aK),D.Io (sM l)=sM l
 | []=>rfl
 | x :: l=>by rw [sM,D.Io,aK.cn x,aK.Io l]
end
theorem aK.gT {P:Program} {t:Nat} {x:aK} (ha:eO P t=some true) (hz:aL P t=6):iR P t (aG x).cells 0=some (aG x):=by
 rw [aK.cells,lF ha hz rfl,aK.eq]; rfl
structure cZ where
 Under:(List Int)
 Kinds:(List Int)
 Ns:(List Int)
 Texts:(List Int)
def ko (x:cZ):D:=.agg [(.sl ((x.Under).map (D.int .i64)) false),(.sl ((x.Kinds).map (D.int .i64)) false),(.sl ((x.Ns).map (D.int .i64)) false),(.sl ((x.Texts).map (D.int .i64)) false)]
theorem cZ.eq (x:cZ):ko x=.agg [(.sl ((x.Under).map (D.int .i64)) false),(.sl ((x.Kinds).map (D.int .i64)) false),(.sl ((x.Ns).map (D.int .i64)) false),(.sl ((x.Texts).map (D.int .i64)) false)]:=rfl
theorem cZ.cells (x:cZ):(ko x).cells=[(.sl ((x.Under).map (D.int .i64)) false),(.sl ((x.Kinds).map (D.int .i64)) false),(.sl ((x.Ns).map (D.int .i64)) false),(.sl ((x.Texts).map (D.int .i64)) false)]:=by rw [cZ.eq]; rfl
theorem cZ.bf (x:cZ):(AV.d (ko x)).cells=[.d (.sl ((x.Under).map (D.int .i64)) false),.d (.sl ((x.Kinds).map (D.int .i64)) false),.d (.sl ((x.Ns).map (D.int .i64)) false),.d (.sl ((x.Texts).map (D.int .i64)) false)]:=by rw [cZ.eq]; rfl
theorem cZ.agg (x:cZ):(ko x).isAgg=true:=by rw [cZ.eq]; rfl
structure On where
 Event:Str
 N:Int
 Add:Int
 deriving DecidableEq
def eu (x:On):D:=.agg [(.str x.Event),(.int .i64 x.N),(.int .i64 x.Add)]
theorem On.eq (x:On):eu x=.agg [(.str x.Event),(.int .i64 x.N),(.int .i64 x.Add)]:=rfl
theorem On.cells (x:On):(eu x).cells=[(.str x.Event),(.int .i64 x.N),(.int .i64 x.Add)]:=by rw [On.eq]; rfl
theorem On.bf (x:On):(AV.d (eu x)).cells=[.d (.str x.Event),.d (.int .i64 x.N),.d (.int .i64 x.Add)]:=by rw [On.eq]; rfl
theorem On.agg (x:On):(eu x).isAgg=true:=by rw [On.eq]; rfl
theorem On.len (x:On):(eu x).cells.length=3:=by rw [On.cells]; rfl
theorem On.gT {P:Program} {t:Nat} {x:On} (ha:eO P t=some true) (hz:aL P t=3):iR P t (eu x).cells 0=some (eu x):=by
 rw [On.cells,lF ha hz rfl,On.eq]; rfl
def On.beq (x y:On):Bool:=((x.Event == y.Event) && ((x.N == y.N) && ((x.Add == y.Add) && true)))
structure aJ where
 aK:aK
 Init:(List Int)
 On:(List On)
def aI (x:aJ):D:=.agg [(.int .i64 x.aK.Kind),(.int .i64 x.aK.N),(.str x.aK.Tag),(.str x.aK.Text),(.sl ((x.aK.bR).map aR) false),(.sl ((x.aK.Kids).map aG) false),(.sl ((x.Init).map (D.int .i64)) false),(.sl ((x.On).map eu) false)]
theorem aJ.eq (x:aJ):aI x=.agg [(.int .i64 x.aK.Kind),(.int .i64 x.aK.N),(.str x.aK.Tag),(.str x.aK.Text),(.sl ((x.aK.bR).map aR) false),(.sl ((x.aK.Kids).map aG) false),(.sl ((x.Init).map (D.int .i64)) false),(.sl ((x.On).map eu) false)]:=rfl
theorem aJ.cells (x:aJ):(aI x).cells=[(.int .i64 x.aK.Kind),(.int .i64 x.aK.N),(.str x.aK.Tag),(.str x.aK.Text),(.sl ((x.aK.bR).map aR) false),(.sl ((x.aK.Kids).map aG) false),(.sl ((x.Init).map (D.int .i64)) false),(.sl ((x.On).map eu) false)]:=by rw [aJ.eq]; rfl
theorem aJ.bf (x:aJ):(AV.d (aI x)).cells=[.d (.int .i64 x.aK.Kind),.d (.int .i64 x.aK.N),.d (.str x.aK.Tag),.d (.str x.aK.Text),.d (.sl ((x.aK.bR).map aR) false),.d (.sl ((x.aK.Kids).map aG) false),.d (.sl ((x.Init).map (D.int .i64)) false),.d (.sl ((x.On).map eu) false)]:=by rw [aJ.eq]; rfl
theorem aJ.agg (x:aJ):(aI x).isAgg=true:=by rw [aJ.eq]; rfl
theorem aJ.flat (x:aJ):jQ (aI x).cells=true:=by rw [aJ.cells]; rfl
theorem aJ.len (x:aJ):(aI x).cells.length=8:=by rw [aJ.cells]; rfl
theorem aJ.gT {P:Program} {t:Nat} {x:aJ} (ha:eO P t=some true) (hz:aL P t=8):iR P t (aI x).cells 0=some (aI x):=by
 rw [aJ.cells,lF ha hz rfl,aJ.eq]; rfl
structure eX where
 Page:cZ
 Init:(List Int)
 Adds:(List Int)
 Outlet:Bool
def dH (x:eX):D:=.agg [(.sl ((x.Page.Under).map (D.int .i64)) false),(.sl ((x.Page.Kinds).map (D.int .i64)) false),(.sl ((x.Page.Ns).map (D.int .i64)) false),(.sl ((x.Page.Texts).map (D.int .i64)) false),(.sl ((x.Init).map (D.int .i64)) false),(.sl ((x.Adds).map (D.int .i64)) false),(.bool x.Outlet)]
theorem eX.eq (x:eX):dH x=.agg [(.sl ((x.Page.Under).map (D.int .i64)) false),(.sl ((x.Page.Kinds).map (D.int .i64)) false),(.sl ((x.Page.Ns).map (D.int .i64)) false),(.sl ((x.Page.Texts).map (D.int .i64)) false),(.sl ((x.Init).map (D.int .i64)) false),(.sl ((x.Adds).map (D.int .i64)) false),(.bool x.Outlet)]:=rfl
theorem eX.cells (x:eX):(dH x).cells=[(.sl ((x.Page.Under).map (D.int .i64)) false),(.sl ((x.Page.Kinds).map (D.int .i64)) false),(.sl ((x.Page.Ns).map (D.int .i64)) false),(.sl ((x.Page.Texts).map (D.int .i64)) false),(.sl ((x.Init).map (D.int .i64)) false),(.sl ((x.Adds).map (D.int .i64)) false),(.bool x.Outlet)]:=by rw [eX.eq]; rfl
theorem eX.bf (x:eX):(AV.d (dH x)).cells=[.d (.sl ((x.Page.Under).map (D.int .i64)) false),.d (.sl ((x.Page.Kinds).map (D.int .i64)) false),.d (.sl ((x.Page.Ns).map (D.int .i64)) false),.d (.sl ((x.Page.Texts).map (D.int .i64)) false),.d (.sl ((x.Init).map (D.int .i64)) false),.d (.sl ((x.Adds).map (D.int .i64)) false),.d (.bool x.Outlet)]:=by rw [eX.eq]; rfl
theorem eX.agg (x:eX):(dH x).isAgg=true:=by rw [eX.eq]; rfl
theorem eX.len (x:eX):(dH x).cells.length=7:=by rw [eX.cells]; rfl
theorem eX.gT {P:Program} {t:Nat} {x:eX} (ha:eO P t=some true) (hz:aL P t=7):iR P t (dH x).cells 0=some (dH x):=by
 rw [eX.cells,lF ha hz rfl,eX.eq]; rfl
structure dK where
 Records:(List ak)
 Comps:(List aJ)
 Cache:Int
def iW (x:dK):D:=.agg [(.sl ((x.Records).map aB) false),(.sl ((x.Comps).map aI) false),(.int .i64 x.Cache)]
theorem dK.eq (x:dK):iW x=.agg [(.sl ((x.Records).map aB) false),(.sl ((x.Comps).map aI) false),(.int .i64 x.Cache)]:=rfl
theorem dK.cells (x:dK):(iW x).cells=[(.sl ((x.Records).map aB) false),(.sl ((x.Comps).map aI) false),(.int .i64 x.Cache)]:=by rw [dK.eq]; rfl
theorem dK.bf (x:dK):(AV.d (iW x)).cells=[.d (.sl ((x.Records).map aB) false),.d (.sl ((x.Comps).map aI) false),.d (.int .i64 x.Cache)]:=by rw [dK.eq]; rfl
theorem dK.agg (x:dK):(iW x).isAgg=true:=by rw [dK.eq]; rfl
structure jB where
 Table:gQ
 Parts:(List eX)
 Cache:Int
def oC (x:jB):D:=.agg [(.sl ((x.Table.Parents).map (D.int .i64)) false),(.sl ((x.Table.Kinds).map (D.int .i64)) false),(.sl ((x.Table.Texts).map (D.int .i64)) false),(.sl ((x.Table.Rules).map (D.int .i64)) false),(.sl ((x.Table.Flags).map (D.int .i64)) false),(.sl ((x.Table.fq).map (D.int .i64)) false),(.sl ((x.Table.Comps).map (D.int .i64)) false),(.sl ((x.Parts).map dH) false),(.int .i64 x.Cache)]
theorem jB.eq (x:jB):oC x=.agg [(.sl ((x.Table.Parents).map (D.int .i64)) false),(.sl ((x.Table.Kinds).map (D.int .i64)) false),(.sl ((x.Table.Texts).map (D.int .i64)) false),(.sl ((x.Table.Rules).map (D.int .i64)) false),(.sl ((x.Table.Flags).map (D.int .i64)) false),(.sl ((x.Table.fq).map (D.int .i64)) false),(.sl ((x.Table.Comps).map (D.int .i64)) false),(.sl ((x.Parts).map dH) false),(.int .i64 x.Cache)]:=rfl
theorem jB.cells (x:jB):(oC x).cells=[(.sl ((x.Table.Parents).map (D.int .i64)) false),(.sl ((x.Table.Kinds).map (D.int .i64)) false),(.sl ((x.Table.Texts).map (D.int .i64)) false),(.sl ((x.Table.Rules).map (D.int .i64)) false),(.sl ((x.Table.Flags).map (D.int .i64)) false),(.sl ((x.Table.fq).map (D.int .i64)) false),(.sl ((x.Table.Comps).map (D.int .i64)) false),(.sl ((x.Parts).map dH) false),(.int .i64 x.Cache)]:=by rw [jB.eq]; rfl
theorem jB.bf (x:jB):(AV.d (oC x)).cells=[.d (.sl ((x.Table.Parents).map (D.int .i64)) false),.d (.sl ((x.Table.Kinds).map (D.int .i64)) false),.d (.sl ((x.Table.Texts).map (D.int .i64)) false),.d (.sl ((x.Table.Rules).map (D.int .i64)) false),.d (.sl ((x.Table.Flags).map (D.int .i64)) false),.d (.sl ((x.Table.fq).map (D.int .i64)) false),.d (.sl ((x.Table.Comps).map (D.int .i64)) false),.d (.sl ((x.Parts).map dH) false),.d (.int .i64 x.Cache)]:=by rw [jB.eq]; rfl
theorem jB.agg (x:jB):(oC x).isAgg=true:=by rw [jB.eq]; rfl
def fO (a2:Int) (x7:Int):Option Int :=
 (some (IntKind.wrap .i64 (a2 + x7)))
def aT (n:Nat) (a1:Int) (a2:Int) (a3:Int):Option Int :=
 ((FR .i64 a1 (IntKind.wrap .i64 ((IntKind.wrap .i64 (a3 - a2)) + 1))).bind fun z4=>(if (decide (z4 < 0))=true then (fO a2 ((IntKind.wrap .i64 ((IntKind.wrap .i64 ((IntKind.wrap .i64 (z4 + a3)) - a2)) + 1)))) else (fO a2 (z4))))
def jr (n:Nat) (a1:(List Seg)):Option Bool :=
 ((if (decide (0 < ((a1).length:Int)))=true then ((idx a1 (IntKind.wrap .i64 (((a1).length:Int) - 1))).bind fun z2=>(some (decide (2 ≤ z2.Kind)))) else some false).bind fun z3=>(some z3))
def bX (n:Nat) (a1:(List Int)) (a2:Int):Option Int :=
 (if (((a1).length:Int) == 0)=true then (some 0) else ((FR .i64 a2 ((a1).length:Int)).bind fun z4=>((idx a1 z4).bind fun z5=>(some z5))))
def dw (x19:(List ak)) (x21:(List Int)) (x23:Int) (again24:(List ak)→(List Int)→Int→Option (List ak)) (x31:Int) (x35:Int) (x47:Int) (x48:Str) (z50:Str) (z51:Int) (z53:Int) (x66:Int) (x67:Int) (x68:Str):Option (List ak) :=
 ((app 96 x19 [(ak.mk ((ak.mk z50 x31 [(Seg.mk x47 x48)] z53 ((dO .i64 z51 1) == 1) (aH.mk 0 0 [])).Name) ((ak.mk z50 x31 [(Seg.mk x47 x48)] z53 ((dO .i64 z51 1) == 1) (aH.mk 0 0 [])).Parent) ((ak.mk z50 x31 [(Seg.mk x47 x48)] z53 ((dO .i64 z51 1) == 1) (aH.mk 0 0 [])).dX) ((ak.mk z50 x31 [(Seg.mk x47 x48)] z53 ((dO .i64 z51 1) == 1) (aH.mk 0 0 [])).aJ) ((ak.mk z50 x31 [(Seg.mk x47 x48)] z53 ((dO .i64 z51 1) == 1) (aH.mk 0 0 [])).fT) (aH.mk x66 x67 x68))]).bind fun z73=>((app 8 x21 [x35]).bind fun z77=>(again24 (z73) (z77) ((IntKind.wrap .i64 (x23 + 1))))))
def dP (n:Nat) (a1:gQ) (x19:(List ak)) (x21:(List Int)) (x23:Int) (again24:(List ak)→(List Int)→Int→Option (List ak)) (x31:Int) (x35:Int) (x47:Int) (x48:Str):Option (List ak) :=
 ((cat [114] (([(IntKind.wrap .u8 (IntKind.wrap .i64 (97 + x23)))]).map fun (n:Int)=>UInt8.ofNat n.toNat)).bind fun z50=>((bX n a1.fq x23).bind fun z51=>((bX n a1.Comps x23).bind fun z52=>((aT n z52 0 3).bind fun z53=>((bX n a1.Rules x23).bind fun z81=>(if ((dO .i64 z81 3) == 3)=true then ((bX n a1.Rules x23).bind fun z83=>((AJ .i64 z83 4).bind fun z84=>((aT n z84 0 4).bind fun z85=>((bX n a1.Flags x23).bind fun z86=>((aT n z86 0 3).bind fun z87=>(if ((((aH.mk z85 z87 []).Kind) == 3) || (((aH.mk z85 z87 []).Kind) == 4))=true then ((bX n a1.Flags (IntKind.wrap .i64 (x23 + 1))).bind fun z94=>((aT n z94 0 (IntKind.wrap .i64 (((x19).length:Int) - 1))).bind fun z95=>((idx x19 z95).bind fun z96=>(dw x19 x21 x23 again24 x31 x35 x47 x48 z50 z51 z53 ((aH.mk z85 z87 []).Kind) ((aH.mk z85 z87 []).Flag) (z96.Name))))) else (dw x19 x21 x23 again24 x31 x35 x47 x48 z50 z51 z53 ((aH.mk z85 z87 []).Kind) ((aH.mk z85 z87 []).Flag) ((aH.mk z85 z87 []).To)))))))) else (dw x19 x21 x23 again24 x31 x35 x47 x48 z50 z51 z53 ((ak.mk z50 x31 [(Seg.mk x47 x48)] z53 ((dO .i64 z51 1) == 1) (aH.mk 0 0 [])).aH.Kind) ((ak.mk z50 x31 [(Seg.mk x47 x48)] z53 ((dO .i64 z51 1) == 1) (aH.mk 0 0 [])).aH.Flag) ((ak.mk z50 x31 [(Seg.mk x47 x48)] z53 ((dO .i64 z51 1) == 1) (aH.mk 0 0 [])).aH.To))))))))
def dN (n:Nat) (a1:gQ) (x19:(List ak)) (x21:(List Int)) (x23:Int) (again24:(List ak)→(List Int)→Int→Option (List ak)) (x31:Int) (x35:Int):Option (List ak) :=
 ((bX n a1.Kinds x23).bind fun z37=>((aT n z37 0 4).bind fun z38=>((cat [112] (([(IntKind.wrap .u8 (IntKind.wrap .i64 (97 + x23)))]).map fun (n:Int)=>UInt8.ofNat n.toNat)).bind fun z39=>(if (decide (((Seg.mk (IntKind.wrap .i64 (z38 - 1)) z39).Kind) ≤ 0))=true then ((bX n a1.Texts x23).bind fun z100=>((aT n z100 0 (IntKind.wrap .i64 (((([[97],[98],[105,116,101,109],[122],[49],[108,105,115,116]]:List Str)).length:Int) - 1))).bind fun z101=>((idx ([[97],[98],[105,116,101,109],[122],[49],[108,105,115,116]]:List Str) z101).bind fun z102=>(dP n a1 x19 x21 x23 again24 x31 x35 ((Seg.mk 0 z102).Kind) ((Seg.mk 0 z102).Text))))) else (dP n a1 x19 x21 x23 again24 x31 x35 ((Seg.mk (IntKind.wrap .i64 (z38 - 1)) z39).Kind) ((Seg.mk (IntKind.wrap .i64 (z38 - 1)) z39).Text))))))
def dn (n:Nat) (a1:gQ) (x19:(List ak)) (x21:(List Int)) (x23:Int) (again24:(List ak)→(List Int)→Int→Option (List ak)) (x31:Int):Option (List ak) :=
 (if (decide (0 ≤ x31))=true then ((idx x21 x31).bind fun z106=>(dN n a1 x19 x21 x23 again24 x31 ((IntKind.wrap .i64 (z106 + 1))))) else (dN n a1 x19 x21 x23 again24 x31 (1)))
def aM (n:Nat) (a1:gQ):Nat→(List ak)→(List Int)→Int→Option (List ak)
 | 0,_,_,_=>none
 | k24 + 1,x19,x21,x23 =>
  (if ((decide (x23 < ((a1.Parents).length:Int))) && (decide (x23 < 7)))=true then ((idx a1.Parents x23).bind fun z27=>((aT n z27 (-1) (IntKind.wrap .i64 (((x19).length:Int) - 1))).bind fun z28=>((if (decide (0 ≤ z28))=true then ((idx x21 z28).bind fun z107=>((if (decide (3 < z107))=true then some true else ((idx x19 z28).bind fun z108=>((jr n z108.dX).bind fun z109=>(some z109)))).bind fun z109=>(some z109))) else some false).bind fun z108=>(if z108=true then (dn n a1 x19 x21 x23 (aM n a1 k24) ((-1))) else (dn n a1 x19 x21 x23 (aM n a1 k24) (z28)))))) else (some x19))
def gF (n:Nat) (a1:gQ):Option (List ak) :=
 (aM n a1 n ([(ak.mk [104,111,109,101] (-1) [] 0 false (aH.mk 0 0 []))]) ([0]) (0))
def dE (x19:Int) (again20:(List aK)→Int→Option aK) (x24:(List aK)):Option aK :=
 (again20 (x24) ((IntKind.wrap .i64 (x19 + 1))))
def aX (self:aK→Option aK) (a1:aK):Nat→(List aK)→Int→Option aK
 | 0,_,_=>none
 | k20 + 1,x17,x19 =>
  (if (decide (x19 < ((a1.Kids).length:Int)))=true then ((idx a1.Kids x19).bind fun z27=>(if (z27.Kind != 7)=true then ((self z27).bind fun z34=>((app 96 x17 [z34]).bind fun z35=>(dE x19 (aX self a1 k20) (z35)))) else (dE x19 (aX self a1 k20) (x17)))) else (some (aK.mk a1.Kind a1.N a1.Tag a1.Text a1.bR x17)))
def bF:Nat→aK→Option aK
 | 0,_=>none
 | n + 1,a1 =>
  (aX (bF n) a1 n ([]) (0))
def dW (z9:aK) (x20:(List aK)):Option aK :=
 (some (aK.mk z9.Kind z9.N z9.Tag z9.Text z9.bR x20))
def iB (n:Nat) (a1:aK) (a2:Bool):Option aK :=
 ((bF n a1).bind fun z9=>(if a2=true then ((app 96 z9.Kids [(aK.mk 7 0 [] [] [] [])]).bind fun z26=>(dW z9 (z26))) else (dW z9 (z9.Kids))))
def kR (n:Nat)  : Option (List Str) :=
 (some ([[97],[98],[105,116,101,109],[120,32,121],[37],[97,47,98],[46,46],[122],[49],[108,105,115,116],[255],[63,61,38]]:List Str))
def dU (a1:(List Int)):Nat→Int→Int→Option Int
 | 0,_,_=>none
 | k13 + 1,x11,x12 =>
  (if ((decide (0 ≤ x11)) && (decide (x12 < 99)))=true then ((idx a1 x11).bind fun z16=>((dU a1 k13) (z16) ((IntKind.wrap .i64 (x12 + 1))))) else (some x12))
def jV (n:Nat) (a1:(List Int)) (a2:Int):Option Int :=
 (dU a1 n (a2) (0))
def fV (x24:Int) (again25:(List aK)→Int→Option aK) (x29:(List aK)):Option aK :=
 (again25 (x29) ((IntKind.wrap .i64 (x24 + 1))))
def dC (self:(List dx)→(List Int)→Int→Option aK) (a1:(List dx)) (a2:(List Int)) (a3:Int) (z7:dx):Nat→(List aK)→Int→Option aK
 | 0,_,_=>none
 | k25 + 1,x22,x24 =>
  (if (decide (x24 < ((a1).length:Int)))=true then ((idx a2 x24).bind fun z32=>(if (z32 == a3)=true then ((self a1 a2 x24).bind fun z34=>((app 96 x22 [z34]).bind fun z35=>(fV x24 (dC self a1 a2 a3 z7 k25) (z35)))) else (fV x24 (dC self a1 a2 a3 z7 k25) (x22)))) else (some (aK.mk z7.Kind z7.N z7.Tag z7.Text z7.bR x22)))
def dz:Nat→(List dx)→(List Int)→Int→Option aK
 | 0,_,_,_=>none
 | n + 1,a1,a2,a3 =>
  ((idx a1 a3).bind fun z7=>(dC (dz n) a1 a2 a3 z7 n ([]) (0)))
def df (x20:(List dx)) (x22:(List Int)) (x24:Int) (again25:(List dx)→(List Int)→Int→Option aK) (x32:Int) (z35:Int) (z37:Int) (x51:Str) (x52:Str) (x53:(List Attr)):Option aK :=
 ((app 96 x20 [(dx.mk ((dx.mk z35 z37 [] [] []).Kind) ((dx.mk z35 z37 [] [] []).N) x51 x52 x53)]).bind fun z55=>((app 8 x22 [x32]).bind fun z59=>(again25 (z55) (z59) ((IntKind.wrap .i64 (x24 + 1))))))
def dG (n:Nat) (a1:cZ) (z8:(List Str)) (x20:(List dx)) (x22:(List Int)) (x24:Int) (again25:(List dx)→(List Int)→Int→Option aK) (x32:Int):Option aK :=
 ((bX n a1.Kinds x24).bind fun z34=>((aT n z34 1 7).bind fun z35=>((bX n a1.Ns x24).bind fun z36=>((aT n z36 0 4).bind fun z37=>((bX n a1.Texts x24).bind fun z48=>(if (((dx.mk z35 z37 [] [] []).Kind) == 1)=true then ((aT n z48 0 (IntKind.wrap .i64 (((([[100,105,118],[112],[108,105],[98]]:List Str)).length:Int) - 1))).bind fun z64=>((idx ([[100,105,118],[112],[108,105],[98]]:List Str) z64).bind fun z65=>(if ((dO .i64 z48 3) == 3)=true then ((AJ .i64 z48 4).bind fun z69=>((aT n z69 0 (IntKind.wrap .i64 (((z8).length:Int) - 1))).bind fun z70=>((idx z8 z70).bind fun z71=>(df x20 x22 x24 again25 x32 z35 z37 (z65) ((dx.mk z35 z37 [] [] []).Text) ([(Attr.mk [120] z71)]))))) else (df x20 x22 x24 again25 x32 z35 z37 (z65) ((dx.mk z35 z37 [] [] []).Text) ((dx.mk z35 z37 [] [] []).bR))))) else (if (((dx.mk z35 z37 [] [] []).Kind) == 2)=true then ((aT n z48 0 (IntKind.wrap .i64 (((z8).length:Int) - 1))).bind fun z78=>((idx z8 z78).bind fun z79=>(df x20 x22 x24 again25 x32 z35 z37 ((dx.mk z35 z37 [] [] []).Tag) (z79) ((dx.mk z35 z37 [] [] []).bR)))) else (if (((dx.mk z35 z37 [] [] []).Kind) == 4)=true then ((aT n z48 0 (IntKind.wrap .i64 (((([[105,100],[112,97],[112,98],[108,97,115,116]]:List Str)).length:Int) - 1))).bind fun z83=>((idx ([[105,100],[112,97],[112,98],[108,97,115,116]]:List Str) z83).bind fun z84=>(df x20 x22 x24 again25 x32 z35 z37 ((dx.mk z35 z37 [] [] []).Tag) (z84) ((dx.mk z35 z37 [] [] []).bR)))) else (df x20 x22 x24 again25 x32 z35 z37 ((dx.mk z35 z37 [] [] []).Tag) ((dx.mk z35 z37 [] [] []).Text) ((dx.mk z35 z37 [] [] []).bR))))))))))
def aY (n:Nat) (a1:cZ) (z8:(List Str)):Nat→(List dx)→(List Int)→Int→Option aK
 | 0,_,_,_=>none
 | k25 + 1,x20,x22,x24 =>
  (if ((decide (x24 < ((a1.Under).length:Int))) && (decide (x24 < 11)))=true then ((idx a1.Under x24).bind fun z28=>((aT n z28 0 (IntKind.wrap .i64 (((x20).length:Int) - 1))).bind fun z29=>((idx x20 z29).bind fun z87=>((if (((z87.Kind != 1) && (z87.Kind != 5)) && (z87.Kind != 6))=true then some true else ((jV n x22 z29).bind fun z90=>(some (decide (5 < z90))))).bind fun z91=>(if z91=true then (dG n a1 z8 x20 x22 x24 (aY n a1 z8 k25) (0)) else (dG n a1 z8 x20 x22 x24 (aY n a1 z8 k25) (z29))))))) else ((dz n x20 x22 0).bind fun z94=>(some z94)))
def iI (n:Nat) (a1:cZ):Option aK :=
 ((kR n).bind fun z8=>(aY n a1 z8 n ([(dx.mk 1 0 [109,97,105,110] [] [])]) ([(-1)]) (0)))
def dR (n:Nat) (a1:eX) (z9:aK) (x29:(List Int)):Nat→(List On)→Int→Option aJ
 | 0,_,_=>none
 | k59 + 1,x56,x58 =>
  (if ((decide (x58 < ((a1.Adds).length:Int))) && (decide (x58 < 5)))=true then ((FR .i64 x58 3).bind fun z62=>((idx ([[117,112],[100,111,119,110],[97]]:List Str) z62).bind fun z63=>((idx a1.Adds x58).bind fun z64=>((aT n z64 0 4).bind fun z65=>((AJ .i64 z64 5).bind fun z66=>((aT n z66 (-3) 3).bind fun z67=>((app 32 x56 [(On.mk z63 z65 z67)]).bind fun z68=>((dR n a1 z9 x29 k59) (z68) ((IntKind.wrap .i64 (x58 + 1))))))))))) else (some (aJ.mk z9 x29 x56)))
def dF (n:Nat) (a1:eX) (z9:aK):Nat→(List Int)→Int→Option aJ
 | 0,_,_=>none
 | k32 + 1,x29,x31 =>
  (if (decide (x31 < 5))=true then ((bX n a1.Init x31).bind fun z34=>((aT n z34 (-2) 4).bind fun z35=>((app 8 x29 [z35]).bind fun z36=>((dF n a1 z9 k32) (z36) ((IntKind.wrap .i64 (x31 + 1))))))) else (dR n a1 z9 x29 n ([]) (0)))
def gI (n:Nat) (a1:eX):Option aJ :=
 ((iI n a1.Page).bind fun z8=>((iB n z8 a1.Outlet).bind fun z9=>(dF n a1 z9 n ([]) (0))))
def fe (n:Nat) (x24:(List aJ)) (x26:Int) (again27:(List aJ)→Int→Option dK) (x36:(List Int)) (x37:(List Int)) (x38:(List Int)) (x39:(List Int)) (x40:(List Int)) (x41:(List Int)) (x42:Bool):Option dK :=
 ((gI n (eX.mk (cZ.mk x36 x37 x38 x39) x40 x41 false)).bind fun z46=>((app 144 x24 [z46]).bind fun z47=>((gI n (eX.mk (cZ.mk x36 x37 x38 x39) x40 x41 true)).bind fun z60=>((app 144 z47 [z60]).bind fun z61=>(again27 (z61) ((IntKind.wrap .i64 (x26 + 1))))))))
def fK (x102:Int) (again103:Int→Int→Option dK) (x107:Int):Option dK :=
 (again103 (x107) ((IntKind.wrap .i64 (x102 + 1))))
def bM (x87:(List ak)) (x88:Int) (again89:(List ak)→Int→Option dK):Nat→Int→Int→Option dK
 | 0,_,_=>none
 | k103 + 1,x101,x102 =>
  (if (decide (x102 < ((x87).length:Int)))=true then ((idx x87 x102).bind fun z109=>(if (z109.Parent == x88)=true then (fK x102 (bM x87 x88 again89 k103) ((Nt .i64 x101 1))) else (fK x102 (bM x87 x88 again89 k103) (x101)))) else ((idx x87 x88).bind fun z116=>(again89 ((je x87 x88 (ak.mk z116.Name z116.Parent z116.dX x101 z116.fT z116.aH))) ((IntKind.wrap .i64 (x88 + 1))))))
def bA (n:Nat) (x11:(List ak)) (x13:Int) (x24:(List aJ)):Nat→(List ak)→Int→Option dK
 | 0,_,_=>none
 | k89 + 1,x87,x88 =>
  (if (decide (x88 < ((x11).length:Int)))=true then ((idx x87 x88).bind fun z91=>((aT n z91.aJ 0 3).bind fun z92=>(bM x87 x88 (bA n x11 x13 x24 k89) n ((IntKind.wrap .i64 (2 * z92))) (0)))) else (some (dK.mk x87 x24 x13)))
def bJ (n:Nat) (a1:jB) (x11:(List ak)) (x13:Int):Nat→(List aJ)→Int→Option dK
 | 0,_,_=>none
 | k27 + 1,x24,x26 =>
  (if (decide (x26 < 4))=true then (if (decide (x26 < ((a1.Parts).length:Int)))=true then ((idx a1.Parts x26).bind fun z73=>(fe n x24 x26 (bJ n a1 x11 x13 k27) (z73.Page.Under) (z73.Page.Kinds) (z73.Page.Ns) (z73.Page.Texts) (z73.Init) (z73.Adds) (z73.Outlet))) else (fe n x24 x26 (bJ n a1 x11 x13 k27) ((cZ.mk [0,0,1] [3,1,3] [0,1,2] [x26]).Under) ((cZ.mk [0,0,1] [3,1,3] [0,1,2] [x26]).Kinds) ((cZ.mk [0,0,1] [3,1,3] [0,1,2] [x26]).Ns) ((cZ.mk [0,0,1] [3,1,3] [0,1,2] [x26]).Texts) ([1,0,2]) ([5,11,2]) (false))) else (bA n x11 x13 x24 n (x11) (0)))
def gU (n:Nat) (a1:jB) (x11:(List ak)) (x13:Int):Option dK :=
 (bJ n a1 x11 x13 n ([]) (0))
def fM (n:Nat) (a1:jB):Option dK :=
 ((gF n a1.Table).bind fun z122=>((aT n a1.Cache 0 4).bind fun z128=>(gU n a1 (z122) (z128))))
def aV (a1:(List ak)) (p2:ak→Option Bool):Nat→Int→Option Int
 | 0,_=>none
 | k13 + 1,x12 =>
  (if (decide (x12 < ((a1).length:Int)))=true then ((idx a1 x12).bind fun z15=>((p2 z15).bind fun z16=>(if z16=true then (some x12) else ((aV a1 p2 k13) ((IntKind.wrap .i64 (x12 + 1))))))) else (some (-1)))
def bW (n:Nat) (a1:(List ak)) (p2:ak→Option Bool):Option Int :=
 (aV a1 p2 n (0))
def dS (n:Nat) (a1:(List ak)) (p2:ak→Option Bool):Option Bool :=
 ((bW n a1 p2).bind fun z6=>(some (decide (0 ≤ z6))))
def mh (n:Nat) (a1:ak) (a2:Int):Option Bool :=
 (some (a1.Parent == a2))
def j5 (n:Nat) (a1:dK) (a2:Int):Option Bool :=
 ((dS n a1.Records (fun y9=>mh n y9 a2)).bind fun z10=>(some z10))
def gK (n:Nat) (a1:Str):Option Bool :=
 ((if ((!(a1 == [])) && (decide (((a1).length:Int) ≤ 16)))=true then ((lN n a1 [97,98,99,100,101,102,103,104,105,106,107,108,109,110,111,112,113,114,115,116,117,118,119,120,121,122,48,49,50,51,52,53,54,55,56,57]).bind fun z3=>(some (z3 == []))) else some false).bind fun z4=>(some z4))
def jF (n:Nat) (a1:Seg) (a2:Seg):Option Bool :=
 (some ((a1.Kind != 0) && (a1.Text == a2.Text)))
def bz (a1:(List Seg)) (p2:Seg→Option Bool):Nat→Int→Option Int
 | 0,_=>none
 | k13 + 1,x12 =>
  (if (decide (x12 < ((a1).length:Int)))=true then ((idx a1 x12).bind fun z15=>((p2 z15).bind fun z16=>(if z16=true then (some x12) else ((bz a1 p2 k13) ((IntKind.wrap .i64 (x12 + 1))))))) else (some (-1)))
def fE (n:Nat) (a1:(List Seg)) (p2:Seg→Option Bool):Option Int :=
 (bz a1 p2 n (0))
def di (n:Nat) (a1:(List Seg)) (p2:Seg→Option Bool):Option Bool :=
 ((fE n a1 p2).bind fun z6=>(some (decide (0 ≤ z6))))
def eD (n:Nat) (a1:(List Seg)):Nat→Int→Option Bool
 | 0,_=>none
 | k11 + 1,x10 =>
  (if (decide (x10 < ((a1).length:Int)))=true then ((idx a1 x10).bind fun z13=>((gK n z13.Text).bind fun z19=>(if (((!z19) || (decide (z13.Kind < 0))) || (decide (3 < z13.Kind)))=true then (some false) else (if ((decide (2 ≤ z13.Kind)) && (!(x10 == (IntKind.wrap .i64 (((a1).length:Int) - 1)))))=true then (some false) else ((if (z13.Kind != 0)=true then ((cut a1 0 x10).bind fun z25=>((di n z25 (fun y26=>jF n y26 z13)).bind fun z27=>(some z27))) else some false).bind fun z26=>(if z26=true then (some false) else ((eD n a1 k11) ((IntKind.wrap .i64 (x10 + 1)))))))))) else (some true))
def gN (n:Nat) (a1:(List Seg)):Option Bool :=
 (if (decide (8 < ((a1).length:Int)))=true then (some false) else (eD n a1 n (0)))
def bL  : Nat→(List Int)→Int→Int→Option (List Int)
 | 0,_,_,_=>none
 | k15 + 1,x12,x13,x14 =>
  (if (decide (x13 < x14))=true then ((idx x12 x14).bind fun z17=>((idx x12 x13).bind fun z18=>((idx (je x12 x13 z17) x14).bind fun z21=>((bL k15) ((je (je x12 x13 z17) x14 z18)) ((IntKind.wrap .i64 (x13 + 1))) ((IntKind.wrap .i64 (x14 - 1))))))) else (some x12))
def gM (n:Nat) (a1:(List Int)):Option (List Int) :=
 (bL n (a1) (0) ((IntKind.wrap .i64 (((a1).length:Int) - 1))))
def jy (n:Nat) (x5:(List Int)):Option (List Int) :=
 ((gM n x5).bind fun z8=>(some z8))
def gq (n:Nat) (a1:(List ak)):Nat→Int→(List Int)→Option (List Int)
 | 0,_,_=>none
 | k23 + 1,x20,x21 =>
  (if ((decide (0 ≤ x20)) && (decide (x20 < ((a1).length:Int))))=true then ((app 8 x21 [x20]).bind fun z29=>((idx a1 x20).bind fun z33=>(if (decide (x20 ≤ z33.Parent))=true then (jy n (z29)) else ((gq n a1 k23) (z33.Parent) (z29))))) else (jy n (x21)))
def oz (n:Nat) (a1:(List ak)) (a2:Int):Option (List Int) :=
 (gq n a1 n (a2) ([]))
def iw (a1:(List ak)) (z3:(List Int)):Nat→(List Seg)→Int→Option (List Seg)
 | 0,_,_=>none
 | k16 + 1,x13,x15 =>
  (if (decide (x15 < ((z3).length:Int)))=true then ((idx z3 x15).bind fun z18=>((idx a1 z18).bind fun z19=>((app 24 x13 z19.dX).bind fun z20=>((iw a1 z3 k16) (z20) ((IntKind.wrap .i64 (x15 + 1))))))) else (some x13))
def mq (n:Nat) (a1:(List ak)) (a2:Int):Option (List Seg) :=
 ((oz n a1 a2).bind fun z3=>(iw a1 z3 n ([]) (0)))
def fF (n:Nat) (a1:(List ak)):Nat→(List (Str × Int))→Int→Option Bool
 | 0,_,_=>none
 | k17 + 1,x15,x16 =>
  (if (decide (x16 < ((a1).length:Int)))=true then ((idx a1 x16).bind fun z19=>((gN n [(Seg.mk 0 z19.Name)]).bind fun z25=>((if ((((!z25) || (decide (0 < (mg x15 z19.Name 0)))) || (decide (z19.Parent < (-1)))) || (decide (x16 ≤ z19.Parent)))=true then some true else ((mq n a1 x16).bind fun z29=>((gN n z29).bind fun z30=>(some (!z30))))).bind fun z30=>(if z30=true then (some false) else ((fF n a1 k17) ((xw x15 z19.Name (IntKind.wrap .i64 ((mg x15 z19.Name 0) + 1)))) ((IntKind.wrap .i64 (x16 + 1)))))))) else (some true))
def fU (n:Nat) (a1:(List ak)):Option Bool :=
 (if ((decide (((a1).length:Int) < 1)) || (decide (16 < ((a1).length:Int))))=true then (some false) else (fF n a1 n ([]) (0)))
def bP (a1:(List Int)) (p2:Int→Option Bool):Nat→Int→Option Int
 | 0,_=>none
 | k13 + 1,x12 =>
  (if (decide (x12 < ((a1).length:Int)))=true then ((idx a1 x12).bind fun z15=>((p2 z15).bind fun z16=>(if z16=true then (some x12) else ((bP a1 p2 k13) ((IntKind.wrap .i64 (x12 + 1))))))) else (some (-1)))
def iq (n:Nat) (a1:(List Int)) (p2:Int→Option Bool):Option Int :=
 (bP a1 p2 n (0))
def fA (n:Nat) (a1:(List Int)) (p2:Int→Option Bool):Option Bool :=
 ((iq n a1 p2).bind fun z6=>(some (decide (0 ≤ z6))))
def tL (n:Nat) (a1:Int):Option Bool :=
 (some ((decide ((-1000) ≤ a1)) && (decide (a1 ≤ 1000))))
def nV (n:Nat) (a1:Int):Option Bool :=
 ((tL n a1).bind fun z2=>(some (!z2)))
def qp (n:Nat) (a1:(List Int)):Option Bool :=
 ((fA n a1 (fun y2=>nV n y2)).bind fun z3=>(some (!z3)))
def ik (self:aK→Option (Int × Int)) (a1:aK):Nat→Int→Int→Int→Option (Int × Int)
 | 0,_,_,_=>none
 | k17 + 1,x14,x15,x16 =>
  (if (decide (x16 < ((a1.Kids).length:Int)))=true then ((idx a1.Kids x16).bind fun z19=>((self z19).bind fun z25=>((ik self a1 k17) ((IntKind.wrap .i64 (x14 + z25.1))) ((Kt x15 z25.2)) ((IntKind.wrap .i64 (x16 + 1)))))) else (some (x14,(IntKind.wrap .i64 (x15 + 1)))))
def jM:Nat→aK→Option (Int × Int)
 | 0,_=>none
 | n + 1,a1 =>
  (ik (jM n) a1 n (1) (0) (0))
def iD (self:aK→Int→Bool→Option Bool) (a1:aK) (a2:Int) (a3:Bool):Nat→Int→Option Bool
 | 0,_=>none
 | k33 + 1,x32 =>
  (if (decide (x32 < ((a1.Kids).length:Int)))=true then ((idx a1.Kids x32).bind fun z35=>((self z35 a2 ((a3 || (a1.Kind == 5)) || (a1.Kind == 6))).bind fun z41=>(if (!z41)=true then (some false) else ((iD self a1 a2 a3 k33) ((IntKind.wrap .i64 (x32 + 1))))))) else (some true))
def jY (n:Nat) (self:aK→Int→Bool→Option Bool) (a1:aK) (a2:Int) (a3:Bool) (x16:Bool):Option Bool :=
 (if x16=true then (some false) else (if ((((a1.Kind == 3) || (a1.Kind == 5)) || (a1.Kind == 6)) && (!((decide (0 ≤ a1.N)) && (decide (a1.N < a2)))))=true then (some false) else (iD self a1 a2 a3 n (0))))
def gp:Nat→aK→Int→Bool→Option Bool
 | 0,_,_,_=>none
 | n + 1,a1,a2,a3 =>
  (if (((decide (a1.Kind < 1)) || (decide (7 < a1.Kind))) || ((!(((a1.Kind == 1) || (a1.Kind == 5)) || (a1.Kind == 6))) && (decide (0 < ((a1.Kids).length:Int)))))=true then (some false) else (if (a1.Tag == [111,117,116,108,101,116])=true then (jY n (gp n) a1 a2 a3 ((a1.Tag == [111,117,116,108,101,116]))) else (jY n (gp n) a1 a2 a3 (((a1.Kind == 7) && a3)))))
def jJ (n:Nat) (a1:aK) (a2:Int):Option Bool :=
 ((jM n a1).bind fun z6=>((if (((a1.Kind == 1) && (decide (z6.1 ≤ 60))) && (decide (z6.2 ≤ 12)))=true then ((gp n a1 a2 false).bind fun z9=>(some z9)) else some false).bind fun z10=>(some z10)))
def ig (n:Nat) (a1:aJ):Nat→Int→Option Bool
 | 0,_=>none
 | k21 + 1,x20 =>
  (if (decide (x20 < ((a1.On).length:Int)))=true then ((idx a1.On x20).bind fun z23=>((if ((!(z23.Event == [])) && (decide (((z23.Event).length:Int) ≤ 16)))=true then ((lN n z23.Event [97,98,99,100,101,102,103,104,105,106,107,108,109,110,111,112,113,114,115,116,117,118,119,120,121,122,48,49,50,51,52,53,54,55,56,57]).bind fun z30=>(some (z30 == []))) else some false).bind fun z31=>((if (((!z31) || (decide (z23.N < 0))) || (decide (((a1.Init).length:Int) ≤ z23.N)))=true then some true else ((tL n z23.Add).bind fun z35=>(some (!z35)))).bind fun z36=>(if z36=true then (some false) else ((ig n a1 k21) ((IntKind.wrap .i64 (x20 + 1)))))))) else (some true))
def ja (n:Nat) (a1:aJ):Option Bool :=
 ((if (decide (6 < ((a1.Init).length:Int)))=true then some true else ((qp n a1.Init).bind fun z5=>(some (!z5)))).bind fun z6=>((if (z6 || (decide (24 < ((a1.On).length:Int))))=true then some true else ((jJ n a1.aK ((a1.Init).length:Int)).bind fun z9=>(some (!z9)))).bind fun z10=>(if z10=true then (some false) else (ig n a1 n (0)))))
def qB (n:Nat) (a1:aH):Option Bool :=
 (some (((((decide (0 ≤ a1.Kind)) && (decide (a1.Kind ≤ 4))) && (decide (0 ≤ a1.Flag))) && (decide (a1.Flag < 8))) && (((a1.Kind == 3) || (a1.Kind == 4)) || (a1.To == []))))
def mf (n:Nat) (a1:ak) (a2:Str):Option Bool :=
 (some (a1.Name == a2))
def qI (n:Nat) (a1:(List ak)) (a2:Str):Option Int :=
 ((bW n a1 (fun y6=>mf n y6 a2)).bind fun z7=>(some z7))
def mE (n:Nat) (a1:dK) (a2:aH):Option Bool :=
 ((if ((a2.Kind != 3) && (a2.Kind != 4))=true then some true else ((qI n a1.Records a2.To).bind fun z10=>(some (decide (0 ≤ z10))))).bind fun z11=>(some z11))
def iy (self:aK→Option Int) (a1:aK):Nat→Int→Int→Option Int
 | 0,_,_=>none
 | k19 + 1,x17,x18 =>
  (if (decide (x18 < ((a1.Kids).length:Int)))=true then ((idx a1.Kids x18).bind fun z21=>((self z21).bind fun z27=>((iy self a1 k19) ((IntKind.wrap .i64 (x17 + z27))) ((IntKind.wrap .i64 (x18 + 1)))))) else (some x17))
def kK (n:Nat) (self:aK→Option Int) (a1:aK) (x7:Int):Option Int :=
 (iy self a1 n (x7) (0))
def fB:Nat→aK→Option Int
 | 0,_=>none
 | n + 1,a1 =>
  (if (a1.Kind == 7)=true then (kK n (fB n) a1 (1)) else (kK n (fB n) a1 (0)))
def dQ (n:Nat) (a1:dK):Nat→Int→Option Bool
 | 0,_=>none
 | k37 + 1,x36 =>
  (if (decide (x36 < ((a1.Records).length:Int)))=true then ((idx a1.Records x36).bind fun z39=>((if ((decide (z39.aJ < 0)) || (decide (((a1.Comps).length:Int) ≤ z39.aJ)))=true then some true else ((qB n z39.aH).bind fun z46=>(some (!z46)))).bind fun z47=>((if z47=true then some true else ((mE n a1 z39.aH).bind fun z49=>(some (!z49)))).bind fun z50=>(if z50=true then (some false) else ((j5 n a1 x36).bind fun z53=>((if z53=true then ((idx a1.Comps z39.aJ).bind fun z54=>((fB n z54.aK).bind fun z55=>(some (z55 != 1)))) else some false).bind fun z55=>(if z55=true then (some false) else ((dQ n a1 k37) ((IntKind.wrap .i64 (x36 + 1))))))))))) else (some true))
def fG (n:Nat) (a1:dK):Nat→Int→Option Bool
 | 0,_=>none
 | k19 + 1,x18 =>
  (if (decide (x18 < ((a1.Comps).length:Int)))=true then ((idx a1.Comps x18).bind fun z21=>((ja n z21).bind fun z27=>(if (!z27)=true then (some false) else ((fG n a1 k19) ((IntKind.wrap .i64 (x18 + 1))))))) else (dQ n a1 n (0)))
def eP (n:Nat) (a1:dK):Option Bool :=
 ((fU n a1.Records).bind fun z5=>(if (((((!z5) || (decide (((a1.Comps).length:Int) < 1))) || (decide (16 < ((a1.Comps).length:Int)))) || (decide (a1.Cache < 0))) || (decide (8 < a1.Cache)))=true then (some false) else (fG n a1 n (0))))
def eT (n:Nat) (a1:(List ak)):Option (List ak):=app 96 [] a1
def gz (n:Nat) (a1:(List Seg)):Option (List Seg):=app 24 [] a1
def fQ (n:Nat) (a1:(List aJ)):Option (List aJ):=app 144 [] a1
def fP (n:Nat) (a1:(List Attr)):Option (List Attr):=app 32 [] a1
def gB (n:Nat) (a1:(List aK)):Option (List aK):=app 96 [] a1
def fC (self:aK→Option aK) (a1:aK) (z8:(List Attr)) (z11:(List aK)):Nat→(List aK)→Int→Option aK
 | 0,_,_=>none
 | k29 + 1,x27,x28 =>
  (if (decide (x28 < ((z11).length:Int)))=true then ((idx x27 x28).bind fun z31=>((self z31).bind fun z37=>((idx x27 x28).bind fun z38=>((fC self a1 z8 z11 k29) ((je x27 x28 z37)) ((IntKind.wrap .i64 (x28 + 1))))))) else (some (aK.mk a1.Kind a1.N a1.Tag a1.Text z8 x27)))
def fZ:Nat→aK→Option aK
 | 0,_=>none
 | n + 1,a1 =>
  ((fP n a1.bR).bind fun z8=>((gB n a1.Kids).bind fun z11=>(fC (fZ n) a1 z8 z11 n (z11) (0))))
def jg (n:Nat) (a1:(List Int)):Option (List Int):=app 8 [] a1
def gP (n:Nat) (a1:(List On)):Option (List On):=app 32 [] a1
def ic (n:Nat) (a1:dK) (x24:(List ak)) (z41:(List aJ)):Nat→(List aJ)→Int→Option dK
 | 0,_,_=>none
 | k59 + 1,x57,x58 =>
  (if (decide (x58 < ((z41).length:Int)))=true then ((idx x57 x58).bind fun z61=>((fZ n z61.aK).bind fun z67=>((jg n z61.Init).bind fun z68=>((gP n z61.On).bind fun z69=>((idx x57 x58).bind fun z70=>((ic n a1 x24 z41 k59) ((je x57 x58 (aJ.mk z67 z68 z69))) ((IntKind.wrap .i64 (x58 + 1))))))))) else (some (dK.mk x24 x57 a1.Cache)))
def ib (n:Nat) (a1:dK) (z8:(List ak)):Nat→(List ak)→Int→Option dK
 | 0,_,_=>none
 | k26 + 1,x24,x25 =>
  (if (decide (x25 < ((z8).length:Int)))=true then ((idx x24 x25).bind fun z28=>((gz n z28.dX).bind fun z34=>((idx x24 x25).bind fun z35=>((ib n a1 z8 k26) ((je x24 x25 (ak.mk z35.Name z35.Parent z34 z35.aJ z35.fT z35.aH))) ((IntKind.wrap .i64 (x25 + 1))))))) else ((fQ n a1.Comps).bind fun z41=>(ic n a1 x24 z41 n (z41) (0))))
def ql (n:Nat) (a1:dK):Option dK :=
 ((eT n a1.Records).bind fun z8=>(ib n a1 z8 n (z8) (0)))
def cu (a1:(List Seg)) (a2:(List Seg)):Nat→Int→Option Bool
 | 0,_=>none
 | k12 + 1,x11 =>
  (if (decide (x11 < ((a1).length:Int)))=true then ((idx a1 x11).bind fun z14=>((idx a2 x11).bind fun z15=>(if (!(Seg.beq z14 z15))=true then (some false) else ((cu a1 a2 k12) ((IntKind.wrap .i64 (x11 + 1))))))) else (some true))
def gL (n:Nat) (a1:(List Seg)) (a2:(List Seg)):Option Bool :=
 (if (((a1).length:Int) != ((a2).length:Int))=true then (some false) else (cu a1 a2 n (0)))
def bU (a1:(List Attr)) (a2:(List Attr)):Nat→Int→Option Bool
 | 0,_=>none
 | k12 + 1,x11 =>
  (if (decide (x11 < ((a1).length:Int)))=true then ((idx a1 x11).bind fun z14=>((idx a2 x11).bind fun z15=>(if (!(Attr.beq z14 z15))=true then (some false) else ((bU a1 a2 k12) ((IntKind.wrap .i64 (x11 + 1))))))) else (some true))
def gD (n:Nat) (a1:(List Attr)) (a2:(List Attr)):Option Bool :=
 (if (((a1).length:Int) != ((a2).length:Int))=true then (some false) else (bU a1 a2 n (0)))
def eF (self:aK→aK→Option Bool) (a1:aK) (a2:aK):Nat→Int→Option Bool
 | 0,_=>none
 | k25 + 1,x24 =>
  (if (decide (x24 < ((a1.Kids).length:Int)))=true then ((idx a1.Kids x24).bind fun z27=>((idx a2.Kids x24).bind fun z28=>((self z27 z28).bind fun z29=>(if (!z29)=true then (some false) else ((eF self a1 a2 k25) ((IntKind.wrap .i64 (x24 + 1)))))))) else (some true))
def fJ:Nat→aK→aK→Option Bool
 | 0,_,_=>none
 | n + 1,a1,a2 =>
  ((if ((((a1.Kind != a2.Kind) || (a1.N != a2.N)) || (!(a1.Tag == a2.Tag))) || (!(a1.Text == a2.Text)))=true then some true else ((gD n a1.bR a2.bR).bind fun z12=>(some (!z12)))).bind fun z13=>(if (z13 || (((a1.Kids).length:Int) != ((a2.Kids).length:Int)))=true then (some false) else (eF (fJ n) a1 a2 n (0))))
def dJ (a1:(List Int)) (a2:(List Int)):Nat→Int→Option Bool
 | 0,_=>none
 | k12 + 1,x11 =>
  (if (decide (x11 < ((a1).length:Int)))=true then ((idx a1 x11).bind fun z14=>((idx a2 x11).bind fun z15=>(if (z14 != z15)=true then (some false) else ((dJ a1 a2 k12) ((IntKind.wrap .i64 (x11 + 1))))))) else (some true))
def iU (n:Nat) (a1:(List Int)) (a2:(List Int)):Option Bool :=
 (if (((a1).length:Int) != ((a2).length:Int))=true then (some false) else (dJ a1 a2 n (0)))
def dh (a1:(List On)) (a2:(List On)):Nat→Int→Option Bool
 | 0,_=>none
 | k12 + 1,x11 =>
  (if (decide (x11 < ((a1).length:Int)))=true then ((idx a1 x11).bind fun z14=>((idx a2 x11).bind fun z15=>(if (!(On.beq z14 z15))=true then (some false) else ((dh a1 a2 k12) ((IntKind.wrap .i64 (x11 + 1))))))) else (some true))
def gW (n:Nat) (a1:(List On)) (a2:(List On)):Option Bool :=
 (if (((a1).length:Int) != ((a2).length:Int))=true then (some false) else (dh a1 a2 n (0)))
def eG (n:Nat) (a1:dK) (a2:dK):Nat→Int→Option Bool
 | 0,_=>none
 | k58 + 1,x57 =>
  (if (decide (x57 < ((a1.Comps).length:Int)))=true then ((idx a1.Comps x57).bind fun z61=>((idx a2.Comps x57).bind fun z62=>((fJ n z61.aK z62.aK).bind fun z80=>((if (!z80)=true then some true else ((iU n z61.Init z62.Init).bind fun z81=>(some (!z81)))).bind fun z82=>((if z82=true then some true else ((gW n z61.On z62.On).bind fun z84=>(some (!z84)))).bind fun z85=>(if z85=true then (some false) else ((eG n a1 a2 k58) ((IntKind.wrap .i64 (x57 + 1)))))))))) else (some true))
def eB (n:Nat) (a1:dK) (a2:dK):Nat→Int→Option Bool
 | 0,_=>none
 | k20 + 1,x19 =>
  (if (decide (x19 < ((a1.Records).length:Int)))=true then ((idx a1.Records x19).bind fun z23=>((idx a2.Records x19).bind fun z24=>((if ((!(z23.Name == z24.Name)) || (z23.Parent != z24.Parent))=true then some true else ((gL n z23.dX z24.dX).bind fun z43=>(some (!z43)))).bind fun z44=>(if (((z44 || (z23.aJ != z24.aJ)) || (!(z23.fT == z24.fT))) || (!(aH.beq z23.aH z24.aH)))=true then (some false) else ((eB n a1 a2 k20) ((IntKind.wrap .i64 (x19 + 1)))))))) else (eG n a1 a2 n (0)))
def jU (n:Nat) (a1:dK) (a2:dK):Option Bool :=
 (if (((((a1.Records).length:Int) != ((a2.Records).length:Int)) || (((a1.Comps).length:Int) != ((a2.Comps).length:Int))) || (a1.Cache != a2.Cache))=true then (some false) else (eB n a1 a2 n (0)))
def nW (n:Nat)  : Option (List ak) :=
 (some [(ak.mk [115,104,111,112] (-1) [(Seg.mk 0 [115,104,111,112])] 0 false (aH.mk 0 0 [])),(ak.mk [105,116,101,109] 0 [(Seg.mk 1 [105,100])] 0 false (aH.mk 0 0 []))])
def kU (n:Nat)  : Option dK :=
 ((nW n ).bind fun z14=>((idx z14 1).bind fun z20=>((idx (je z14 1 (ak.mk z20.Name z20.Parent z20.dX 1 z20.fT z20.aH)) 1).bind fun z23=>(some (dK.mk (je (je z14 1 (ak.mk z20.Name z20.Parent z20.dX 1 z20.fT z20.aH)) 1 (ak.mk z23.Name z23.Parent z23.dX z23.aJ true z23.aH)) [(aJ.mk (aK.mk 1 0 [109,97,105,110] [] [] [(aK.mk 3 0 [] [] [] []),(aK.mk 7 0 [] [] [] [])]) [1] [(On.mk [117,112] 0 1)]),(aJ.mk (aK.mk 1 0 [112] [] [] [(aK.mk 4 0 [] [105,100] [] [])]) [] [])] 2)))))
def jd (n:Nat)  : Option Bool :=
 ((kU n ).bind fun z1=>((kU n ).bind fun z9=>((idx z9.Comps 0).bind fun z27=>((eP n z1).bind fun z30=>((if z30=true then ((eP n (dK.mk z9.Records (je z9.Comps 0 (aJ.mk (aK.mk z27.aK.Kind z27.aK.N z27.aK.Tag z27.aK.Text z27.aK.bR []) z27.Init z27.On)) z9.Cache)).bind fun z31=>(some (!z31))) else some false).bind fun z32=>((if z32=true then ((j5 n z1 0).bind fun z34=>(some z34)) else some false).bind fun z35=>((if z35=true then ((j5 n z1 1).bind fun z37=>(some (!z37))) else some false).bind fun z38=>(some z38))))))))
def cz (n:Nat) (z8:dK) (x23:Int) (again24:Int→Option Bool):Nat→Bool→Int→Option Bool
 | 0,_,_=>none
 | k36 + 1,x34,x35 =>
  (if (decide (x35 < ((z8.Records).length:Int)))=true then ((idx z8.Records x35).bind fun z38=>((cz n z8 x23 again24 k36) ((x34 || (z38.Parent == x23))) ((IntKind.wrap .i64 (x35 + 1))))) else ((j5 n z8 x23).bind fun z45=>(if (!(z45 == x34))=true then (some false) else (again24 ((IntKind.wrap .i64 (x23 + 1)))))))
def aW (n:Nat) (a1:jB) (z8:dK) (x68:(List aJ)) (x70:Int) (x71:(List ak)) (x72:(List aJ)):Option Bool :=
 ((eP n (dK.mk x71 x68 x70)).bind fun z74=>((if z74=true then some true else ((eP n z8).bind fun z75=>(some (!z75)))).bind fun z76=>(if z76=true then (some false) else ((fM n a1).bind fun z79=>((jU n z8 z79).bind fun z85=>((if z85=true then ((jd n).bind fun z86=>(some z86)) else some false).bind fun z87=>(some z87)))))))
def fu (n:Nat) (a1:jB) (z8:dK) (z47:dK) (z65:ak) (x117:(List aJ)):Option Bool :=
 ((idx x117 z65.aJ).bind fun z119=>(aW n a1 z8 ((je x117 z65.aJ (aJ.mk (aK.mk 1 0 [112] [] [] [(aK.mk 3 0 [] [] [] [])]) z119.Init z119.On))) (z47.Cache) (z47.Records) ((je x117 z65.aJ (aJ.mk (aK.mk 1 0 [112] [] [] [(aK.mk 3 0 [] [] [] [])]) z119.Init z119.On)))))
def bu (n:Nat) (a1:jB) (a2:Int) (a3:Int) (a4:Int) (z8:dK):Nat→Int→Option Bool
 | 0,_=>none
 | k24 + 1,x23 =>
  (if (decide (x23 < ((z8.Records).length:Int)))=true then (cz n z8 x23 (bu n a1 a2 a3 a4 z8 k24) n (false) (0)) else ((ql n z8).bind fun z47=>(if (((((z47.Records).length:Int) != ((z8.Records).length:Int)) || (((z47.Comps).length:Int) != ((z8.Comps).length:Int))) || (((z47.Comps).length:Int) == 0))=true then (some false) else ((aT n a3 0 (IntKind.wrap .i64 (((z47.Records).length:Int) - 1))).bind fun z63=>((aT n a4 0 1099511627776).bind fun z64=>((idx z47.Records z63).bind fun z65=>((aT n a2 0 9).bind fun z89=>(if (z89 == 0)=true then (aW n a1 z8 (z47.Comps) ((IntKind.wrap .i64 (8 + (IntKind.wrap .i64 (1 + z64))))) (z47.Records) (z47.Comps)) else (if (z89 == 1)=true then (aW n a1 z8 (z47.Comps) ((IntKind.wrap .i64 (0 - (IntKind.wrap .i64 (1 + z64))))) (z47.Records) (z47.Comps)) else (if (z89 == 2)=true then (aW n a1 z8 (z47.Comps) (z47.Cache) ((je z47.Records z63 (ak.mk z65.Name z65.Parent z65.dX (IntKind.wrap .i64 ((IntKind.wrap .i64 (((z47.Comps).length:Int) - 1)) + (IntKind.wrap .i64 (1 + z64)))) z65.fT z65.aH))) (z47.Comps)) else (if (z89 == 3)=true then (aW n a1 z8 (z47.Comps) (z47.Cache) ((je z47.Records z63 (ak.mk z65.Name z65.Parent z65.dX (IntKind.wrap .i64 (0 - (IntKind.wrap .i64 (1 + z64)))) z65.fT z65.aH))) (z47.Comps)) else (if (z89 == 4)=true then (aW n a1 z8 (z47.Comps) (z47.Cache) ((je z47.Records z63 (ak.mk z65.Name z65.Parent z65.dX z65.aJ z65.fT (aH.mk 3 0 [110,111,119,104,101,114,101])))) (z47.Comps)) else (if (z89 == 5)=true then (aW n a1 z8 (z47.Comps) (z47.Cache) ((je z47.Records z63 (ak.mk z65.Name z65.Parent z65.dX z65.aJ z65.fT (aH.mk 2 (IntKind.wrap .i64 (7 + (IntKind.wrap .i64 (1 + z64)))) [])))) (z47.Comps)) else (if (z89 == 6)=true then (aW n a1 z8 (z47.Comps) (z47.Cache) ((je z47.Records z63 (ak.mk [65] z65.Parent z65.dX z65.aJ z65.fT z65.aH))) (z47.Comps)) else (if (z89 == 7)=true then (aW n a1 z8 (z47.Comps) (z47.Cache) ((je z47.Records z63 (ak.mk z65.Name z63 z65.dX z65.aJ z65.fT z65.aH))) (z47.Comps)) else (if (z89 == 8)=true then ((idx z47.Comps z65.aJ).bind fun z125=>(fu n a1 z8 z47 z65 ((je z47.Comps z65.aJ (aJ.mk z125.aK [] z125.On))))) else (aW n a1 z8 ([]) (z47.Cache) (z47.Records) (z47.Comps))))))))))))))))))
def iO (n:Nat) (a1:jB) (a2:Int) (a3:Int) (a4:Int):Option Bool :=
 ((fM n a1).bind fun z8=>((eP n z8).bind fun z14=>(if (!z14)=true then (some false) else (bu n a1 a2 a3 a4 z8 n (0)))))
end Pr
end Go.Ev

import Derived.Test.YtbjneeknddapfaaPartB
import Derived.Shelf.Spec.SlicesInsertGrow
import Derived.Shelf.Strings.Builder1
import Derived.Shelf.Strings.OnBuilder
import Derived.Shelf.Strings.SplitShaped
import Derived.Shelf.Strings.SlTrimAscii
import Derived.Shelf.Small.Strs
import Derived.Shelf.Strings.Cut
import Derived.DataReads
import GoSem.ClaimChange
import Derived.WideShapes
import Derived.ChangeShapes
namespace Go.Ev
noncomputable section
set_option linter.unusedVariables false
set_option linter.unusedSimpArgs false
variable {R:bO} {C:eT} {P:Program} {nt:Nat} {B:St}
inductive J8 (v:AV) (d:D):AV→AV→Prop
 | same (x:AV):J8 v d x x
 | it:J8 v d v (.d d)
inductive uB (v:AV) (d:D):List AV→List AV→Prop
 | nil:uB v d [] []
 | cons {x y:AV} {xs ys:List AV} (h:J8 v d x y) (k:uB v d xs ys):uB v d (x :: xs) (y :: ys)
theorem uB.len {v:AV} {d:D} {xs ys:List AV} (h:uB v d xs ys):ys.length=xs.length:=by
 induction h with
 | nil=>rfl
 | cons _ _ ih=>simp [ih]
theorem uB.get {v:AV} {d:D} {xs ys:List AV} (h:uB v d xs ys):∀ {i:Nat} {y:AV},ys[i]? = some y→∃ x,xs[i]? = some x∧J8 v d x y:=by
 induction h with
 | nil=>intro i y h; simp at h
 | cons h k ih =>
  intro i y hy
  cases i with
  | zero=>simp at hy; subst hy; exact ⟨_,rfl,h⟩
  | succ i=>simpa using ih (by simpa using hy)
theorem uB.refl (v:AV) (d:D):∀ (l:List AV),uB v d l l
 | []=>.nil
 | x :: l=>.cons (.same x) (.refl v d l)
def Me (v:AV) (d:D) (b b':uZ):Prop:=b'=b∨∃ g cs cs',b=.cells g cs∧b'=.cells g cs'∧uB v d cs cs'
theorem mG {v:Value} (h:v.oneCell'=true):v.cells.toList=[v]∧wz v=false:=by
 cases v <;> simp_all [Value.oneCell',Value.cells,wz]
theorem iq.of_cells {w:World} {fr:Nat→Nat→Prop} {x:D} {vs:List Value} (hf:kJ x.cells=true) (hl:vs.length=x.cells.length) (ho:∀ v ∈ vs,v.oneCell'=true)
  (h:∀ (i:Nat) (c:D) (v:Value),x.cells[i]? = some c→vs[i]? = some v→iq w fr c [v]):iq w fr x vs:=by
 have one:∀ (x:D),x.cells=[x]→(vs.length=x.cells.length)→(∀ (i:Nat) (c:D) (v:Value),x.cells[i]? = some c→vs[i]? = some v→iq w fr c [v])→iq w fr x vs:=fun x hx hl h=>by
  rw [hx] at hl h
  match vs,hl with
  | [v],_=>exact h 0 x v rfl rfl
 cases x with
 | agg ys =>
  simp only [D.cells] at hl h hf
  refine .agg ys vs hl ho (fun y hy=>?_) h
  clear hl h
  induction ys with
  | nil=>cases hy
  | cons z ys ih =>
   simp only [kJ,Bool.and_eq_true,Bool.not_eq_true'] at hf
   rcases List.mem_cons.1 hy with rfl | hy
   ·
    exact hf.1
   ·
    exact ih hf.2 hy
 | _=>exact one _ rfl hl h
theorem flat_get {xs:List D} {sz:Nat} (hsz:∀ x ∈ xs,x.cells.length=sz):∀ {i j:Nat} {x c:D},xs[i]? = some x→x.cells[j]? = some c→((xs.map D.cells).flatten)[i * sz + j]? = some c:=by
 induction xs with
 | nil=>intro i j x c hx; simp at hx
 | cons y xs ih =>
  intro i j x c hx hc
  have hy:=hsz y List.mem_cons_self
  rw [List.map_cons,List.flatten_cons]
  cases i with
  | zero =>
   simp at hx; subst hx
   rw [Nat.zero_mul,Nat.zero_add,List.getElem?_append_left (List.getElem?_eq_some_iff.1 hc).1]; exact hc
  | succ i =>
   have:=ih (fun x hx=>hsz x (List.mem_cons_of_mem _ hx)) (i:=i) (by simpa using hx) hc
   rw [Nat.add_mul,Nat.one_mul,List.getElem?_append_right (by omega)]
   rw [show i * sz + sz + j - y.cells.length=i * sz + j by omega]; exact this
theorem D5 {xs:List D} {sz:Nat} (hsz:∀ x ∈ xs,x.cells.length=sz):((xs.map D.cells).flatten).length=xs.length * sz:=by
 induction xs with
 | nil=>simp
 | cons y xs ih =>
  rw [List.map_cons,List.flatten_cons,List.length_append,ih (fun x hx=>hsz x (List.mem_cons_of_mem _ hx)),hsz y List.mem_cons_self,List.length_cons,Nat.add_mul,Nat.one_mul]; omega
theorem Jt {cx:Cx} {S:St} {w:World} (h:bg R cx S w) {id g sz:Nat} {xs:List D} {cs0:List AV} (hcs0:gJ ((xs.map D.cells).flatten.map .d) cs0) (hid:S.H.get id=some (.cells g cs0)) (hpos:0 < sz) (hsz:∀ x ∈ xs,x.cells.length=sz∧kJ x.cells=true)
  {fr':Nat→Nat→Prop} (hp:∀ (b o:Nat) (v:Value),¬ cx.fr b o→w.cell? ⟨b,o,none⟩=some v→w.cell? ⟨b,o,none⟩=some v∧¬ fr' b o) (hfr:∀ o,¬ fr' (cx.bm id) o) {u:Value} (hu:aO cx S w (.eD id g 0 xs.length xs.length sz) u):bL w fr' (.sl xs false) u:=by
 cases hu with
 | eD _ _ _ _ _ _ b cap hn hl hcap h63 hq =>
  obtain ⟨hb,_,_⟩:=hq (by unfold cur; rw [hid])
  subst hb
  obtain ⟨c1,c2,arr,el,c3,⟨c4,c5,c6⟩,c7⟩:=h.cells id g _ hid
  refine ⟨?_,rfl⟩
  by_cases hne:xs=[]
  ·
   subst hne; exact .sl0 _ cap false (fun q=>by cases q)
  have hflat:=D5 (fun x hx=>(hsz x hx).1)
  let vs:Nat→List Value:=fun i=>(List.range sz).map fun j=>(arr[i * sz + j]?).getD default
  have hcell:∀ (i j:Nat) (x:D),xs[i]? = some x→j < sz→∃ c v,x.cells[j]? = some c∧arr[i * sz + j]? = some v∧aO cx S w (.d c) v∧v.oneCell'=true:=fun i j x hx hj=>by
   have hxl:=(hsz x (List.mem_of_getElem? hx)).1
   have hc:x.cells[j]? = some x.cells[j]:=List.getElem?_eq_getElem (by omega)
   have hfg:=flat_get (fun x hx=>(hsz x hx).1) hx hc
   have hlt:i * sz + j < cs0.length:=by
    have:=(List.getElem?_eq_some_iff.1 hfg).1
    have h2:=hcs0.len
    rw [List.length_map] at h2; omega
   obtain ⟨v,v1,v2,v3⟩:=c7 (i * sz + j) _ (List.getElem?_eq_getElem hlt)
   exact ⟨_,v,hc,v1,hcs0.get (by rw [List.getElem?_map,hfg]; rfl) (List.getElem?_eq_getElem hlt) _ _ _ _ v2,v3⟩
  have hvs:∀ (i j:Nat) (v:Value),(vs i)[j]? = some v→j < sz∧(arr[i * sz + j]?).getD default=v:=fun i j v hv=>by
   simp only [vs,List.getElem?_map,Option.map_eq_some_iff] at hv
   obtain ⟨k,hk,rfl⟩:=hv
   rw [List.getElem?_eq_some_iff] at hk
   obtain ⟨hlt,hk⟩:=hk
   simp at hlt hk
   subst hk
   exact ⟨hlt,rfl⟩
  refine .sl xs false (cx.bm id) 0 cap sz vs hne hcap (fun q=>by cases q) (fun i x hx=>(hsz x (List.mem_of_getElem? hx)).1) (fun i hi=>by simp [vs]) (fun i x hx=>?_) (fun i j v hi hv=>?_)
  ·
   have hm:=hsz x (List.mem_of_getElem? hx)
   refine iq.of_cells hm.2 (by simp [vs,hm.1]) (fun v hv=>?_) (fun j c v hc hv=>?_)
   ·
    obtain ⟨j,hj,rfl⟩:=List.getElem_of_mem hv
    have hj':=List.getElem?_eq_getElem hj
    obtain ⟨k1,k2⟩:=hvs i j _ hj'
    obtain ⟨c,v,_,v1,_,v3⟩:=hcell i j x hx k1
    rw [v1] at k2
    rw [← k2]; exact v3
   ·
    obtain ⟨k1,k2⟩:=hvs i j v hv
    obtain ⟨c',v',h1,v1,v2,v3⟩:=hcell i j x hx k1
    rw [v1] at k2
    simp at k2
    subst k2
    rw [hc] at h1; cases h1
    have:=(v2.dd.mono hp).1
    rw [(mG v3).1] at this
    exact this
  ·
   obtain ⟨k1,k2⟩:=hvs i j v hv
   obtain ⟨c',v',h1,v1,v2,v3⟩:=hcell i j xs[i] (List.getElem?_eq_getElem hi) k1
   rw [v1] at k2
   simp at k2
   subst k2
   refine ⟨?_,hfr _⟩
   simp only [World.cell?,c3,Nat.zero_add]
   simp [v1]
theorem BX (hR:ObjOk R) {cx:Cx} {S S':St} {w:World} (h:bg R cx S w) {id g sz:Nat} {xs:List D} {cs0:List AV} (hcs0:gJ ((xs.map D.cells).flatten.map .d) cs0) (hid:S.H.get id=some (.cells g cs0)) (hpos:0 < sz) (hsz:∀ x ∈ xs,x.cells.length=sz∧kJ x.cells=true)
  (nx:S'.nx=S.nx) (hT:S'.T=S.T) (hH:∀ k b',S'.H.get k=some b'→k ≠ id∧∃ b,S.H.get k=some b∧Me (.eD id g 0 xs.length xs.length sz) (.sl xs false) b b') :
  ∃ cx',bg R cx' S' w∧Ext cx S w cx' S' w∧∀ u,aO cx S w (.eD id g 0 xs.length xs.length sz) u→aO cx' S' w (.d (.sl xs false)) u:=by
 have hl:live S id:=oJ hid
 have ownId:∀ k b,live S k→cx.fp k b→b=cx.bm id→k=id:=fun k b hk hf hb=>by
  subst hb
  exact h.sep k id _ hk hl hf ((h.cells id g _ hid).fp _ |>.2 rfl)
 have hcur:∀ k g',cur S' k=some g'→cur S k=some g':=fun k g' hc=>by
  unfold cur at hc ⊢
  cases hk:S'.H.get k with
  | none =>
   rw [hk] at hc
   simp only [hT] at hc
   cases hS:S.H.get k with
   | none=>exact hc
   | some b=>rw [h.uf k b hS] at hc; cases hc
  | some b' =>
   rw [hk] at hc
   obtain ⟨_,b,hb,hz⟩:=hH k b' hk
   rw [hb]
   rcases hz with rfl | ⟨g1,cs,cs',rfl,rfl,_⟩
   ·
    cases b' <;> exact hc
   ·
    exact hc
 have hlive:∀ k,live S' k→live S k:=fun k hk=>by
  cases hc:cur S' k with
  | none=>exact absurd hc hk
  | some g'=>unfold live; rw [hcur k g' hc]; simp
 have hno:¬ live S' id:=fun q=>by
  cases hc:S'.H.get id with
  | some b'=>exact (hH id b' hc).1 rfl
  | none =>
   unfold live cur at q
   rw [hc,hT,h.uf id _ hid] at q
   exact q rfl
 have hit:∀ k g',isIt S' k g'→isIt S k g':=fun k g' q=>by
  obtain ⟨_,b,hb,hz⟩:=hH k _ q
  rcases hz with hz | ⟨g1,cs,cs',_,hz,_⟩
  ·
   rw [← hz] at hb; exact hb
  ·
   cases hz
 let cx':Cx:={ cx with fr:=fun b o=>cx.fr b o∧b ≠ cx.bm id }
 have prot:∀ (b o:Nat) (v:Value),¬ cx.fr b o→w.cell? ⟨b,o,none⟩=some v→w.cell? ⟨b,o,none⟩=some v∧¬ cx'.fr b o:=fun b o v h1 h2=>⟨h2,fun q=>h1 q.1⟩
 have ext:Ext cx S w cx' S' w:=by
  refine ⟨Nat.le_refl _,rfl,rfl,rfl,by rw [nx]; exact Nat.le_refl _,prot,fun b hb hn=>⟨rfl,fun o=>⟨fun q=>q.1,fun q=>⟨q,fun hq=>?_⟩⟩⟩,fun k b hk hf=>⟨fun _=>⟨hlive k hk,.inl hf⟩,fun hge=>?_⟩,fun k g' _ q=>⟨g',hit k g' q⟩,fun k g' b _ _ _ hf=>hf,fun k g' _ hc=>⟨g',hcur k g' hc,Nat.le_refl _,fun _=>⟨rfl,rfl,rfl⟩⟩⟩
  ·
   subst hq
   exact Dh hid (by intro x; simp) (hn id hl ((h.cells id g _ hid).fp _ |>.2 rfl))
  ·
   exact absurd (h.wf k (hlive k hk)) (by omega)
 have key:∀ u,aO cx S w (.eD id g 0 xs.length xs.length sz) u→aO cx' S' w (.d (.sl xs false)) u:=fun u hu =>
  .d _ _ (Jt h hcs0 hid hpos hsz prot (fun o q=>q.2 rfl) hu)
 refine ⟨cx',⟨fun k hk=>by rw [nx]; exact h.wf k (hlive k hk),fun k b' hk=>?_,fun k g' cs' hk=>?_,fun k es hk=>?_,fun k q x hk=>?_,fun k en hk=>?_,fun k k' b a1 a2=>h.sep k k' b (hlive k a1) (hlive k' a2),fun b o q=>h.lt b o q.1,hR.stat _ _ _ _ h.stat prot⟩,ext,key⟩
 ·
  obtain ⟨_,b,hb,_⟩:=hH k b' hk
  rw [hT]; exact h.uf k b hb
 ·
  obtain ⟨hne',b,hb,hz⟩:=hH k _ hk
  have hex:∃ cs,b=.cells g' cs∧uB (.eD id g 0 xs.length xs.length sz) (.sl xs false) cs cs':=by
   rcases hz with hz | ⟨g1,cs,cs2,h1,h2,h3⟩
   ·
    exact ⟨cs',hz.symm,.refl _ _ _⟩
   ·
    cases h2; exact ⟨cs,h1,h3⟩
  obtain ⟨cs,rfl,hfz⟩:=hex
  obtain ⟨c1,c2,arr,el,c3,⟨c4,c5,c6⟩,c7⟩:=h.cells k g' cs hb
  have hlk:live S k:=oJ hb
  refine ⟨c1,fun o=>⟨c2 o,fun hq=>hne' (ownId k _ hlk ((c1 _).2 rfl) hq)⟩,arr,el,c3,⟨c4,by rw [hfz.len]; exact c5,by rw [hfz.len]; exact c6⟩,fun i x hx=>?_⟩
  obtain ⟨y,hy,hfa⟩:=hfz.get hx
  obtain ⟨v,v1,v2,v3⟩:=c7 i y hy
  refine ⟨v,v1,?_,v3⟩
  cases hfa with
  | same=>exact v2.mono ext
  | it=>exact key v v2
 ·
  obtain ⟨hne',b,hb,hz⟩:=hH k _ hk
  have hb':b=.map es:=by
   rcases hz with hz | ⟨g1,cs,cs2,h1,h2,h3⟩
   ·
    exact hz.symm
   ·
    cases h2
  subst hb'
  obtain ⟨c1,c2,ms,clk,c3,c4,c5⟩:=h.maps k es hb
  refine ⟨c1,fun o=>⟨c2 o,fun hq=>hne' (ownId k _ (oJ hb) ((c1 _).2 rfl) hq)⟩,ms,clk,c3,c4,fun i p m hp hm=>?_⟩
  obtain ⟨v1,v2⟩:=c5 i p m hp hm
  exact ⟨v1.mono prot,v2.mono ext⟩
 ·
  obtain ⟨hne',b,hb,hz⟩:=hH k _ hk
  have hb':b=.obj q x:=by
   rcases hz with hz | ⟨g1,cs,cs2,h1,h2,h3⟩
   ·
    exact hz.symm
   ·
    cases h2
  subst hb'
  obtain ⟨c1,c2⟩:=h.objs k q x hb
  exact ⟨c1,fun b o hf=>⟨c2 b o hf,fun hq=>hne' (ownId k b (oJ hb) hf hq)⟩⟩
 ·
  rw [hT] at hk
  obtain ⟨c1,c2,c3⟩:=h.toks k en hk
  have hkid:k ≠ id:=fun q=>by subst q; rw [h.uf _ _ hid] at hk; cases hk
  exact ⟨c1,fun o ho=>⟨c2 o ho,fun hq=>hkid (ownId k _ (uG hk) ((c1 _).2 rfl) hq)⟩,c3⟩
inductive wH (v:AV) (d:D):List bG→List bG→Prop
 | nil:wH v d [] []
 | same {a:bG} {l l':List bG} (k:wH v d l l'):wH v d (a :: l) (a :: l')
 | box {id:Nat} {cs cs':List AV} {l l':List bG} (h:uB v d cs cs') (k:wH v d l l'):wH v d (.box id cs :: l) (.box id cs' :: l')
theorem wH.iM {v:AV} {d:D} {l l':List bG} (h:wH v d l l'):l'.map bG.fp=l.map bG.fp:=by
 induction h with
 | nil=>rfl
 | same _ ih=>simp [ih]
 | box _ _ ih=>simp [ih,bG.fp]
theorem wH.mem {v:AV} {d:D} {l l':List bG} (h:wH v d l l') {a':bG} (ha:a' ∈ l'):a' ∈ l∨∃ id cs cs',a'=.box id cs'∧.box id cs ∈ l∧uB v d cs cs':=by
 induction h with
 | nil=>cases ha
 | same _ ih =>
  rcases List.mem_cons.1 ha with rfl | ha
  ·
   exact .inl List.mem_cons_self
  ·
   rcases ih ha with h | ⟨id,cs,cs',h1,h2,h3⟩
   ·
    exact .inl (List.mem_cons_of_mem _ h)
   ·
    exact .inr ⟨id,cs,cs',h1,List.mem_cons_of_mem _ h2,h3⟩
 | box hz _ ih =>
  rcases List.mem_cons.1 ha with rfl | ha
  ·
   exact .inr ⟨_,_,_,rfl,List.mem_cons_self,hz⟩
  ·
   rcases ih ha with h | ⟨id,cs,cs',h1,h2,h3⟩
   ·
    exact .inl (List.mem_cons_of_mem _ h)
   ·
    exact .inr ⟨id,cs,cs',h1,List.mem_cons_of_mem _ h2,h3⟩
theorem wH.Fj {v:AV} {d:D} {l l':List bG} (h:wH v d l l') {id:Nat} {cs':List AV} (ha:bG.box id cs' ∈ l'):∃ cs,.box id cs ∈ l∧uB v d cs cs':=by
 rcases h.mem ha with h | ⟨id2,cs,cs2,h1,h2,h3⟩
 ·
  exact ⟨cs',h,.refl _ _ _⟩
 ·
  cases h1; exact ⟨cs,h2,h3⟩
open Classical in
def BZ (l:List bG) (k:Nat) (b:uZ):uZ:=if h:∃ cs,bG.box k cs ∈ l then .cells 0 (Classical.choose h) else b
def AL.FL {α:Type} (f:Nat→α→α):AL α→AL α
 | []=>[]
 | (k,v) :: l=>(k,f k v) :: AL.FL f l
theorem AL.zR {α:Type} (f:Nat→α→α):∀ (l:AL α) (k:Nat),AL.get (AL.FL f l) k=(AL.get l k).map (f k)
 | [],k=>by simp [AL.FL,AL.get]
 | (a,v) :: l,k=>by
  simp only [AL.FL,AL.gm,AL.zR f l k]
  by_cases h:a=k
  ·
   subst h; simp
  ·
   simp [h]
theorem FU {l:List bG} (hn:(l.map bG.fp).flatten.Nodup) {a b:bG} (ha:a ∈ l) (hb:b ∈ l) {id:Nat} (h1:id ∈ a.fp) (h2:id ∈ b.fp):a=b:=by
 obtain ⟨i,hi,rfl⟩:=List.getElem_of_mem ha
 obtain ⟨j,hj,rfl⟩:=List.getElem_of_mem hb
 by_cases hij:i=j
 ·
  subst hij; rfl
 ·
  exact (zC hn (List.getElem?_eq_getElem hi) (List.getElem?_eq_getElem hj) hij h1 h2).elim
theorem zu {l:List bG} (hn:(l.map bG.fp).flatten.Nodup) {k:Nat} {cs:List AV} (h:bG.box k cs ∈ l) (b:uZ):BZ l k b=.cells 0 cs:=by
 have hex:∃ cs,bG.box k cs ∈ l:=⟨cs,h⟩
 unfold BZ
 rw [dif_pos hex]
 have:=FU hn (Classical.choose_spec hex) h (id:=k) (by simp [bG.fp]) (by simp [bG.fp])
 simp only [bG.box.injEq,true_and] at this
 rw [this]
theorem vM {l:List bG} {k:Nat} (h:∀ cs,bG.box k cs ∉ l) (b:uZ):BZ l k b=b:=by
 unfold BZ
 rw [dif_neg (fun ⟨cs,q⟩=>h cs q)]
def AQ (v:AV) (d:D) (e2 e:Env):Prop:=∀ t x,AL.get e2 t=some x→∃ y,AL.get e t=some y∧(Less x y∨(y=v∧x=.d d))
theorem AQ.nil {v:AV} {d:D} {e:Env}:AQ v d [] e:=fun _ _ h=>by simp [AL.get] at h
theorem AQ.cons {v:AV} {d:D} {t:Nat} {x y:AV} {e2 e:Env} (h:AL.get e t=some y) (hl:Less x y) (k:AQ v d e2 e):AQ v d ((t,x) :: e2) e:=fun u z hz=>by
 rw [AL.gm] at hz
 by_cases hu:t=u
 ·
  subst hu; rw [if_pos rfl] at hz; cases hz; exact ⟨y,h,.inl hl⟩
 ·
  rw [if_neg hu] at hz; exact k u z hz
theorem AQ.it {v:AV} {d:D} {t:Nat} {e2 e:Env} (h:AL.get e t=some v) (k:AQ v d e2 e):AQ v d ((t,.d d) :: e2) e:=fun u z hz=>by
 rw [AL.gm] at hz
 by_cases hu:t=u
 ·
  subst hu; rw [if_pos rfl] at hz; cases hz; exact ⟨v,h,.inr ⟨rfl,rfl⟩⟩
 ·
  rw [if_neg hu] at hz; exact k u z hz
theorem bG.IX {S S':St} {v:AV} {d:D} {l l':List bG} (hz:wH v d l l') (nd':(l'.map bG.fp).flatten.Nodup) (hok:∀ a ∈ l,a.ok S)
  (hH:∀ a ∈ l',∀ k ∈ a.fp,S'.H.get k=(S.H.get k).map (BZ l' k)) (hT:S'.T=S.T):∀ a ∈ l',a.ok S':=by
 intro a' ha'
 cases a' with
 | box k cs' =>
  obtain ⟨cs,h1,h2⟩:=hz.Fj ha'
  have:=hok _ h1
  simp only [bG.ok] at this ⊢
  rw [hH _ ha' k (by simp [bG.fp]),this,Option.map_some,zu nd' ha']
 | _ =>
  have hm:_ ∈ l:=(hz.mem ha').resolve_right (fun ⟨_,_,_,q,_⟩=>by cases q)
  refine bG.keep (hok _ hm) (fun k hk=>?_) (fun k hk=>by rw [hT])
  rw [hH _ ha' k hk]
  cases hb:S.H.get k with
  | none=>rfl
  | some b =>
   rw [Option.map_some,vM (fun cs q=>?_)]
   have:=FU nd' ha' q (id:=k) hk (by simp [bG.fp])
   cases this
theorem Has.freeze (hR:ObjOk R) {S:St} {l l':List bG} (H:Has B S l) {i sz:Nat} {v:AV} {xs:List D} (hi:l[i]? = some (.row sz v xs)) (hz:wH v (.sl xs false) (l.eraseIdx i) l') :
  ∃ S',Has B S' l'∧∀ nt e e2,AQ v (.sl xs false) e2 e→ou R nt e S e2 S':=by
 have hg:=H.at hi
 have hil:i < l.length:=(List.getElem?_eq_some_iff.1 hi).1
 have hsub:(l.eraseIdx i).Sublist l:=List.eraseIdx_sublist ..
 have nd':(l'.map bG.fp).flatten.Nodup:=by rw [hz.iM]; exact H.nd.sublist (Jz bG.fp hsub)
 have hfp':∀ a' ∈ l',∃ a ∈ l.eraseIdx i,a.fp=a'.fp:=fun a' ha'=>by
  rcases hz.mem ha' with h | ⟨id,cs,cs',rfl,h2,_⟩
  ·
   exact ⟨a',h,rfl⟩
  ·
   exact ⟨_,h2,rfl⟩
 have hfpl:∀ a' ∈ l',∃ a ∈ l,a.fp=a'.fp:=fun a' ha'=>let ⟨a,h1,h2⟩:=hfp' a' ha'; ⟨a,hsub.subset h1,h2⟩
 have hout:∀ a ∈ l',∀ id ∈ a.fp,B.H.get id=none∧B.T.get id=none:=fun a' ha' id hid=>by
  obtain ⟨a,h1,h2⟩:=hfpl a' ha'
  exact H.out a h1 id (by rw [h2]; exact hid)
 simp only [bG.ok] at hg
 have plain:xs=[]→(∃ b,(v=.d .aS∧b=true)∨(v=.d (.sl [] true)∧b=true))→∃ S',Has B S' l'∧∀ nt e e2,AQ v (.sl xs false) e2 e→ou R nt e S e2 S':=fun hx hv=>by
  subst hx
  have hless:Less (.d (.sl [] false)) v:=by
   obtain ⟨b,⟨rfl,_⟩ | ⟨rfl,_⟩⟩:=hv
   ·
    exact LF
   ·
    exact LY
  have hF:∀ {cs cs':List AV},uB v (.sl [] false) cs cs'→gJ cs' cs:=fun h=>by
   induction h with
   | nil=>exact .nil
   | cons h k ih =>
    refine .cons ?_ ih
    cases h with
    | same=>exact .refl _
    | it=>exact hless
  let S':St:={ S with H:=AL.FL (BZ l') S.H }
  have hget:∀ k,S'.H.get k=(S.H.get k).map (BZ l' k):=fun k=>AL.zR _ _ _
  have ws:kC S' S:=by
   refine ⟨rfl,fun _=>rfl,fun k=>?_⟩
   rw [hget]
   cases hb:S.H.get k with
   | none=>exact mJ.refl _
   | some b =>
    rw [Option.map_some]
    by_cases hk:∃ cs',bG.box k cs' ∈ l'
    ·
     obtain ⟨cs',hk⟩:=hk
     obtain ⟨cs,h1,h2⟩:=hz.Fj hk
     have:=H.ok _ (hsub.subset h1)
     simp only [bG.ok] at this
     rw [hb] at this; cases this
     rw [zu nd' hk]
     exact ⟨rfl,hF h2⟩
    ·
     rw [vM (fun cs q=>hk ⟨cs,q⟩)]; exact mJ.refl _
  refine ⟨S',⟨fun k hk=>H.wf k (ws.live.1 hk),bG.IX hz nd' (fun a ha=>H.ok a (hsub.subset ha)) (fun a ha k hk=>hget k) rfl,nd',H.bwf,⟨H.keeps.nx,fun k b hb=>?_,H.keeps.T⟩,hout⟩,fun nt e e2 he cx w a h1 h2=>?_⟩
  ·
   rw [hget,H.keeps.H k b hb,Option.map_some,vM (fun cs q=>?_)]
   have:=(hout _ q k (by simp [bG.fp])).1
   rw [this] at hb; cases hb
  ·
   refine ⟨cx,h1.iA ws,Ext.iA ws (Ext.refl w (h1.iA ws).wf),⟨h2.size,fun t x hx=>?_⟩⟩
   obtain ⟨y,hy,hq⟩:=he t x hx
   obtain ⟨u,u1,u2⟩:=h2.rel t y hy
   refine ⟨u,u1,aO.iA ws ?_⟩
   rcases hq with hq | ⟨rfl,rfl⟩
   ·
    exact hq _ _ _ _ u2
   ·
    exact hless _ _ _ _ u2
 split at hg
 ·
  exact plain hg ⟨true,.inl ⟨rfl,rfl⟩⟩
 ·
  exact plain hg ⟨true,.inr ⟨rfl,rfl⟩⟩
 ·
  rename_i id g off len lim sz'
  obtain ⟨rfl,rfl,rfl,hszz,hpos,hsz,cs0,hcs0,hid⟩:=hg
  subst hszz
  let S':St:={ S with H:=AL.FL (BZ l') (AL.del S.H id) }
  have hget:∀ k,S'.H.get k=if id=k then none else (S.H.get k).map (BZ l' k):=fun k=>by
   show AL.get (AL.FL _ _) k=_
   rw [AL.zR,AL.yB]
   by_cases hk:id=k <;> simp [hk]
  have hnot:∀ a ∈ l',∀ k ∈ a.fp,id ≠ k:=fun a' ha' k hk hq=>by
   subst hq
   obtain ⟨a,h1,h2⟩:=hfp' a' ha'
   rw [← h2] at hk
   obtain ⟨j,hj,hja⟩:=List.mem_eraseIdx_iff_getElem?.1 h1
   exact zC H.nd hi hja (fun q=>hj q.symm) (id:=id) (by simp [bG.fp]) hk
  have hB:B.H.get id=none:=(H.out _ (List.mem_of_getElem? hi) id (by simp [bG.fp])).1
  have hlive:∀ k,live S' k→live S k:=fun k hk=>by
   unfold live cur at hk ⊢
   rw [hget] at hk
   by_cases hq:id=k
   ·
    subst hq; rw [hid]; simp
   ·
    rw [if_neg hq] at hk
    cases hb:S.H.get k with
    | none=>rw [hb] at hk; exact hk
    | some b=>cases b <;> simp
  refine ⟨S',⟨fun k hk=>H.wf k (hlive k hk),bG.IX hz nd' (fun a ha=>H.ok a (hsub.subset ha)) (fun a ha k hk=>by rw [hget,if_neg (hnot a ha k hk)]) rfl,nd',H.bwf,⟨H.keeps.nx,fun k b hb=>?_,H.keeps.T⟩,hout⟩,fun nt e e2 he cx w a h1 h2=>?_⟩
  ·
   rw [hget,if_neg (fun q=>by subst q; rw [hB] at hb; cases hb),H.keeps.H k b hb,Option.map_some,vM (fun cs q=>?_)]
   have:=(hout _ q k (by simp [bG.fp])).1
   rw [this] at hb; cases hb
  ·
   have hA:∀ k b',S'.H.get k=some b'→k ≠ id∧∃ b,S.H.get k=some b∧Me (.eD id g 0 xs.length xs.length sz') (.sl xs false) b b':=fun k b' hb'=>by
    rw [hget] at hb'
    by_cases hq:id=k
    ·
     rw [if_pos hq] at hb'; cases hb'
    ·
     rw [if_neg hq] at hb'
     obtain ⟨b,hb,rfl⟩:=Option.map_eq_some_iff.1 hb'
     refine ⟨fun q=>hq q.symm,b,hb,?_⟩
     by_cases hk:∃ cs',bG.box k cs' ∈ l'
     ·
      obtain ⟨cs',hk⟩:=hk
      obtain ⟨cs,h3,h4⟩:=hz.Fj hk
      have:=H.ok _ (hsub.subset h3)
      simp only [bG.ok] at this
      rw [hb] at this; cases this
      rw [zu nd' hk]
      exact .inr ⟨0,cs,cs',rfl,rfl,h4⟩
     ·
      rw [vM (fun cs q=>hk ⟨cs,q⟩)]; exact .inl rfl
   obtain ⟨cx',k1,k2,k3⟩:=BX hR h1 hcs0 hid hpos hsz (S':=S') rfl rfl hA
   refine ⟨cx',k1,k2,⟨h2.size,fun t x hx=>?_⟩⟩
   obtain ⟨y,hy,hq⟩:=he t x hx
   obtain ⟨u,u1,u2⟩:=h2.rel t y hy
   refine ⟨u,u1,?_⟩
   rcases hq with hq | ⟨rfl,rfl⟩
   ·
    exact (hq _ _ _ _ u2).mono k2
   ·
    exact k3 u u2
 ·
  exact hg.elim
end
end Go.Ev

namespace Go.Ev
noncomputable section
set_option linter.unusedVariables false
set_option linter.unusedSimpArgs false
variable {R:bO} {P:Program} {B:St}
theorem gJ.append {a b c d:List AV} (h:gJ a b) (k:gJ c d):gJ (a ++ c) (b ++ d):=by
 induction h with
 | nil=>exact k
 | cons h _ ih=>exact .cons h ih
theorem gJ.set {ys xs:List AV} (h:gJ ys xs) {y x:AV} (hl:Less y x):∀ n,gJ (ys.set n y) (xs.set n x):=by
 induction h with
 | nil=>intro n; exact .nil
 | cons h k ih=>intro n; cases n with
  | zero=>exact .cons hl k
  | succ n=>exact .cons h (ih n)
theorem CS {cx:Cx} {S:St} {w:World} {d:D} {v:Value} (h:aO cx S w (.d d) v) (hd:d.isAgg=false):v.oneCell'=true∧v.cells.toList=[v]:=by
 have h2:=h.dd.2
 have h1:=h.dd.1
 rw [hd] at h2
 cases v with
 | agg _=>cases h2
 | tuple vs =>
  generalize hcs:(Value.tuple vs).cells.toList=cs at h1
  cases h1 <;> first | (simp [Value.cells] at hcs; done) | (cases hd; done)
 | _=>exact ⟨rfl,rfl⟩
theorem Less.KW {ws:List AV} {ds:List D} (h:gJ (ds.map .d) ws) (hf:kJ ds=true):Less (.d (.agg ds)) (Ev.fD ws):=by
 intro cx S w v hr
 have hall:∀ d ∈ ds,d.isAgg=false:=by
  clear h
  induction ds with
  | nil=>intro d hd; cases hd
  | cons z ys ih =>
   simp only [kJ,Bool.and_eq_true,Bool.not_eq_true'] at hf
   intro d hd
   rcases List.mem_cons.1 hd with rfl | hd
   ·
    exact hf.1
   ·
    exact ih hf.2 d hd
 have hlen:ws.length=ds.length:=by have:=h.len; rw [List.length_map] at this; exact this.symm
 have core:∀ (vs:List Value),vs.length=ws.length→(∀ u ∈ vs,u.oneCell'=true)→(∀ (i:Nat) (x:AV) (u:Value),ws[i]? = some x→vs[i]? = some u→aO cx S w x u)→iq w cx.fr (.agg ds) vs:=fun vs hl ho hh=>by
  refine .agg ds vs (by rw [hl,hlen]) ho hall (fun i d u hd hu=>?_)
  have hlt:i < ws.length:=by rw [hlen]; exact (List.getElem?_eq_some_iff.1 hd).1
  have hx:=List.getElem?_eq_getElem hlt
  have hd':=h.get (i:=i) (by rw [List.getElem?_map,hd]; rfl) hx _ _ _ _ (hh i _ u hx hu)
  have:=hd'.dd.1
  rwa [(CS hd' (hall d (List.mem_of_getElem? hd))).2] at this
 unfold Ev.fD at hr
 split at hr
 ·
  rename_i xs hxs
  have hws:ws=xs.map .d:=by
   clear hr core hlen h
   induction ws generalizing xs with
   | nil=>simp [qU] at hxs; subst hxs; rfl
   | cons x l ih =>
    cases x <;> simp only [qU] at hxs <;> try (cases hxs)
    obtain ⟨ys,h1,rfl⟩:=Option.map_eq_some_iff.1 hxs
    rw [ih ys h1]; rfl
  have hd:=hr.dd
  refine .d _ _ ⟨?_,hd.2⟩
  have h1:=hd.1
  generalize hcs:v.cells.toList=cs at h1 ⊢
  cases h1 with
  | agg _ _ hl ho hn hh =>
   refine core cs (by rw [hws,List.length_map]; exact hl) ho (fun i x u hx hu=>?_)
   rw [hws,List.getElem?_map,Option.map_eq_some_iff] at hx
   obtain ⟨y,hy,rfl⟩:=hx
   have:=hh i y u hy hu
   have ho':=ho u (List.mem_of_getElem? hu)
   exact .d _ _ ⟨by rw [(mG ho').1]; exact this,by rw [(mG ho').2]; exact hn y (List.mem_of_getElem? hy)⟩
 ·
  cases hr with
  | agg _ vs hl ho hh =>
   refine .d _ _ ⟨?_,rfl⟩
   simp only [Value.cells]
   exact core vs hl ho hh
section
variable {C:eT} {ρ:Operand→Option AV} {S:St} {l:List bG} {x y:Operand} {t:Nat} {v:AV}
theorem GN {l:List D} (h:kJ l=true):∀ {i:Nat} {d:D},l[i]? = some d→d.isAgg=false:=by
 induction l with
 | nil=>intro i d hd; simp at hd
 | cons y l ih =>
  simp only [kJ,Bool.and_eq_true,Bool.not_eq_true'] at h
  intro i d hd
  cases i with
  | zero=>simp at hd; subst hd; exact h.1
  | succ i=>exact ih h.2 (by simpa using hd)
theorem zY {l:List D} (h:∀ d ∈ l,d.isAgg=false):kJ l=true:=by
 induction l with
 | nil=>rfl
 | cons y l ih=>simp only [kJ,h y List.mem_cons_self,ih (fun d hd=>h d (List.mem_cons_of_mem _ hd)),Bool.not_false,Bool.and_self]
theorem wQ {l:List D} (h:kJ l=true):∀ d ∈ l,d.isAgg=false:=fun d hd=>by
 obtain ⟨i,hi,rfl⟩:=List.getElem_of_mem hd
 exact GN h (List.getElem?_eq_getElem hi)
theorem Il {α:Type} {a b cs cv:List α} {off:Nat} (h:off + cv.length ≤ cs.length):setAt (a ++ cs ++ b) (a.length + off) cv=a ++ setAt cs off cv ++ b:=by
 induction cv generalizing cs off with
 | nil=>rfl
 | cons c cv ih =>
  simp only [List.length_cons] at h
  rw [setAt,setAt]
  have e:(a ++ cs ++ b).set (a.length + off) c=a ++ cs.set off c ++ b:=by
   rw [List.append_assoc,List.set_append_right _ _ (by omega),show a.length + off - a.length=off by omega,List.set_append_left _ _ (by omega),← List.append_assoc]
  rw [e,Nat.add_assoc]
  exact ih (by rw [List.length_set]; omega)
end
end
end Go.Ev

namespace Go.Ev
noncomputable section
set_option linter.unusedVariables false
set_option linter.unusedSimpArgs false
variable {R:bO} {P:Program} {B:St}
section
variable {C:eT} {ρ:Operand→Option AV} {S:St} {l:List bG} {x y:Operand} {t:Nat} {v:AV}
theorem Has.MH {B S:St} {l:List bG} (H:Has B S l) (sz:Nat):Has B S (.row sz (.d .aS) [] :: l):=H.Gl rfl rfl
theorem Has.Ll {B S:St} {l:List bG} (H:Has B S l) (sz:Nat):Has B S (.row sz (.d (.sl [] true)) [] :: l):=H.Gl rfl rfl
end
def EL (R:bO) (S:St) (x:AV) (d:D):Prop:=∀ cx w u,bg R cx S w→aO cx S w x u→bL w (fun _ _=>False) d u
inductive vV (R:bO) (S:St):List AV→List D→Prop
 | nil:vV R S [] []
 | cons {x:AV} {d:D} {xs:List AV} {ds:List D} (h:EL R S x d) (k:vV R S xs ds):vV R S (x :: xs) (d :: ds)
theorem vV.len {S:St} {xs:List AV} {ds:List D} (h:vV R S xs ds):ds.length=xs.length:=by
 induction h with
 | nil=>rfl
 | cons _ _ ih=>simp [ih]
theorem vV.get {S:St} {xs:List AV} {ds:List D} (h:vV R S xs ds):∀ {i:Nat} {d:D},ds[i]? = some d→∃ x,xs[i]? = some x∧EL R S x d:=by
 induction h with
 | nil=>intro i d h; simp at h
 | cons h k ih =>
  intro i d hd
  cases i with
  | zero=>simp at hd; subst hd; exact ⟨_,rfl,h⟩
  | succ i=>simpa using ih (by simpa using hd)
theorem bL.J7 {w:World} {fr:Nat→Nat→Prop} {d:D} {u:Value} (h:bL w fr d u):bL w (fun _ _=>False) d u:=h.mono (fun b o v h1 h2=>⟨h2,fun q=>q⟩)
theorem EL.less {S:St} {x:AV} {d:D} (h:Less (.d d) x):EL R S x d:=fun cx w u h1 h2=>(h _ _ _ _ h2).dd.J7
def IZ:D→Bool
 | .bool _=>true
 | .int _ _=>true
 | .str _=>true
 | _=>false
def Ct:AV→Bool
 | .d x=>IZ x
 | .tup l=>l.all fun x=>match x with | .d x=>IZ x | _=>false
 | _=>false
theorem bL.JL {w w':World} {fr fr':Nat→Nat→Prop} {d:D} {u:Value} (hs:IZ d=true) (h:bL w fr d u):bL w' fr' d u:=by
 refine ⟨?_,h.2⟩
 have h1:=h.1
 generalize hcs:u.cells.toList=cs at h1 ⊢
 cases h1 <;> first | (cases hs; done) | constructor
theorem aO.JL {cx cx':Cx} {S S':St} {w w':World} {x:AV} {u:Value} (hs:Ct x=true) (h:aO cx S w x u):aO cx' S' w' x u:=by
 cases h with
 | d x _ h=>exact .d _ _ (bL.JL hs h)
 | tup xs vs hl h =>
  refine .tup xs vs hl (fun i x v hx hv=>?_)
  simp only [Ct,List.all_eq_true] at hs
  have:=hs x (List.mem_of_getElem? hx)
  have hr:=h i x v hx hv
  cases hr with
  | d x _ h=>exact .d _ _ (bL.JL this h)
  | _=>cases this
 | _=>cases hs
theorem fw.J7 (hR:ObjOk R) {f:Nat} {ds:List D} {v:AV} (h:fw R P f ds v) (hv:Ct v=true) {args:List AV} {S:St} (ha:vV R S args ds):iE R P f args S (fun r=>r=(none,v,S)):=by
 have hargs:aQ (ds.map .d) ds:=⟨ds,Fg ds,.refl ds⟩
 obtain ⟨hf,hs⟩:=h (ds.map .d) aK hargs
 refine ⟨hf,fun cx w us hS hl hr=>?_⟩
 let cxL:Cx:={ cx with fr:=fun _ _=>False }
 have hL:bg R cxL aK w:=by
  have hp:=Ey hS
  exact ⟨hp.wf,hp.uf,fun id g cs hb=>by simp [aK,AL.get] at hb,fun id es hb=>by simp [aK,AL.get] at hb,fun id k x hb=>by simp [aK,AL.get] at hb,fun id en hb=>by simp [aK,AL.get] at hb,fun id id' b hl=>absurd rfl hl,fun b o q=>q.elim,hR.stat _ _ _ _ hS.stat (fun b o v q1 q2=>⟨q2,fun q=>q⟩)⟩
 refine (hs cxL w us hL (by rw [hl,List.length_map,ha.len]) (fun i x u hx hu=>?_)).mono (fun e w' he=>?_)
 ·
  rw [List.getElem?_map,Option.map_eq_some_iff] at hx
  obtain ⟨d,hd,rfl⟩:=hx
  obtain ⟨x,hx,hlx⟩:=ha.get hd
  exact .d _ _ (hlx cx w u hS (hr i x u hx hu))
 ·
  obtain ⟨r,rfl,cx1,k1,k2,k3⟩:=he
  obtain ⟨u,rfl,k3⟩:=k3
  have hb:∀ b,b < w.heap.size→w'.heap[b]? = w.heap[b]?:=fun b hb=>(k2.other b hb (fun id hl=>absurd rfl hl)).1
  have ex:Ext cx S w cx S w':=Ext.old hS k2.size hb k2.os k2.tape k2.output
  exact ⟨_,rfl,cx,bg.old hR hS k2.size hb ex,ex,u,rfl,k3.JL hv⟩
theorem iE.uf {f:Nat} {args:List AV} {S:St} {Q:Out→Prop} (h:iE R P f args S Q):iE R P f args S (fun o=>Q o∧∀ id b,o.2.2.H.get id=some b→o.2.2.T.get id=none) :=
 ⟨h.1,fun cx w us h1 h2 h3=>(h.2 cx w us h1 h2 h3).mono fun e w' ⟨r,q,cx',k,k2⟩=>⟨r,⟨q,k.uf⟩,cx',k,k2⟩⟩
section
variable {C:eT} {nt:Nat}
section steps
variable {ops:Array Oper} {rest:List Oper} {e:Env} {S S':St} {Q:Stp→Prop} {l l':List bG} {t ty:Nat} {p:String} {af:Array Edge} {g:Option (Nat × Bool)} {x y:Operand} {v:AV}
theorem aj.Od {op:Op} {f:Nat} {args:List AV} {ds:List D} (hR:ObjOk R) (hw:bC ops e { dst:=some t,op:=op,type:=ty,pos:=p,after:=af,guard:=g }=some true) (ho:oper C (bB e) S op=some (.call f args)) (hs:fw R C.P f ds v) (hv:Ct v=true) (ha:vV R S args ds) (ht:Nat.blt t nt=true)
  (k:aj R C nt ops rest ((t,v) :: e) S Q) :
  aj R C nt ops ({ dst:=some t,op:=op,type:=ty,pos:=p,after:=af,guard:=g } :: rest) e S Q :=
 aj.ret hw ho (hs.J7 hR hv ha) ht k
end steps
end
end
end Go.Ev

namespace Go.Ev
noncomputable section
set_option linter.unusedVariables false
set_option linter.unusedSimpArgs false
variable {R:bO} {P:Program} {B:St}
def kE {α:Type} (l:List α) (n:Int) (z:α):List α:=l.set n.toNat z
theorem xJ (cs:List AV):(Ev.fD cs).plain=true:=by
 unfold Ev.fD
 split <;> rfl
theorem xI (cs:List AV):(Ev.fD cs).cells=cs:=by
 unfold Ev.fD
 split
 ·
  rename_i xs hxs
  simp only [AV.cells]
  induction cs generalizing xs with
  | nil=>simp [qU] at hxs; subst hxs; rfl
  | cons x l ih =>
   cases x <;> simp only [qU] at hxs <;> try (cases hxs)
   obtain ⟨ys,h1,rfl⟩:=Option.map_eq_some_iff.1 hxs
   rw [List.map_cons,ih ys h1]
 ·
  rfl
inductive sF (sz:Nat):List AV→List (List AV)→Prop
 | nil:sF sz [] []
 | cons {v:AV} {c:List AV} {vs:List AV} {cs:List (List AV)} (h:nA v=some c) (hl:c.length=sz) (k:sF sz vs cs):sF sz (v :: vs) (c :: cs)
theorem DF {sz:Nat} {vs:List AV} {cs:List (List AV)} (h:sF sz vs cs):∀ (done:List (List AV)) (todo:List AV),(∀ d ∈ done,d.length=sz)→todo.length=vs.length * sz →
  jJ nA (fun i=>some (i * sz,sz)) (done.flatten ++ todo) (uj done.length vs)=some ((done ++ cs).flatten):=by
 induction h with
 | nil =>
  intro done todo _ ht
  have:todo=[]:=List.eq_nil_of_length_eq_zero (by simpa using ht)
  subst this
  simp [uj,jJ]
 | @cons v d vs ds h hl k ih =>
  intro done todo hd ht
  have hlen:(done.flatten).length=done.length * sz:=by
   clear ih ht
   induction done with
   | nil=>simp
   | cons x l ihl =>
    simp only [List.flatten_cons,List.length_append,hd x List.mem_cons_self,List.length_cons,ihl (fun d h=>hd d (List.mem_cons_of_mem _ h))]
    rw [Nat.add_mul]; omega
  simp only [List.length_cons] at ht
  rw [Nat.add_mul,Nat.one_mul] at ht
  simp only [uj,jJ,h]
  rw [if_pos ⟨hl,by rw [List.length_append,hlen,hl]; omega⟩]
  have e1:todo=todo.take sz ++ todo.drop sz:=(List.take_append_drop sz todo).symm
  have e2:setAt (done.flatten ++ todo) (done.length * sz) d=((done ++ [d])).flatten ++ todo.drop sz:=by
   rw [e1,← List.append_assoc,← hlen,qx _ _ _ _ (by rw [hl,List.length_take]; omega)]
   simp
  rw [e2]
  have:=ih (done ++ [d]) (todo.drop sz) (fun x hx=>by
   rcases List.mem_append.1 hx with hx | hx
   ·
    exact hd x hx
   ·
    rw [List.mem_singleton.1 hx]; exact hl) (by rw [List.length_drop]; omega)
  rw [show (done ++ [d]).length=done.length + 1 by simp] at this
  rw [this]
  simp
theorem sF.len {sz:Nat} {vs:List AV} {cs:List (List AV)} (h:sF sz vs cs):vs.length=cs.length∧∀ c ∈ cs,c.length=sz:=by
 induction h with
 | nil=>exact ⟨rfl,by simp⟩
 | cons h hl k ih=>exact ⟨by simp [ih.1],fun d hd=>by rcases List.mem_cons.1 hd with rfl | hd; exact hl; exact ih.2 d hd⟩
section
variable {C:eT} {nt:Nat} {ops:Array Oper} {rest:List Oper} {e:Env} {S S':St} {Q:Stp→Prop} {l l':List bG} {t ty:Nat} {p:String} {af:Array Edge} {g:Option (Nat × Bool)} {x y:Operand} {v:AV}
end
end
end Go.Ev
namespace Go.Ev
theorem wy {C:eT} {ρ:Operand→Option AV} {S:St} {t el:Nat} {ag:Bool} (hr:nD C t 0=false) (he:bz C.P t=some el) (ha:eQ C.P el=some ag):oper C ρ S (.buildSlice t 0 #[])=some (.val (.d (.sl [] true)) S):=by
 simp [oper,hr,he,ha,mZ,fV,jJ,chunk]
end Go.Ev
namespace Go.Ev
noncomputable section
set_option linter.unusedVariables false
def bF (v:AV) (n off:Nat):AV:=match v with
 | .eD id g _ _ _ sz=>.ptr id g (n * sz + off)
 | _=>.any
section
variable {R:bO} {C:eT} {nt:Nat} {B:St} {ops:Array Oper} {rest:List Oper} {e:Env} {S S':St} {Q:Stp→Prop} {l l':List bG} {t ty:Nat} {p:String} {af:Array Edge} {g:Option (Nat × Bool)} {x y:Operand} {v:AV}
end
end
end Go.Ev

namespace Go.Ev
noncomputable section
set_option linter.unusedVariables false
set_option linter.unusedSimpArgs false
variable {R:bO} {C:eT} {nt:Nat} {B:St}
theorem JQ {ops:Array Oper} (hr:oD ops=true) {Q:Exit→Act→World→Prop} (Inv:Array Bool→Act→World→Prop)
  (hstep:∀ listed a w i o (K:Act→World→Prop),listed.size=ops.size→Closed ops listed→listed.getD i false=false→ops[i]? = some o→(∀ k,k < i→((Region.before ops).getD i 0).testBit k=true→listed.getD k false=true)→Inv listed a w →
   (∀ a' w',Inv (listed.setIfInBounds i true) a' w'→K a' w')→wpOp C.P ops Q i K a w)
  (hend:∀ listed a w,(∀ i,i < ops.size→listed.getD i false=true)→Inv listed a w→Q .normal a w) :
  ∀ (fuel:Nat) (listed:Array Bool) {w:World} {a:Act},listed.size=ops.size→Closed ops listed→((List.range ops.size).filter fun i=>!listed.getD i false).length=fuel→Inv listed a w→wpAny C.P .any ops Q fuel listed a w:=by
 intro fuel
 induction fuel with
 | zero =>
  intro listed w a hsz hcl hlen hI
  have hnil:=List.eq_nil_of_length_eq_zero hlen
  have hall:∀ i,i < ops.size→listed.getD i false=true:=fun i hi=>by
   cases hc:listed.getD i false with
   | true=>rfl
   | false =>
    have:i ∈ (List.range ops.size).filter fun i=>!listed.getD i false:=by
     rw [List.mem_filter]; exact ⟨List.mem_range.2 hi,by rw [hc]; rfl⟩
    rw [hnil] at this; cases this
  refine ⟨?_,hend listed a w hall hI⟩
  cases hq:Region.ready .any ops listed with
  | nil=>rfl
  | cons i l =>
   have hi:i ∈ Region.ready .any ops listed:=by rw [hq]; simp
   obtain ⟨h1,o,h2,_⟩:=mem_ready.1 hi
   have hlt:i < ops.size:=(Array.getElem?_eq_some_iff.1 h2).1
   have:=hall i hlt
   have hlt':i < listed.size:=by omega
   simp [hlt'] at h1 this
   rw [h1] at this; cases this
 | succ fuel ih =>
  intro listed w a hsz hcl hlen hI
  refine ⟨fun hnone=>?_,fun i hi=>?_⟩
  ·
   exfalso
   cases hq:(List.range ops.size).filter fun i=>!listed.getD i false with
   | nil=>rw [hq] at hlen; simp at hlen
   | cons m l =>
    have hm:m ∈ (List.range ops.size).filter fun i=>!listed.getD i false:=by rw [hq]; simp
    obtain ⟨hm1,hm2⟩:=List.mem_filter.1 hm
    exact yY hr hsz (List.mem_range.1 hm1) (by simpa using hm2) hnone
  ·
   obtain ⟨h1,o,h2,h3⟩:=mem_ready.1 hi
   have hlt:i < ops.size:=(Array.getElem?_eq_some_iff.1 h2).1
   have hlt':i < listed.size:=by omega
   have h1':listed.getD i false=false:=by simp [hlt'] at h1 ⊢; exact h1
   have hclo:=JD hr hcl h2 h3
   refine hstep listed a w i o _ hsz hcl h1' h2 hclo hI (fun a' w' hI'=>ih _ (by simpa using hsz) (qR hcl hclo) ?_ hI')
   have hsp:=hlen
   have hmem:i ∈ (List.range ops.size).filter fun i=>!listed.getD i false:=by
    rw [List.mem_filter]; exact ⟨List.mem_range.2 hlt,by rw [h1']; rfl⟩
   obtain ⟨l1,l2,hq⟩:=List.append_of_mem hmem
   have hnd:((List.range ops.size).filter fun i=>!listed.getD i false).Nodup:=List.Pairwise.filter _ List.nodup_range
   rw [hq] at hnd
   have hn2:=(List.nodup_append.1 hnd)
   have hne1:∀ k ∈ l1,k ≠ i:=fun k hk=>hn2.2.2 k hk i (by simp)
   have hne2:∀ k ∈ l2,k ≠ i:=fun k hk q=>by
    subst q
    exact (List.nodup_cons.1 hn2.2.1).1 hk
   rw [Gf hlt' hq hne1 hne2]
   rw [hq] at hsp
   simp at hsp ⊢; omega
def KL (cx:Cx) (S:St) (w:World) (a:Act) (t:Nat) (x:AV):Prop:=∃ v,a.tmps[t]? = some v∧aO cx S w x v
structure ve (nt:Nat) (ops:Array Oper) (e0:Env) (listed:Array Bool) (ws:List (Option AV)) (cx:Cx) (S:St) (w:World) (a:Act):Prop where
 size:nt ≤ a.tmps.size
 new:∀ k o t,ops[k]? = some o→o.dst=some t→listed.getD k false=true→(∀ j o',j ≠ k→ops[j]? = some o'→o'.dst=some t→listed.getD j false=true→j < k)→∃ x,ws[k]? = some (some x)∧KL cx S w a t x
 old:∀ t x,AL.get e0 t=some x→(∀ j o',ops[j]? = some o'→o'.dst=some t→listed.getD j false=false)→KL cx S w a t x
abbrev Src:=List (Nat × Option Nat)
def qi (ws:List (Option AV)) (e0:Env):Src→Option Env
 | []=>some []
 | (t,some k) :: l=>match ws[k]? with
  | some (some x)=>(qi ws e0 l).map ((t,x) :: ·)
  | _=>none
 | (t,none) :: l=>match AL.get e0 t with
  | some x=>(qi ws e0 l).map ((t,x) :: ·)
  | none=>none
def xS (ops:Array Oper) (k t:Nat):Bool:=match ops[k]? with
 | some o=>(match o.dst with | some d=>Nat.beq d t | none=>false)
 | none=>false
theorem nV {ops:Array Oper} {k t:Nat}:xS ops k t=true↔∃ o,ops[k]? = some o∧o.dst=some t:=by
 unfold xS
 cases h:ops[k]? with
 | none=>simp
 | some o =>
  cases hd:o.dst with
  | none=>simp [hd]
  | some d=>simp [hd]
def Fy (ops:Array Oper) (Bi:Nat) (i:Nat):Src→Bool
 | []=>true
 | (t,some k) :: l=>xS ops k t && Nat.testBit Bi k && ((List.range ops.size).all fun j=>!(xS ops j t) || Nat.beq j k || Nat.blt j k || Nat.beq j i || Nat.testBit ((Region.before ops).getD j 0) i) && Fy ops Bi i l
 | (t,none) :: l=>((List.range ops.size).all fun j=>!(xS ops j t) || Nat.beq j i || Nat.testBit ((Region.before ops).getD j 0) i) && Fy ops Bi i l
def GH (ops:Array Oper):Src→Bool
 | []=>true
 | (t,some k) :: l=>xS ops k t && ((List.range ops.size).all fun j=>!(xS ops j t) || Nat.beq j k || Nat.blt j k) && GH ops l
 | (t,none) :: l=>((List.range ops.size).all fun j=>!(xS ops j t)) && GH ops l
theorem sZ {ops:Array Oper} {e0:Env} {listed:Array Bool} {ws:List (Option AV)} {cx:Cx} {S:St} {w:World} {a:Act} (h:ve nt ops e0 listed ws cx S w a):∀ {L:Src} {e:Env},qi ws e0 L=some e →
  (∀ t k,(t,some k) ∈ L→∃ o,ops[k]? = some o∧o.dst=some t∧listed.getD k false=true∧∀ j o',j ≠ k→ops[j]? = some o'→o'.dst=some t→listed.getD j false=true→j < k) →
  (∀ t,(t,none) ∈ L→∀ j o',ops[j]? = some o'→o'.dst=some t→listed.getD j false=false)→iG cx S w nt e a
 | [],e,he,_,_=>by
  simp only [qi,Option.some.injEq] at he
  subst he
  exact ⟨h.size,fun t x hx=>by simp [AL.get] at hx⟩
 | (t,some k) :: L,e,he,hA,hB=>by
  simp only [qi] at he
  split at he
  ·
   rename_i x hx
   obtain ⟨e',he',rfl⟩:=Option.map_eq_some_iff.1 he
   have ih:=sZ h he' (fun t k hm=>hA t k (List.mem_cons_of_mem _ hm)) (fun t hm=>hB t (List.mem_cons_of_mem _ hm))
   refine ⟨h.size,fun u y hy=>?_⟩
   rw [AL.gm] at hy
   by_cases hu:t=u
   ·
    subst hu
    rw [if_pos rfl] at hy; cases hy
    obtain ⟨o,h1,h2,h3,h4⟩:=hA t k List.mem_cons_self
    obtain ⟨x',hx',hs⟩:=h.new k o t h1 h2 h3 h4
    rw [hx] at hx'; cases hx'
    exact hs
   ·
    rw [if_neg hu] at hy; exact ih.rel u y hy
  ·
   cases he
 | (t,none) :: L,e,he,hA,hB=>by
  simp only [qi] at he
  split at he
  ·
   rename_i x hx
   obtain ⟨e',he',rfl⟩:=Option.map_eq_some_iff.1 he
   have ih:=sZ h he' (fun t k hm=>hA t k (List.mem_cons_of_mem _ hm)) (fun t hm=>hB t (List.mem_cons_of_mem _ hm))
   refine ⟨h.size,fun u y hy=>?_⟩
   rw [AL.gm] at hy
   by_cases hu:t=u
   ·
    subst hu
    rw [if_pos rfl] at hy; cases hy
    exact h.old t x hx (hB t List.mem_cons_self)
   ·
    rw [if_neg hu] at hy; exact ih.rel u y hy
  ·
   cases he
theorem tC {ops:Array Oper} (hr:oD ops=true) {i k:Nat} (hi:i < ops.size) (h:((Region.before ops).getD i 0).testBit k=true):k < i:=by
 rcases Nat.lt_or_ge k i with q | q
 ·
  exact q
 ·
  have:=(jq hr (show ops[i]? = some ops[i] by simp [hi])).2.2 k q
  rw [this] at h; cases h
theorem D6 {ops:Array Oper} (hr:oD ops=true) {e0:Env} {listed:Array Bool} (hcl:Closed ops listed) {ws:List (Option AV)} {cx:Cx} {S:St} {w:World} {a:Act} (h:ve nt ops e0 listed ws cx S w a) {i:Nat} (hi:i < ops.size) (hun:listed.getD i false=false)
  (hclo:∀ k,k < i→((Region.before ops).getD i 0).testBit k=true→listed.getD k false=true) {L:Src} {e:Env} (he:qi ws e0 L=some e) (hb:Fy ops ((Region.before ops).getD i 0) i L=true):iG cx S w nt e a:=by
 have late:∀ j,j < ops.size→((Region.before ops).getD j 0).testBit i=true→listed.getD j false=true→False:=fun j hj hb hl=>by
  have:=hcl j hl i (tC hr hj hb) hb
  rw [this] at hun; cases hun
 have key:(∀ t k,(t,some k) ∈ L→∃ o,ops[k]? = some o∧o.dst=some t∧listed.getD k false=true∧∀ j o',j ≠ k→ops[j]? = some o'→o'.dst=some t→listed.getD j false=true→j < k) ∧
   (∀ t,(t,none) ∈ L→∀ j o',ops[j]? = some o'→o'.dst=some t→listed.getD j false=false):=by
  clear he
  induction L with
  | nil=>exact ⟨fun t k hm=>(by cases hm),fun t hm=>(by cases hm)⟩
  | cons p L ih =>
   obtain ⟨t,s⟩:=p
   cases s with
   | some k =>
    simp only [Fy,Bool.and_eq_true] at hb
    obtain ⟨⟨⟨b1,b2⟩,b3⟩,b4⟩:=hb
    obtain ⟨ih1,ih2⟩:=ih b4
    refine ⟨fun u q hm=>?_,fun u hm=>?_⟩
    ·
     rcases List.mem_cons.1 hm with hm | hm
     ·
      cases hm
      obtain ⟨o,h1,h2⟩:=nV.1 b1
      refine ⟨o,h1,h2,hclo k (tC hr hi b2) b2,fun j o' hjk hj hd hl=>?_⟩
      have hjl:j < ops.size:=(Array.getElem?_eq_some_iff.1 hj).1
      have:=List.all_eq_true.1 b3 j (List.mem_range.2 hjl)
      simp only [nV.2 ⟨o',hj,hd⟩,Bool.not_true,Bool.false_or,Bool.or_eq_true] at this
      rcases this with ((q | q) | q) | q
      ·
       exact absurd (Nat.eq_of_beq_eq_true q) hjk
      ·
       exact Nat.le_of_ble_eq_true q
      ·
       rw [Nat.eq_of_beq_eq_true q,hun] at hl; cases hl
      ·
       exact (late j hjl q hl).elim
     ·
      exact ih1 u q hm
    ·
     rcases List.mem_cons.1 hm with hm | hm
     ·
      cases hm
     ·
      exact ih2 u hm
   | none =>
    simp only [Fy,Bool.and_eq_true] at hb
    obtain ⟨b3,b4⟩:=hb
    obtain ⟨ih1,ih2⟩:=ih b4
    refine ⟨fun u q hm=>?_,fun u hm=>?_⟩
    ·
     rcases List.mem_cons.1 hm with hm | hm
     ·
      cases hm
     ·
      exact ih1 u q hm
    ·
     rcases List.mem_cons.1 hm with hm | hm
     ·
      cases hm
      intro j o' hj hd
      have hjl:j < ops.size:=(Array.getElem?_eq_some_iff.1 hj).1
      have:=List.all_eq_true.1 b3 j (List.mem_range.2 hjl)
      simp only [nV.2 ⟨o',hj,hd⟩,Bool.not_true,Bool.false_or,Bool.or_eq_true] at this
      rcases this with q | q
      ·
       rw [Nat.eq_of_beq_eq_true q]; exact hun
      ·
       cases hl:listed.getD j false with
       | false=>rfl
       | true=>exact (late j hjl q hl).elim
     ·
      exact ih2 u hm
 exact sZ h he key.1 key.2
theorem Ik {ops:Array Oper} {e0:Env} {listed:Array Bool} (hall:∀ i,i < ops.size→listed.getD i false=true) {ws:List (Option AV)} {cx:Cx} {S:St} {w:World} {a:Act} (h:ve nt ops e0 listed ws cx S w a) {L:Src} {e:Env} (he:qi ws e0 L=some e) (hb:GH ops L=true):iG cx S w nt e a:=by
 have key:(∀ t k,(t,some k) ∈ L→∃ o,ops[k]? = some o∧o.dst=some t∧listed.getD k false=true∧∀ j o',j ≠ k→ops[j]? = some o'→o'.dst=some t→listed.getD j false=true→j < k) ∧
   (∀ t,(t,none) ∈ L→∀ j o',ops[j]? = some o'→o'.dst=some t→listed.getD j false=false):=by
  clear he
  induction L with
  | nil=>exact ⟨fun t k hm=>(by cases hm),fun t hm=>(by cases hm)⟩
  | cons p L ih =>
   obtain ⟨t,s⟩:=p
   cases s with
   | some k =>
    simp only [GH,Bool.and_eq_true] at hb
    obtain ⟨⟨b1,b3⟩,b4⟩:=hb
    obtain ⟨ih1,ih2⟩:=ih b4
    refine ⟨fun u q hm=>?_,fun u hm=>?_⟩
    ·
     rcases List.mem_cons.1 hm with hm | hm
     ·
      cases hm
      obtain ⟨o,h1,h2⟩:=nV.1 b1
      refine ⟨o,h1,h2,hall k (Array.getElem?_eq_some_iff.1 h1).1,fun j o' hjk hj hd hl=>?_⟩
      have hjl:j < ops.size:=(Array.getElem?_eq_some_iff.1 hj).1
      have:=List.all_eq_true.1 b3 j (List.mem_range.2 hjl)
      simp only [nV.2 ⟨o',hj,hd⟩,Bool.not_true,Bool.false_or,Bool.or_eq_true] at this
      rcases this with q | q
      ·
       exact absurd (Nat.eq_of_beq_eq_true q) hjk
      ·
       exact Nat.le_of_ble_eq_true q
     ·
      exact ih1 u q hm
    ·
     rcases List.mem_cons.1 hm with hm | hm
     ·
      cases hm
     ·
      exact ih2 u hm
   | none =>
    simp only [GH,Bool.and_eq_true] at hb
    obtain ⟨b3,b4⟩:=hb
    obtain ⟨ih1,ih2⟩:=ih b4
    refine ⟨fun u q hm=>?_,fun u hm=>?_⟩
    ·
     rcases List.mem_cons.1 hm with hm | hm
     ·
      cases hm
     ·
      exact ih1 u q hm
    ·
     rcases List.mem_cons.1 hm with hm | hm
     ·
      cases hm
      intro j o' hj hd
      have hjl:j < ops.size:=(Array.getElem?_eq_some_iff.1 hj).1
      have:=List.all_eq_true.1 b3 j (List.mem_range.2 hjl)
      simp only [nV.2 ⟨o',hj,hd⟩,Bool.not_true,Bool.or_self] at this
      cases this
     ·
      exact ih2 u hm
 exact sZ h he key.1 key.2
inductive Nc (R:bO) (C:eT) (nt:Nat) (ops:Array Oper) (S:St) (e:Env) (o:Oper) (x:AV):Prop
 | val {v:AV} (hw:bC ops e o=some true) (ho:oper C (bB e) S o.op=some (.val v S)) (hl:Less x v)
 | call {f:Nat} {args:List AV} {v:AV} (hw:bC ops e o=some true) (ho:oper C (bB e) S o.op=some (.call f args)) (hs:iE R C.P f args S (fun r=>r=(none,v,S))) (hl:Less x v)
 | no (hw:bC ops e o=some false) (hl:Less x (.tup []))
 | step (h:aj R C nt ops [o] e S (fun r=>∃ e' v,r=.go e' S∧(∀ t,o.dst=some t→AL.get e' t=some v∧Less x v)))
inductive Ov (R:bO) (C:eT) (nt:Nat) (ops:Array Oper) (S:St) (e:Env) (o:Oper) (Q:AV→St→Prop):Prop
 | val {v:AV} {S':St} (hw:bC ops e o=some true) (ho:oper C (bB e) S o.op=some (.val v S')) (hq:Q v S')
 | skip {S':St} (hw:bC ops e o=some true) (ho:oper C (bB e) S o.op=some (.skip S')) (hd:o.dst=none) (hq:Q .any S')
 | call {f:Nat} {args:List AV} (hw:bC ops e o=some true) (ho:oper C (bB e) S o.op=some (.call f args)) (hs:iE R C.P f args S (fun r=>r.1=none∧Q r.2.1 r.2.2))
 | no (hw:bC ops e o=some false) (hq:Q (.tup []) S)
 | step (h:aj R C nt ops [o] e S (fun r=>∃ e' v S',r=.go e' S'∧(∀ t,o.dst=some t→AL.get e' t=some v)∧Q v S'))
theorem yN (hR:kG R C) {ops:Array Oper} {o:Oper} {e:Env} {S:St} {Q:Stp→Prop} (h:wC R C nt ops o e S Q) (hno:∀ r,Q r→∃ e' S',r=.go e' S') {cx:Cx} {w:World} {a:Act} (hS:bg R cx S w) (he:iG cx S w nt e a)
  {K:Act→World→Prop} {Kx:Exit→Act→World→Prop} (hk:∀ e' S' cx' w' u,Q (.go e' S')→bg R cx' S' w'→Ext cx S w cx' S' w'→iG cx' S' w' nt e' (a.put o.dst u)→K (a.put o.dst u) w') (hnx:∀ t,o.op ≠ .next (.tmp t) false) {i:Nat} (hi:ops[i]? = some o):wpOp C.P ops Kx i K a w:=by
 have hrefl:=Ext.refl (cx:=cx) w hS.wf
 rcases h with ⟨t,rs,h1,h2,h3⟩ | ⟨e2,hw,h1,h2⟩ | ⟨e2,e',hw,h1,h2,h3⟩
 ·
  exact absurd h1 (hnx t)
 ·
  have he2:=he.weak hw
  unfold wpOp
  rw [hi]
  simp only
  rw [if_pos (eU he h1)]
  left
  rcases h2 with ⟨v,S',e',h1,h2,h3⟩ | ⟨S',h1,h2,h3⟩ | ⟨f,args,h1,h2⟩ | ⟨t,x,y,ty,xs,b,el,hop,hx,hy,hu,hq⟩
  rotate_left 3
  ·
   have rx:=he2.eval x _ hx
   have ry:=he2.eval y _ hy
   obtain ⟨a0,n,c,ex,hnil⟩:=DJ rx.dd
   have ey:a.eval y=.slice none 0 0:=by
    have:=ry.dd.val rfl
    generalize a.eval y=z at this
    cases this
    rfl
   have hrun:(execOp a.eval o).run C.P w=.ok (.value (.bool a0.isNone)) w:=by
    obtain ⟨dst,op,ty',pos,after,guard⟩:=o
    simp only at hop
    subst hop
    exact rQ (by
     rw [ex,ey]
     have hg:(eqGuard .eql t x y (.slice a0 n c) (.slice none 0 0)).run C.P w=.ok () w:=gZ rfl
     simp only [Sem.run_bind,hg,Result.andThen_ok]
     exact Lib.run_eql_slice_nil w t el a0 n c 0 0 hu)
   obtain ⟨e',hp,hk'⟩:=hq a0.isNone (fun h=>hnil (by cases a0 with | none=>rfl | some a=>cases h))
   unfold Oper.wp
   rw [hrun]
   exact hk _ _ cx w _ hk' hS hrefl (he2.put hp (.of_bool _))
  ·
   obtain ⟨cx',w',u,k1,k2,k3,k4⟩:=fP hR hS he2.eval o h1
   unfold Oper.wp
   rw [k1]
   exact hk _ _ cx' w' u h3 k2 k3 ((he2.mono k3).put h2 k4)
  ·
   obtain ⟨cx',w',k1,k2,k3⟩:=fP hR hS he2.eval o h1
   unfold Oper.wp
   rw [k1]
   refine hk _ _ cx' w' undef h3 k2 k3 ?_
   rw [h2]
   exact he2.mono k3
  ·
   obtain ⟨us,k1,k2,k3⟩:=fP hR hS he2.eval o h1
   obtain ⟨⟨fn,f1,f2,f3⟩,hcalls⟩:=h2
   unfold Oper.wp
   rw [k3 fn f1 f2 f3]
   refine (hcalls cx w us hS k1 k2).mono (fun en w' hen=>?_)
   obtain ⟨⟨p,v,S'⟩,hq,cx',m1,m2,m3⟩:=hen
   cases p with
   | none =>
    obtain ⟨u,rfl,m3⟩:=m3
    obtain ⟨e',hp,hq⟩:=hq
    exact hk _ _ cx' _ _ hq m1 m2 ((he2.mono m2).put hp m3)
   | some p =>
    obtain ⟨_,_,hc⟩:=hno _ hq
    cases hc
 ·
  have he2:=he.weak hw
  unfold wpOp
  rw [hi]
  simp only
  rw [if_neg (by rw [eU he h1]; simp)]
  split at h2
  ·
   rename_i hd
   subst h2
   refine hk _ _ cx w _ h3 hS hrefl ?_
   rw [hd]
   exact he2
  ·
   rename_i t hd
   refine hk _ _ cx w _ h3 hS hrefl ?_
   rw [hd]
   exact he2.put h2 (.tup [] [] rfl (fun i x v hx=>by simp at hx))
theorem Dm {cx:Cx} {S:St} {w:World} {a:Act} {e:Env} {t:Nat} {u:Value} {v:AV} (he:iG cx S w nt e (a.put (some t) u)) (hv:AL.get e t=some v):aO cx S w v u:=by
 obtain ⟨u',h1,h2⟩:=he.rel t v hv
 simp only [Act.put] at h1
 have hlt:t < a.tmps.size:=by
  have:=(Array.getElem?_eq_some_iff.1 h1).1
  simpa using this
 rw [Array.getElem?_setIfInBounds_self_of_lt hlt] at h1
 cases h1
 exact h2
theorem Gy (hR:kG R C) {ops:Array Oper} {o:Oper} {e:Env} {S:St} {x:AV} (h:Nc R C nt ops S e o x) {cx:Cx} {w:World} {a:Act} (hS:bg R cx S w) (he:iG cx S w nt e a)
  {K:Act→World→Prop} {Kx:Exit→Act→World→Prop} (hk:∀ cx' w' u,bg R cx' S w'→Ext cx S w cx' S w'→(∀ t,o.dst=some t→aO cx' S w' x u)→K (a.put o.dst u) w') (hnx:∀ t,o.op ≠ .next (.tmp t) false) {i:Nat} (hi:ops[i]? = some o):wpOp C.P ops Kx i K a w:=by
 have hrefl:=Ext.refl (cx:=cx) w hS.wf
 unfold wpOp
 rw [hi]
 simp only
 cases h with
 | val hw ho hl =>
  rw [if_pos (eU he hw)]
  left
  obtain ⟨cx',w',u,k1,k2,k3,k4⟩:=fP hR hS he.eval o ho
  unfold Oper.wp
  rw [k1]
  exact hk cx' w' u k2 k3 (fun _ _=>hl _ _ _ _ k4)
 | call hw ho hs hl =>
  rw [if_pos (eU he hw)]
  left
  obtain ⟨us,k1,k2,k3⟩:=fP hR hS he.eval o ho
  obtain ⟨⟨fn,f1,f2,f3⟩,hcalls⟩:=hs
  unfold Oper.wp
  rw [k3 fn f1 f2 f3]
  refine (hcalls cx w us hS k1 k2).mono (fun en w' hen=>?_)
  obtain ⟨r,rfl,cx',m1,m2,m3⟩:=hen
  obtain ⟨u,rfl,m3⟩:=m3
  exact hk cx' w' u m1 m2 (fun _ _=>hl _ _ _ _ m3)
 | no hw hl =>
  rw [if_neg (by rw [eU he hw]; simp)]
  have hv:aO cx S w x (.tuple #[]):=hl _ _ _ _ (.tup [] [] rfl (fun i x v hx=>by simp at hx))
  exact hk cx w _ hS hrefl (fun _ _=>hv)
 | step h =>
  obtain ⟨e2,S2,hw,h⟩:=h
  obtain ⟨cx2,gS,gx,ge⟩:=hw cx w a hS he
  have:=yN hR h (fun r hr=>by
   cases r with
   | go e' S'=>exact ⟨_,_,rfl⟩
   | stop v S'=>obtain ⟨_,_,hc,_⟩:=hr; cases hc) gS ge (K:=K) (Kx:=Kx) (fun e' S' cx' w' u hq q1 q2 q3=>?_) hnx hi
  ·
   unfold wpOp at this
   rw [hi] at this
   exact this
  ·
   obtain ⟨e3,hw3,e4,v,hq1,hq2⟩:=hq
   cases hq1
   refine hk cx' w' u q1 (gx.trans q2) (fun t ht=>?_)
   obtain ⟨g1,g2⟩:=hq2 t ht
   rw [ht] at q3
   exact g2 _ _ _ _ (Dm (q3.weak hw3) g1)
theorem Gu (hR:kG R C) {ops:Array Oper} {o:Oper} {e:Env} {S:St} {Q:AV→St→Prop} (h:Ov R C nt ops S e o Q) {cx:Cx} {w:World} {a:Act} (hS:bg R cx S w) (he:iG cx S w nt e a)
  {K:Act→World→Prop} {Kx:Exit→Act→World→Prop} (hk:∀ v S' cx' w' u,Q v S'→bg R cx' S' w'→Ext cx S w cx' S' w'→(∀ t,o.dst=some t→aO cx' S' w' v u)→K (a.put o.dst u) w') (hnx:∀ t,o.op ≠ .next (.tmp t) false) {i:Nat} (hi:ops[i]? = some o):wpOp C.P ops Kx i K a w:=by
 have hrefl:=Ext.refl (cx:=cx) w hS.wf
 unfold wpOp
 rw [hi]
 simp only
 cases h with
 | val hw ho hq =>
  rw [if_pos (eU he hw)]
  left
  obtain ⟨cx',w',u,k1,k2,k3,k4⟩:=fP hR hS he.eval o ho
  unfold Oper.wp
  rw [k1]
  exact hk _ _ cx' w' u hq k2 k3 (fun _ _=>k4)
 | skip hw ho hd hq =>
  rw [if_pos (eU he hw)]
  left
  obtain ⟨cx',w',k1,k2,k3⟩:=fP hR hS he.eval o ho
  unfold Oper.wp
  rw [k1]
  exact hk _ _ cx' w' undef hq k2 k3 (fun _ _=>.any _)
 | call hw ho hs =>
  rw [if_pos (eU he hw)]
  left
  obtain ⟨us,k1,k2,k3⟩:=fP hR hS he.eval o ho
  obtain ⟨⟨fn,f1,f2,f3⟩,hcalls⟩:=hs
  unfold Oper.wp
  rw [k3 fn f1 f2 f3]
  refine (hcalls cx w us hS k1 k2).mono (fun en w' hen=>?_)
  obtain ⟨⟨p,v,S'⟩,⟨hp,hq⟩,cx',m1,m2,m3⟩:=hen
  simp only at hp
  subst hp
  obtain ⟨u,rfl,m3⟩:=m3
  exact hk _ _ cx' w' u hq m1 m2 (fun _ _=>m3)
 | no hw hq =>
  rw [if_neg (by rw [eU he hw]; simp)]
  exact hk _ _ cx w _ hq hS hrefl (fun _ _=>.tup [] [] rfl (fun i x v hx=>by simp at hx))
 | step h =>
  obtain ⟨e2,S2,hw,h⟩:=h
  obtain ⟨cx2,gS,gx,ge⟩:=hw cx w a hS he
  have:=yN hR h (fun r hr=>by
   cases r with
   | go e' S'=>exact ⟨_,_,rfl⟩
   | stop v S'=>obtain ⟨_,_,_,hc,_⟩:=hr; cases hc) gS ge (K:=K) (Kx:=Kx) (fun e' S' cx' w' u hq q1 q2 q3=>?_) hnx hi
  ·
   unfold wpOp at this
   rw [hi] at this
   exact this
  ·
   obtain ⟨e3,hw3,e4,v,S4,hq1,hq2,hq3⟩:=hq
   cases hq1
   refine hk v S' cx' w' u hq3 q1 (gx.trans q2) (fun t ht=>?_)
   have g1:=hq2 t ht
   rw [ht] at q3
   exact Dm (q3.weak hw3) g1
inductive Al:List (Option AV)→List (Option AV)→Prop
 | nil:Al [] []
 | new {x:Option AV} {a b:List (Option AV)} (k:Al a b):Al (x :: a) (none :: b)
 | old {x y:AV} {a b:List (Option AV)} (h:Less y x) (k:Al a b):Al (some y :: a) (some x :: b)
theorem Al.get {a b:List (Option AV)} (h:Al a b):∀ {k:Nat} {x:AV},b[k]? = some (some x)→∃ y,a[k]? = some (some y)∧Less y x:=by
 induction h with
 | nil=>intro k x h; simp at h
 | new k ih =>
  intro k x h
  cases k with
  | zero=>simp at h
  | succ k=>simpa using ih (by simpa using h)
 | old h k ih =>
  intro k x hx
  cases k with
  | zero=>simp at hx; subst hx; exact ⟨_,rfl,h⟩
  | succ k=>simpa using ih (by simpa using hx)
theorem ve.step {ops:Array Oper} (hr:oD ops=true) (hnt:∀ (k:Nat) (o:Oper) (t:Nat),ops[k]? = some o→o.dst=some t→t < nt) {e0:Env} {listed:Array Bool} (hsz:listed.size=ops.size) (hcl:Closed ops listed) {ws ws':List (Option AV)} {i:Nat} (hle:∀ k x,k ≠ i→ws[k]? = some (some x)→∃ y,ws'[k]? = some (some y)∧Less y x) {cx cx':Cx} {S S':St} {w w':World} {a:Act} (h:ve nt ops e0 listed ws cx S w a)
  {o:Oper} (hi:ops[i]? = some o) (hun:listed.getD i false=false) (ex:Ext cx S w cx' S' w') {u:Value} (hu:∀ t,o.dst=some t→∃ x,ws'[i]? = some (some x)∧aO cx' S' w' x u):ve nt ops e0 (listed.setIfInBounds i true) ws' cx' S' w' (a.put o.dst u):=by
 have hlt:i < ops.size:=(Array.getElem?_eq_some_iff.1 hi).1
 have size:nt ≤ (a.put o.dst u).tmps.size:=by
  cases hd:o.dst with
  | none=>exact h.size
  | some t=>simp only [Act.put,Array.size_setIfInBounds]; exact h.size
 have keep:∀ t,o.dst ≠ some t→(a.put o.dst u).tmps[t]? = a.tmps[t]?:=fun t ht=>by
  cases hd:o.dst with
  | none=>rfl
  | some d =>
   have:d ≠ t:=fun q=>ht (by rw [hd,q])
   simp only [Act.put]
   rw [Array.getElem?_setIfInBounds_ne this]
 refine ⟨size,fun k ok t hk hd hlk hlast=>?_,fun t x hx hno=>?_⟩
 ·
  by_cases hki:k=i
  ·
   subst hki
   rw [hi] at hk; cases hk
   obtain ⟨x,hx,hr⟩:=hu t hd
   refine ⟨x,hx,u,?_,hr⟩
   have htn:=hnt k o t hi hd
   have:=h.size
   rw [hd]
   simp only [Act.put]
   rw [Array.getElem?_setIfInBounds_self_of_lt (by omega)]
  ·
   have hlk':listed.getD k false=true:=by rwa [getD_set_ne false (fun q=>hki q.symm)] at hlk
   have hklt:k < ops.size:=(Array.getElem?_eq_some_iff.1 hk).1
   have hdi:o.dst ≠ some t:=fun hdi=>by
    have hik:=hlast i o (fun q=>hki q.symm) hi hdi (by have hlt':i < listed.size:=(by omega); simp [hlt'])
    obtain ⟨r1,r2,_⟩:=jq hr hk
    have:=r2 i o hik hi
    split at this
    ·
     rename_i hb
     have:=hcl k hlk' i hik hb
     rw [hun] at this; cases this
    ·
     simp only [Oper.apart,hdi,hd,Bool.and_eq_true] at this
     simp at this
   obtain ⟨x,hx,v,v1,v2⟩:=h.new k ok t hk hd hlk' (fun j o' hjk hj hdj hlj=>hlast j o' hjk hj hdj (by
    by_cases hji:i=j
    ·
     subst hji; rw [hun] at hlj; cases hlj
    ·
     rw [getD_set_ne false hji]; exact hlj))
   obtain ⟨y,hy,hyx⟩:=hle k x hki hx
   exact ⟨y,hy,v,by rw [keep t hdi]; exact v1,hyx _ _ _ _ (v2.mono ex)⟩
 ·
  have hdi:o.dst ≠ some t:=fun hdi=>by
   have:=hno i o hi hdi
   have hlt':i < listed.size:=by omega
   simp [hlt'] at this
  obtain ⟨v,v1,v2⟩:=h.old t x hx (fun j o' hj hdj=>by
   have:=hno j o' hj hdj
   by_cases hji:i=j
   ·
    subst hji; exact hun
   ·
    rwa [getD_set_ne false hji] at this)
  exact ⟨v,by rw [keep t hdi]; exact v1,v2.mono ex⟩
inductive RL (R:bO) (C:eT) (nt:Nat) (ops:Array Oper) (srcs:List Src) (e0:Env) (ws:List (Option AV)) (S:St):List Nat→Prop
 | nil:RL R C nt ops srcs e0 ws S []
 | cons {i:Nat} {o:Oper} {x:AV} {e:Env} {os:List Nat} (ho:ops[i]? = some o) (hx:ws[i]? = some (some x)) (he:qi ws e0 (srcs.getD i [])=some e) (h:Nc R C nt ops S e o x) (k:RL R C nt ops srcs e0 ws S os):RL R C nt ops srcs e0 ws S (i :: os)
theorem RL.get {ops:Array Oper} {srcs:List Src} {e0:Env} {ws:List (Option AV)} {S:St} {os:List Nat} (h:RL R C nt ops srcs e0 ws S os):∀ {i:Nat},i ∈ os→∃ o x e,ops[i]? = some o∧ws[i]? = some (some x)∧qi ws e0 (srcs.getD i [])=some e∧Nc R C nt ops S e o x:=by
 induction h with
 | nil=>intro i h; cases h
 | cons ho hx he h k ih =>
  intro i hi
  rcases List.mem_cons.1 hi with rfl | hi
  ·
   exact ⟨_,_,_,ho,hx,he,h⟩
  ·
   exact ih hi
def IU (i:Nat) (l:List Nat):Bool:=l.any fun j=>Nat.beq j i
theorem zB {i:Nat} {l:List Nat}:IU i l=true↔i ∈ l:=by
 simp only [IU,List.any_eq_true]
 constructor
 ·
  rintro ⟨j,hj,hb⟩; rw [← Nat.eq_of_beq_eq_true hb]; exact hj
 ·
  intro h; exact ⟨i,h,Nat.beq_refl i⟩
def CO (ops:Array Oper) (os done:List Nat) (w:Option Nat) (W:List Nat):Bool :=
 (os.all fun j=>!IU j W) &&   (List.range ops.size).all fun i=>IU i os || IU i done || (done.any fun d=>Nat.testBit ((Region.before ops).getD d 0) i) || (match w with | some w=>Nat.beq i w || Nat.testBit ((Region.before ops).getD i 0) w | none=>false)
def Ih (R:bO) (C:eT) (nt:Nat) (ops:Array Oper) (srcs:List Src) (fin:Src) (e0:Env) (Q:Env→St→Prop):List Nat→List Nat→List (Option AV)→St→Prop
 | [],done,ws,S=>∃ os,CO ops os done none []=true∧RL R C nt ops srcs e0 ws S os∧∃ E,qi ws e0 fin=some E∧Q E S
 | i :: W,done,ws,S=>∃ os,CO ops os done (some i) (i :: W)=true∧RL R C nt ops srcs e0 ws S os∧∃ o e,ops[i]? = some o∧qi ws e0 (srcs.getD i [])=some e ∧
   Ov R C nt ops S e o (fun v S'=>∃ ws',Al ws' ws∧(∀ t,o.dst=some t→∃ x,ws'[i]? = some (some x)∧Less x v)∧Ih R C nt ops srcs fin e0 Q W (i :: done) ws' S')
def KI (ops:Array Oper) (nt:Nat) (srcs:List Src) (fin:Src):Bool :=
 oD ops && GH ops fin && (List.range ops.size).all fun i=>Fy ops ((Region.before ops).getD i 0) i (srcs.getD i []) && (match ops[i]? with | some o=>(match o.dst with | some t=>Nat.blt t nt | none=>true) && (match o.op with | .next _ _=>false | _=>true) | none=>true)
theorem aC.gG (hR:kG R C) (hm:C.P.follows .mixedOrders=true) {id:Nat} {ops:Array Oper} (srcs:List Src) (fin:Src) (ht:KI ops nt srcs fin=true) (W:List Nat) (hWn:W.Nodup) {e0:Env} {S:St} (ws:List (Option AV)) {Q:u6→Prop}
  (h:Ih R C nt ops srcs fin e0 (fun e' S'=>Q (.normal,e',S')) W [] ws S):aC R C.P nt (.region id ops true) e0 S Q:=by
 simp only [KI,Bool.and_eq_true] at ht
 obtain ⟨⟨hr,hfin⟩,hall⟩:=ht
 have hsrc:∀ i,i < ops.size→Fy ops ((Region.before ops).getD i 0) i (srcs.getD i [])=true:=fun i hi=>by
  have:=List.all_eq_true.1 hall i (List.mem_range.2 hi)
  simp only [Bool.and_eq_true] at this
  exact this.1
 have hnt:∀ (k:Nat) (o:Oper) (t:Nat),ops[k]? = some o→o.dst=some t→t < nt:=fun k o t hk hd=>by
  have:=List.all_eq_true.1 hall k (List.mem_range.2 (Array.getElem?_eq_some_iff.1 hk).1)
  simp only [Bool.and_eq_true,hk,hd] at this
  exact Nat.le_of_ble_eq_true this.2.1
 have hnx:∀ (k:Nat) (o:Oper),ops[k]? = some o→∀ t,o.op ≠ .next (.tmp t) false:=fun k o hk t ho=>by
  have:=List.all_eq_true.1 hall k (List.mem_range.2 (Array.getElem?_eq_some_iff.1 hk).1)
  simp only [Bool.and_eq_true,hk,ho] at this
  cases this.2.2
 intro cx w a Kx hS he hk
 refine wp_region_any hm ?_
 obtain ⟨d1,d2⟩:=mi hR.toObjOk hS
 let Inv:Array Bool→Act→World→Prop:=fun listed a' w'=>a'.defers=a.defers∧∃ W' done ws' S' cx',Ih R C nt ops srcs fin e0 (fun e' S'=>Q (.normal,e',S')) W' done ws' S'∧(∀ i ∈ done,listed.getD i false=true)∧(∀ i ∈ W',listed.getD i false=false)∧W'.Nodup ∧
  bg R cx' S' w'∧Ext cx S w cx' S' w'∧ve nt ops e0 listed ws' cx' S' w' a'
 have repf:∀ i,(Array.replicate ops.size false).getD i false=false:=fun i=>qp _ _
 refine JQ hr Inv ?_ ?_ ops.size (Array.replicate ops.size false) (by simp) (fun j hj=>by rw [repf] at hj; cases hj) ?_ ?_
 ·
  intro listed a' w' i o K hsz hcl hun hi hclo ⟨hd,W',done,ws',S',cx',hD,hdone,hW',hnd,s1,x1,env⟩ hK
  have hlt:i < ops.size:=(Array.getElem?_eq_some_iff.1 hi).1
  have rstep:∀ os,RL R C nt ops srcs e0 ws' S' os→i ∈ os→i ∉ W'→wpOp C.P ops Kx i K a' w':=fun os hrl hio hiw=>by
   obtain ⟨o2,x,e,h1,h2,h3,h4⟩:=hrl.get hio
   rw [hi] at h1; cases h1
   have hrel:=D6 hr hcl env hlt hun hclo h3 (hsrc i hlt)
   refine Gy hR h4 s1 hrel (fun cx2 w2 u q1 q2 q3=>hK _ _ ⟨by rw [put_defers]; exact hd,W',done,ws',S',cx2,hD,fun j hj=>?_,fun j hj=>?_,hnd,q1,x1.trans q2,?_⟩) (hnx i o hi) hi
   ·
    by_cases hij:i=j
    ·
     subst hij; exact getD_set_true (hdone i hj)
    ·
     rw [getD_set_ne false hij]; exact hdone j hj
   ·
    have hij:i ≠ j:=fun q=>hiw (q ▸ hj)
    rw [getD_set_ne false hij]; exact hW' j hj
   ·
    exact ve.step hr hnt hsz hcl (fun k y _ hy=>⟨y,hy,.refl y⟩) env hi hun q2 (fun t ht=>⟨x,h2,q3 t ht⟩)
  have cov:∀ os w0,CO ops os done w0 W'=true→(i ∈ os∧i ∉ W')∨∃ w1,w0=some w1∧(i=w1∨listed.getD w1 false=true):=fun os w0 hc=>by
   simp only [CO,Bool.and_eq_true] at hc
   obtain ⟨c1,c2⟩:=hc
   have:=List.all_eq_true.1 c2 i (List.mem_range.2 hlt)
   simp only [Bool.or_eq_true] at this
   rcases this with ((q | q) | q) | q
   ·
    left
    have hio:=zB.1 q
    refine ⟨hio,fun hiw=>?_⟩
    have:=List.all_eq_true.1 c1 i hio
    rw [zB.2 hiw] at this; cases this
   ·
    have:=hdone i (zB.1 q)
    rw [hun] at this; cases this
   ·
    obtain ⟨d,hd1,hd2⟩:=List.any_eq_true.1 q
    have hl:=hdone d hd1
    have hdlt:d < ops.size:=by
     rcases Nat.lt_or_ge d ops.size with q | q
     ·
      exact q
     ·
      have:listed.getD d false=false:=by simp [show listed.size ≤ d by omega]
      rw [hl] at this; cases this
    have:=hcl d hl i (tC hr hdlt hd2) hd2
    rw [hun] at this; cases this
   ·
    right
    cases w0 with
    | none=>cases q
    | some w1 =>
     simp only [Bool.or_eq_true] at q
     refine ⟨w1,rfl,q.imp Nat.eq_of_beq_eq_true (fun q=>hclo w1 (tC hr hlt q) q)⟩
  cases W' with
  | nil =>
   obtain ⟨os,hc,hrl,_⟩:=_root_.id hD
   rcases cov os none hc with h | ⟨w1,h,_⟩
   ·
    exact rstep os hrl h.1 h.2
   ·
    cases h
  | cons w0 W2 =>
   obtain ⟨os,hc,hrl,o2,e,h1,h2,h3⟩:=_root_.id hD
   rcases cov os (some w0) hc with h | ⟨w1,h,hq⟩
   ·
    exact rstep os hrl h.1 h.2
   ·
    cases h
    rcases hq with rfl | hq
    ·
     rw [hi] at h1; cases h1
     have hrel:=D6 hr hcl env hlt hun hclo h2 (hsrc i hlt)
     refine Gu hR h3 s1 hrel (fun v S2 cx2 w2 u hqv q1 q2 q3=>?_) (hnx i o hi) hi
     obtain ⟨ws2,l1,l2,l3⟩:=hqv
     refine hK _ _ ⟨by rw [put_defers]; exact hd,W2,i :: done,ws2,S2,cx2,l3,fun j hj=>?_,fun j hj=>?_,(List.nodup_cons.1 hnd).2,q1,x1.trans q2,?_⟩
     ·
      by_cases hij:i=j
      ·
       subst hij
       have hlt':i < listed.size:=by omega
       simp [hlt']
      ·
       rw [getD_set_ne false hij]
       rcases List.mem_cons.1 hj with q | q
       ·
        exact absurd q.symm hij
       ·
        exact hdone j q
     ·
      have hij:i ≠ j:=fun q=>(List.nodup_cons.1 hnd).1 (q ▸ hj)
      rw [getD_set_ne false hij]; exact hW' j (List.mem_cons_of_mem _ hj)
     ·
      exact ve.step hr hnt hsz hcl (fun k y _ hy=>l1.get hy) env hi hun q2 (fun t ht=>by
       obtain ⟨x,k1,k2⟩:=l2 t ht
       exact ⟨x,k1,k2 _ _ _ _ (q3 t ht)⟩)
    ·
     have:=hW' w0 List.mem_cons_self
     rw [hq] at this; cases this
 ·
  intro listed a' w' hall' ⟨hd,W',done,ws',S',cx',hD,hdone,hW',hnd,s1,x1,env⟩
  cases W' with
  | nil =>
   obtain ⟨os,hc,hrl,E,hE,hQ⟩:=hD
   exact hk (.normal,E,S') hQ cx' a' w' s1 x1 (Ik hall' env hE hfin) hd
  | cons w0 W2 =>
   obtain ⟨os,hc,hrl,o2,e,h1,h2,h3⟩:=hD
   have:=hall' w0 (Array.getElem?_eq_some_iff.1 h1).1
   rw [hW' w0 List.mem_cons_self] at this; cases this
 ·
  have:((List.range ops.size).filter fun i=>!(Array.replicate ops.size false).getD i false)=List.range ops.size:=by
   rw [List.filter_eq_self]; intro i hi; rw [repf]; rfl
  rw [this]; simp
 ·
  refine ⟨rfl,W,[],ws,S,cx,h,fun i hi=>(by cases hi),fun i hi=>repf i,hWn,d1,d2,he.size,fun k o t _ _ hl _=>?_,fun t x hx _=>?_⟩
  ·
   rw [repf] at hl; cases hl
  ·
   obtain ⟨v,v1,v2⟩:=he.rel t x hx
   exact ⟨v,v1,v2.mono d2⟩
end
end Go.Ev
namespace Go.Ev
theorem C9 {α:Type} {enc:α→D} (h:∀ x y,enc x=enc y→x=y):∀ {l m:List α},l.map enc=m.map enc→l=m
 | [],[],_=>rfl
 | [],b :: m,q=>by simp at q
 | a :: l,[],q=>by simp at q
 | a :: l,b :: m,q=>by
  simp only [List.map_cons,List.cons.injEq] at q
  rw [h a b q.1,C9 h q.2]
theorem int_inj {k:IntKind} (a b:Int) (h:D.int k a=D.int k b):a=b:=by injection h
theorem Ck {α:Type} {enc:α→D} (h:∀ x y,enc x=enc y→x=y) {t:Bool} (l m:List α) (q:D.sl (l.map enc) t=D.sl (m.map enc) t):l=m:=C9 h (by injection q)
end Go.Ev

namespace Go.Ev
noncomputable section
open Go.Shelf Go.RowKit Go.Proofs
set_option linter.unusedVariables false
set_option linter.unusedSimpArgs false
theorem setCells_at:∀ (vs:List Value) (w:World) (b o:Nat) (arr:Array Value) (el:Nat) (fz:Nat × Nat),w.heap[b]? = some (.cells arr el fz) →
  (w.setCells b o vs).heap.size=w.heap.size∧(∀ c,c ≠ b→(w.setCells b o vs).heap[c]? = w.heap[c]?)∧(w.setCells b o vs).os=w.os∧(w.setCells b o vs).tape=w.tape∧(w.setCells b o vs).output=w.output ∧
   (w.setCells b o vs).heap[b]? = some (.cells (setAt arr.toList o vs).toArray el fz)
 | [],w,b,o,arr,el,fz,hb=>⟨rfl,fun _ _=>rfl,rfl,rfl,rfl,by simpa [setAt,World.setCells] using hb⟩
 | v :: vs,w,b,o,arr,el,fz,hb=>by
  have h1:(w.setCell ⟨b,o,none⟩ v).heap[b]? = some (.cells (arr.setIfInBounds o v) el fz):=by
   simp [World.setCell,Array.getElem?_modify,hb]
  obtain ⟨a1,a2,a3,a4,a5,a6⟩:=setCells_at vs (w.setCell ⟨b,o,none⟩ v) b (o + 1) _ el fz h1
  simp only [World.setCells]
  refine ⟨by rw [a1]; simp [World.setCell],fun c hc=>?_,a3,a4,a5,?_⟩
  ·
   rw [a2 c hc]
   simp [World.setCell,Array.getElem?_modify,Ne.symm hc]
  ·
   rw [a6]
   simp [setAt]
theorem vE {w:World} {need old e:Nat} (h:need ≤ 9223372036854775807):need ≤ grownCap w need old e∧grownCap w need old e ≤ 9223372036854775807:=by
 unfold grownCap
 simp only [Question.cut]
 have h2:(2:Nat) ^ 63=9223372036854775808:=by decide
 have h3:=Nat.mod_lt (w.tape w.drawn (.appendCap need old e)) (show 0 < 2 ^ 63 - need by omega)
 constructor <;> omega
def Km (w:World) (b n c i m:Nat) (arr:Array Value) (el e3:Nat) (cs vs:List Value) (e:Ending) (w':World):Prop :=
 (w'.os=w.os∧w'.tape=w.tape∧w'.output=w.output) ∧
 ((n + m ≤ c∧e=.returned (.slice (some ⟨b,0,none⟩) (n + m) c)∧w'.heap.size=w.heap.size∧(∀ d,d ≠ b→w'.heap[d]? = w.heap[d]?) ∧
   ∃ arr',w'.heap[b]? = some (.cells arr' el (0,0))∧arr'.size=arr.size∧∀ (j:Nat) (v:Value),(cs.take i ++ vs ++ cs.drop i)[j]? = some v→arr'[j]? = some v) ∨
  (∃ nc arr',n + m ≤ nc∧nc ≤ 9223372036854775807∧e=.returned (.slice (some ⟨w.heap.size,0,none⟩) (n + m) nc)∧w'.heap.size=w.heap.size + 1∧(∀ d,d < w.heap.size→w'.heap[d]? = w.heap[d]?) ∧
   w'.heap[w.heap.size]? = some (.cells arr' e3 (0,0))∧arr'.size=nc∧∀ (j:Nat) (v:Value),(cs.take i ++ vs ++ cs.drop i)[j]? = some v→arr'[j]? = some v))
theorem zS {α:Type} (l cs vs:List α) (i m n:Nat) (hm:vs.length=m) (hn:cs.length=n) (hi:i ≤ n) (hl:n + m ≤ l.length) (h0:∀ (j:Nat) (v:α),j < i→cs[j]? = some v→l[j]? = some v) (j:Nat) (v:α)
  (h:(cs.take i ++ vs ++ cs.drop i)[j]? = some v):(setAt (setAt l (i + m) (cs.drop i)) i vs)[j]? = some v:=by
 have hlt:(cs.take i).length=i:=by simp; omega
 have hdl:(cs.drop i).length=n - i:=by simp; omega
 rw [eH _ _ _ _ (by rw [cz]; omega)]
 rw [List.getElem?_append,List.length_append,hlt,hm] at h
 by_cases h1:j < i + m
 ·
  rw [if_pos h1,List.getElem?_append,hlt] at h
  by_cases h2:j < i
  ·
   rw [if_pos h2,List.getElem?_take,if_pos h2] at h
   rw [if_neg (by omega),eH _ _ _ _ (by omega),if_neg (by omega)]
   exact h0 j v h2 h
  ·
   rw [if_neg h2] at h
   rw [if_pos (by omega)]; exact h
 ·
  rw [if_neg h1] at h
  have h3:j - (i + m) < (cs.drop i).length:=(List.getElem?_eq_some_iff.1 h).1
  rw [if_neg (by omega),eH _ _ _ _ (by omega),if_pos (by omega)]
  exact h
theorem EX {α:Type} (l cs vs:List α) (i m n:Nat) (hm:vs.length=m) (hn:cs.length=n) (hi:i ≤ n) (hl:n + m ≤ l.length) (h0:∀ (j:Nat) (v:α),j < i→cs[j]? = some v→l[j]? = some v) (j:Nat) (v:α)
  (h:(cs.take i ++ vs ++ cs.drop i)[j]? = some v):(setAt (setAt l i vs) (i + m) (cs.drop i))[j]? = some v:=by
 have hlt:(cs.take i).length=i:=by simp; omega
 have hdl:(cs.drop i).length=n - i:=by simp; omega
 rw [eH _ _ _ _ (by rw [cz]; omega)]
 rw [List.getElem?_append,List.length_append,hlt,hm] at h
 by_cases h1:j < i + m
 ·
  rw [if_pos h1,List.getElem?_append,hlt] at h
  rw [if_neg (by omega),eH _ _ _ _ (by omega)]
  by_cases h2:j < i
  ·
   rw [if_pos h2,List.getElem?_take,if_pos h2] at h
   rw [if_neg (by omega)]
   exact h0 j v h2 h
  ·
   rw [if_neg h2] at h
   rw [if_pos (by omega)]; exact h
 ·
  rw [if_neg h1] at h
  have h3:j - (i + m) < (cs.drop i).length:=(List.getElem?_eq_some_iff.1 h).1
  rw [if_pos (by omega)]
  exact h
theorem Cb {P:Program} {ρ:Ren} (L:Lays2.n21 P ρ) {w:World} {b n c i vb voff m vc:Nat} {arr arr2:Array Value} {el el2:Nat} {cs vs:List Value}
  (hb:w.heap[b]? = some (.cells arr el (0,0))) (hvb:w.heap[vb]? = some (.cells arr2 el2 (0,0))) (hne:vb ≠ b) (hi:i ≤ n) (hm:0 < m) (hnc:n ≤ c) (hca:c ≤ arr.size) (hc63:c ≤ 9223372036854775807)
  (hbig:(n + m) * 8 ≤ 140737488355328) (hcl:cs.length=n) (hvl:vs.length=m) (hcs:∀ (j:Nat) (v:Value),cs[j]? = some v→arr[j]? = some v) (hvs:∀ (j:Nat) (v:Value),vs[j]? = some v→arr2[voff + j]? = some v)
  (h1c:∀ v ∈ cs,v.oneCell'=true) (h1v:∀ v ∈ vs,v.oneCell'=true) :
  Calls P (ρ.f 21) #[.slice (some ⟨b,0,none⟩) n c,.int .i64 i,.slice (some ⟨vb,voff,none⟩) m vc] w (Km w b n c i m arr el (ρ.t 3) cs vs):=by
 have hbl:b < w.heap.size:=by
  rcases Nat.lt_or_ge b w.heap.size with q | q
  ·
   exact q
  ·
   rw [Array.getElem?_eq_none q] at hb; cases hb
 have gcs:∀ (j:Nat) (v:Value),cs[j]? = some v→w.cell? ⟨b,0 + j,none⟩=some v:=fun j v h=>by rw [Nat.zero_add,cell_of hb]; exact hcs j v h
 have gvs:∀ (j:Nat) (v:Value),vs[j]? = some v→w.cell? ⟨vb,voff + j,none⟩=some v:=fun j v h=>by rw [cell_of hvb]; exact hvs j v h
 have gsp:∀ (o j:Nat),o + j < arr.size→(w.cell? ⟨b,o + j,none⟩).isSome=true:=fun o j h=>by rw [cell_of hb,Array.getElem?_eq_getElem h]; rfl
 have gfz:∀ (o:Nat),w.frozen? ⟨b,o,none⟩=false:=fun o=>by simp [World.frozen?,hb]
 have gfz2:∀ (o:Nat),w.frozen? ⟨vb,o,none⟩=false:=fun o=>by simp [World.frozen?,hvb]
 have hsb:w.shape? b=some (el,arr.size):=by simp [World.shape?,hb]
 have hsv:w.shape? vb=some (el2,arr2.size):=by simp [World.shape?,hvb]
 by_cases hroom:n + m ≤ c
 ·
  by_cases hin:i < n
  ·
   refine (Proofs.Any2.slices_Insert_int_shift L b 0 n c i vb voff m vc cs vs w hin hm hroom hc63 hne hcl hvl gcs (fun j hj=>gsp 0 j (by omega)) (fun j _=>gfz _) gvs h1c h1v el2 el arr2.size arr.size hsv hsb (by omega) (gfz2 _) (gfz2 _)).mono (fun e w' q=>?_)
   obtain ⟨rfl,rfl⟩:=q
   obtain ⟨a1,a2,a3,a4,a5,a6⟩:=setCells_at (cs.drop i) w.drew b (0 + (i + m)) arr el (0,0) hb
   obtain ⟨b1,b2,b3,b4,b5,b6⟩:=setCells_at vs _ b (0 + i) _ el (0,0) a6
   simp only [Nat.zero_add] at *
   refine ⟨⟨b3.trans a3,b4.trans a4,b5.trans a5⟩,.inl ⟨hroom,rfl,b1.trans a1,fun d hd=>(b2 d hd).trans (a2 d hd),_,b6,by simp [cz],fun j v h=>?_⟩⟩
   simp only [List.getElem?_toArray]
   exact zS arr.toList cs vs i m n hvl hcl hi (by simp; omega) (fun j v _ h=>by simpa using hcs j v h) j v h
  ·
   have hin:i=n:=by omega
   subst hin
   refine (Proofs.Any2.slices_Insert_int_end_room L b 0 i c vb voff m vc vs w hm hroom hc63 hvl (fun j hj=>by rw [Nat.zero_add]; exact gsp i j (by omega)) (fun j _=>gfz _) gvs h1v).mono (fun e w' q=>?_)
   obtain ⟨rfl,rfl⟩:=q
   obtain ⟨a1,a2,a3,a4,a5,a6⟩:=setCells_at vs w b (0 + i) arr el (0,0) hb
   simp only [Nat.zero_add] at *
   refine ⟨⟨a3,a4,a5⟩,.inl ⟨hroom,rfl,a1,a2,_,a6,by simp [cz],fun j v h=>?_⟩⟩
   simp only [List.getElem?_toArray]
   have:=zS arr.toList cs vs i m i hvl hcl hi (by simp; omega) (fun j v _ h=>by simpa using hcs j v h) j v h
   rw [← hcl,List.drop_length] at this
   rw [← hcl]
   simpa [setAt] using this
 ·
  obtain ⟨g1,g2⟩:=vE (w:=w) (need:=n + m) (old:=c) (e:=ρ.t 3) (by omega)
  by_cases hin:i < n
  ·
   refine (Proofs.Any2.slices_Insert_int_grow L b 0 n c i vb voff m vc cs vs w hin hm hnc (by omega) hbig hcl hvl gcs gvs h1c h1v).mono (fun e w' q=>?_)
   obtain ⟨rfl,rfl⟩:=q
   generalize hrow:(cs.take i).toArray ++ Builtin.zeroCells (Value.int .i64 0).cells (n + m - i) ++ Builtin.zeroCells (Value.int .i64 0).cells (grownCap w (n + m) c (ρ.t 3) - (n + m))=ROW
   have hrs:ROW.size=grownCap w (n + m) c (ρ.t 3):=by
    rw [← hrow]; simp [iH,Value.cells]; omega
   have h0:(w.alloc (.cells ROW (ρ.t 3))).drew.heap[w.heap.size]? = some (.cells ROW (ρ.t 3) (0,0)):=heap_alloc_new w _
   obtain ⟨a1,a2,a3,a4,a5,a6⟩:=setCells_at vs (w.alloc (.cells ROW (ρ.t 3))).drew w.heap.size i ROW (ρ.t 3) (0,0) h0
   obtain ⟨b1,b2,b3,b4,b5,b6⟩:=setCells_at (cs.drop i) (((w.alloc (.cells ROW (ρ.t 3))).drew.setCells w.heap.size i vs).drew) w.heap.size (i + m) _ (ρ.t 3) (0,0) a6
   refine ⟨⟨b3.trans a3,b4.trans a4,b5.trans a5⟩,.inr ⟨_,_,g1,g2,rfl,?_,fun d hd=>?_,b6,by simp [cz,hrs],fun j v h=>?_⟩⟩
   ·
    rw [b1]; show ((w.alloc (.cells ROW (ρ.t 3))).drew.setCells w.heap.size i vs).heap.size=_; rw [a1]; show (w.alloc (.cells ROW (ρ.t 3))).heap.size=_; rw [size_alloc]
   ·
    rw [b2 d (by omega)]; show ((w.alloc (.cells ROW (ρ.t 3))).drew.setCells w.heap.size i vs).heap[d]? = _; rw [a2 d (by omega)]; exact heap_alloc_old w _ hd
   ·
    simp only [List.getElem?_toArray]
    refine EX ROW.toList cs vs i m n hvl hcl hi (by simp [hrs]; omega) (fun j v hj h=>?_) j v h
    rw [← hrow]
    simp only [Array.toList_append,List.append_assoc]
    rw [List.getElem?_append_left (by simp; omega)]
    simpa [List.getElem?_take,hj] using h
  ·
   have hin:i=n:=by omega
   subst hin
   refine (Proofs.Any2.slices_Insert_int_end_grow L (some ⟨b,0,none⟩) i c vb voff m vc cs vs w hm hnc (by omega) hbig hcl hvl (fun q=>by cases q) (fun a ha j v h=>by cases ha; rw [ja]; exact gcs j v h) gvs h1v).mono (fun e w' q=>?_)
   obtain ⟨rfl,rfl⟩:=q
   refine ⟨⟨rfl,rfl,rfl⟩,.inr ⟨_,_,g1,g2,rfl,size_alloc w.drew _,fun d hd=>heap_alloc_old w.drew _ hd,heap_alloc_new w.drew _,by simp [iH,Value.cells,hcl,hvl]; omega,fun j v h=>?_⟩⟩
   rw [← hcl,List.take_length,List.drop_length,List.append_nil] at h
   have hlt:=(List.getElem?_eq_some_iff.1 h).1
   rw [Array.getElem?_append_left (by simpa using hlt)]
   simpa using h
theorem insert_nil {P:Program} {ρ:Ren} (L:Lays2.n21 P ρ) {w:World} {vb voff m vc:Nat} {arr2:Array Value} {el2:Nat} {vs:List Value}
  (hvb:w.heap[vb]? = some (.cells arr2 el2 (0,0))) (hm:0 < m)
  (hbig:m * 8 ≤ 140737488355328) (hvl:vs.length=m) (hvs:∀ (j:Nat) (v:Value),vs[j]? = some v→arr2[voff + j]? = some v) (h1v:∀ v ∈ vs,v.oneCell'=true) :
  Calls P (ρ.f 21) #[.slice none 0 0,.int .i64 0,.slice (some ⟨vb,voff,none⟩) m vc] w fun e w'=>∃ nc rest,m ≤ nc∧nc ≤ 9223372036854775807∧rest.size=nc - m∧e=.returned (.slice (some ⟨w.heap.size,0,none⟩) m nc) ∧
   w'=w.drew.alloc (.cells (vs.toArray ++ rest) (ρ.t 3)):=by
 obtain ⟨g1,g2⟩:=vE (w:=w) (need:=0 + m) (old:=0) (e:=ρ.t 3) (by omega)
 have gvs:∀ (j:Nat) (v:Value),vs[j]? = some v→w.cell? ⟨vb,voff + j,none⟩=some v:=fun j v h=>by rw [cell_of hvb]; exact hvs j v h
 refine (Proofs.Any2.slices_Insert_int_end_grow L none 0 0 vb voff m vc [] vs w hm (Nat.le_refl _) (by omega) (by omega) rfl hvl (fun _=>rfl) (fun a ha=>by cases ha) gvs h1v).mono (fun e w' q=>?_)
 obtain ⟨rfl,rfl⟩:=q
 simp only [Nat.zero_add,List.nil_append] at *
 exact ⟨_,_,g1,g2,by simp [iH,Value.cells],rfl,rfl⟩
def nK (args:List AV) (S:St):Option (AV × St) :=
 match args with
 | [.eD id g off len lim sz,.d (.int k i),.eD id2 g2 off2 len2 lim2 sz2] =>
  match S.look id g,S.look id2 g2 with
  | some cs,some vs =>
   if off=0∧sz=1∧sz2=1∧k=.i64∧id2 ≠ id∧0 ≤ i∧i.toNat ≤ len∧len ≤ cs.length∧0 < len2∧off2 + len2 ≤ vs.length∧(len + len2) * 8 ≤ 140737488355328 then
    some (.eD id (g + 1) 0 (len + len2) (len + len2) 1,{ S with H:=S.H.set id (.cells (g + 1) ((cs.take len).take i.toNat ++ (vs.drop off2).take len2 ++ (cs.take len).drop i.toNat)) })
   else none
  | _,_=>none
 | [.d .aS,.d (.int k i),.eD id2 g2 off2 len2 lim2 sz2] =>
  match S.look id2 g2 with
  | some vs =>
   if sz2=1∧k=.i64∧i=0∧0 < len2∧off2 + len2 ≤ vs.length∧len2 * 8 ≤ 140737488355328 then
    some (.eD S.nx 0 0 len2 len2 1,(iO S ((vs.drop off2).take len2)).2)
   else none
  | none=>none
 | _=>none
theorem AR {R:bO} (hR:ObjOk R) {P:Program} {ρ:Ren} (L:Lays2.n21 P ρ) {args:List AV} {S S':St} {v:AV} (h:nK args S=some (v,S')) {cx:Cx} {w:World} {us:List Value} (hS:bg R cx S w)
  (hl:us.length=args.length) (hr:∀ (i:Nat) (x:AV) (u:Value),args[i]? = some x→us[i]? = some u→aO cx S w x u) :
  Calls P (ρ.f 21) us.toArray w (fun e w'=>∃ cx',bg R cx' S' w'∧Ext cx S w cx' S' w'∧∃ u,e=.returned u∧aO cx' S' w' v u):=by
 unfold nK at h
 split at h
 ·
  rename_i id g off len lim sz k i id2 g2 off2 len2 lim2 sz2
  split at h
  ·
   rename_i cs vs hlk hlk2
   split at h
   ·
    rename_i hc
    obtain ⟨rfl,rfl,rfl,rfl,hne,hi0,hil,hlc,hm,hov,hbig⟩:=hc
    simp only [Option.some.injEq,Prod.mk.injEq] at h
    obtain ⟨rfl,rfl⟩:=h
    match us,hl with
    | [u0,u1,u2],_ =>
    have r0:=hr 0 _ _ rfl rfl
    have r1:=hr 1 _ _ rfl rfl
    have r2:=hr 2 _ _ rfl rfl
    cases r1 with
    | d _ _ r1 =>
    have a1:=r1.val rfl; cases a1
    have hk:=lD hlk
    have hk2:=lD hlk2
    have hlive:cur S id=some g:=by simp [cur,hk]
    have hlive2:cur S id2=some g2:=by simp [cur,hk2]
    cases r0 with
    | eD _ _ _ _ _ _ b cap hn hll hcap h63 hp =>
    cases r2 with
    | eD _ _ _ _ _ _ b2 cap2 hn2 hll2 hcap2 h632 hp2 =>
    obtain ⟨rfl,p2,p3⟩:=hp hlive
    obtain ⟨rfl,q2,q3⟩:=hp2 hlive2
    obtain ⟨c1,c2,arr,el,c3,c4,c5⟩:=hS.cells id g cs hk
    obtain ⟨d1,d2,arr2,el2,d3,d4,d5⟩:=hS.cells id2 g2 vs hk2
    have hbne:cx.bm id2 ≠ cx.bm id:=fun q=>hne (hS.sep id2 id (cx.bm id) (by simp [live,hlive2]) (by simp [live,hlive]) ((d1 _).2 q.symm) ((c1 _).2 rfl))
    have pc:=qj c4.2.2 c5 0 len (by omega)
    have pv:=qj d4.2.2 d5 off2 len2 (by omega)
    simp only [List.drop_zero] at pc
    have hcV:(arr.toList.take len).length=len:=by simp; have:=c4.2.2; omega
    have hvV:((arr2.toList.drop off2).take len2).length=len2:=by simp; have:=d4.2.2; omega
    have pL:Pw (aO cx S w) ((cs.take len).take i.toNat ++ (vs.drop off2).take len2 ++ (cs.take len).drop i.toNat) ((arr.toList.take len).take i.toNat ++ (arr2.toList.drop off2).take len2 ++ (arr.toList.take len).drop i.toNat):=by
     refine Pw.append (Pw.append ?_ pv) ?_
     ·
      have:=pc.MR 0 i.toNat
      simpa using this
     ·
      have:=pc.MR i.toNat (len - i.toNat)
      have e1:((cs.take len).drop i.toNat).take (len - i.toNat)=(cs.take len).drop i.toNat:=List.take_of_length_le (by simp; omega)
      have e2:((arr.toList.take len).drop i.toNat).take (len - i.toNat)=(arr.toList.take len).drop i.toNat:=List.take_of_length_le (by rw [List.length_drop,hcV]; omega)
      rw [e1,e2] at this
      exact this
    have hLl:((cs.take len).take i.toNat ++ (vs.drop off2).take len2 ++ (cs.take len).drop i.toNat).length=len + len2:=by simp; omega
    generalize hLL:(cs.take len).take i.toNat ++ (vs.drop off2).take len2 ++ (cs.take len).drop i.toNat=LL at pL hLl ⊢
    generalize hVV:(arr.toList.take len).take i.toNat ++ (arr2.toList.drop off2).take len2 ++ (arr.toList.take len).drop i.toNat=VV at pL
    have hi:(Value.int .i64 i)=.int .i64 ((i.toNat:Nat):Int):=by rw [Int.toNat_of_nonneg hi0]
    rw [hi]
    have hcurn:cur { S with H:=S.H.set id (.cells (g + 1) LL) } id=some (g + 1):=by unfold cur; simp [AL.aP]
    have hnm:Names { S with H:=S.H.set id (.cells (g + 1) LL) } id (g + 1):=⟨hn.1,fun g' hg=>by rw [hcurn] at hg; simp at hg; omega⟩
    refine (Cb L (i:=i.toNat) (c:=cap) (voff:=off2) (vc:=cap2) c3 d3 hbne hil hm (by omega) (by rw [c4.1]; omega) h63 hbig hcV hvV (fun j v hj=>by
     rw [List.getElem?_take] at hj
     split at hj
     ·
      simpa using hj
     ·
      cases hj) (fun j v hj=>by
     rw [List.getElem?_take] at hj
     split at hj
     ·
      rw [List.getElem?_drop] at hj; simpa using hj
     ·
      cases hj) (fun v hv=>pc.2.1 v hv) (fun v hv=>pv.2.1 v hv)).mono (fun e w' hpost=>?_)
    obtain ⟨⟨o1,o2,o3⟩,hpost⟩:=hpost
    rw [hVV] at hpost
    rcases hpost with ⟨hfit,rfl,s1,s2,arr',s3,s4,s5⟩ | ⟨nc,arr',g1,g2,rfl,s1,s2,s3,s4,s5⟩
    ·
     let cx':Cx:={ cx with nk:=fun i=>if i=id then len + len2 else cx.nk i }
     obtain ⟨k1,k2⟩:=tV hR (cx':=cx') (w':=w') (g':=g + 1) (cs':=LL) hS hk (by omega) (by omega) o1 o2 o3 (fun b _ hb=>s2 b hb) (fun _ _=>rfl) (fun _ _ _=>Iff.rfl) (fun i hi=>by simp [cx',hi]) (fun _ _=>rfl)
      (fun b hb=>.inl ((c1 b).1 hb)) (fun b o hf _=>hf) (fun b o hf=>hf) (fun b o hf=>by rw [s1]; exact hS.lt b o hf) (fun ext=>by
      refine ⟨c1,c2,arr',el,s3,⟨by rw [s4]; exact c4.1,by simp only [cx',if_true]; exact hLl,by rw [hLl,s4,c4.1]; omega⟩,fun j x hx=>?_⟩
      have hlt:j < VV.length:=by rw [pL.1]; exact (List.getElem?_eq_some_iff.1 hx).1
      have hu:=List.getElem?_eq_getElem hlt
      exact ⟨_,s5 j _ hu,(pL.2.2 j x _ hx hu).mono ext,pL.2.1 _ (List.getElem_mem hlt)⟩)
     exact ⟨cx',k1,k2,_,rfl,.eD id (g + 1) 0 (len + len2) (len + len2) _ _ cap hnm (Nat.le_refl _) hfit h63 (fun _=>⟨rfl,by simp only [cx',if_true,Nat.zero_add,Nat.mul_one]; exact hfit,p3⟩)⟩
    ·
     let cx':Cx:={ bm:=fun i=>if i=id then w.heap.size else cx.bm i,fp:=fun i b=>if i=id then b=w.heap.size else cx.fp i b,nk:=fun i=>if i=id then len + len2 else cx.nk i,tot:=fun i=>if i=id then nc else cx.tot i,fr:=fun b o=>b=w.heap.size∨cx.fr b o }
     obtain ⟨k1,k2⟩:=tV hR (cx':=cx') (w':=w') (g':=g + 1) (cs':=LL) hS hk (by omega) (by omega) o1 o2 o3
      (fun b hb _=>s2 b hb) (fun i hi=>by simp [cx',hi]) (fun i hi b=>by simp [cx',hi]) (fun i hi=>by simp [cx',hi]) (fun i hi=>by simp [cx',hi])
      (fun b hb=>.inr (by simp only [cx',if_true] at hb; subst hb; omega))
      (fun b o hf hlt q=>q.elim (fun q=>absurd q (by omega)) (fun q=>hf q)) (fun b o hf=>.inr hf) (fun b o q=>by rw [s1]; exact q.elim (fun q=>by rw [q]; exact Nat.lt_succ_self _) (fun q=>Nat.lt_succ_of_lt (hS.lt b o q)))
      (fun ext=>by
      refine ⟨fun b=>by simp [cx'],fun o=>by simp [cx'],arr',_,by simp only [cx',if_true]; exact s3,⟨by simp only [cx',if_true]; exact s4,by simp only [cx',if_true]; exact hLl,by rw [s4,hLl]; exact g1⟩,fun j x hx=>?_⟩
      have hlt:j < VV.length:=by rw [pL.1]; exact (List.getElem?_eq_some_iff.1 hx).1
      have hu:=List.getElem?_eq_getElem hlt
      exact ⟨_,s5 j _ hu,(pL.2.2 j x _ hx hu).mono ext,pL.2.1 _ (List.getElem_mem hlt)⟩)
     exact ⟨cx',k1,k2,_,rfl,.eD id (g + 1) 0 (len + len2) (len + len2) _ _ nc hnm (Nat.le_refl _) g1 g2 (fun _=>⟨by simp [cx'],by simp only [cx',if_true,Nat.zero_add,Nat.mul_one]; exact g1,by simp only [cx',if_true,Nat.zero_add,Nat.mul_one]; exact Nat.le_refl _⟩)⟩
   ·
    cases h
  ·
   cases h
 ·
  rename_i k i id2 g2 off2 len2 lim2 sz2
  split at h
  ·
   rename_i vs hlk2
   split at h
   ·
    rename_i hc
    obtain ⟨rfl,rfl,rfl,hm,hov,hbig⟩:=hc
    simp only [Option.some.injEq,Prod.mk.injEq] at h
    obtain ⟨rfl,rfl⟩:=h
    match us,hl with
    | [u0,u1,u2],_ =>
    have r0:=hr 0 _ _ rfl rfl
    have r1:=hr 1 _ _ rfl rfl
    have r2:=hr 2 _ _ rfl rfl
    cases r0 with
    | d _ _ r0 =>
    cases r1 with
    | d _ _ r1 =>
    have a0:=r0.val rfl; cases a0
    have a1:=r1.val rfl; cases a1
    have hk2:=lD hlk2
    have hlive2:cur S id2=some g2:=by simp [cur,hk2]
    cases r2 with
    | eD _ _ _ _ _ _ b2 cap2 hn2 hll2 hcap2 h632 hp2 =>
    obtain ⟨rfl,q2,q3⟩:=hp2 hlive2
    obtain ⟨d1,d2,arr2,el2,d3,d4,d5⟩:=hS.cells id2 g2 vs hk2
    have pv:=qj d4.2.2 d5 off2 len2 (by omega)
    have hvV:((arr2.toList.drop off2).take len2).length=len2:=by simp; have:=d4.2.2; omega
    refine (insert_nil L (voff:=off2) (vc:=cap2) d3 hm hbig hvV (fun j v hj=>by
     rw [List.getElem?_take] at hj
     split at hj
     ·
      rw [List.getElem?_drop] at hj; simpa using hj
     ·
      cases hj) (fun v hv=>pv.2.1 v hv)).mono (fun e w' hpost=>?_)
    obtain ⟨nc,rest,g1,g2,g3,rfl,rfl⟩:=hpost
    obtain ⟨hd1,hd2⟩:=mi hR hS
    obtain ⟨cx',k1,k2,k3⟩:=nO hR hd1 _ _ rest (ρ.t 3) len2 1 nc (pv.mono hd2) (by rw [← pv.1,hvV,Nat.mul_one]) g1 g2 (by rw [g3,Nat.mul_one])
    exact ⟨cx',k1,hd2.trans k2,_,rfl,k3⟩
   ·
    cases h
  ·
   cases h
 ·
  cases h
end
end Go.Ev

namespace Go.Ev
noncomputable section
open Go.Shelf Go.RowKit Go.Proofs
set_option linter.unusedVariables false
set_option linter.unusedSimpArgs false
structure MG (T e:Nat) (b:Nat) (p v:Value) (xs:List Value) (w:World):Prop where
 hp:p=.pointer none∨p=.pointer (some ⟨b,0,none⟩)
 blk:w.heap[b]? = some (.cells #[p,v] T (0,0))
 own:w.ownsRow 0 e 1 v xs.length xs
 ne:v.ownBlock ≠ some b
end
end Go.Ev

namespace Go.Ev
noncomputable section
open Go.Shelf Go.RowKit Go.Proofs
set_option linter.unusedVariables false
set_option linter.unusedSimpArgs false
def LK (T e:Nat) (k:Nat) (x:D) (w:World) (b:Nat) (F:Nat→Prop):Prop :=
 k=1∧∃ l p v,x=.str l∧MG T e b p v (Lib.byteCells l) w∧∀ c,F c↔(c=b∨v.ownBlock=some c)
def MF (k:Nat) (w:World) (b:Nat) (F:Nat→Prop):Prop:=k=3∧b < w.heap.size∧∀ c,F c↔c=b
def MV (T e:Nat) (G:World→(Nat→Nat→Prop)→Prop):bO:={ rel:=fun k x w b F=>LK T e k x w b F∨MF k w b F,G:=G }
def Jj (G:World→(Nat→Nat→Prop)→Prop):Prop :=
 ∀ (w w':World) (fr fr':Nat→Nat→Prop),G w fr→(∀ (b o:Nat) (v:Value),¬ fr b o→w.cell? ⟨b,o,none⟩=some v→w'.cell? ⟨b,o,none⟩=some v∧¬ fr' b o)→G w' fr'
theorem Ib {e:Nat} {v:Value} {n:Nat} {xs:List Value} {w w':World} (h:w.ownsRow 0 e 1 v n xs) (hk:∀ c,v.ownBlock=some c→w'.heap[c]? = w.heap[c]?):w'.ownsRow 0 e 1 v n xs:=by
 refine ⟨h.1,?_⟩
 rcases h.2 with q | ⟨g,cap,cur,rfl,q1,q2,q3⟩
 ·
  exact .inl q
 ·
  exact .inr ⟨g,cap,cur,rfl,q1,by rw [hk g rfl]; exact q2,q3⟩
theorem MQ {T e:Nat} {G:World→(Nat→Nat→Prop)→Prop} (hG:Jj G):ObjOk (MV T e G) where
 frame:=fun k x w w' b F h hF=>by
  rcases h with h | ⟨h1,h2,h3⟩
  ·
   obtain ⟨hk,l,p,v,hx,⟨h1,h2,h3,h4⟩,hf⟩:=h
   exact .inl ⟨hk,l,p,v,hx,⟨h1,by rw [hF b ((hf b).2 (.inl rfl))]; exact h2,Ib h3 (fun c hc=>hF c ((hf c).2 (.inr hc))),h4⟩,hf⟩
  ·
   refine .inr ⟨h1,?_,h3⟩
   have:=hF b ((h3 b).2 rfl)
   rcases Nat.lt_or_ge b w'.heap.size with q | q
   ·
    exact q
   ·
    rw [Array.getElem?_eq_none q,Array.getElem?_eq_getElem h2] at this; cases this
 lt:=fun k x w b F h=>by
  rcases h with h | ⟨h1,h2,h3⟩
  ·
   obtain ⟨hk,l,p,v,hx,⟨h1,h2,h3,h4⟩,hf⟩:=h
   refine ⟨fun c hc=>?_,(hf b).2 (.inl rfl)⟩
   rcases (hf c).1 hc with rfl | hc
   ·
    rcases Nat.lt_or_ge c w.heap.size with q | q
    ·
     exact q
    ·
     rw [Array.getElem?_eq_none q] at h2; cases h2
   ·
    exact (h3.lt c hc).2
  ·
   exact ⟨fun c hc=>by rw [(h3 c).1 hc]; exact h2,(h3 b).2 rfl⟩
 it:=fun x w b F=>by
  constructor
  ·
   rintro (⟨h,_⟩ | ⟨_,h1,h2⟩)
   ·
    cases h
   ·
    exact ⟨h1,h2⟩
  ·
   rintro ⟨h1,h2⟩
   exact .inr ⟨rfl,h1,h2⟩
 stat:=hG
end
end Go.Ev

namespace Go.Ev
noncomputable section
open Go.Shelf Go.RowKit Go.Proofs
set_option linter.unusedVariables false
set_option linter.unusedSimpArgs false
abbrev Prim:=List AV→St→Option (AV × St)
structure BS (R:bO) (P:Program) (f:Nat) (p:Prim):Prop where
 pure:∀ args S v S',p args S=some (v,S')→(lG args).isSome=true→(yQ v).isSome=true→∀ S2,p args S2=some (v,S2)
 calls:∀ args S v S',p args S=some (v,S')→(∃ fn,P.funcs[f]? = some fn∧fn.body.isSome=true∧fn.name ≠ "runtime.NumGoroutine") ∧
  ∀ cx w (us:List Value),bg R cx S w→us.length=args.length→(∀ (i:Nat) (x:AV) (u:Value),args[i]? = some x→us[i]? = some u→aO cx S w x u) →
  Calls P f us.toArray w (fun e w'=>∃ cx',bg R cx' S' w'∧Ext cx S w cx' S' w'∧∃ u,e=.returned u∧aO cx' S' w' v u)
theorem LB {R:bO} (hR:ObjOk R) {P:Program} {ρ:Shelf.Ren} (L:Proofs.Lays2.n21 P ρ):BS R P (ρ.f 21) nK where
 pure:=fun args S v S' h h1=>by
  exfalso
  unfold nK at h
  split at h
  ·
   simp [lG,Ar] at h1
  ·
   simp [lG,Ar] at h1
  ·
   cases h
 calls:=fun args S v S' h=>⟨⟨_,L.f21,rfl,by show ¬ ("slices.Insert[[]int,int]" = "runtime.NumGoroutine"); decide⟩,fun cx w us hS hl hr=>AR hR L h hS hl hr⟩
end
end Go.Ev

namespace Go.Ev
noncomputable section
open Go.Shelf Go.RowKit Go.Proofs
set_option linter.unusedVariables false
set_option linter.unusedSimpArgs false
end
end Go.Ev

namespace Go.Ev
noncomputable section
set_option linter.unusedVariables false
def OL:World→(Nat→Nat→Prop)→Prop:=fun _ _=>True
theorem MU:Jj OL:=fun _ _ _ _ _ _=>trivial
end
end Go.Ev

namespace Go.Ev
noncomputable section
set_option linter.unusedVariables false
set_option linter.unusedSimpArgs false
def IE:Nat→Nat→Prop:=fun _ _=>False
structure oL (w:World) (ds:List D) (cs:List Value):Prop where
 len:cs.length=ds.length
 one:∀ v ∈ cs,v.oneCell'=true
 flat:∀ d ∈ ds,d.isAgg=false
 rel:∀ (i:Nat) (d:D) (v:Value),ds[i]? = some d→cs[i]? = some v→iq w IE d [v]
theorem oL.nil {w:World}:oL w [] []:=⟨rfl,by simp,by simp,by simp⟩
theorem oL.append {w:World} {a b:List D} {x y:List Value} (h:oL w a x) (k:oL w b y):oL w (a ++ b) (x ++ y) where
 len:=by simp [h.len,k.len]
 one:=fun v hv=>by rcases List.mem_append.1 hv with q | q; exact h.one v q; exact k.one v q
 flat:=fun v hv=>by rcases List.mem_append.1 hv with q | q; exact h.flat v q; exact k.flat v q
 rel:=fun i d v hd hv=>by
  by_cases hi:i < a.length
  ·
   rw [List.getElem?_append_left hi] at hd
   rw [List.getElem?_append_left (by rw [h.len]; exact hi)] at hv
   exact h.rel i d v hd hv
  ·
   rw [List.getElem?_append_right (by omega)] at hd
   rw [List.getElem?_append_right (by rw [h.len]; omega),h.len] at hv
   exact k.rel _ d v hd hv
theorem oL.single {w:World} {d:D} {v:Value} (h:iq w IE d [v]) (ho:v.oneCell'=true) (hd:d.isAgg=false):oL w [d] [v] where
 len:=rfl
 one:=by simpa using ho
 flat:=by simpa using hd
 rel:=fun i d' v' h1 h2=>by
  cases i with
  | zero=>simp at h1 h2; subst h1; subst h2; exact h
  | succ i=>simp at h1
theorem oL.Ml {w:World} {x:D} {cs:List Value} (h:oL w x.cells cs):iq w IE x cs:=by
 cases hx:x.isAgg with
 | true =>
  cases x <;> simp [D.isAgg] at hx
  rename_i xs
  exact .agg xs cs h.len h.one h.flat h.rel
 | false =>
  have hc:x.cells=[x]:=by cases x <;> simp_all [D.isAgg,D.cells]
  rw [hc] at h
  have hl:=h.len
  match cs,hl with
  | [v],_=>exact h.rel 0 x v rfl rfl
def wm (P:Program) (t:Nat) {α:Type} (enc:α→D) (wf:α→Prop):Prop :=
 ∀ {H:Type} (en:TypeId × Value→H) (w:World) (base:Nat) (sp:Nat→Bool) (held:Bool) (fuel:Nat) (cs:List Value) (d:DataW H) (p:List MemPlace),
  DataW.trod en P w base sp held fuel t cs=some (d,p)→∃ x,wf x∧oL w (enc x).cells cs
theorem wm.int {P:Program} {t:Nat} {k:IntKind} (hu:P.underlying t=some (.int k)):wm P t (D.int k) (fun n=>(Lit.int k n).wf=true):=by
 intro H en w base sp held fuel cs d p h
 cases fuel with
 | zero=>cases h
 | succ fuel =>
  simp only [DataW.trod,hu] at h
  split at h <;> first | (simp_all; done) | skip
  rename_i k' k2 n heq
  simp only [Option.some.injEq,TypeDesc.int.injEq] at heq
  subst heq
  split at h
  ·
   rename_i hc
   obtain ⟨rfl,hw⟩:=hc
   exact ⟨n,hw,.single (.int _ _) rfl rfl⟩
  ·
   cases h
theorem wM {w:World} {base:Nat} {a:Addr} {n:Nat} {cs:List Value} (h:w.cells? base a n=some cs):cs.length=n∧∀ j v,cs[j]? = some v→w.cell? (a.add j)=some v:=by
 unfold World.cells? at h
 split at h
 ·
  have hl:=mapM_some_length h
  refine ⟨by simpa using hl,fun j v hj=>?_⟩
  have hlt:j < n:=by have:=(List.getElem?_eq_some_iff.1 hj).1; rw [hl] at this; simpa using this
  have:=mapM_some_get h j j (by simp [hlt])
  rw [this,hj]
 ·
  cases h
theorem wm.slice {P:Program} {t e:Nat} {α:Type} {enc:α→D} {wf:α→Prop} (hu:P.underlying t=some (.slice e)) (he:wm P e enc wf) (hsz:∀ x,(enc x).cells.length=P.cellsOf e) (h0:0 < P.cellsOf e) :
  wm P t (Nw enc) (fun l=>l.length ≤ maxLen∧∀ x ∈ l,wf x):=by
 intro H en w base sp held fuel cs d p h
 cases fuel with
 | zero=>cases h
 | succ fuel =>
  simp only [DataW.trod,hu] at h
  split at h <;> first | (simp_all; done) | skip
  ·
   exact ⟨[],⟨by simp,by simp⟩,.single (.sl0 none 0 false (fun h=>by cases h)) rfl rfl⟩
  ·
   rename_i e' a len cap heq
   simp only [Option.some.injEq,TypeDesc.slice.injEq] at heq
   subst heq
   split at h
   ·
    rename_i hc
    simp only [Option.bind_eq_some_iff] at h
    obtain ⟨els,hels,h⟩:=h
    have hl:=mapM_some_length hels
    have each:∀ i,i < len→∃ x ci,wf x∧w.cells? base (a.add (i * P.cellsOf e)) (P.cellsOf e)=some ci∧oL w (enc x).cells ci:=fun i hi=>by
     have hg:=mapM_some_get hels i i (by simp [hi])
     have hlt:i < els.length:=by rw [hl]; simpa using hi
     rw [List.getElem?_eq_getElem hlt,Option.bind_eq_some_iff] at hg
     obtain ⟨ci,h1,h2⟩:=hg
     obtain ⟨x,hx,hr⟩:=he en w base sp held fuel ci _ _ h2
     exact ⟨x,ci,hx,h1,hr⟩
    by_cases hz:len=0
    ·
     subst hz
     exact ⟨[],⟨by simp,by simp⟩,.single (.sl0 (some a) cap false (fun h=>by cases h)) rfl rfl⟩
    ·
     have hpos:0 < len:=by omega
     have hspot:a.spot=none:=by
      obtain ⟨x,ci,_,h1,_⟩:=each 0 hpos
      obtain ⟨l1,l2⟩:=wM h1
      have hne:0 < ci.length:=by omega
      have:=l2 0 ci[0] (List.getElem?_eq_getElem hne)
      unfold World.cell? at this
      split at this
      ·
       split at this
       ·
        cases this
       ·
        rename_i hs; cases hsp:a.spot with
        | none=>rfl
        | some q=>simp [Addr.add,hsp] at hs
      ·
       cases this
     have:Inhabited α:=⟨(each 0 hpos).choose⟩
     let f:Nat→α:=fun i=>if hi:i < len then (each i hi).choose else default
     let g:Nat→List Value:=fun i=>if hi:i < len then (each i hi).choose_spec.choose else []
     have hfg:∀ i,i < len→wf (f i)∧w.cells? base (a.add (i * P.cellsOf e)) (P.cellsOf e)=some (g i)∧oL w (enc (f i)).cells (g i):=fun i hi=>by
      have:=(each i hi).choose_spec.choose_spec
      simp only [f,g,hi,dif_pos]
      exact this
     let l:=(List.range len).map f
     have hll:l.length=len:=by simp [l]
     have hli:∀ i x,l[i]? = some x→i < len∧x=f i:=fun i x hx=>by
      simp only [l,List.getElem?_map,Option.map_eq_some_iff] at hx
      obtain ⟨j,hj,rfl⟩:=hx
      have:=List.getElem?_eq_some_iff.1 hj
      obtain ⟨h1,h2⟩:=this
      simp at h1 h2
      subst h2
      exact ⟨h1,rfl⟩
     refine ⟨l,⟨by rw [hll]; omega,fun x hx=>?_⟩,?_⟩
     ·
      obtain ⟨i,hi,rfl⟩:=List.getElem_of_mem hx
      obtain ⟨h1,h2⟩:=hli i _ (List.getElem?_eq_getElem hi)
      rw [h2]; exact (hfg i h1).1
     ·
      have ha:a=⟨a.block,a.off,none⟩:=by rw [← hspot]
      refine .single ?_ rfl rfl
      rw [ha]
      have hlm:(l.map enc).length=len:=by simp [hll]
      have key:iq w IE (.sl (l.map enc) false) [.slice (some ⟨a.block,a.off,none⟩) (l.map enc).length cap]:=by
       refine .sl (l.map enc) false a.block a.off cap (P.cellsOf e) g ?_ (by rw [hlm]; exact hc.2.1) (fun h=>by cases h) (fun i x hi=>?_) (fun i hi=>?_) (fun i x hi=>?_) (fun i j v hi hv=>?_)
       ·
        intro q; rw [q] at hlm; simp at hlm; omega
       ·
        rw [List.getElem?_map,Option.map_eq_some_iff] at hi
        obtain ⟨y,_,rfl⟩:=hi
        exact hsz y
       ·
        exact (wM (hfg i (by rw [hlm] at hi; exact hi)).2.1).1
       ·
        rw [List.getElem?_map,Option.map_eq_some_iff] at hi
        obtain ⟨y,hy,rfl⟩:=hi
        obtain ⟨h1,rfl⟩:=hli i y hy
        exact (hfg i h1).2.2.Ml
       ·
        rw [hlm] at hi
        have:=(wM (hfg i hi).2.1).2 j v hv
        refine ⟨?_,fun q=>q⟩
        rw [← this]
        congr 1
        have hz:∀ (b:Addr) (m:Nat),b.spot=none→b.add m=⟨b.block,b.off + m,none⟩:=fun b m hb=>by
         obtain ⟨b1,b2,b3⟩:=b
         cases hb
         cases m <;> simp [Addr.add]
        rw [hz a _ hspot,hz _ j rfl]
      rw [hlm] at key
      exact key
   ·
    cases h
def Bu (P:Program) (fs:List Field) (off tot:Nat) {β:Type} (enc:β→List D) (wf:β→Prop):Prop :=
 ∀ {H:Type} (en:TypeId × Value→H) (w:World) (base:Nat) (sp:Nat→Bool) (held:Bool) (fuel:Nat) (cs:List Value) (xs:List (DataW H × List MemPlace)),
  (fs.mapM fun f=>DataW.trod en P w base sp held fuel f.type ((cs.drop f.offset).take (P.cellsOf f.type)))=some xs→∃ y,wf y∧oL w (enc y) ((cs.drop off).take tot)
theorem Bu.nil {P:Program} {off:Nat}:Bu P [] off 0 (fun _:Unit=>[]) (fun _=>True) :=
 fun en w base sp held fuel cs xs h=>⟨(),trivial,by simpa using oL.nil⟩
theorem Bu.cons {P:Program} {f:Field} {fs:List Field} {off sz tot:Nat} {α β:Type} {enc:α→D} {wf:α→Prop} {enc2:β→List D} {wf2:β→Prop}
  (ho:f.offset=off) (hz:P.cellsOf f.type=sz) (h:wm P f.type enc wf) (k:Bu P fs (off + sz) tot enc2 wf2) :
  Bu P (f :: fs) off (sz + tot) (fun p:α × β=>(enc p.1).cells ++ enc2 p.2) (fun p=>wf p.1∧wf2 p.2):=by
 intro H en w base sp held fuel cs xs hx
 simp only [List.mapM_cons,Option.pure_def,Option.bind_eq_bind,Option.bind_eq_some_iff] at hx
 obtain ⟨x,hx,ys,hys,_⟩:=hx
 rw [ho,hz] at hx
 obtain ⟨a,a1,a2⟩:=h en w base sp held fuel _ x.1 x.2 hx
 obtain ⟨b,b1,b2⟩:=k en w base sp held fuel cs ys hys
 refine ⟨(a,b),⟨a1,b1⟩,?_⟩
 rw [List.take_add,List.drop_drop]
 exact a2.append b2
theorem wm.struct {P:Program} {t tot:Nat} {fs:Array Field} {α β:Type} {enc:α→D} {wf:α→Prop} {enc2:β→List D} {wf2:β→Prop} (hu:P.underlying t=some (.struct fs)) (hz:P.cellsOf t=tot)
  (h:Bu P fs.toList 0 tot enc2 wf2) (g:β→α) (hg:∀ y,(enc (g y)).cells=enc2 y) (hw:∀ y,wf2 y→wf (g y)):wm P t enc wf:=by
 intro H en w base sp held fuel cs d p hd
 cases fuel with
 | zero=>cases hd
 | succ fuel =>
  simp only [DataW.trod,hu] at hd
  split at hd
  ·
   rename_i hc
   simp only [Option.map_eq_some_iff] at hd
   obtain ⟨xs,hxs,_⟩:=hd
   obtain ⟨y,y1,y2⟩:=h en w base sp held fuel cs xs hxs
   refine ⟨g y,hw y y1,?_⟩
   rw [hg y]
   rw [hz] at hc
   simpa [← hc] using y2
  ·
   cases hd
theorem K5 {P:Program} {t:Nat} {fs:Array Field} {α:Type} {enc:α→D} {wf:α→Prop} (hu:P.underlying t=some (.struct fs)) (O:wm P t enc wf) (ha:∀ x,(enc x).isAgg=true)
  {H:Type} {en:TypeId × Value→H} {w:World} {base b0:Nat} {sp:Nat→Bool} {held:Bool} {v:Value} {d:DataW H} {p:List MemPlace} {r:Reach} (hval:Value.okWide P w r b0 t v) (hd:DataW.Trod en P w base sp held t v d p) :
  ∃ x,wf x∧bL w IE (enc x) v:=by
 unfold Value.okWide at hval
 rw [hu] at hval
 obtain ⟨cs,rfl,_,_⟩:=hval
 obtain ⟨fuel,hf⟩:=hd
 obtain ⟨x,x1,x2⟩:=O en w base sp held fuel _ d p hf
 exact ⟨x,x1,x2.Ml,ha x⟩
end
end Go.Ev

namespace Go.Ev
noncomputable section
set_option linter.unusedVariables false
set_option linter.unusedSimpArgs false
variable {R:bO} {C:eT} {P:Program}
theorem iE.JM {f:Nat} {p:Prim} (h:BS R P f p) {args:List AV} {S S':St} {v:AV} (hp:p args S=some (v,S')):iE R P f args S (fun r=>r=(none,v,S')):=by
 obtain ⟨h1,h2⟩:=h.calls args S v S' hp
 refine ⟨h1,fun cx w us q1 q2 q3=>(h2 cx w us q1 q2 q3).mono (fun e w' ⟨cx',k1,k2,u,k3,k4⟩=>⟨_,rfl,cx',k1,k2,u,k3,k4⟩)⟩
theorem JF (hR:ObjOk R) {f:Nat} {ds:List D} {x:D} (h:fw R P f ds (.d x)) (w:World) (hG:R.G w (fun _ _=>False)) (us:List Value) (hl:us.length=ds.length)
  (hr:∀ (i:Nat) (y:D) (u:Value),ds[i]? = some y→us[i]? = some u→bL w (fun _ _=>False) y u) :
  Calls P f us.toArray w (fun e w'=>∃ u,e=.returned u∧bL w' (fun _ _=>False) x u∧RowKit.Below w.heap.size w w'):=by
 let cx:Cx:={ bm:=fun _=>0,fp:=fun _ _=>False,nk:=fun _=>0,tot:=fun _=>0,fr:=fun _ _=>False }
 have hS:bg R cx aK w:=⟨fun id hl=>absurd rfl hl,fun id b hb=>by simp [aK,AL.get] at hb,fun id g cs hb=>by simp [aK,AL.get] at hb,fun id es hb=>by simp [aK,AL.get] at hb,
  fun id k x hb=>by simp [aK,AL.get] at hb,fun id en hb=>by simp [aK,AL.get] at hb,fun id id' b hl=>absurd rfl hl,fun b o q=>q.elim,hG⟩
 have h2:=(h (ds.map .d) aK ⟨ds,Fg ds,.refl ds⟩).2
 refine (h2 cx w us hS (by simp [hl]) (fun i y u hy hu=>?_)).mono (fun e w' he=>?_)
 ·
  simp only [List.getElem?_map,Option.map_eq_some_iff] at hy
  obtain ⟨z,hz,rfl⟩:=hy
  exact .d z u (hr i z u hz hu)
 ·
  obtain ⟨r,rfl,cx',k1,k2,k3⟩:=he
  obtain ⟨u,rfl,k3⟩:=k3
  obtain ⟨m1,m2,m3⟩:=Br hR hS k2
  exact ⟨u,rfl,m3 _ _ k3.dd,⟨m2.os,m2.tape,m2.output,m2.size,fun b hb=>(k2.other b hb (fun id hl=>absurd rfl hl)).1⟩⟩
end
end Go.Ev

namespace Go.Ev
noncomputable section
set_option linter.unusedVariables false
set_option linter.unusedSimpArgs false
variable {R:bO} {P:Program} {B:St}
theorem mV {S:St} {id:Nat}:live S id↔S.H.get id ≠ none∨S.T.get id ≠ none:=by
 unfold live cur
 cases hH:S.H.get id with
 | none=>simp
 | some b=>cases b <;> simp
def without (S:St) (ids:List Nat):St:=ids.foldl (fun S id=>{ S with H:=S.H.del id,T:=S.T.del id }) S
theorem qZ:∀ (ids:List Nat) (S:St),(without S ids).nx=S.nx
 | [],S=>rfl
 | id :: l,S=>qZ l { S with H:=S.H.del id,T:=S.T.del id }
theorem mE:∀ (ids:List Nat) (S:St) (k:Nat),(without S ids).H.get k=if k ∈ ids then none else S.H.get k
 | [],S,k=>by simp [without]
 | id :: l,S,k=>by
  show (without { S with H:=S.H.del id,T:=S.T.del id } l).H.get k=_
  rw [mE l]
  simp only [AL.yB]
  by_cases h1:k ∈ l
  ·
   simp [h1]
  ·
   by_cases h2:id=k
   ·
    subst h2; simp
   ·
    simp [h1,h2,Ne.symm h2]
theorem mo:∀ (ids:List Nat) (S:St) (k:Nat),(without S ids).T.get k=if k ∈ ids then none else S.T.get k
 | [],S,k=>by simp [without]
 | id :: l,S,k=>by
  show (without { S with H:=S.H.del id,T:=S.T.del id } l).T.get k=_
  rw [mo l]
  simp only [AL.yB]
  by_cases h1:k ∈ l
  ·
   simp [h1]
  ·
   by_cases h2:id=k
   ·
    subst h2; simp
   ·
    simp [h1,h2,Ne.symm h2]
theorem bG.there {S:St} {a:bG} (h:a.ok S):∀ id ∈ a.fp,S.H.get id ≠ none∨S.T.get id ≠ none:=fun id hid=>by
 cases a with
 | box i cs=>simp only [bG.fp,List.mem_singleton] at hid; subst hid; left; rw [show S.H.get id=_ from h]; simp
 | obj i k x=>simp only [bG.fp,List.mem_singleton] at hid; subst hid; left; rw [show S.H.get id=_ from h]; simp
 | map i m=>simp only [bG.fp,List.mem_singleton] at hid; subst hid; left; rw [show S.H.get id=_ from h]; simp
 | grow v xs =>
  cases v <;> simp only [bG.fp,List.not_mem_nil,List.mem_singleton] at hid
  subst hid
  right; rw [h.2.2.1]; simp
 | row sz v xs =>
  cases v <;> simp only [bG.fp,List.not_mem_nil,List.mem_singleton] at hid
  subst hid
  obtain ⟨cs,_,h8⟩:=h.2.2.2.2.2.2
  left; rw [h8]; simp
 | abs ids p=>obtain ⟨b,hb⟩:=h.1 id hid; left; rw [hb]; simp
theorem Has.frame {S:St} {l1 l2:List bG} (H:Has B S (l1 ++ l2)):∃ B',Has B' S l1∧∀ S' l1',Has B' S' l1'→(∀ id b,S'.H.get id=some b→S'.T.get id=none)→Has B S' (l1' ++ l2):=by
 let ids:=(l1.map bG.fp).flatten
 let B':=without S ids
 have hmem:∀ a ∈ l1,∀ id ∈ a.fp,id ∈ ids:=fun a ha id hid=>List.mem_flatten.2 ⟨_,List.mem_map.2 ⟨a,ha,rfl⟩,hid⟩
 have hnd:=H.nd
 rw [List.map_append,List.flatten_append,List.nodup_append] at hnd
 have hnot:∀ a ∈ l2,∀ id ∈ a.fp,id ∉ ids:=fun a ha id hid hq =>
  hnd.2.2 id hq id (List.mem_flatten.2 ⟨_,List.mem_map.2 ⟨a,ha,rfl⟩,hid⟩) rfl
 have hBids:∀ id ∈ ids,B.H.get id=none∧B.T.get id=none:=fun id hid=>by
  obtain ⟨iM,h1,h2⟩:=List.mem_flatten.1 hid
  obtain ⟨a,ha,rfl⟩:=List.mem_map.1 h1
  exact H.out a (List.mem_append_left _ ha) id h2
 have hwf:B'.Wf:=fun id hl=>by
  show id < B'.nx
  rw [qZ]
  refine H.wf id (mV.2 ?_)
  rcases mV.1 hl with h | h
  ·
   rw [mE] at h
   split at h
   ·
    exact absurd rfl h
   ·
    exact .inl h
  ·
   rw [mo] at h
   split at h
   ·
    exact absurd rfl h
   ·
    exact .inr h
 refine ⟨B',⟨H.wf,fun a ha=>H.ok a (List.mem_append_left _ ha),hnd.1,hwf,⟨by rw [qZ]; exact Nat.le_refl _,fun id b hb=>?_,fun id n hn=>?_⟩,fun a ha id hid=>?_⟩,fun S' l1' K hdis=>?_⟩
 ·
  rw [mE] at hb
  split at hb
  ·
   cases hb
  ·
   exact hb
 ·
  rw [mo] at hn
  split at hn
  ·
   cases hn
  ·
   exact hn
 ·
  have:=hmem a ha id hid
  rw [mE,mo,if_pos this,if_pos this]; exact ⟨rfl,rfl⟩
 ·
  have keepH:∀ id b,id ∉ ids→S.H.get id=some b→S'.H.get id=some b:=fun id b hn hb=>K.keeps.H id b (by rw [mE,if_neg hn]; exact hb)
  have keepT:∀ id n,id ∉ ids→S.T.get id=some n→S'.T.get id=some n:=fun id b hn hb=>K.keeps.T id b (by rw [mo,if_neg hn]; exact hb)
  have hok2:∀ a ∈ l2,a.ok S':=fun a ha=>by
   have hok:=H.ok a (List.mem_append_right _ ha)
   have hn:=hnot a ha
   cases a with
   | box id cs=>exact keepH _ _ (hn _ (by simp [bG.fp])) hok
   | obj id k x=>exact keepH _ _ (hn _ (by simp [bG.fp])) hok
   | map id m=>exact keepH _ _ (hn _ (by simp [bG.fp])) hok
   | grow v xs =>
    cases v with
    | tsl ys tok =>
     obtain ⟨h1,h2,h3,h4⟩:=hok
     have h3':=keepT _ _ (hn tok (by simp [bG.fp])) h3
     refine ⟨h1,h2,h3',?_⟩
     cases hb:S'.H.get tok with
     | none=>rfl
     | some b=>have:=hdis _ _ hb; rw [h3'] at this; cases this
    | d x=>cases x with
     | sl ys t=>cases t <;> exact hok
     | _=>exact hok
    | _=>exact hok
   | row sz v xs =>
    cases v with
    | eD id g off len lim sz' =>
     obtain ⟨h1,h2,h3,h4,h5,h6,cs,h7,h8⟩:=hok
     exact ⟨h1,h2,h3,h4,h5,h6,cs,h7,keepH _ _ (hn id (by simp [bG.fp])) h8⟩
    | d x=>cases x with
     | sl ys t=>cases ys <;> cases t <;> exact hok
     | _=>exact hok
    | _=>exact hok
   | abs ids' p=>exact bG.Ni hok (fun id b hid hb=>keepH _ _ (hn id hid) hb)
  refine ⟨K.wf,fun a ha=>?_,?_,H.bwf,⟨?_,fun id b hb=>?_,fun id n hn=>?_⟩,fun a ha id hid=>?_⟩
  ·
   rcases List.mem_append.1 ha with ha | ha
   ·
    exact K.ok a ha
   ·
    exact hok2 a ha
  ·
   rw [List.map_append,List.flatten_append,List.nodup_append]
   refine ⟨K.nd,hnd.2.1,fun a ha b hb hab=>?_⟩
   subst hab
   obtain ⟨iM,h1,h2⟩:=List.mem_flatten.1 ha
   obtain ⟨x,hx,rfl⟩:=List.mem_map.1 h1
   obtain ⟨iM,h3,h4⟩:=List.mem_flatten.1 hb
   obtain ⟨y,hy,rfl⟩:=List.mem_map.1 h3
   obtain ⟨o1,o2⟩:=K.out x hx a h2
   have hn:=hnot y hy a h4
   rw [mE,if_neg hn] at o1
   rw [mo,if_neg hn] at o2
   rcases bG.there (H.ok y (List.mem_append_right _ hy)) a h4 with q | q
   ·
    exact q o1
   ·
    exact q o2
  ·
   have:=K.keeps.nx
   rw [qZ] at this
   exact Nat.le_trans H.keeps.nx this
  ·
   exact keepH id b (fun q=>by rw [(hBids id q).1] at hb; cases hb) (H.keeps.H id b hb)
  ·
   exact keepT id n (fun q=>by rw [(hBids id q).2] at hn; cases hn) (H.keeps.T id n hn)
  ·
   rcases List.mem_append.1 ha with ha | ha
   ·
    obtain ⟨o1,o2⟩:=K.out a ha id hid
    by_cases hq:id ∈ ids
    ·
     exact hBids id hq
    ·
     rw [mE,if_neg hq] at o1
     rw [mo,if_neg hq] at o2
     refine ⟨?_,?_⟩
     ·
      cases hb:B.H.get id with
      | none=>rfl
      | some b=>have:=H.keeps.H _ _ hb; rw [o1] at this; cases this
     ·
      cases hb:B.T.get id with
      | none=>rfl
      | some b=>have:=H.keeps.T _ _ hb; rw [o2] at this; cases this
   ·
    exact H.out a (List.mem_append_right _ ha) id hid
theorem A8.iA {cx:Cx} {S2 S:St} {w:World} {p:Option AV} {v:AV} {e:Ending} (k:kC S2 S) (h:A8 cx S w p v e):A8 cx S2 w p v e:=by
 cases p with
 | none=>obtain ⟨u,h1,h2⟩:=h; exact ⟨u,h1,h2.iA k⟩
 | some p=>obtain ⟨u,h1,h2⟩:=h; exact ⟨u,h1,h2.iA k⟩
theorem Ext.CU {cx cx':Cx} {S S' S2:St} {w w':World} (k:kC S2 S') (e:Ext cx S w cx' S' w'):Ext cx S w cx' S2 w' where
 size:=e.size
 os:=e.os
 tape:=e.tape
 output:=e.output
 nx:=by rw [k.nx]; exact e.nx
 prot:=e.prot
 other:=fun b hb hn=>e.other b hb (fun id hl hf=>by
  obtain ⟨h1,g,h2,h3⟩:=hn id hl hf
  exact ⟨h1,g,h2,k.isIt.1 h3⟩)
 own:=fun id b hl hf=>e.own id b (k.live.1 hl) hf
 back:=fun id g hid h=>e.back id g hid (k.isIt.1 h)
 keep:=fun id g b hid h0 h hf=>e.keep id g b hid h0 (k.isIt.1 h) hf
 curs:=fun id g hid hc=>e.curs id g hid (by rw [← k.cur]; exact hc)
theorem iE.CU {f:Nat} {args:List AV} {S:St} {Q:Out→Prop} (h:iE R P f args S (fun o=>∃ S2,kC S2 o.2.2∧Q (o.1,o.2.1,S2))):iE R P f args S Q :=
 ⟨h.1,fun cx w us h1 h2 h3=>(h.2 cx w us h1 h2 h3).mono fun e w' ⟨r,⟨S2,k,q⟩,cx',m1,m2,m3⟩=>⟨_,q,cx',m1.iA k,m2.CU k,m3.iA k⟩⟩
def dL (R:bO) (P:Program) (f:Nat) (args:List AV) (ins:List bG) (res:AV→List bG→Prop):Prop :=
 ∀ B S,Has B S ins→iE R P f args S (fun o=>o.1=none∧∃ v l,Less v o.2.1∧res v l∧Has B o.2.2 l)
section
variable {C:eT} {nt:Nat}
theorem dL.of_wp {f:Nat} {fn:Func} {c:Code} (hf:C.P.funcs[f]? = some fn) (hc:fn.body=some c) (hn:(fn.name == "runtime.NumGoroutine")=false) {args:List AV} (hle:Nat.ble args.length fn.ntmps=true) {ins:List bG} {res:AV→List bG→Prop}
  (h:∀ B S,Has B S ins→aC R C.P fn.ntmps c (sH 0 args) S (LD C fn (fun o=>o.1=none∧∃ v l S2,kC S2 o.2.2∧Less v o.2.1∧res v l∧Has B S2 l))):dL R C.P f args ins res:=fun B S hB=>by
 refine iE.CU ((iE.of_wp hf hc hn (Nat.le_of_ble_eq_true hle) (h B S hB)).mono fun o ho=>?_)
 obtain ⟨h1,v,l,S2,h2,h3,h4,h5⟩:=ho
 exact ⟨S2,h2,h1,v,l,h3,h4,h5⟩
section steps
variable {ops:Array Oper} {rest:List Oper} {e:Env} {S S':St} {Q:Stp→Prop} {l l':List bG} {t ty:Nat} {p:String} {af:Array Edge} {g:Option (Nat × Bool)} {x y:Operand} {v:AV}
theorem aj.eF {op:Op} {f:Nat} {args args':List AV} {ins more:List bG} {res:AV→List bG→Prop} (H:Has B S (ins ++ more)) (hw:bC ops e { dst:=some t,op:=op,type:=ty,pos:=p,after:=af,guard:=g }=some true) (ho:oper C (bB e) S op=some (.call f args)) (hs:dL R C.P f args' ins res) (ha:gJ args' args) (ht:Nat.blt t nt=true)
  (k:∀ v S' l',res v l'→Has B S' (l' ++ more)→aj R C nt ops rest ((t,v) :: e) S' Q) :
  aj R C nt ops ({ dst:=some t,op:=op,type:=ty,pos:=p,after:=af,guard:=g } :: rest) e S Q:=by
 obtain ⟨B',h1,h2⟩:=H.frame
 refine aj.one hw (.inr (.inr (.inl ⟨f,args,ho,((hs B' S h1).Mx ha).uf.mono fun r hr=>?_⟩)))
 obtain ⟨p,w,S'⟩:=r
 obtain ⟨⟨q1,v,l',q2,q3,q4⟩,hd⟩:=hr
 simp only at q1 q2 q3 q4 hd
 subst q1
 exact ⟨_,by simp only [Env.put,ht,cond_true],aj.weak (ai.top q2) (k v S' l' q3 (h2 S' l' q4 hd))⟩
end steps
end
theorem bI {C:eT} {ρ:Operand→Option AV} {S:St} {x:Operand} {i g o:Nat} (hx:ρ x=some (.ptr i g o)):oper C ρ S (.nilCheck x)=some (.val (.ptr i g o) S):=by simp only [oper,hx]
theorem Cm {P:Program} {t z i g o:Nat} (h:P.underlying t=some (.pointer z)):jO P t .eql (.ptr i g o) (.d .nilp)=some (.bool false):=by simp [jO,AV.eqv,h]
theorem lH {P:Program} {t z:Nat} (h:P.underlying t=some (.pointer z)):jO P t .eql (.d .nilp) (.d .nilp)=some (.bool true):=by simp [jO,AV.eqv,lF,h]
def Jb {α β:Type} (z:Option α) (a:Option β) (f:α→Option β):Option β:=match z with | none=>a | some x=>f x
theorem Md {α β:Type} {a:Option β} {f:α→Option β} {r:β} (h:Jb none a f=some r):a=some r:=h
theorem LZ {α β:Type} {x:α} {a:Option β} {f:α→Option β} {r:β} (h:Jb (some x) a f=some r):f x=some r:=h
end
end Go.Ev

namespace Go.Ev
noncomputable section
set_option linter.unusedVariables false
set_option linter.unusedSimpArgs false
variable {R:bO} {P:Program} {B:St}
theorem wf_set {S:St} (h:S.Wf) {id:Nat} (hid:id < S.nx) (b:uZ):St.Wf { S with H:=S.H.set id b }:=fun j hl=>by
 rcases mV.1 hl with q | q
 ·
  simp only [AL.aP] at q
  by_cases hj:id=j
  ·
   subst hj; exact hid
  ·
   rw [if_neg hj] at q; exact h j (mV.2 (.inl q))
 ·
  exact h j (mV.2 (.inr q))
theorem Cw {S:St} (h:S.Wf) (b:uZ):St.Wf (bH S b):=fun j hl=>by
 show j < S.nx + 1
 rcases mV.1 hl with q | q
 ·
  simp only [bH,AL.aP] at q
  by_cases hj:S.nx=j
  ·
   omega
  ·
   rw [if_neg hj] at q; have:=h j (mV.2 (.inl q)); omega
 ·
  have:=h j (mV.2 (.inr q)); omega
def iM (l:List bG):List Nat:=(l.map bG.fp).flatten
theorem qN (a b:List bG):iM (a ++ b)=iM a ++ iM b:=by simp [iM]
theorem jw {l:List bG} {id:Nat}:id ∈ iM l↔∃ a ∈ l,id ∈ a.fp:=by
 unfold iM
 constructor
 ·
  intro h; obtain ⟨q,h1,h2⟩:=List.mem_flatten.1 h; obtain ⟨a,h3,rfl⟩:=List.mem_map.1 h1; exact ⟨a,h3,h2⟩
 ·
  rintro ⟨a,h1,h2⟩; exact List.mem_flatten.2 ⟨_,List.mem_map.2 ⟨a,h1,rfl⟩,h2⟩
theorem Has.upd {S S':St} {l0 l bs:List bG} (H:Has B S (l0 ++ l)) (wf:S'.Wf) (nx:S.nx ≤ S'.nx)
  (same:∀ j,j ∉ iM l0→j < S.nx→S'.H.get j=S.H.get j∧S'.T.get j=S.T.get j)
  (ok:∀ x ∈ bs,x.ok S') (nd:(iM bs).Nodup) (ids:∀ id ∈ iM bs,id ∈ iM l0∨S.nx ≤ id):Has B S' (bs ++ l):=by
 have hnd:(iM (l0 ++ l)).Nodup:=H.nd
 rw [qN,List.nodup_append] at hnd
 have hlt:∀ a ∈ l,∀ id ∈ a.fp,id < S.nx:=fun a ha=>bG.lt H.wf (H.ok a (List.mem_append_right _ ha))
 have hout0:∀ id ∈ iM l0,B.H.get id=none∧B.T.get id=none:=fun id hid=>by
  obtain ⟨a,h1,h2⟩:=jw.1 hid
  exact H.out a (List.mem_append_left _ h1) id h2
 refine ⟨wf,fun a ha=>?_,?_,H.bwf,⟨Nat.le_trans H.keeps.nx nx,fun id b hb=>?_,fun id n hn=>?_⟩,fun a ha id hid=>?_⟩
 ·
  rcases List.mem_append.1 ha with ha | ha
  ·
   exact ok a ha
  ·
   have hn:∀ id ∈ a.fp,id ∉ iM l0:=fun id h1 h2=>hnd.2.2 id h2 id (jw.2 ⟨a,ha,h1⟩) rfl
   exact bG.keep (H.ok a (List.mem_append_right _ ha)) (fun id hid=>(same id (hn id hid) (hlt a ha id hid)).1) (fun id hid=>(same id (hn id hid) (hlt a ha id hid)).2)
 ·
  show (iM (bs ++ l)).Nodup
  rw [qN,List.nodup_append]
  refine ⟨nd,hnd.2.1,fun x hx y hy hxy=>?_⟩
  subst hxy
  rcases ids x hx with h | h
  ·
   exact hnd.2.2 x h x hy rfl
  ·
   obtain ⟨a,h1,h2⟩:=jw.1 hy
   have:=hlt a h1 x h2
   omega
 ·
  have h1:id ∉ iM l0:=fun q=>by rw [(hout0 id q).1] at hb; cases hb
  have h2:id < S.nx:=Nat.lt_of_lt_of_le (H.bwf.H hb) H.keeps.nx
  rw [(same id h1 h2).1]; exact H.keeps.H _ _ hb
 ·
  have h1:id ∉ iM l0:=fun q=>by rw [(hout0 id q).2] at hn; cases hn
  have h2:id < S.nx:=Nat.lt_of_lt_of_le (H.bwf id (uG hn)) H.keeps.nx
  rw [(same id h1 h2).2]; exact H.keeps.T _ _ hn
 ·
  rcases List.mem_append.1 ha with ha | ha
  ·
   rcases ids id (jw.2 ⟨a,ha,hid⟩) with h | h
   ·
    exact hout0 id h
   ·
    have hn:=H.keeps.nx
    refine ⟨?_,?_⟩
    ·
     cases hB:B.H.get id with
     | none=>rfl
     | some b=>have:=H.bwf.H hB; omega
    ·
     cases hB:B.T.get id with
     | none=>rfl
     | some b=>have:=H.bwf id (uG hB); omega
  ·
   exact H.out a (List.mem_append_right _ ha) id hid
theorem Has.qG {S:St} {l0 l bs:List bG} (H:Has B S (l0 ++ l)) (ok:∀ x ∈ bs,x.ok S) (nd:(iM bs).Nodup) (ids:∀ id ∈ iM bs,id ∈ iM l0):Has B S (bs ++ l) :=
 H.upd H.wf (Nat.le_refl _) (fun _ _ _=>⟨rfl,rfl⟩) ok nd (fun id h=>.inl (ids id h))
theorem Has.nd0 {S:St} {l0 l:List bG} (H:Has B S (l0 ++ l)):(iM l0).Nodup:=by
 have hnd:(iM (l0 ++ l)).Nodup:=H.nd
 rw [qN,List.nodup_append] at hnd
 exact hnd.1
theorem Has.lt {S:St} {l:List bG} (H:Has B S l) {id:Nat} (h:id ∈ iM l):id < S.nx:=by
 obtain ⟨a,h1,h2⟩:=jw.1 h
 exact bG.lt H.wf (H.ok a h1) id h2
def aR:AV→List Nat
 | .eD id _ _ _ _ _=>[id]
 | _=>[]
def ji (n:Int):AV:=.d (.int .i64 n)
def jg (w:AV) (ys:List Int) (S:St):Prop:=match w with
 | .d .aS=>ys=[]
 | .eD id g off len lim sz=>off=0∧sz=1∧len=ys.length∧0 < lim∧∃ cs,S.H.get id=some (.cells g cs)∧cs.length=lim∧cs.take len=ys.map ji
 | _=>False
def aI (w:AV) (ys:List Int):bG:=.abs (aR w) (jg w ys)
theorem jg.keep {w:AV} {ys:List Int} {S S':St} (h:jg w ys S) (k:∀ id ∈ aR w,S'.H.get id=S.H.get id):jg w ys S':=by
 unfold jg at *
 split at h
 ·
  exact h
 ·
  obtain ⟨h1,h2,h3,h4,cs,h5,h6⟩:=h
  exact ⟨h1,h2,h3,h4,cs,by rw [k _ (by simp [aR])]; exact h5,h6⟩
 ·
  exact h.elim
theorem jg.live {w:AV} {ys:List Int} {S:St} (h:jg w ys S):∀ id ∈ aR w,∃ b,S.H.get id=some b:=by
 unfold jg at h
 split at h
 ·
  intro id hid; simp [aR] at hid
 ·
  obtain ⟨h1,h2,h3,h4,cs,h5,h6⟩:=h
  intro id hid
  simp only [aR,List.mem_singleton] at hid
  subst hid; exact ⟨_,h5⟩
 ·
  exact h.elim
theorem gL {w:AV} {ys:List Int} {S:St}:(aI w ys).ok S↔jg w ys S :=
 ⟨fun h=>h.2 S (fun _ _=>rfl),fun h=>⟨h.live,fun S' k=>h.keep k⟩⟩
theorem jg.plain {w:AV} {ys:List Int} {S:St} (h:jg w ys S):w.plain=true∧w.cells=[w]:=by
 unfold jg at h
 split at h
 ·
  exact ⟨rfl,rfl⟩
 ·
  exact ⟨rfl,rfl⟩
 ·
  exact h.elim
theorem tN {S:St} {l:List bG} {i:Nat} {w:AV} {ys:List Int} (H:Has B S l) (hi:l[i]? = some (aI w ys)):w.plain=true∧w.cells=[w]:=(gL.1 (H.at hi)).plain
theorem Ca {S:St}:jg (.d .aS) [] S:=rfl
def jM (k:Nat) (ws:List AV):AV:=ws.getD k .any
def mQ (sz k:Nat) (x:D) (ws:List AV):Prop:=x.cells.length=sz∧kJ x.cells=true∧ws.length=sz∧gJ ((x.cells.map AV.d).set k .any) ws
def bR (k:Nat):Option Nat→List (List AV)→List Nat
 | _,[]=>[]
 | some 0,_ :: l=>bR k none l
 | some (n + 1),ws :: l=>aR (jM k ws) ++ bR k (some n) l
 | none,ws :: l=>aR (jM k ws) ++ bR k none l
theorem jm {k:Nat}:∀ {wss:List (List AV)} {h:Option Nat} {id:Nat},id ∈ bR k h wss↔∃ i ws,wss[i]? = some ws∧h ≠ some i∧id ∈ aR (jM k ws)
 | [],h,id=>by simp [bR]
 | w :: l,none,id=>by
  simp only [bR,List.mem_append,jm (wss:=l)]
  constructor
  ·
   rintro (q | ⟨i,ws,h1,h2,h3⟩)
   ·
    exact ⟨0,w,rfl,by simp,q⟩
   ·
    exact ⟨i + 1,ws,h1,by simp,h3⟩
  ·
   rintro ⟨i,ws,h1,h2,h3⟩
   cases i with
   | zero=>simp at h1; subst h1; exact .inl h3
   | succ i=>exact .inr ⟨i,ws,by simpa using h1,by simp,h3⟩
 | w :: l,some 0,id=>by
  simp only [bR,jm (wss:=l)]
  constructor
  ·
   rintro ⟨i,ws,h1,h2,h3⟩; exact ⟨i + 1,ws,h1,by simp,h3⟩
  ·
   rintro ⟨i,ws,h1,h2,h3⟩
   cases i with
   | zero=>simp at h2
   | succ i=>exact ⟨i,ws,by simpa using h1,by simp,h3⟩
 | w :: l,some (n + 1),id=>by
  simp only [bR,List.mem_append,jm (wss:=l)]
  constructor
  ·
   rintro (q | ⟨i,ws,h1,h2,h3⟩)
   ·
    exact ⟨0,w,rfl,by simp,q⟩
   ·
    exact ⟨i + 1,ws,h1,by simpa using h2,h3⟩
  ·
   rintro ⟨i,ws,h1,h2,h3⟩
   cases i with
   | zero=>simp at h1; subst h1; exact .inl h3
   | succ i=>exact .inr ⟨i,ws,by simpa using h1,by simpa using h2,h3⟩
theorem kY {k:Nat}:∀ {wss:List (List AV)} {n:Nat} {ws:List AV},wss[n]? = some ws→(bR k none wss).Perm (aR (jM k ws) ++ bR k (some n) wss)
 | [],n,ws,h=>by simp at h
 | w :: l,0,ws,h=>by simp at h; subst h; exact List.Perm.refl _
 | w :: l,n + 1,ws,h=>by
  simp only [bR]
  have ih:=kY (k:=k) (wss:=l) (n:=n) (ws:=ws) (by simpa using h)
  refine (List.Perm.append_left _ ih).trans ?_
  rw [← List.append_assoc,← List.append_assoc]
  exact List.Perm.append_right _ List.perm_append_comm
theorem uN {k:Nat}:∀ {wss:List (List AV)} {n:Nat} {ws:List AV},bR k (some n) (wss.set n ws)=bR k (some n) wss
 | [],n,ws=>rfl
 | w :: l,0,ws=>rfl
 | w :: l,n + 1,ws=>by simp only [List.set_cons_succ,bR]; rw [uN]
theorem uK {k:Nat} (ws:List AV):∀ (wss:List (List AV)),bR k none (wss ++ [ws])=bR k none wss ++ aR (jM k ws)
 | []=>by simp [bR]
 | w :: l=>by simp only [List.cons_append,bR]; rw [uK ws l]; simp
theorem o5 {k:Nat}:∀ {wss:List (List AV)} {n:Nat} {ws ws':List AV},wss[n]? = some ws→jM k ws'=jM k ws→∀ h,bR k h (wss.set n ws')=bR k h wss
 | [],n,ws,ws',h,e,o=>by simp at h
 | w :: l,0,ws,ws',h,e,o=>by
  simp at h; subst h
  cases o with
  | none=>simp only [List.set_cons_zero,bR,e]
  | some o=>cases o with
   | zero=>rfl
   | succ o=>simp only [List.set_cons_zero,bR,e]
 | w :: l,n + 1,ws,ws',h,e,o=>by
  have h:l[n]? = some ws:=by simpa using h
  cases o with
  | none=>simp only [List.set_cons_succ,bR]; rw [o5 h e]
  | some o=>cases o with
   | zero=>simp only [List.set_cons_succ,bR]; rw [o5 h e]
   | succ o=>simp only [List.set_cons_succ,bR]; rw [o5 h e]
section
variable {α:Type} (enc:α→D) (kid:α→List Int) (sz k:Nat)
def lX (v:AV) (wss:List (List AV)) (xs:List α) (hole:Option Nat) (S:St):Prop :=
 wss.length=xs.length∧k < sz∧(∀ i x ws,xs[i]? = some x→wss[i]? = some ws→mQ sz k (enc x) ws∧(hole ≠ some i→jg (jM k ws) (kid x) S)) ∧
 match v with
 | .d .aS=>xs=[]
 | .eD id g off len lim sz'=>off=0∧len=xs.length∧lim=xs.length∧sz'=sz∧S.H.get id=some (.cells g wss.flatten)
 | _=>False
def aA (v:AV) (wss:List (List AV)) (xs:List α) (hole:Option Nat):bG:=.abs (aR v ++ bR k hole wss) (lX enc kid sz k v wss xs hole)
end
section
variable {α:Type} {enc:α→D} {kid:α→List Int} {sz k:Nat} {v:AV} {wss:List (List AV)} {xs:List α} {hole:Option Nat} {S S':St}
theorem lX.keep (h:lX enc kid sz k v wss xs hole S) (e:∀ id ∈ aR v ++ bR k hole wss,S'.H.get id=S.H.get id):lX enc kid sz k v wss xs hole S':=by
 obtain ⟨h1,h2,h3,h4⟩:=h
 refine ⟨h1,h2,fun i x ws hx hw=>⟨(h3 i x ws hx hw).1,fun hn=>((h3 i x ws hx hw).2 hn).keep (fun id hid=>e id (List.mem_append_right _ (jm.2 ⟨i,ws,hw,hn,hid⟩)))⟩,?_⟩
 split
 ·
  exact h4
 ·
  obtain ⟨q1,q2,q3,q4,q5⟩:=h4
  exact ⟨q1,q2,q3,q4,by rw [e _ (List.mem_append_left _ (by simp [aR]))]; exact q5⟩
 ·
  rename_i hx1 hx2
  revert h4
  split
  ·
   exact (hx1 rfl).elim
  ·
   exact (hx2 _ _ _ _ _ _ rfl).elim
  ·
   exact id
theorem lX.live (h:lX enc kid sz k v wss xs hole S):∀ id ∈ aR v ++ bR k hole wss,∃ b,S.H.get id=some b:=by
 obtain ⟨h1,h2,h3,h4⟩:=h
 intro id hid
 rcases List.mem_append.1 hid with hid | hid
 ·
  revert h4
  split
  ·
   simp [aR] at hid
  ·
   simp only [aR,List.mem_singleton] at hid
   subst hid
   exact fun q=>⟨_,q.2.2.2.2⟩
  ·
   exact fun q=>q.elim
 ·
  obtain ⟨i,ws,hw,hn,hq⟩:=jm.1 hid
  have hi:i < xs.length:=by rw [← h1]; exact (List.getElem?_eq_some_iff.1 hw).1
  exact ((h3 i _ ws (List.getElem?_eq_getElem hi) hw).2 hn).live id hq
theorem gq:(aA enc kid sz k v wss xs hole).ok S↔lX enc kid sz k v wss xs hole S :=
 ⟨fun h=>h.2 S (fun _ _=>rfl),fun h=>⟨h.live,fun S' e=>h.keep e⟩⟩
theorem lX.node (h:lX enc kid sz k v wss xs hole S) {n:Nat} {x:α} (hx:xs[n]? = some x):∃ ws,wss[n]? = some ws∧mQ sz k (enc x) ws∧(hole ≠ some n→jg (jM k ws) (kid x) S)∧∃ id g,v=.eD id g 0 xs.length xs.length sz∧S.H.get id=some (.cells g wss.flatten):=by
 obtain ⟨h1,h2,h3,h4⟩:=h
 have hn:n < wss.length:=by rw [h1]; exact (List.getElem?_eq_some_iff.1 hx).1
 have hw:=List.getElem?_eq_getElem hn
 obtain ⟨q1,q2⟩:=h3 n x _ hx hw
 refine ⟨_,hw,q1,q2,?_⟩
 revert h4
 split
 ·
  intro q; subst q; simp at hx
 ·
  rintro ⟨rfl,rfl,rfl,rfl,q⟩; exact ⟨_,_,rfl,q⟩
 ·
  exact fun q=>q.elim
def iN (k:Nat) (wss:List (List AV)) (n:Nat):AV:=jM k (wss.getD n [])
theorem yo {n:Nat} {ws:List AV} (h:wss[n]? = some ws):iN k wss n=jM k ws:=by
 unfold iN; rw [List.getD_eq_getElem?_getD,h]; rfl
theorem Has.take {l:List bG} (H:Has B S (aA enc kid sz k v wss xs none :: l)) {n:Nat} {x:α} (hx:xs[n]? = some x):Has B S (aI (iN k wss n) (kid x) :: aA enc kid sz k v wss xs (some n) :: l):=by
 have hp:=gq.1 (H.ok _ List.mem_cons_self)
 obtain ⟨ws,hw,hq1,hq2,_⟩:=hp.node hx
 have hs:=hq2 (by simp)
 rw [yo hw]
 have hnd:(iM [aA enc kid sz k v wss xs none]).Nodup:=Has.nd0 (l0:=[_]) H
 have hnd:(aR v ++ bR k none wss).Nodup:=by simpa [iM,aA,bG.fp] using hnd
 have hperm:(aR (jM k ws) ++ (aR v ++ bR k (some n) wss)).Perm (aR v ++ bR k none wss):=by
  refine List.Perm.trans ?_ (List.Perm.append_left _ (kY hw).symm)
  rw [← List.append_assoc,← List.append_assoc]
  exact List.Perm.append_right _ List.perm_append_comm
 refine Has.qG (l0:=[_]) (bs:=[_,_]) H (fun a ha=>?_) ?_ (fun id hid=>?_)
 ·
  simp only [List.mem_cons,List.not_mem_nil,or_false] at ha
  rcases ha with rfl | rfl
  ·
   exact gL.2 hs
  ·
   refine gq.2 ⟨hp.1,hp.2.1,fun i x ws h1 h2=>⟨(hp.2.2.1 i x ws h1 h2).1,fun _=>(hp.2.2.1 i x ws h1 h2).2 (by simp)⟩,hp.2.2.2⟩
 ·
  have:iM [aI (jM k ws) (kid x),aA enc kid sz k v wss xs (some n)]=aR (jM k ws) ++ (aR v ++ bR k (some n) wss):=by simp [iM,aI,aA,bG.fp]
  rw [this]; exact hperm.nodup_iff.2 hnd
 ·
  have e:iM [aI (jM k ws) (kid x),aA enc kid sz k v wss xs (some n)]=aR (jM k ws) ++ (aR v ++ bR k (some n) wss):=by simp [iM,aI,aA,bG.fp]
  rw [e] at hid
  have:=hperm.mem_iff.1 hid
  simpa [iM,aA,bG.fp] using this
theorem Has.LJ {l:List bG} {n:Nat} {x:α} (H:Has B S (aI (iN k wss n) (kid x) :: aA enc kid sz k v wss xs (some n) :: l)) (hx:xs[n]? = some x):Has B S (aA enc kid sz k v wss xs none :: l):=by
 have hp:=gq.1 (H.ok (aA enc kid sz k v wss xs (some n)) (by simp))
 have hs:=gL.1 (H.ok (aI (iN k wss n) (kid x)) (by simp))
 obtain ⟨ws,hw,hq1,_,_⟩:=hp.node hx
 rw [yo hw] at hs H
 have hnd:(iM [aI (jM k ws) (kid x),aA enc kid sz k v wss xs (some n)]).Nodup:=Has.nd0 (l0:=[_,_]) H
 have e:iM [aI (jM k ws) (kid x),aA enc kid sz k v wss xs (some n)]=aR (jM k ws) ++ (aR v ++ bR k (some n) wss):=by simp [iM,aI,aA,bG.fp]
 have e2:iM [aA enc kid sz k v wss xs none]=aR v ++ bR k none wss:=by simp [iM,aA,bG.fp]
 have hperm:(aR (jM k ws) ++ (aR v ++ bR k (some n) wss)).Perm (aR v ++ bR k none wss):=by
  refine List.Perm.trans ?_ (List.Perm.append_left _ (kY hw).symm)
  rw [← List.append_assoc,← List.append_assoc]
  exact List.Perm.append_right _ List.perm_append_comm
 refine Has.qG (l0:=[_,_]) (bs:=[_]) H (fun a ha=>?_) ?_ (fun id hid=>?_)
 ·
  simp only [List.mem_cons,List.not_mem_nil,or_false] at ha
  subst ha
  refine gq.2 ⟨hp.1,hp.2.1,fun i y ws' h1 h2=>⟨(hp.2.2.1 i y ws' h1 h2).1,fun _=>?_⟩,hp.2.2.2⟩
  by_cases hi:n=i
  ·
   subst hi
   rw [h2] at hw; cases hw
   rw [h1] at hx; cases hx
   exact hs
  ·
   exact (hp.2.2.1 i y ws' h1 h2).2 (fun q=>hi (Option.some.inj q))
 ·
  rw [e2]; rw [e] at hnd; exact hperm.nodup_iff.1 hnd
 ·
  rw [e2] at hid; rw [e]; exact hperm.mem_iff.2 hid
end
end
end Go.Ev

namespace Go.Ev
noncomputable section
set_option linter.unusedVariables false
set_option linter.unusedSimpArgs false
variable {R:bO} {P:Program} {B:St}
theorem GX {sz:Nat}:∀ {wss:List (List AV)},(∀ ws ∈ wss,ws.length=sz)→∀ {n:Nat} {ws:List AV},wss[n]? = some ws→∃ a b,wss.flatten=a ++ ws ++ b∧a.length=n * sz∧∀ ws',(wss.set n ws').flatten=a ++ ws' ++ b:=by
 intro wss
 induction wss with
 | nil=>intro _ n ws h; simp at h
 | cons y l ih =>
  intro hs n ws h
  cases n with
  | zero =>
   simp at h; subst h
   exact ⟨[],l.flatten,by simp,by simp,fun d'=>by simp⟩
  | succ n =>
   obtain ⟨a,b,h1,h2,h3⟩:=ih (fun x hx=>hs x (List.mem_cons_of_mem _ hx)) (n:=n) (by simpa using h)
   refine ⟨y ++ a,b,by rw [List.flatten_cons,h1]; simp,?_,fun d'=>by rw [List.set_cons_succ,List.flatten_cons,h3]; simp⟩
   rw [List.length_append,h2,hs y List.mem_cons_self,Nat.add_mul,Nat.one_mul]; omega
theorem Bl {k:Nat} {x:AV} (hx:∀ d,x ≠ .d d):∀ {l:List AV},l[k]? = some x→qU l=none:=by
 intro l
 induction l generalizing k with
 | nil=>intro h; simp at h
 | cons y l ih =>
  intro h
  cases k with
  | zero =>
   simp at h; subst h
   cases y with
   | d d=>exact (hx d rfl).elim
   | _=>rfl
  | succ k =>
   have:=ih (k:=k) (by simpa using h)
   cases y <;> simp [qU,this]
theorem Ab {l:List AV} (h:qU l=none):Ev.fD l=.agg l:=by unfold Ev.fD; rw [h]
theorem Kn (l:List D):Ev.fD (l.map AV.d)=.d (.agg l):=by
 unfold Ev.fD
 have:qU (l.map AV.d)=some l:=by
  induction l with
  | nil=>rfl
  | cons x l ih=>simp [qU,ih]
 rw [this]
def Mj (x:AV):Prop:=x=.d .aS∨∃ id g off len lim sz,x=.eD id g off len lim sz
theorem jg.kw {w:AV} {ys:List Int} {S:St} (h:jg w ys S):Mj w:=by
 unfold jg at h
 split at h
 ·
  exact .inl rfl
 ·
  exact .inr ⟨_,_,_,_,_,_,rfl⟩
 ·
  exact h.elim
theorem Less.Ls {ds:List D} {ws:List AV} {k:Nat} {kw:AV} (h:gJ ((ds.map AV.d).set k kw) ws) (hk:ws[k]? = some kw) (hf:kJ ds=true) (hw:Mj kw):Less (Ev.fD ((ds.map AV.d).set k kw)) (Ev.fD ws):=by
 rcases hw with rfl | ⟨id,g,off,len,lim,sz,rfl⟩
 ·
  have e:(ds.map AV.d).set k (.d .aS)=(ds.set k .aS).map AV.d:=by rw [List.map_set]
  rw [e] at h ⊢
  have hf':kJ (ds.set k .aS)=true:=zY (fun d hd=>by
   rcases List.mem_or_eq_of_mem_set hd with hd | rfl
   ·
    exact wQ hf d hd
   ·
    rfl)
  rw [Kn]
  exact Less.KW h hf'
 ·
  have hl:=h.len
  have hlt:k < ws.length:=(List.getElem?_eq_some_iff.1 hk).1
  have hk2:((ds.map AV.d).set k (.eD id g off len lim sz))[k]? = some (.eD id g off len lim sz):=by
   rw [List.getElem?_set_self (by rw [← List.length_set,hl]; exact hlt)]
  rw [Ab (Bl (fun d=>by simp) hk),Ab (Bl (fun d=>by simp) hk2)]
  intro cx S w v hr
  cases hr with
  | agg _ vs hvl ho hh =>
   refine .agg _ vs (by rw [hvl,hl]) ho (fun i x u hx hu=>?_)
   have hi:i < ws.length:=by rw [← hvl]; exact (List.getElem?_eq_some_iff.1 hu).1
   have hy:=List.getElem?_eq_getElem hi
   exact h.get hx hy _ _ _ _ (hh i _ u hy hu)
theorem gJ.Oj {ds:List AV} {ws:List AV} {k:Nat} {a kw:AV} (h:gJ (ds.set k a) ws) (hk:ws[k]? = some kw):gJ (ds.set k kw) ws:=by
 have:=h.set (Less.refl kw) k
 rw [List.set_set] at this
 have e:ws.set k kw=ws:=by
  obtain ⟨hlt,h2⟩:=List.getElem?_eq_some_iff.1 hk
  rw [← h2]; exact List.set_getElem_self hlt
 rwa [e] at this
theorem Dr {k:Nat} {ws:List AV} (h:k < ws.length):ws[k]? = some (jM k ws):=by
 unfold jM
 rw [List.getD_eq_getElem?_getD,List.getElem?_eq_getElem h]; rfl
section
variable {α:Type} {enc:α→D} {kid:α→List Int} {sz k:Nat} {v:AV} {wss:List (List AV)} {xs:List α} {hole:Option Nat} {S S':St}
theorem lX.lens (h:lX enc kid sz k v wss xs hole S):∀ ws ∈ wss,ws.length=sz:=fun ws hws=>by
 obtain ⟨i,hi,rfl⟩:=List.getElem_of_mem hws
 have:i < xs.length:=by rw [← h.1]; exact hi
 exact (h.2.2.1 i _ _ (List.getElem?_eq_getElem this) (List.getElem?_eq_getElem hi)).1.2.2.1
section
variable {C:eT} {ρ:Operand→Option AV} {l:List bG} {x y:Operand} {t:Nat} {n:Int} {z:α}
theorem EE (h:lX enc kid sz k v wss xs hole S):ku v S'=some xs.length:=by
 obtain ⟨h1,h2,h3,h4⟩:=h
 revert h4
 split
 ·
  intro q; subst q; rfl
 ·
  rintro ⟨rfl,rfl,rfl,rfl,q⟩; rfl
 ·
  exact fun q=>q.elim
theorem Fa (h:lX enc kid sz k v wss xs hole S) (ht:(bz C.P t).isSome=true):nG C t v=true:=by
 have hu:∃ e,C.P.underlying t=some (.slice e):=by
  unfold bz at ht
  split at ht
  ·
   rename_i hu; exact ⟨_,hu⟩
  ·
   cases ht
 obtain ⟨e,hu⟩:=hu
 obtain ⟨h1,h2,h3,h4⟩:=h
 revert h4
 split
 ·
  intro q; simp [nG,hu]
 ·
  rintro _; simp [nG,hu]
 ·
  exact fun q=>q.elim
theorem sW (H:Has B S l) {i:Nat} (hi:l[i]? = some (aA enc kid sz k v wss xs hole)) (h:ρ x=some v) (ht:(bz C.P t).isSome=true):oper C ρ S (.call { callee:=.builtin .len,args:=#[x],argTypes:=#[t] })=some (.val (.d (.int .i64 (xs.length:Int))) S):=by
 have hp:=gq.1 (H.at hi)
 exact mM h (Fa hp ht) (by rw [EE hp])
theorem kr {w:AV} {ys:List Int} (H:Has B S l) {i:Nat} (hi:l[i]? = some (aI w ys)) (h:ρ x=some w) (ht:(bz C.P t).isSome=true):oper C ρ S (.call { callee:=.builtin .len,args:=#[x],argTypes:=#[t] })=some (.val (.d (.int .i64 (ys.length:Int))) S):=by
 have hp:=gL.1 (H.at hi)
 have hu:∃ e,C.P.underlying t=some (.slice e):=by
  unfold bz at ht
  split at ht
  ·
   rename_i hu; exact ⟨_,hu⟩
  ·
   cases ht
 obtain ⟨e,hu⟩:=hu
 unfold jg at hp
 split at hp
 ·
  subst hp; exact mM h (by simp [nG,hu]) rfl
 ·
  obtain ⟨_,_,h3,_⟩:=hp; subst h3; exact mM h (by simp [nG,hu]) (by simp [ku])
 ·
  exact hp.elim
theorem lX.ptr (h:lX enc kid sz k v wss xs hole S) (hz:idx xs n=some z) (off:Nat):∃ id g ws a b,wss[n.toNat]? = some ws∧mQ sz k (enc z) ws∧v=.eD id g 0 xs.length xs.length sz∧bF v n.toNat off=.ptr id g (n.toNat * sz + off)∧S.H.get id=some (.cells g wss.flatten) ∧
  wss.flatten=a ++ ws ++ b∧a.length=n.toNat * sz∧(∀ ws',(wss.set n.toNat ws').flatten=a ++ ws' ++ b)∧n.toNat < xs.length:=by
 obtain ⟨ws,h1,h2,h3,id,g,rfl,h5⟩:=h.node (dR hz).2
 obtain ⟨a,b,q1,q2,q3⟩:=GX h.lens h1
 exact ⟨id,g,ws,a,b,h1,h2,rfl,rfl,h5,q1,q2,q3,(List.getElem?_eq_some_iff.1 (dR hz).2).1⟩
theorem gU (H:Has B S l) {i:Nat} (hi:l[i]? = some (aA enc kid sz k v wss xs hole)) {kk:IntKind} {el:Nat} (hz:idx xs n=some z) (hx:ρ x=some v) (hy:ρ y=some (.d (.int kk n)))
  (he:bz C.P t=some el) (ha:(eQ C.P el).isSome=true) (hs:aM C.P el=sz):oper C ρ S (.indexAddr t x y)=some (.val (bF v n.toNat 0) S):=by
 obtain ⟨id,g,ws,a,b,h1,h2,rfl,h4,h5,h6,h7,h8,h9⟩:=(gq.1 (H.at hi)).ptr hz 0
 rw [h4]
 refine bA hx hy ?_
 simp only [gF,he,(dR hz).1,ha,decide_true,Bool.and_self,if_true]
 rw [if_pos ⟨h9,hs.symm⟩,hs]
 simp
theorem bE (H:Has B S l) {i:Nat} (hi:l[i]? = some (aA enc kid sz k v wss xs hole)) {s fld fo ft o' off:Nat} (hz:idx xs n=some z) (h:ρ x=some (bF v n.toNat off)) (hf:eZ C.P s fld=some (fo,ft)) (hb:Nat.beq (aM C.P ft) 0=false) (ho:off + fo=o') :
  oper C ρ S (.fieldAddr s x fld)=some (.val (bF v n.toNat o') S):=by
 obtain ⟨id,g,ws,a,b,h1,h2,rfl,h4,h5,h6,h7,h8,h9⟩:=(gq.1 (H.at hi)).ptr hz off
 rw [h4] at h
 rw [aF h hf hb rfl]
 subst ho
 simp [bF,Nat.add_assoc]
theorem sw (H:Has B S l) {i:Nat} (hi:l[i]? = some (aA enc kid sz k v wss xs hole)) {off:Nat} (hz:idx xs n=some z) (h:ρ x=some (bF v n.toNat off)) (ha:eQ C.P t=some false) (ho:Nat.blt off sz=true) :
  ∃ ws,wss[n.toNat]? = some ws∧mQ sz k (enc z) ws∧oper C ρ S (.load t x)=some (.val (ws.getD off .any) S):=by
 obtain ⟨id,g,ws,a,b,h1,h2,rfl,h4,h5,h6,h7,h8,h9⟩:=(gq.1 (H.at hi)).ptr hz off
 rw [h4] at h
 refine ⟨ws,h1,h2,?_⟩
 have ho:off < sz:=by have:=Nat.le_of_ble_eq_true ho; omega
 have hl:off < ws.length:=by rw [h2.2.2.1]; exact ho
 have:part C.P t wss.flatten (n.toNat * sz + off)=some (ws.getD off .any):=by
  unfold part
  rw [ha]
  simp only
  rw [h6,List.append_assoc,List.getElem?_append_right (by omega),h7,show n.toNat * sz + off - n.toNat * sz=off by omega,List.getElem?_append_left hl,List.getD_eq_getElem?_getD,List.getElem?_eq_getElem hl]; rfl
 simp only [oper,h,kT,St.look,h5,Nat.beq_refl,cond_true,this,Option.map_some]
theorem yM (H:Has B S l) {i:Nat} (hi:l[i]? = some (aA enc kid sz k v wss xs hole)) {off:Nat} {d:D} (hz:idx xs n=some z) (h:ρ x=some (bF v n.toNat off)) (ha:eQ C.P t=some false) (hk:Nat.beq k off=false) (hd:(enc z).cells[off]? = some d) :
  ∃ w,oper C ρ S (.load t x)=some (.val w S)∧Less (.d d) w:=by
 have hn:=gq.1 (H.at hi)
 obtain ⟨ws0,g1,g2,_⟩:=hn.node (dR hz).2
 have ho:off < sz:=by rw [← g2.1]; exact (List.getElem?_eq_some_iff.1 hd).1
 obtain ⟨ws,h1,h2,h3⟩:=sw (C:=C) (ρ:=ρ) H hi (off:=off) hz h ha (by simp [Nat.blt]; omega)
 refine ⟨_,h3,?_⟩
 have hl:off < ws.length:=by rw [h2.2.2.1]; exact ho
 have hne:k ≠ off:=fun q=>by subst q; simp at hk
 have e1:(((enc z).cells.map AV.d).set k .any)[off]? = some (.d d):=by
  rw [List.getElem?_set_ne hne,List.getElem?_map,hd]; rfl
 have e2:ws[off]? = some (ws.getD off .any):=by rw [List.getD_eq_getElem?_getD,List.getElem?_eq_getElem hl]; rfl
 exact h2.2.2.2.get e1 e2
theorem gY (H:Has B S l) {i:Nat} (hi:l[i]? = some (aA enc kid sz k v wss xs hole)) (hz:idx xs n=some z) (h:ρ x=some (bF v n.toNat k)) (ha:eQ C.P t=some false) :
  oper C ρ S (.load t x)=some (.val (iN k wss n.toNat) S):=by
 have hn:=gq.1 (H.at hi)
 obtain ⟨ws,h1,h2,h3⟩:=sw (C:=C) (ρ:=ρ) H hi (off:=k) hz h ha (by have:=hn.2.1; simp [Nat.blt]; omega)
 rw [h3,yo h1]; rfl
theorem Ak (H:Has B S l) {i:Nat} (hi:l[i]? = some (aA enc kid sz k v wss xs none)) (hz:idx xs n=some z) (h:ρ x=some (bF v n.toNat 0)) (ha:eQ C.P t=some true) (hs:aM C.P t=sz) :
  ∃ w,oper C ρ S (.load t x)=some (.val w S)∧Less (Ev.fD (((enc z).cells.map AV.d).set k (iN k wss n.toNat))) w:=by
 have hn:=gq.1 (H.at hi)
 obtain ⟨id,g,ws,a,b,h1,h2,rfl,h4,h5,h6,h7,h8,h9⟩:=hn.ptr hz 0
 obtain ⟨_,w1,_,w3,_⟩:=hn.node (dR hz).2
 rw [h1] at w1; cases w1
 rw [h4] at h
 have hk:k < ws.length:=by rw [h2.2.2.1]; exact hn.2.1
 refine ⟨Ev.fD ws,?_,?_⟩
 ·
  have:part C.P t wss.flatten (n.toNat * sz + 0)=some (Ev.fD ws):=by
   unfold part
   rw [ha]
   simp only
   have e:(wss.flatten.drop (n.toNat * sz + 0)).take (aM C.P t)=ws:=by
    rw [h6,hs,Nat.add_zero,← h7,List.append_assoc,List.drop_left,← h2.2.2.1,List.take_left]
   rw [e,if_pos (by rw [h6,hs]; simp only [List.length_append]; have:=h2.2.2.1; omega)]
  simp only [oper,h,kT,St.look,h5,Nat.beq_refl,cond_true,this,Option.map_some]
 ·
  rw [yo h1]
  exact Less.Ls (h2.2.2.2.Oj (Dr hk)) (Dr hk) h2.2.1 (w3 (by simp)).kw
end
end
end
end Go.Ev

namespace Go.Ev
noncomputable section
set_option linter.unusedVariables false
set_option linter.unusedSimpArgs false
variable {R:bO} {P:Program} {B:St}
section
variable {α:Type} {enc:α→D} {kid:α→List Int} {sz k:Nat} {v:AV} {wss:List (List AV)} {xs:List α} {hole:Option Nat} {S S':St}
theorem lX.set {id g:Nat} {n:Nat} {ws ws':List AV} {z z':α} (h:lX enc kid sz k (.eD id g 0 xs.length xs.length sz) wss xs hole S) (hw:wss[n]? = some ws) (hx:xs[n]? = some z) (hnode:mQ sz k (enc z') ws') {hole':Option Nat}
  (hh:∀ m,m ≠ n→(hole'=some m↔hole=some m)) (hk:hole' ≠ some n→jg (jM k ws') (kid z') S) (hid:id ∉ bR k hole' (wss.set n ws')) :
  lX enc kid sz k (.eD id g 0 xs.length xs.length sz) (wss.set n ws') (xs.set n z') hole' { S with H:=S.H.set id (.cells g (wss.set n ws').flatten) }:=by
 obtain ⟨h1,h2,h3,h4⟩:=h
 have hn:n < wss.length:=(List.getElem?_eq_some_iff.1 hw).1
 refine ⟨by simp [h1],h2,fun i x u hx' hu=>?_,rfl,by simp,by simp,rfl,by simp only [AL.aP,if_true]⟩
 have hkeep:∀ {w:AV} {ys:List Int},jg w ys S→(∀ j ∈ aR w,j ≠ id)→jg w ys { S with H:=S.H.set id (.cells g (wss.set n ws').flatten) }:=fun q hq=>q.keep (fun j hj=>by simp only [AL.aP]; rw [if_neg (fun e=>hq j hj e.symm)])
 by_cases hi:n=i
 ·
  subst hi
  rw [List.getElem?_set_self (by rw [← h1]; exact hn)] at hx'
  rw [List.getElem?_set_self hn] at hu
  cases hx'; cases hu
  refine ⟨hnode,fun q=>hkeep (hk q) (fun j hj e=>?_)⟩
  subst e
  exact hid (jm.2 ⟨n,ws',by rw [List.getElem?_set_self hn],q,hj⟩)
 ·
  rw [List.getElem?_set_ne hi] at hx' hu
  obtain ⟨q1,q2⟩:=h3 i x u hx' hu
  refine ⟨q1,fun q=>hkeep (q2 (fun e=>q ((hh i (Ne.symm hi)).2 e))) (fun j hj e=>?_)⟩
  subst e
  exact hid (jm.2 ⟨i,u,by rw [List.getElem?_set_ne hi]; exact hu,q,hj⟩)
section
variable {l:List bG} {n:Nat} {z z':α} {ws ws':List AV} {id g:Nat}
theorem mF:iM [aA enc kid sz k v wss xs hole]=aR v ++ bR k hole wss:=by simp [iM,aA,bG.fp]
theorem Has.L9 (H:Has B S (aA enc kid sz k (.eD id g 0 xs.length xs.length sz) wss xs hole :: l)) (hw:wss[n]? = some ws) (hx:xs[n]? = some z) (hnode:mQ sz k (enc z') ws') (hkw:jM k ws'=jM k ws) (hkid:kid z'=kid z) :
  Has B { S with H:=S.H.set id (.cells g (wss.set n ws').flatten) } (aA enc kid sz k (.eD id g 0 xs.length xs.length sz) (wss.set n ws') (xs.set n z') hole :: l):=by
 have hp:=gq.1 (H.ok _ List.mem_cons_self)
 have hnd:(iM [aA enc kid sz k (.eD id g 0 xs.length xs.length sz) wss xs hole]).Nodup:=Has.nd0 (l0:=[_]) H
 rw [mF] at hnd
 have hidlt:id < S.nx:=Has.lt H (id:=id) (jw.2 ⟨_,List.mem_cons_self,by simp [aA,bG.fp,aR]⟩)
 have hs:=o5 (k:=k) hw hkw hole
 have e:iM [aA enc kid sz k (.eD id g 0 xs.length xs.length sz) (wss.set n ws') (xs.set n z') hole]=aR (.eD id g 0 xs.length xs.length sz) ++ bR k hole wss:=by rw [mF,hs]
 refine Has.upd (l0:=[_]) (bs:=[_]) H (wf_set H.wf hidlt _) (Nat.le_refl _) (fun j hj _=>⟨?_,rfl⟩) (fun a ha=>?_) (by rw [e]; exact hnd) (fun j hj=>.inl (by rw [mF]; rw [e] at hj; exact hj))
 ·
  simp only [AL.aP]
  rw [if_neg (fun q=>hj (by subst q; rw [mF]; simp [aR]))]
 ·
  simp only [List.mem_cons,List.not_mem_nil,or_false] at ha
  subst ha
  refine gq.2 (hp.set hw hx hnode (fun m _=>Iff.rfl) (fun q=>?_) ?_)
  ·
   rw [hkw,hkid]
   obtain ⟨u,h1,h2,h3,_⟩:=hp.node hx
   rw [hw] at h1; cases h1
   exact h3 q
  ·
   rw [hs]
   simp only [aR,List.singleton_append,List.nodup_cons] at hnd
   exact hnd.1
theorem Has.KQ {pre:List bG} {w:AV} {ys:List Int} (hpre:iM pre=aR w) (H:Has B S (pre ++ aA enc kid sz k (.eD id g 0 xs.length xs.length sz) wss xs hole :: l)) (hh:hole=none∨hole=some n) (hs:jg w ys S)
  (hw:wss[n]? = some ws) (hx:xs[n]? = some z) (hnode:mQ sz k (enc z') ws') (hkw:jM k ws'=w) (hkid:kid z'=ys) :
  Has B { S with H:=S.H.set id (.cells g (wss.set n ws').flatten) } (aA enc kid sz k (.eD id g 0 xs.length xs.length sz) (wss.set n ws') (xs.set n z') none :: l):=by
 have H2:Has B S ((pre ++ [aA enc kid sz k (.eD id g 0 xs.length xs.length sz) wss xs hole]) ++ l):=by simpa using H
 have hp:=gq.1 (H.ok (aA enc kid sz k (.eD id g 0 xs.length xs.length sz) wss xs hole) (by simp))
 have hnd:=Has.nd0 H2
 rw [qN,mF,hpre] at hnd
 have hn:n < wss.length:=(List.getElem?_eq_some_iff.1 hw).1
 have hidlt:id < S.nx:=Has.lt H (id:=id) (jw.2 ⟨aA enc kid sz k (.eD id g 0 xs.length xs.length sz) wss xs hole,by simp,by simp [aA,bG.fp,aR]⟩)
 have hperm:(bR k none (wss.set n ws')).Perm (aR w ++ bR k (some n) wss):=by
  have:=kY (k:=k) (wss:=wss.set n ws') (n:=n) (ws:=ws') (by rw [List.getElem?_set_self hn])
  rwa [hkw,uN] at this
 have hsub:∃ q,(q ++ bR k (some n) wss).Perm (bR k hole wss):=by
  rcases hh with rfl | rfl
  ·
   exact ⟨_,(kY hw).symm⟩
  ·
   exact ⟨[],List.Perm.refl _⟩
 obtain ⟨q,hq⟩:=hsub
 have hnd2:(aR w ++ ([id] ++ (q ++ bR k (some n) wss))).Nodup:=by
  refine (List.Perm.nodup_iff ?_).1 hnd
  exact List.Perm.append_left _ (List.Perm.append_left _ hq.symm)
 have e:iM [aA enc kid sz k (.eD id g 0 xs.length xs.length sz) (wss.set n ws') (xs.set n z') none]=[id] ++ bR k none (wss.set n ws'):=by rw [mF]; rfl
 have hnd3:([id] ++ (aR w ++ bR k (some n) wss)).Nodup:=by
  have h1:(aR w ++ ([id] ++ bR k (some n) wss)).Nodup:=hnd2.sublist (List.Sublist.append_left (List.Sublist.append_left (List.sublist_append_right _ _) _) _)
  refine (List.Perm.nodup_iff ?_).1 h1
  rw [← List.append_assoc,← List.append_assoc]
  exact List.Perm.append_right _ List.perm_append_comm
 refine Has.upd (bs:=[_]) H2 (wf_set H.wf hidlt _) (Nat.le_refl _) (fun j hj _=>⟨?_,rfl⟩) (fun a ha=>?_) ?_ (fun j hj=>.inl ?_)
 ·
  simp only [AL.aP]
  rw [if_neg (fun q=>hj (by subst q; rw [qN,mF]; simp [aR]))]
 ·
  simp only [List.mem_cons,List.not_mem_nil,or_false] at ha
  subst ha
  refine gq.2 (hp.set hw hx hnode (fun m hm=>?_) (fun _=>by rw [hkw,hkid]; exact hs) ?_)
  ·
   rcases hh with rfl | rfl
   ·
    simp
   ·
    simp [Ne.symm hm]
  ·
   intro hm
   have:=hperm.mem_iff.1 hm
   simp only [List.singleton_append,List.nodup_cons] at hnd3
   exact hnd3.1 this
 ·
  rw [e]
  exact (List.Perm.append_left _ hperm).nodup_iff.2 hnd3
 ·
  rw [e] at hj
  rw [qN,mF,hpre]
  rcases List.mem_append.1 hj with hj | hj
  ·
   exact List.mem_append_right _ (List.mem_append_left _ hj)
  ·
   rcases List.mem_append.1 (hperm.mem_iff.1 hj) with hj | hj
   ·
    exact List.mem_append_left _ hj
   ·
    exact List.mem_append_right _ (List.mem_append_right _ (hq.mem_iff.1 (List.mem_append_right _ hj)))
section
variable {C:eT} {ρ:Operand→Option AV} {x y:Operand} {t:Nat} {i:Int}
theorem uV (hp:lX enc kid sz k v wss xs hole S) {off:Nat} {vy:AV} {cv:List AV} (hz:idx xs i=some z) (h:ρ x=some (bF v i.toNat off)) (hy:ρ y=some vy) (hc:vy.cells=cv) (hpl:vy.plain=true) (hn:aM C.P t=cv.length) (hag:(eQ C.P t).isSome=true) (hb:Nat.ble (off + cv.length) sz=true) :
  ∃ id g ws,v=.eD id g 0 xs.length xs.length sz∧wss[i.toNat]? = some ws∧mQ sz k (enc z) ws∧oper C ρ S (.store t x y)=some (.skip { S with H:=S.H.set id (.cells g (wss.set i.toNat (setAt ws off cv)).flatten) }):=by
 obtain ⟨id,g,ws,a,b,h1,h2,rfl,h4,h5,h6,h7,h8,h9⟩:=hp.ptr hz off
 rw [h4] at h
 refine ⟨id,g,ws,rfl,h1,h2,?_⟩
 have hb:=Nat.le_of_ble_eq_true hb
 have hl:=h2.2.2.1
 subst hc
 have e:setAt wss.flatten (i.toNat * sz + off) vy.cells=(wss.set i.toNat (setAt ws off vy.cells)).flatten:=by
  rw [h8,h6,← h7]
  exact Il (by omega)
 simp only [oper,h,hy,vZ,h5]
 rw [if_pos ⟨hn.symm,hpl,hag⟩,if_pos trivial,if_pos (by rw [h6]; simp only [List.length_append]; omega),e]
 rfl
theorem mQ.Ns {d d':D} {ws:List AV} {off:Nat} {vy:AV} (h:mQ sz k d ws) (hk:Nat.beq k off=false) {dd:D} (hl:Less (.d dd) vy) (hs:d.cells.set off dd=d'.cells) (hf:dd.isAgg=false):mQ sz k d' (ws.set off vy):=by
 have hne:k ≠ off:=fun q=>by subst q; simp at hk
 refine ⟨by rw [← hs]; simp [h.1],by
  rw [← hs]
  exact zY (fun c hc=>by
   rcases List.mem_or_eq_of_mem_set hc with hc | rfl
   ·
    exact wQ h.2.1 c hc
   ·
    exact hf),by simp [h.2.2.1],?_⟩
 rw [← hs,List.map_set,List.set_comm _ _ (Ne.symm hne)]
 exact h.2.2.2.set hl off
theorem IQ {ws:List AV} {off:Nat} {vy:AV} (hk:Nat.beq k off=false):jM k (ws.set off vy)=jM k ws:=by
 have hne:k ≠ off:=fun q=>by subst q; simp at hk
 unfold jM
 rw [List.getD_eq_getElem?_getD,List.getElem?_set_ne (Ne.symm hne),← List.getD_eq_getElem?_getD]
theorem mQ.LU {d d':D} {ws:List AV} {w:AV} {c:D} (h:mQ sz k d ws) (hs:d.cells.set k c=d'.cells) (hf:c.isAgg=false):mQ sz k d' (ws.set k w):=by
 refine ⟨by rw [← hs]; simp [h.1],by
  rw [← hs]
  exact zY (fun c hc=>by
   rcases List.mem_or_eq_of_mem_set hc with hc | rfl
   ·
    exact wQ h.2.1 c hc
   ·
    exact hf),by simp [h.2.2.1],?_⟩
 rw [← hs,List.map_set,List.set_set]
 have:=h.2.2.2.set (Less.any w) k
 rwa [List.set_set] at this
theorem Hu {ws:List AV} {w:AV} (h:k < ws.length):jM k (ws.set k w)=w:=by
 unfold jM
 rw [List.getD_eq_getElem?_getD,List.getElem?_set_self h]; rfl
end
section
variable {C:eT} {nt:Nat} {ops:Array Oper} {rest:List Oper} {e:Env} {Q:Stp→Prop} {t ty:Nat} {p:String} {af:Array Edge} {gg:Option (Nat × Bool)} {x y:Operand} {i:Int}
theorem aj.ru {off tt:Nat} {vy:AV} {dd:D} (H:Has B S (aA enc kid sz k v wss xs hole :: l)) (hw:bC ops e { dst:=none,op:=.store tt x y,type:=ty,pos:=p,after:=af,guard:=gg }=some true) (hz:idx xs i=some z) (h:bB e x=some (bF v i.toNat off)) (hy:bB e y=some vy)
  (hc:vy.cells=[vy]) (hpl:vy.plain=true) (hl:Less (.d dd) vy) (hn:aM C.P tt=1) (hag:(eQ C.P tt).isSome=true) (hb:Nat.ble (off + 1) sz=true) (hk:Nat.beq k off=false) (hs:(enc z).cells.set off dd=(enc z').cells) (hf:dd.isAgg=false) (hkid:kid z'=kid z)
  (kk:∀ wss' S',Has B S' (aA enc kid sz k v wss' (kE xs i z') hole :: l)→aj R C nt ops rest e S' Q) :
  aj R C nt ops ({ dst:=none,op:=.store tt x y,type:=ty,pos:=p,after:=af,guard:=gg } :: rest) e S Q:=by
 obtain ⟨id,g,ws,rfl,h1,h2,h3⟩:=uV (C:=C) (ρ:=bB e) (gq.1 (H.ok _ List.mem_cons_self)) hz h hy hc hpl hn hag hb
 have:=Has.L9 H (ws':=ws.set off vy) h1 (dR hz).2 (h2.Ns hk hl hs hf) (IQ hk) hkid
 exact aj.skip hw h3 (kk (wss.set i.toNat (setAt ws off [vy])) _ this)
theorem aj.Ao {tt:Nat} {w:AV} {ys:List Int} {c:D} (H:Has B S (aI w ys :: aA enc kid sz k v wss xs hole :: l)) (hw:bC ops e { dst:=none,op:=.store tt x y,type:=ty,pos:=p,after:=af,guard:=gg }=some true) (hz:idx xs i=some z) (hh:hole=none∨hole=some i.toNat) (h:bB e x=some (bF v i.toNat k)) (hy:bB e y=some w)
  (hn:aM C.P tt=1) (hag:(eQ C.P tt).isSome=true) (hs:(enc z).cells.set k c=(enc z').cells) (hf:c.isAgg=false) (hkid:kid z'=ys)
  (kk:∀ wss' S',Has B S' (aA enc kid sz k v wss' (kE xs i z') none :: l)→aj R C nt ops rest e S' Q) :
  aj R C nt ops ({ dst:=none,op:=.store tt x y,type:=ty,pos:=p,after:=af,guard:=gg } :: rest) e S Q:=by
 have hs0:=gL.1 (H.ok _ List.mem_cons_self)
 have hp:=gq.1 (H.ok (aA enc kid sz k v wss xs hole) (by simp))
 obtain ⟨id,g,ws,rfl,h1,h2,h3⟩:=uV (C:=C) (ρ:=bB e) hp hz h hy hs0.plain.2 hs0.plain.1 hn hag (by have:=hp.2.1; exact Nat.ble_eq_true_of_le (by simp; omega))
 have:=Has.KQ (pre:=[aI w ys]) (by simp [iM,aI,bG.fp]) H hh hs0 (ws':=ws.set k w) h1 (dR hz).2 (h2.LU hs hf) (Hu (by rw [h2.2.2.1]; exact hp.2.1)) hkid
 exact aj.skip hw h3 (kk (wss.set i.toNat (setAt ws k [w])) _ this)
theorem aj.Ae {tt:Nat} {vy:AV} {cv:List AV} (H:Has B S (aA enc kid sz k v wss xs hole :: l)) (hw:bC ops e { dst:=none,op:=.store tt x y,type:=ty,pos:=p,after:=af,guard:=gg }=some true) (hz:idx xs i=some z) (hh:hole=none∨hole=some i.toNat) (h:bB e x=some (bF v i.toNat 0)) (hy:bB e y=some vy)
  (hc:vy.cells=cv) (hpl:vy.plain=true) (hn:aM C.P tt=sz) (hag:(eQ C.P tt).isSome=true) (hcl:cv.length=sz) (hel:(enc z').cells.length=sz) (hef:kJ (enc z').cells=true) (hle:gJ (((enc z').cells.map AV.d).set k .any) cv) (hkw:jM k cv=.d .aS) (hkid:kid z'=[])
  (kk:∀ wss' S',Has B S' (aA enc kid sz k v wss' (kE xs i z') none :: l)→aj R C nt ops rest e S' Q) :
  aj R C nt ops ({ dst:=none,op:=.store tt x y,type:=ty,pos:=p,after:=af,guard:=gg } :: rest) e S Q:=by
 have hp:=gq.1 (H.ok _ List.mem_cons_self)
 obtain ⟨id,g,ws,rfl,h1,h2,h3⟩:=uV (C:=C) (ρ:=bB e) hp hz h hy hc hpl (by rw [hn,hcl]) hag (Nat.ble_eq_true_of_le (by omega))
 have e1:setAt ws 0 cv=cv:=by
  have:=qx cv [] ws [] (by rw [hcl,h2.2.2.1])
  simpa using this
 have:=Has.KQ (pre:=[]) (w:=.d .aS) (ys:=[]) (by simp [iM,aR]) H hh Ca (ws':=cv) h1 (dR hz).2 ⟨hel,hef,hcl,hle⟩ hkw hkid
 rw [e1] at h3
 exact aj.skip hw h3 (kk (wss.set i.toNat cv) _ this)
end
end
end
end
end Go.Ev

namespace Go.Ev
noncomputable section
set_option linter.unusedVariables false
set_option linter.unusedSimpArgs false
variable {R:bO} {P:Program} {B:St}
theorem Hf {cx:Cx} {S:St} {w:World} (h:bg R cx S w) {id g sz:Nat} {xs:List D} {cs0:List AV} (hcs0:∀ (i j:Nat) (x c:D),xs[i]? = some x→x.cells[j]? = some c→j < sz→∃ y,cs0[i * sz + j]? = some y∧Less (.d c) y) {lim:Nat} (hid:S.H.get id=some (.cells g cs0)) (hpos:0 < sz) (hsz:∀ x ∈ xs,x.cells.length=sz∧kJ x.cells=true)
  {fr':Nat→Nat→Prop} (hp:∀ (b o:Nat) (v:Value),¬ cx.fr b o→w.cell? ⟨b,o,none⟩=some v→w.cell? ⟨b,o,none⟩=some v∧¬ fr' b o) (hfr:∀ o,¬ fr' (cx.bm id) o) {u:Value} (hu:aO cx S w (.eD id g 0 xs.length lim sz) u):bL w fr' (.sl xs false) u:=by
 cases hu with
 | eD _ _ _ _ _ _ b cap hn hl hcap h63 hq =>
  obtain ⟨hb,_,_⟩:=hq (by unfold cur; rw [hid])
  subst hb
  obtain ⟨c1,c2,arr,el,c3,⟨c4,c5,c6⟩,c7⟩:=h.cells id g _ hid
  refine ⟨?_,rfl⟩
  by_cases hne:xs=[]
  ·
   subst hne; exact .sl0 _ cap false (fun q=>by cases q)
  have hcap:xs.length ≤ cap:=Nat.le_trans hl hcap
  let vs:Nat→List Value:=fun i=>(List.range sz).map fun j=>(arr[i * sz + j]?).getD default
  have hcell:∀ (i j:Nat) (x:D),xs[i]? = some x→j < sz→∃ c v,x.cells[j]? = some c∧arr[i * sz + j]? = some v∧aO cx S w (.d c) v∧v.oneCell'=true:=fun i j x hx hj=>by
   have hxl:=(hsz x (List.mem_of_getElem? hx)).1
   have hc:x.cells[j]? = some x.cells[j]:=List.getElem?_eq_getElem (by omega)
   obtain ⟨y,y1,y2⟩:=hcs0 i j x _ hx hc hj
   obtain ⟨v,v1,v2,v3⟩:=c7 (i * sz + j) _ y1
   exact ⟨_,v,hc,v1,y2 _ _ _ _ v2,v3⟩
  have hvs:∀ (i j:Nat) (v:Value),(vs i)[j]? = some v→j < sz∧(arr[i * sz + j]?).getD default=v:=fun i j v hv=>by
   simp only [vs,List.getElem?_map,Option.map_eq_some_iff] at hv
   obtain ⟨k,hk,rfl⟩:=hv
   rw [List.getElem?_eq_some_iff] at hk
   obtain ⟨hlt,hk⟩:=hk
   simp at hlt hk
   subst hk
   exact ⟨hlt,rfl⟩
  refine .sl xs false (cx.bm id) 0 cap sz vs hne hcap (fun q=>by cases q) (fun i x hx=>(hsz x (List.mem_of_getElem? hx)).1) (fun i hi=>by simp [vs]) (fun i x hx=>?_) (fun i j v hi hv=>?_)
  ·
   have hm:=hsz x (List.mem_of_getElem? hx)
   refine iq.of_cells hm.2 (by simp [vs,hm.1]) (fun v hv=>?_) (fun j c v hc hv=>?_)
   ·
    obtain ⟨j,hj,rfl⟩:=List.getElem_of_mem hv
    have hj':=List.getElem?_eq_getElem hj
    obtain ⟨k1,k2⟩:=hvs i j _ hj'
    obtain ⟨c,v,_,v1,_,v3⟩:=hcell i j x hx k1
    rw [v1] at k2
    rw [← k2]; exact v3
   ·
    obtain ⟨k1,k2⟩:=hvs i j v hv
    obtain ⟨c',v',h1,v1,v2,v3⟩:=hcell i j x hx k1
    rw [v1] at k2
    simp at k2
    subst k2
    rw [hc] at h1; cases h1
    have:=(v2.dd.mono hp).1
    rw [(mG v3).1] at this
    exact this
  ·
   obtain ⟨k1,k2⟩:=hvs i j v hv
   obtain ⟨c',v',h1,v1,v2,v3⟩:=hcell i j xs[i] (List.getElem?_eq_getElem hi) k1
   rw [v1] at k2
   simp at k2
   subst k2
   refine ⟨?_,hfr _⟩
   simp only [World.cell?,c3,Nat.zero_add]
   simp [v1]
def J5 (sz n:Nat) (v:AV) (cs:List AV) (S:St):Prop:=∃ id g,v=.eD id g 0 n n sz∧S.H.get id=some (.cells g cs)∧cs.length=n * sz
def gN (sz n:Nat) (v:AV) (cs:List AV):bG:=.abs (aR v) (J5 sz n v cs)
theorem wW {sz n:Nat} {v:AV} {cs:List AV} {S:St}:(gN sz n v cs).ok S↔J5 sz n v cs S:=by
 constructor
 ·
  exact fun h=>h.2 S (fun _ _=>rfl)
 ·
  rintro ⟨id,g,rfl,h1,h2⟩
  refine ⟨fun j hj=>?_,fun S' k=>⟨id,g,rfl,by rw [k id (by simp [aR])]; exact h1,h2⟩⟩
  simp only [aR,List.mem_singleton] at hj
  subst hj; exact ⟨_,h1⟩
theorem JI {S:St} {v:AV} {c:Int} (h:J5 1 1 v [ji c] S):jg v [c] S:=by
 obtain ⟨id,g,rfl,h1,h2⟩:=h
 exact ⟨rfl,rfl,rfl,by decide,_,h1,rfl,rfl⟩
section
variable {S:St} {l:List bG}
theorem Has.NY {v:AV} {c:Int} (H:Has B S (gN 1 1 v [ji c] :: l)):Has B S (aI v [c] :: l):=by
 refine Has.qG (l0:=[_]) (bs:=[_]) H (fun a ha=>?_) ?_ (fun id hid=>by simpa [iM,aI,gN,bG.fp] using hid)
 ·
  simp only [List.mem_cons,List.not_mem_nil,or_false] at ha
  subst ha
  exact gL.2 (JI (wW.1 (H.ok _ List.mem_cons_self)))
 ·
  have:=Has.nd0 (l0:=[_]) H
  simpa [iM,aI,gN,bG.fp] using this
theorem Has.Io (H:Has B S l):Has B S (aI (.d .aS) [] :: l):=by
 refine Has.qG (l0:=[]) (bs:=[_]) H (fun a ha=>?_) (by simp [iM,aI,bG.fp,aR]) (fun id hid=>by simp [iM,aI,bG.fp,aR] at hid)
 simp only [List.mem_cons,List.not_mem_nil,or_false] at ha
 subst ha
 exact gL.2 Ca
theorem Has.KF {α:Type} (enc:α→D) (kid:α→List Int) (sz k:Nat) (hk:Nat.blt k sz=true) (H:Has B S l):Has B S (aA enc kid sz k (.d .aS) [] ([]:List α) none :: l):=by
 refine Has.qG (l0:=[]) (bs:=[_]) H (fun a ha=>?_) (by simp [iM,aA,bG.fp,aR,bR]) (fun id hid=>by simp [iM,aA,bG.fp,aR,bR] at hid)
 simp only [List.mem_cons,List.not_mem_nil,or_false] at ha
 subst ha
 exact gq.2 ⟨rfl,by have:=Nat.le_of_ble_eq_true hk; omega,fun i x ws h=>by simp at h,rfl⟩
section
variable {C:eT} {ρ:Operand→Option AV} {x y:Operand} {t:Nat}
theorem Ay {n el sz:Nat} {ps:Array (Nat × Operand)} {zd:D} {vs:List AV} {cs:List (List AV)} (H:Has B S l) (hr:C.rowT t=true) (he:bz C.P t=some el) (ha:(eQ C.P el).isSome=true) (hz:zeroOf C.P el=some zd) (hs:aM C.P el=sz) (hzl:zd.cells.length=sz) (hb:n * sz ≤ 16777216∧0 < n * sz)
  (hv:sF sz vs cs) (hn:vs.length=n) (hev:mZ ρ ps=some (uj 0 vs)):∃ v S',oper C ρ S (.buildSlice t n ps)=some (.val v S')∧Has B S' (gN sz n v cs.flatten :: l):=by
 obtain ⟨k1,k2⟩:=hv.len
 subst hs
 have hn0:n ≠ 0:=fun q=>by subst q; simp at hb
 have f1:=DF hv [] ((List.replicate n zd.cells).flatten.map .d) (by simp) (by
  rw [List.length_map,List.length_flatten,List.map_replicate,List.sum_replicate_nat,hzl,hn])
 simp only [List.flatten_nil,List.nil_append,List.length_nil] at f1
 have hrow:nD C t n=true:=by
  simp only [nD,hr,Bool.true_and]
  cases hq:Nat.beq n 0
  ·
   rfl
  ·
   exact absurd (Nat.eq_of_beq_eq_true hq) hn0
 have hlen:∀ (cs:List (List AV)),(∀ c ∈ cs,c.length=aM C.P el)→cs.flatten.length=cs.length * aM C.P el:=fun cs=>by
  induction cs with
  | nil=>intro _; simp
  | cons c cs ih=>intro h; rw [List.flatten_cons,List.length_append,ih (fun d hd=>h d (List.mem_cons_of_mem _ hd)),h c List.mem_cons_self,List.length_cons,Nat.add_mul]; omega
 refine ⟨.eD S.nx 0 0 n n (aM C.P el),bH S (.cells 0 cs.flatten),?_,H.new (.cells 0 cs.flatten) (a:=gN (aM C.P el) n (.eD S.nx 0 0 n n (aM C.P el)) cs.flatten) rfl (wW.2 ⟨_,_,rfl,by simp only [bH,AL.aP,if_true],?_⟩)⟩
 ·
  simp only [oper,hrow,cond_true,hev,l8,he,hz]
  rw [if_pos ⟨hzl,hb.2,hb.1,ha⟩]
  simp only [H.Cf,cond_false,f1,Option.map_some]
  rfl
 ·
  rw [hlen cs k2,← k1,hn]
theorem tJ {el nb n:Nat} (hb:n * nb ≤ bound) (hnb:bytesOf C.P el=nb) (h0:(Nat.blt 0 nb && Nat.ble nb 65536)=true) (hz:fK C el=true):pW C el n=true:=by
 subst hnb
 simp only [Bool.and_eq_true] at h0
 simp only [pW,hz,Bool.and_true,Bool.and_eq_true]
 exact ⟨⟨Nat.ble_eq_true_of_le hb,h0.1⟩,h0.2⟩
theorem Cs {sz n:Nat} {v:AV} {cs:List AV} (h:J5 sz n v cs S) (hpos:0 < sz):jA S sz v=some (cs,n):=by
 obtain ⟨id,g,rfl,h1,h2⟩:=h
 simp only [jA,oW,St.look,h1,Nat.beq_refl,cond_true]
 rw [if_pos ⟨trivial,hpos,by omega⟩,List.drop_zero,← h2,List.take_length]
section
variable {α:Type} {enc:α→D} {kid:α→List Int} {sz k:Nat} {v rv:AV} {wss:List (List AV)} {xs:List α} {z:α} {c:List AV}
theorem xY {u el nb:Nat} {r:List α} (H:Has B S (gN sz 1 rv c :: aA enc kid sz k v wss xs none :: l)) (hx:ρ x=some v) (hy:ρ y=some rv) (hnr:C.rowT t=true) (hu:iX C u=true) (he:bz C.P t=some el) (hs:aM C.P el=sz)
  (hr:app nb xs [z]=some r) (hnb:bytesOf C.P el=nb) (h0:(Nat.blt 0 nb && Nat.ble nb 65536)=true) (hz:fK C el=true) (hnode:mQ sz k (enc z) c) (hkw:jM k c=.d .aS) (hkid:kid z=[]) :
  ∃ v' S',oper C ρ S (.call { callee:=.builtin .append,args:=#[x,y],argTypes:=#[t,u] })=some (.val v' S')∧∃ wss',Has B S' (aA enc kid sz k v' wss' r none :: l):=by
 obtain ⟨hb,rfl⟩:=mO hr
 subst hs
 have hm:fV ρ [x,y]=some [v,rv]:=by simp only [fV,hx,hy,Option.map_some]
 have hp:=gq.1 (H.ok (aA enc kid (aM C.P el) k v wss xs none) (by simp))
 have hraw:=wW.1 (H.ok (gN (aM C.P el) 1 rv c) (by simp))
 have hpos:0 < aM C.P el:=by have:=hp.2.1; omega
 have hsrc:=Cs hraw hpos
 have hg:pW C el (xs.length + 1)=true:=tJ (by simpa using hb) hnb h0 hz
 have H2:Has B S ([gN (aM C.P el) 1 rv c,aA enc kid (aM C.P el) k v wss xs none] ++ l):=H
 have hnd:=Has.nd0 H2
 have e2:iM [gN (aM C.P el) 1 rv c,aA enc kid (aM C.P el) k v wss xs none]=aR rv ++ (aR v ++ bR k none wss):=by simp [iM,aA,gN,bG.fp]
 rw [e2] at hnd
 have hsub:bR k none (wss ++ [c])=bR k none wss:=by rw [uK,hkw]; simp [aR]
 simp only [oper,hm,dK,List.getElem?_toArray,List.getElem?_cons_zero,List.getElem?_cons_succ,hu,if_true,he]
 obtain ⟨h1,h2,h3,h4⟩:=id hp
 have hnodes:∀ (i:Nat) (y:α) (ws:List AV),(xs ++ [z])[i]? = some y→(wss ++ [c])[i]? = some ws→mQ (aM C.P el) k (enc y) ws∧((wss[i]? = some ws∧jg (jM k ws) (kid y) S)∨(jM k ws=.d .aS∧kid y=[])):=fun i y ws hy hw=>by
  by_cases hi:i < xs.length
  ·
   rw [List.getElem?_append_left hi] at hy
   rw [List.getElem?_append_left (by omega)] at hw
   exact ⟨(h3 i y ws hy hw).1,.inl ⟨hw,(h3 i y ws hy hw).2 (by simp)⟩⟩
  ·
   have hi':i=xs.length:=by
    have:=(List.getElem?_eq_some_iff.1 hy).1
    simp at this; omega
   subst hi'
   rw [List.getElem?_append_right (Nat.le_refl _)] at hy
   rw [← h1,List.getElem?_append_right (Nat.le_refl _)] at hw
   simp at hy hw
   subst hy; subst hw
   exact ⟨hnode,.inr ⟨hkw,hkid⟩⟩
 have finish:∀ (v':AV) (id g:Nat) (S':St),v'=.eD id g 0 (xs.length + 1) (xs.length + 1) (aM C.P el)→S'.H.get id=some (.cells g (wss ++ [c]).flatten)→(∀ j,j ≠ id→S'.H.get j=S.H.get j)→S'.T=S.T→S'.Wf→S.nx ≤ S'.nx→(id ∈ aR v∨S.nx ≤ id)→id ∉ bR k none wss →
   ∃ wss',Has B S' (aA enc kid (aM C.P el) k v' wss' (xs ++ [z]) none :: l):=fun v' id g S' hv hH hsame hT wf nx hin hout=>by
  subst hv
  refine ⟨wss ++ [c],Has.upd (bs:=[_]) H2 wf nx (fun j hj hlt=>⟨hsame j (fun q=>?_),by rw [hT]⟩) (fun a ha=>?_) ?_ (fun j hj=>?_)⟩
  ·
   subst q
   rcases hin with h | h
   ·
    exact hj (by rw [e2]; exact List.mem_append_right _ (List.mem_append_left _ h))
   ·
    omega
  ·
   simp only [List.mem_cons,List.not_mem_nil,or_false] at ha
   subst ha
   refine gq.2 ⟨by simp [h1],h2,fun i y ws hy hw=>⟨(hnodes i y ws hy hw).1,fun _=>?_⟩,rfl,by simp,by simp,rfl,hH⟩
   rcases (hnodes i y ws hy hw).2 with ⟨q1,q2⟩ | ⟨q1,q2⟩
   ·
    refine q2.keep (fun j hj=>hsame j (fun q=>?_))
    subst q
    exact hout (jm.2 ⟨i,ws,q1,by simp,hj⟩)
   ·
    rw [q1,q2]; exact Ca
  ·
   rw [mF,hsub]
   simp only [aR,List.singleton_append,List.nodup_cons]
   refine ⟨hout,?_⟩
   have:=(List.nodup_append.1 hnd).2.1
   exact (List.nodup_append.1 this).2.1
  ·
   rw [mF,hsub] at hj
   rw [e2]
   simp only [aR,List.singleton_append,List.mem_cons] at hj
   rcases hj with rfl | hj
   ·
    rcases hin with h | h
    ·
     exact .inl (List.mem_append_right _ (List.mem_append_left _ h))
    ·
     exact .inr h
   ·
    exact .inl (List.mem_append_right _ (List.mem_append_right _ hj))
 have hltsub:∀ j ∈ bR k none wss,j < S.nx:=fun j hj=>Has.lt H (jw.2 ⟨aA enc kid (aM C.P el) k v wss xs none,by simp,by simp [aA,bG.fp,hj]⟩)
 revert h4
 split
 ·
  intro hxs
  subst hxs
  have hw0:wss=[]:=List.eq_nil_of_length_eq_zero (by simpa using h1)
  subst hw0
  refine ⟨.eD S.nx 0 0 1 1 (aM C.P el),{ S with H:=S.H.set S.nx (.cells 0 c),nx:=S.nx + 1 },?_,?_⟩
  ·
   simp only [hnr,cond_true,iC,hsrc]
   rw [if_neg (by decide),if_pos ⟨by decide,hpos,rfl,by simpa using hg⟩]
   simp
  ·
   exact finish _ S.nx 0 _ rfl (by simp [AL.aP]) (fun j hj=>by simp only [AL.aP]; rw [if_neg (Ne.symm hj)]) rfl (Cw H.wf _) (Nat.le_succ _) (.inr (Nat.le_refl _)) (by simp [bR])
 ·
  rename_i id g off len lim sz'
  rintro ⟨rfl,rfl,rfl,rfl,hH⟩
  have hfl:∀ (q:List (List AV)),(∀ ws ∈ q,ws.length=aM C.P el)→q.flatten.length=q.length * aM C.P el:=fun q=>by
   induction q with
   | nil=>intro _; simp
   | cons a q ih=>intro hq; rw [List.flatten_cons,List.length_append,ih (fun w hw=>hq w (List.mem_cons_of_mem _ hw)),hq a List.mem_cons_self,List.length_cons,Nat.add_mul]; omega
  have hlen:wss.flatten.length=xs.length * aM C.P el:=by rw [hfl wss hp.lens,h1]
  have hlt:id < S.nx:=Has.lt H (jw.2 ⟨aA enc kid (aM C.P el) k (.eD id g 0 xs.length xs.length (aM C.P el)) wss xs none,by simp,by simp [aA,bG.fp,aR]⟩)
  refine ⟨.eD id (g + 1) 0 (xs.length + 1) (xs.length + 1) (aM C.P el),{ S with H:=S.H.set id (.cells (g + 1) (wss.flatten.take (xs.length * aM C.P el) ++ c)) },?_,?_⟩
  ·
   simp only [jF,hsrc,St.look,hH,Nat.beq_refl,cond_true]
   rw [if_pos ⟨trivial,hpos,by omega⟩,if_neg (by decide),if_neg (by omega),if_pos ⟨trivial,hg⟩]
   rfl
  ·
   refine finish _ id (g + 1) _ rfl ?_ (fun j hj=>by simp only [AL.aP]; rw [if_neg (Ne.symm hj)]) rfl (wf_set H.wf hlt _) (Nat.le_refl _) (.inl (by simp [aR])) ?_
   ·
    simp only [AL.aP,if_true]
    rw [← hlen,List.take_length,List.flatten_append]; simp
   ·
    have:=(List.nodup_append.1 hnd).2.1
    simp only [aR,List.singleton_append,List.nodup_cons] at this
    exact this.1
 ·
  exact fun q=>q.elim
end
section
variable {w rv:AV} {ys r:List Int} {n:Int}
theorem yG {u el nb:Nat} (H:Has B S (gN 1 1 rv [ji n] :: aI w ys :: l)) (hx:ρ x=some w) (hy:ρ y=some rv) (hnr:C.rowT t=true) (hu:iX C u=true) (he:bz C.P t=some el) (hs:aM C.P el=1)
  (hr:app nb ys [n]=some r) (hnb:bytesOf C.P el=nb) (h0:(Nat.blt 0 nb && Nat.ble nb 65536)=true) (hz:fK C el=true) :
  ∃ w' S',oper C ρ S (.call { callee:=.builtin .append,args:=#[x,y],argTypes:=#[t,u] })=some (.val w' S')∧Has B S' (aI w' r :: l):=by
 obtain ⟨hb,rfl⟩:=mO hr
 have hm:fV ρ [x,y]=some [w,rv]:=by simp only [fV,hx,hy,Option.map_some]
 have hp:=gL.1 (H.ok (aI w ys) (by simp))
 have hraw:=wW.1 (H.ok (gN 1 1 rv [ji n]) (by simp))
 have hsrc:=Cs hraw (by decide)
 have hg:pW C el (ys.length + 1)=true:=tJ (by simpa using hb) hnb h0 hz
 have H2:Has B S ([gN 1 1 rv [ji n],aI w ys] ++ l):=H
 have e2:iM [gN 1 1 rv [ji n],aI w ys]=aR rv ++ aR w:=by simp [iM,aI,gN,bG.fp]
 have finish:∀ (w':AV) (id g lim:Nat) (cs:List AV) (S':St),w'=.eD id g 0 (ys.length + 1) lim 1→0 < lim→cs.length=lim→cs.take (ys.length + 1)=(ys ++ [n]).map ji→S'.H.get id=some (.cells g cs)→(∀ j,j ≠ id→S'.H.get j=S.H.get j)→S'.T=S.T→S'.Wf→S.nx ≤ S'.nx→(id ∈ aR w∨S.nx ≤ id) →
   Has B S' (aI w' (ys ++ [n]) :: l):=fun w' id g lim cs S' hv hl hcl hct hH hsame hT wf nx hin=>by
  subst hv
  refine Has.upd (bs:=[_]) H2 wf nx (fun j hj hlt=>⟨hsame j (fun q=>?_),by rw [hT]⟩) (fun a ha=>?_) (by simp [iM,aI,bG.fp,aR]) (fun j hj=>?_)
  ·
   subst q
   rcases hin with h | h
   ·
    exact hj (by rw [e2]; exact List.mem_append_right _ h)
   ·
    omega
  ·
   simp only [List.mem_cons,List.not_mem_nil,or_false] at ha
   subst ha
   exact gL.2 ⟨rfl,rfl,by simp,hl,cs,hH,hcl,hct⟩
  ·
   have:j=id:=by simpa [iM,aI,bG.fp,aR] using hj
   subst this
   rcases hin with h | h
   ·
    exact .inl (by rw [e2]; exact List.mem_append_right _ h)
   ·
    exact .inr h
 simp only [oper,hm,dK,List.getElem?_toArray,List.getElem?_cons_zero,List.getElem?_cons_succ,hu,if_true,he]
 unfold jg at hp
 split at hp
 ·
  subst hp
  refine ⟨.eD S.nx 0 0 1 1 1,{ S with H:=S.H.set S.nx (.cells 0 [ji n]),nx:=S.nx + 1 },?_,?_⟩
  ·
   simp only [hnr,cond_true,iC,hs,hsrc]
   rw [if_neg (by decide),if_pos ⟨by decide,by decide,rfl,by simpa using hg⟩]
   rfl
  ·
   exact finish _ S.nx 0 1 _ _ rfl (by decide) rfl rfl (by simp [AL.aP]; rfl) (fun j hj=>by simp only [AL.aP]; rw [if_neg (Ne.symm hj)]) rfl (Cw H.wf _) (Nat.le_succ _) (.inr (Nat.le_refl _))
 ·
  rename_i id g off len lim sz'
  obtain ⟨rfl,rfl,rfl,hlim,cs,hH,hcl,hct⟩:=hp
  have hle:ys.length ≤ cs.length:=by have:=congrArg List.length hct; simp at this; omega
  have hlt:id < S.nx:=Has.lt H (jw.2 ⟨aI (.eD id g 0 ys.length lim 1) ys,by simp,by simp [aI,bG.fp,aR]⟩)
  by_cases hroom:ys.length + 1 ≤ cs.length
  ·
   refine ⟨.eD id g 0 (ys.length + 1) lim 1,{ S with H:=S.H.set id (.cells g (cs.set ys.length (ji n))) },?_,?_⟩
   ·
    simp only [jF,hs,hsrc,St.look,hH,Nat.beq_refl,cond_true]
    rw [if_pos ⟨trivial,by decide,by omega⟩,if_neg (by decide),if_pos (by omega)]
    simp only [Option.map_some,setAt]
    rw [show 0 + ys.length * 1=ys.length by omega,show max lim (ys.length + 1)=lim by omega]
   ·
    refine finish _ id g lim (cs.set ys.length (ji n)) _ rfl hlim (by simp [hcl]) ?_ (by simp only [AL.aP,if_true]) (fun j hj=>by simp only [AL.aP]; rw [if_neg (Ne.symm hj)]) rfl (wf_set H.wf hlt _) (Nat.le_refl _) (.inl (by simp [aR]))
    rw [List.take_add_one,List.take_set_of_le (Nat.le_refl _),hct,List.getElem?_set_self (by omega)]
    simp
  ·
   refine ⟨.eD id (g + 1) 0 (ys.length + 1) (ys.length + 1) 1,{ S with H:=S.H.set id (.cells (g + 1) (cs.take (ys.length * 1) ++ [ji n])) },?_,?_⟩
   ·
    simp only [jF,hs,hsrc,St.look,hH,Nat.beq_refl,cond_true]
    rw [if_pos ⟨trivial,by decide,by omega⟩,if_neg (by decide),if_neg (by omega),if_pos ⟨trivial,hg⟩]
    rfl
   ·
    refine finish _ id (g + 1) (ys.length + 1) (cs.take (ys.length * 1) ++ [ji n]) _ rfl (by omega) (by simp; omega) ?_ (by simp only [AL.aP,if_true]) (fun j hj=>by simp only [AL.aP]; rw [if_neg (Ne.symm hj)]) rfl (wf_set H.wf hlt _) (Nat.le_refl _) (.inl (by simp [aR]))
    rw [Nat.mul_one,hct,List.take_of_length_le (by simp)]
    simp
 ·
  exact hp.elim
theorem sU {el:Nat} {i:Int} {kk:IntKind} {q:Nat} (H:Has B S l) (hi:l[q]? = some (aI w ys)) (hz:idx ys i=some n) (hx:ρ x=some w) (hy:ρ y=some (.d (.int kk i)))
  (he:bz C.P t=some el) (ha:(eQ C.P el).isSome=true) (hs:aM C.P el=1):oper C ρ S (.indexAddr t x y)=some (.val (bF w i.toNat 0) S):=by
 have hp:=gL.1 (H.at hi)
 obtain ⟨h0,h1⟩:=dR hz
 unfold jg at hp
 split at hp
 ·
  subst hp; simp at h1
 ·
  rename_i id g off len lim sz'
  obtain ⟨rfl,rfl,rfl,hlim,cs,hH,hcl,hct⟩:=hp
  refine bA hx hy ?_
  simp only [gF,he,h0,ha,decide_true,Bool.and_self,if_true]
  rw [if_pos ⟨(List.getElem?_eq_some_iff.1 h1).1,hs.symm⟩,hs]
  simp [bF]
 ·
  exact hp.elim
theorem qV {i:Int} {q:Nat} (H:Has B S l) (hi:l[q]? = some (aI w ys)) (hz:idx ys i=some n) (h:ρ x=some (bF w i.toNat 0)) (ha:eQ C.P t=some false):oper C ρ S (.load t x)=some (.val (.d (.int .i64 n)) S):=by
 have hp:=gL.1 (H.at hi)
 obtain ⟨h0,h1⟩:=dR hz
 unfold jg at hp
 split at hp
 ·
  subst hp; simp at h1
 ·
  rename_i id g off len lim sz'
  obtain ⟨rfl,rfl,rfl,hlim,cs,hH,hcl,hct⟩:=hp
  have hlt:=(List.getElem?_eq_some_iff.1 h1).1
  have hc:cs[i.toNat]? = some (ji n):=by
   have:(cs.take ys.length)[i.toNat]? = some (ji n):=by rw [hct,List.getElem?_map,h1]; rfl
   rwa [List.getElem?_take_of_lt hlt] at this
  have:part C.P t cs (i.toNat * 1 + 0)=some (ji n):=by
   unfold part; rw [ha]; simpa using hc
  simp only [bF] at h
  simp only [oper,h,kT,St.look,hH,Nat.beq_refl,cond_true,this,Option.map_some]
  rfl
 ·
  exact hp.elim
theorem DT {el:Nat} {i:Int} {kk:IntKind} {hi:Operand} (H:Has B S (aI w ys :: l)) (hx:ρ x=some w) (hh:ρ hi=some (.d (.int kk i))) (he:bz C.P t=some el) (hu:(C.P.underlying el).isSome=true) (hs:aM C.P el=1) (hc:cut ys 0 i=some r) :
  ∃ w',oper C ρ S (.slice t x none (some hi) none)=some (.val w' S)∧Has B S (aI w' r :: l):=by
 have hp:=gL.1 (H.ok _ List.mem_cons_self)
 obtain ⟨⟨_,h0,h1⟩,rfl⟩:=yF hc
 have again:∀ w',aR w'=aR w→jg w' ((ys.take i.toNat).drop (0:Int).toNat) S→Has B S (aI w' ((ys.take i.toNat).drop (0:Int).toNat) :: l):=fun w' e q=>by
  refine Has.qG (l0:=[_]) (bs:=[_]) H (fun a ha=>?_) ?_ (fun id hid=>?_)
  ·
   simp only [List.mem_cons,List.not_mem_nil,or_false] at ha
   subst ha; exact gL.2 q
  ·
   have:=Has.nd0 (l0:=[_]) H
   simpa [iM,aI,bG.fp,e] using this
  ·
   simpa [iM,aI,bG.fp,e] using hid
 unfold jg at hp
 split at hp
 ·
  subst hp
  have hi0:i=0:=by simp at h1; omega
  subst hi0
  refine ⟨.d .aS,?_,again _ rfl rfl⟩
  simp [oper,hx,pK,hh,mK,xc,he,Ch,hu,iV,asNat]
 ·
  rename_i id g off len lim sz'
  obtain ⟨rfl,rfl,rfl,hlim,cs,hH,hcl,hct⟩:=hp
  have hle:ys.length ≤ cs.length:=by have:=congrArg List.length hct; simp at this; omega
  refine ⟨.eD id g 0 i.toNat lim 1,?_,again _ rfl ⟨rfl,rfl,by simp; omega,hlim,cs,hH,hcl,?_⟩⟩
  ·
   simp only [oper,hx,pK,hh,mK,qM,he,iV,asNat,if_pos h0]
   rw [if_pos ⟨hs.symm,hu,by decide⟩,if_pos ⟨Nat.zero_le _,by omega⟩,if_neg (by omega)]
   simp
  ·
   simp only [Int.toNat_zero,List.drop_zero,List.map_take]
   rw [← hct,List.take_take,Nat.min_eq_left (by omega)]
 ·
  exact hp.elim
theorem EL.OX {q:Nat} (H:Has B S l) (hi:l[q]? = some (aI w ys)):EL R S w (.sl (ys.map (D.int .i64)) false):=by
 intro cx ww u h1 h2
 have hp:=gL.1 (H.at hi)
 unfold jg at hp
 split at hp
 ·
  subst hp; exact (LF _ _ _ _ h2).dd.J7
 ·
  rename_i id g off len lim sz'
  obtain ⟨rfl,rfl,rfl,hlim,cs,hH,hcl,hct⟩:=hp
  have e:ys.length=(ys.map (D.int .i64)).length:=by simp
  rw [e] at h2
  refine Hf h1 (cs0:=cs) (sz:=1) (fun i j x c hx hc hj=>?_) hH (by decide) (fun x hx=>?_) (fun b o v q1 q2=>⟨q2,fun q=>q⟩) (fun o q=>q) h2
  ·
   rw [List.getElem?_map,Option.map_eq_some_iff] at hx
   obtain ⟨n,hn,rfl⟩:=hx
   have hj0:j=0:=by omega
   subst hj0
   have hc:D.int .i64 n=c:=by simpa [D.cells] using hc
   subst hc
   refine ⟨ji n,?_,.refl _⟩
   have hlt:=(List.getElem?_eq_some_iff.1 hn).1
   have:(cs.take ys.length)[i]? = some (ji n):=by rw [hct,List.getElem?_map,hn]; rfl
   rw [List.getElem?_take_of_lt hlt] at this
   simpa using this
  ·
   obtain ⟨n,hn,rfl⟩:=List.mem_map.1 hx
   exact ⟨rfl,rfl⟩
 ·
  exact hp.elim
end
end
end
end
end Go.Ev

namespace Go.Ev
noncomputable section
set_option linter.unusedVariables false
set_option linter.unusedSimpArgs false
variable {R:bO} {P:Program} {B:St}
section steps
variable {C:eT} {nt:Nat} {ops:Array Oper} {rest:List Oper} {e:Env} {S:St} {Q:Stp→Prop} {l:List bG} {t ty:Nat} {p:String} {af:Array Edge} {g:Option (Nat × Bool)} {x y:Operand}
section
variable {α:Type} {enc:α→D} {kid:α→List Int} {sz k:Nat} {v:AV} {wss:List (List AV)} {xs:List α} {hole:Option Nat} {z:α} {n:Int} {tt:Nat}
theorem aj.j6 {q off:Nat} {d:D} (H:Has B S l) (hw:bC ops e { dst:=some t,op:=.load tt x,type:=ty,pos:=p,after:=af,guard:=g }=some true) (hi:l[q]? = some (aA enc kid sz k v wss xs hole)) (hz:idx xs n=some z) (h:bB e x=some (bF v n.toNat off)) (ha:eQ C.P tt=some false) (hk:Nat.beq k off=false) (hd:(enc z).cells[off]? = some d) (ht:Nat.blt t nt=true)
  (kk:aj R C nt ops rest ((t,.d d) :: e) S Q) :
  aj R C nt ops ({ dst:=some t,op:=.load tt x,type:=ty,pos:=p,after:=af,guard:=g } :: rest) e S Q:=by
 obtain ⟨w,h1,h2⟩:=yM (C:=C) (ρ:=bB e) H hi hz h ha hk hd
 exact aj.val hw h1 ht (aj.less h2 kk)
theorem aj.Be {q:Nat} {cs:List AV} (H:Has B S l) (hw:bC ops e { dst:=some t,op:=.load tt x,type:=ty,pos:=p,after:=af,guard:=g }=some true) (hi:l[q]? = some (aA enc kid sz k v wss xs none)) (hz:idx xs n=some z) (h:bB e x=some (bF v n.toNat 0)) (ha:eQ C.P tt=some true) (hs:aM C.P tt=sz) (hc:((enc z).cells.map AV.d).set k (iN k wss n.toNat)=cs) (ht:Nat.blt t nt=true)
  (kk:aj R C nt ops rest ((t,Ev.fD cs) :: e) S Q) :
  aj R C nt ops ({ dst:=some t,op:=.load tt x,type:=ty,pos:=p,after:=af,guard:=g } :: rest) e S Q:=by
 subst hc
 obtain ⟨w,h1,h2⟩:=Ak (C:=C) (ρ:=bB e) H hi hz h ha hs
 exact aj.val hw h1 ht (aj.less h2 kk)
theorem aj.qA {m el:Nat} {ps:Array (Nat × Operand)} {zd:D} {vs:List AV} {cs:List (List AV)} (H:Has B S l) (hw:bC ops e { dst:=some t,op:=.buildSlice tt m ps,type:=ty,pos:=p,after:=af,guard:=g }=some true) (hr:C.rowT tt=true) (he:bz C.P tt=some el) (ha:(eQ C.P el).isSome=true) (hz:zeroOf C.P el=some zd) (hs:aM C.P el=sz) (hzl:zd.cells.length=sz) (hb:m * sz ≤ 16777216∧0 < m * sz)
  (hv:sF sz vs cs) (hn:vs.length=m) (hev:mZ (bB e) ps=some (uj 0 vs)) (ht:Nat.blt t nt=true)
  (kk:∀ v S',Has B S' (gN sz m v cs.flatten :: l)→aj R C nt ops rest ((t,v) :: e) S' Q) :
  aj R C nt ops ({ dst:=some t,op:=.buildSlice tt m ps,type:=ty,pos:=p,after:=af,guard:=g } :: rest) e S Q:=by
 obtain ⟨v',S',h1,h2⟩:=Ay (C:=C) (ρ:=bB e) H hr he ha hz hs hzl hb hv hn hev
 exact aj.val hw h1 ht (kk v' S' h2)
theorem aj.Fz {t1 u el nb:Nat} {r:List α} {rv:AV} {c:List AV} (H:Has B S (gN sz 1 rv c :: aA enc kid sz k v wss xs none :: l)) (hw:bC ops e { dst:=some t,op:=.call { callee:=.builtin .append,args:=#[x,y],argTypes:=#[t1,u] },type:=ty,pos:=p,after:=af,guard:=g }=some true)
  (hx:bB e x=some v) (hy:bB e y=some rv) (hnr:C.rowT t1=true) (hu:iX C u=true) (he:bz C.P t1=some el) (hs:aM C.P el=sz)
  (hr:Ev.app nb xs [z]=some r) (hnb:bytesOf C.P el=nb) (h0:(Nat.blt 0 nb && Nat.ble nb 65536)=true) (hz:fK C el=true) (hnode:mQ sz k (enc z) c) (hkw:jM k c=.d .aS) (hkid:kid z=[]) (ht:Nat.blt t nt=true)
  (kk:∀ v' wss' S',Has B S' (aA enc kid sz k v' wss' r none :: l)→aj R C nt ops rest ((t,v') :: e) S' Q) :
  aj R C nt ops ({ dst:=some t,op:=.call { callee:=.builtin .append,args:=#[x,y],argTypes:=#[t1,u] },type:=ty,pos:=p,after:=af,guard:=g } :: rest) e S Q:=by
 obtain ⟨v',S',h1,wss',h2⟩:=xY (C:=C) (ρ:=bB e) H hx hy hnr hu he hs hr hnb h0 hz hnode hkw hkid
 exact aj.val hw h1 ht (kk v' wss' S' h2)
end
section
variable {w:AV} {ys r:List Int} {n:Int} {tt:Nat}
theorem aj.BJ {t1 u el nb:Nat} {rv:AV} (H:Has B S (gN 1 1 rv [ji n] :: aI w ys :: l)) (hw:bC ops e { dst:=some t,op:=.call { callee:=.builtin .append,args:=#[x,y],argTypes:=#[t1,u] },type:=ty,pos:=p,after:=af,guard:=g }=some true)
  (hx:bB e x=some w) (hy:bB e y=some rv) (hnr:C.rowT t1=true) (hu:iX C u=true) (he:bz C.P t1=some el) (hs:aM C.P el=1)
  (hr:Ev.app nb ys [n]=some r) (hnb:bytesOf C.P el=nb) (h0:(Nat.blt 0 nb && Nat.ble nb 65536)=true) (hz:fK C el=true) (ht:Nat.blt t nt=true)
  (kk:∀ w' S',Has B S' (aI w' r :: l)→aj R C nt ops rest ((t,w') :: e) S' Q) :
  aj R C nt ops ({ dst:=some t,op:=.call { callee:=.builtin .append,args:=#[x,y],argTypes:=#[t1,u] },type:=ty,pos:=p,after:=af,guard:=g } :: rest) e S Q:=by
 obtain ⟨v',S',h1,h2⟩:=yG (C:=C) (ρ:=bB e) H hx hy hnr hu he hs hr hnb h0 hz
 exact aj.val hw h1 ht (kk v' S' h2)
theorem aj.Lj {el:Nat} {i:Int} {kk:IntKind} {hi:Operand} (H:Has B S (aI w ys :: l)) (hw:bC ops e { dst:=some t,op:=.slice tt x none (some hi) none,type:=ty,pos:=p,after:=af,guard:=g }=some true) (hx:bB e x=some w) (hh:bB e hi=some (.d (.int kk i))) (he:bz C.P tt=some el) (hu:(C.P.underlying el).isSome=true) (hs:aM C.P el=1) (hc:cut ys 0 i=some r) (ht:Nat.blt t nt=true)
  (k:∀ w',Has B S (aI w' r :: l)→aj R C nt ops rest ((t,w') :: e) S Q) :
  aj R C nt ops ({ dst:=some t,op:=.slice tt x none (some hi) none,type:=ty,pos:=p,after:=af,guard:=g } :: rest) e S Q:=by
 obtain ⟨v',h1,h2⟩:=DT (C:=C) (ρ:=bB e) H hx hh he hu hs hc
 exact aj.val hw h1 ht (k v' h2)
end
end steps
def Ja (ys:List Int) (i c:Int):Option (List Int):=if 0 ≤ i∧i.toNat ≤ ys.length∧(ys.length + 1) * 8 ≤ 140737488355328 then some (ys.take i.toNat ++ c :: ys.drop i.toNat) else none
theorem dL.ins {f:Nat} (h:BS R P f nK) {w rv:AV} {ys r:List Int} {i c:Int} (hr:Ja ys i c=some r):dL R P f [w,.d (.int .i64 i),rv] [gN 1 1 rv [ji c],aI w ys] (fun v l=>l=[aI v r]):=by
 intro B S H
 unfold Ja at hr
 split at hr
 rotate_left 1
 ·
  cases hr
 rename_i hc
 cases hr
 obtain ⟨h0,h1,h2⟩:=hc
 have hp:=gL.1 (H.ok (aI w ys) (by simp))
 obtain ⟨id2,g2,rfl,hH2,hl2⟩:=wW.1 (H.ok (gN 1 1 rv [ji c]) (by simp))
 have H2:Has B S ([gN 1 1 (.eD id2 g2 0 1 1 1) [ji c],aI w ys] ++ []):=by simpa using H
 have e2:iM [gN 1 1 (.eD id2 g2 0 1 1 1) [ji c],aI w ys]=id2 :: aR w:=by simp [iM,aI,gN,bG.fp,aR]
 have hnd:=Has.nd0 H2
 rw [e2,List.nodup_cons] at hnd
 have finish:∀ (w':AV) (id g:Nat) (cs:List AV) (S':St),nK [w,.d (.int .i64 i),.eD id2 g2 0 1 1 1] S=some (w',S')→w'=.eD id g 0 (ys.length + 1) (ys.length + 1) 1→cs=(ys.take i.toNat ++ c :: ys.drop i.toNat).map ji→S'.H.get id=some (.cells g cs)→(∀ j,j ≠ id→S'.H.get j=S.H.get j)→S'.T=S.T→S'.Wf→S.nx ≤ S'.nx→(id ∈ aR w∨S.nx ≤ id) →
   iE R P f [w,.d (.int .i64 i),.eD id2 g2 0 1 1 1] S (fun o=>o.1=none∧∃ v l,Less v o.2.1∧l=[aI v (ys.take i.toNat ++ c :: ys.drop i.toNat)]∧Has B o.2.2 l):=fun w' id g cs S' hprim hv hcs hH hsame hT wf nx hin=>by
  subst hv
  refine (iE.JM h hprim).mono (fun o ho=>?_)
  subst ho
  refine ⟨rfl,_,_,.refl _,rfl,?_⟩
  have:=Has.upd (bs:=[aI (.eD id g 0 (ys.length + 1) (ys.length + 1) 1) (ys.take i.toNat ++ c :: ys.drop i.toNat)]) H2 wf nx (fun j hj hlt=>⟨hsame j (fun q=>?_),by rw [hT]⟩) (fun a ha=>?_) (by simp [iM,aI,bG.fp,aR]) (fun j hj=>?_)
  ·
   simpa using this
  ·
   subst q
   rcases hin with h | h
   ·
    exact hj (by rw [e2]; exact List.mem_cons_of_mem _ h)
   ·
    omega
  ·
   simp only [List.mem_cons,List.not_mem_nil,or_false] at ha
   subst ha
   have hl:(ys.take i.toNat ++ c :: ys.drop i.toNat).length=ys.length + 1:=by simp; omega
   refine gL.2 ⟨rfl,rfl,hl.symm,by omega,cs,hH,by rw [hcs,List.length_map,hl],?_⟩
   rw [hcs,List.take_of_length_le (by rw [List.length_map,hl]; omega)]
  ·
   have:j=id:=by simpa [iM,aI,bG.fp,aR] using hj
   subst this
   rcases hin with h | h
   ·
    exact .inl (by rw [e2]; exact List.mem_cons_of_mem _ h)
   ·
    exact .inr h
 unfold jg at hp
 split at hp
 ·
  subst hp
  have hi0:i=0:=by simp at h1; omega
  subst hi0
  refine finish _ S.nx 0 [ji c] { S with H:=S.H.set S.nx (.cells 0 [ji c]),nx:=S.nx + 1 } ?_ rfl rfl (by simp [AL.aP]) (fun j hj=>by simp only [AL.aP]; rw [if_neg (Ne.symm hj)]) rfl (Cw H.wf _) (Nat.le_succ _) (.inr (Nat.le_refl _))
  simp only [nK,St.look,hH2,Nat.beq_refl,cond_true]
  rw [if_pos ⟨trivial,trivial,trivial,by decide,by simp,by decide⟩]
  rfl
 ·
  rename_i id g off len lim sz'
  obtain ⟨rfl,rfl,rfl,hlim,cs,hH,hcl,hct⟩:=hp
  have hle:ys.length ≤ cs.length:=by have:=congrArg List.length hct; simp at this; omega
  have hne:id2 ≠ id:=fun q=>hnd.1 (by subst q; simp [aR])
  have hlt:id < S.nx:=Has.lt H (jw.2 ⟨aI (.eD id g 0 ys.length lim 1) ys,by simp,by simp [aI,bG.fp,aR]⟩)
  refine finish _ id (g + 1) ((cs.take ys.length).take i.toNat ++ ([ji c].drop 0).take 1 ++ (cs.take ys.length).drop i.toNat) { S with H:=S.H.set id (.cells (g + 1) ((cs.take ys.length).take i.toNat ++ ([ji c].drop 0).take 1 ++ (cs.take ys.length).drop i.toNat)) } ?_ rfl ?_ (by simp only [AL.aP,if_true]) (fun j hj=>by simp only [AL.aP]; rw [if_neg (Ne.symm hj)]) rfl (wf_set H.wf hlt _) (Nat.le_refl _) (.inl (by simp [aR]))
  ·
   simp only [nK,St.look,hH,hH2,Nat.beq_refl,cond_true]
   rw [if_pos ⟨trivial,trivial,trivial,trivial,hne,h0,h1,hle,by decide,by simp,h2⟩]
  ·
   rw [hct]
   simp
 ·
  exact hp.elim
def l7 (w:AV) (i:Nat):AV:=match w with
 | .eD id g off len lim sz=>.eD id g off i lim sz
 | x=>x
def nN (w:AV) (j:Nat):AV:=match w with
 | .eD id g off len lim sz=>if j=lim then .d (.sl [] false) else .eD id g (off + j * sz) (len - j) (lim - j) sz
 | x=>x
def uP (w:AV) (i j:Nat):AV:=match w with
 | .eD id g off len lim sz=>if i=lim then .d (.sl [] false) else .eD id g (off + i * sz) (j - i) (lim - i) sz
 | x=>x
def FZ (w:AV) (n m:Nat):Prop:=∃ id g lim,w=.eD id g 0 n lim 1∧n ≤ m∧m ≤ lim
def GU (ys:List Int) (i j:Int):Option (List Int):=if 0 ≤ i∧i < j∧j ≤ ys.length then some (ys.take i.toNat ++ ys.drop j.toNat) else none
section
variable {C:eT} {ρ:Operand→Option AV} {S:St} {l:List bG} {x lo hi mx:Operand} {t el q:Nat} {w:AV} {ys:List Int} {i j:Int} {k1 k2 k3:IntKind}
theorem jg.eD {n:Int} (h:jg w ys S) (hn:0 < ys.length):∃ id g lim cs,w=.eD id g 0 ys.length lim 1∧0 < lim∧S.H.get id=some (.cells g cs)∧cs.length=lim∧cs.take ys.length=ys.map ji∧ys.length ≤ lim:=by
 unfold jg at h
 split at h
 ·
  subst h; simp at hn
 ·
  obtain ⟨rfl,rfl,rfl,h4,cs,h5,h6,h7⟩:=h
  exact ⟨_,_,_,cs,rfl,h4,h5,h6,h7,by have:=congrArg List.length h7; simp at this; omega⟩
 ·
  exact h.elim
theorem FB (H:Has B S l) (hq:l[q]? = some (aI w ys)) (hx:ρ x=some w) (hh:ρ hi=some (.d (.int k1 i))) (he:bz C.P t=some el) (hu:(C.P.underlying el).isSome=true) (hs:aM C.P el=1) (hb:0 ≤ i∧i < j∧j ≤ ys.length) :
  oper C ρ S (.slice t x none (some hi) none)=some (.val (l7 w i.toNat) S):=by
 obtain ⟨id,g,lim,cs,rfl,h1,h2,h3,h4,h5⟩:=(gL.1 (H.at hq)).eD (n:=0) (by omega)
 simp only [oper,hx,pK,hh,mK,qM,he,iV,asNat,if_pos hb.1]
 rw [if_pos ⟨hs.symm,hu,by decide⟩,if_pos ⟨Nat.zero_le _,by omega⟩,if_neg (by omega)]
 simp [l7]
theorem CB (H:Has B S l) (hq:l[q]? = some (aI w ys)) (hx:ρ x=some w) (hh:ρ lo=some (.d (.int k1 j))) (he:bz C.P t=some el) (hu:(C.P.underlying el).isSome=true) (hs:aM C.P el=1) (hb:0 ≤ i∧i < j∧j ≤ ys.length) :
  oper C ρ S (.slice t x (some lo) none none)=some (.val (nN w j.toNat) S):=by
 obtain ⟨id,g,lim,cs,rfl,h1,h2,h3,h4,h5⟩:=(gL.1 (H.at hq)).eD (n:=0) (by omega)
 simp only [oper,hx,pK,hh,mK,qM,he,iV,asNat,if_pos (show (0:Int) ≤ j by omega)]
 rw [if_pos ⟨hs.symm,hu,by decide⟩,if_pos ⟨by omega,by omega⟩]
 simp only [nN,Option.map_some]
 split <;> rfl
theorem Ia (H:Has B S l) (hq:l[q]? = some (aI w ys)) (hx:ρ x=some w) (hl:ρ lo=some (.d (.int k1 i))) (hh:ρ hi=some (.d (.int k2 j))) (hm:ρ mx=some (.d (.int k3 (ys.length:Int)))) (he:bz C.P t=some el) (hu:(C.P.underlying el).isSome=true) (hs:aM C.P el=1) (hb:0 ≤ i∧i < j∧j ≤ ys.length) :
  oper C ρ S (.slice t x (some lo) (some hi) (some mx))=some (.val .any S):=by
 obtain ⟨id,g,lim,cs,rfl,h1,h2,h3,h4,h5⟩:=(gL.1 (H.at hq)).eD (n:=0) (by omega)
 simp only [oper,hx,pK,hl,hh,hm,mK,qM,he,iV,asNat,if_pos hb.1,if_pos (show (0:Int) ≤ j by omega),if_pos (show (0:Int) ≤ (ys.length:Int) by omega)]
 rw [if_pos ⟨hs.symm,hu,by decide⟩]
 show (Option.map _ (if _ then _ else _))=_
 rw [if_pos ⟨rfl,by omega,by omega,by simpa using h5⟩,if_neg (by omega)]
 rfl
theorem Dp (H:Has B S l) (hq:l[q]? = some (aI w ys)) (hx:ρ x=some w) (hl:ρ lo=some (.d (.int k1 (ys.length:Int)))) (hh:ρ hi=some (.d (.int k2 j))) (he:bz C.P t=some el) (hu:(C.P.underlying el).isSome=true) (hs:aM C.P el=1) (h0:0 ≤ j) (hb:FZ w ys.length j.toNat) :
  oper C ρ S (.slice t x (some lo) (some hi) none)=some (.val (uP w ys.length j.toNat) S):=by
 obtain ⟨id,g,lim,rfl,h1,h2⟩:=hb
 simp only [oper,hx,pK,hl,hh,mK,qM,he,iV,asNat,if_pos h0,if_pos (show (0:Int) ≤ (ys.length:Int) by omega)]
 rw [if_pos ⟨hs.symm,hu,by decide⟩]
 simp only [Int.toNat_natCast]
 rw [if_pos ⟨by omega,h2⟩]
 simp only [uP,Option.map_some]
 split <;> rfl
end
section
variable {C:eT} {nt:Nat} {ops:Array Oper} {rest:List Oper} {e:Env} {S:St} {Q:Stp→Prop} {l:List bG} {t ty:Nat} {p:String} {af:Array Edge} {g:Option (Nat × Bool)} {x y:Operand} {w:AV} {ys r:List Int} {i j:Int}
theorem aj.Li {t1 u el:Nat} (H:Has B S (aI w ys :: l)) (hw:bC ops e { dst:=some t,op:=.call { callee:=.builtin .append,args:=#[x,y],argTypes:=#[t1,u] },type:=ty,pos:=p,after:=af,guard:=g }=some true)
  (hx:bB e x=some (l7 w i.toNat)) (hy:bB e y=some (nN w j.toNat)) (hu:iX C u=true) (he:bz C.P t1=some el) (hs:aM C.P el=1) (hr:GU ys i j=some r) (ht:Nat.blt t nt=true)
  (k:∀ S',Has B S' (aI (l7 w r.length) r :: l)→FZ (l7 w r.length) r.length ys.length→aj R C nt ops rest ((t,l7 w r.length) :: e) S' Q) :
  aj R C nt ops ({ dst:=some t,op:=.call { callee:=.builtin .append,args:=#[x,y],argTypes:=#[t1,u] },type:=ty,pos:=p,after:=af,guard:=g } :: rest) e S Q:=by
 unfold GU at hr
 split at hr
 rotate_left 1
 ·
  cases hr
 rename_i hb
 cases hr
 obtain ⟨b0,b1,b2⟩:=hb
 obtain ⟨id,gg,lim,cs,rfl,h1,h2,h3,h4,h5⟩:=(gL.1 (H.ok _ List.mem_cons_self)).eD (n:=0) (by omega)
 have hlen:(ys.take i.toNat ++ ys.drop j.toNat).length=i.toNat + (ys.length - j.toNat):=by simp; omega
 have hlt:id < S.nx:=Has.lt H (jw.2 ⟨aI (.eD id gg 0 ys.length lim 1) ys,by simp,by simp [aI,bG.fp,aR]⟩)
 have hm:fV (bB e) [x,y]=some [.eD id gg 0 i.toNat lim 1,nN (.eD id gg 0 ys.length lim 1) j.toNat]:=by simp only [fV,hx,hy,Option.map_some,l7]
 have hfact:FZ (l7 (.eD id gg 0 ys.length lim 1) (ys.take i.toNat ++ ys.drop j.toNat).length) (ys.take i.toNat ++ ys.drop j.toNat).length ys.length:=⟨id,gg,lim,rfl,by omega,h5⟩
 have hop:∃ S' cs',oper C (bB e) S (.call { callee:=.builtin .append,args:=#[x,y],argTypes:=#[t1,u] })=some (.val (.eD id gg 0 (i.toNat + (ys.length - j.toNat)) lim 1) S')∧S'.H.get id=some (.cells gg cs')∧(∀ j,j ≠ id→S'.H.get j=S.H.get j)∧S'.T=S.T∧S'.Wf∧S'.nx=S.nx∧cs'.length=lim∧cs'.take (i.toNat + (ys.length - j.toNat))=(ys.take i.toNat ++ ys.drop j.toNat).map ji:=by
  have htk:cs.take i.toNat=(ys.take i.toNat).map ji:=by
   rw [List.map_take,← h4,List.take_take,Nat.min_eq_left (by omega)]
  have hzero:∀ S2:St,S2.H.get id=some (.cells gg cs)→ys.length=j.toNat→cs.take (i.toNat + (ys.length - j.toNat))=(ys.take i.toNat ++ ys.drop j.toNat).map ji:=fun S2 _ hjl=>by
   rw [show i.toNat + (ys.length - j.toNat)=i.toNat by omega,htk,List.drop_of_length_le (by omega),List.append_nil]
  by_cases hj:j.toNat=lim
  ·
   have hjl:ys.length=j.toNat:=by omega
   refine ⟨S,cs,?_,h2,fun _ _=>rfl,rfl,H.wf,rfl,h3,hzero S h2 hjl⟩
   simp only [oper,hm,dK,List.getElem?_toArray,List.getElem?_cons_zero,List.getElem?_cons_succ,hu,if_true,he,nN,if_pos hj]
   simp only [jF,jA,oW,oK,sizes,if_true,List.map_nil,List.flatten_nil,List.length_nil,St.look,h2,Nat.beq_refl,cond_true]
   rw [if_pos ⟨hs.symm,by decide,by omega⟩]
   rw [show i.toNat + (ys.length - j.toNat)=i.toNat by omega]
   rfl
  ·
   have hfrom:nN (.eD id gg 0 ys.length lim 1) j.toNat=.eD id gg (0 + j.toNat * 1) (ys.length - j.toNat) (lim - j.toNat) 1:=by simp only [nN,if_neg hj]
   rw [hfrom] at hm
   have hsrc:jA S 1 (.eD id gg (0 + j.toNat * 1) (ys.length - j.toNat) (lim - j.toNat) 1)=some ((cs.drop (0 + j.toNat * 1)).take ((ys.length - j.toNat) * 1),ys.length - j.toNat):=by
    simp only [jA,oW,St.look,h2,Nat.beq_refl,cond_true]
    rw [if_pos ⟨trivial,by decide,by omega⟩]
   by_cases hn:ys.length - j.toNat=0
   ·
    have hjl:ys.length=j.toNat:=by omega
    refine ⟨S,cs,?_,h2,fun _ _=>rfl,rfl,H.wf,rfl,h3,hzero S h2 hjl⟩
    simp only [oper,hm,dK,List.getElem?_toArray,List.getElem?_cons_zero,List.getElem?_cons_succ,hu,if_true,he]
    simp only [jF,hsrc,St.look,h2,Nat.beq_refl,cond_true]
    rw [if_pos ⟨hs.symm,by decide,by omega⟩,if_pos hn]
    rw [show i.toNat + (ys.length - j.toNat)=i.toNat by omega]
    rfl
   ·
    refine ⟨{ S with H:=S.H.set id (.cells gg (setAt cs i.toNat ((cs.drop j.toNat).take (ys.length - j.toNat)))) },setAt cs i.toNat ((cs.drop j.toNat).take (ys.length - j.toNat)),?_,by simp only [AL.aP,if_true],fun j hj=>by simp only [AL.aP]; rw [if_neg (Ne.symm hj)],rfl,wf_set H.wf hlt _,rfl,by rw [cz,h3],?_⟩
    ·
     simp only [oper,hm,dK,List.getElem?_toArray,List.getElem?_cons_zero,List.getElem?_cons_succ,hu,if_true,he]
     simp only [jF,hsrc,St.look,h2,Nat.beq_refl,cond_true]
     rw [if_pos ⟨hs.symm,by decide,by omega⟩,if_neg hn,if_pos (by omega)]
     simp only [Option.map_some,Nat.zero_add,Nat.mul_one]
     rw [show max lim (i.toNat + (ys.length - j.toNat))=lim by omega]
    ·
     have hsl:((cs.drop j.toNat).take (ys.length - j.toNat)).length=ys.length - j.toNat:=by simp; omega
     have hsplit:setAt cs i.toNat ((cs.drop j.toNat).take (ys.length - j.toNat))=cs.take i.toNat ++ (cs.drop j.toNat).take (ys.length - j.toNat) ++ cs.drop (i.toNat + (ys.length - j.toNat)):=by
      have e0:cs=cs.take i.toNat ++ (cs.drop i.toNat).take (ys.length - j.toNat) ++ cs.drop (i.toNat + (ys.length - j.toNat)):=by
       rw [List.append_assoc,← List.drop_drop,List.take_append_drop,List.take_append_drop]
      have hl1:(cs.take i.toNat).length=i.toNat:=by simp; omega
      have:=qx ((cs.drop j.toNat).take (ys.length - j.toNat)) (cs.take i.toNat) ((cs.drop i.toNat).take (ys.length - j.toNat)) (cs.drop (i.toNat + (ys.length - j.toNat))) (by rw [hsl]; simp; omega)
      rw [hl1,← e0] at this
      exact this
     rw [hsplit,List.take_append_of_le_length (by simp; omega),List.take_of_length_le (by simp; omega),htk]
     rw [List.map_append]
     congr 1
     rw [List.map_drop,← h4,List.drop_take]
 obtain ⟨S',cs',k1,k2,k3,k4,k5,k6,k7,k8⟩:=hop
 have hw2:l7 (.eD id gg 0 ys.length lim 1) (ys.take i.toNat ++ ys.drop j.toNat).length=.eD id gg 0 (i.toNat + (ys.length - j.toNat)) lim 1:=by simp only [l7,hlen]
 refine aj.val hw (by rw [hw2]; exact k1) ht (k S' ?_ hfact)
 rw [hw2]
 refine Has.upd (l0:=[_]) (bs:=[_]) H k5 (by rw [k6]; exact Nat.le_refl _) (fun j hj hlt=>⟨k3 j (fun q=>?_),by rw [k4]⟩) (fun a ha=>?_) (by simp [iM,aI,bG.fp,aR]) (fun j hj=>.inl (by simpa [iM,aI,bG.fp,aR] using hj))
 ·
  subst q; exact hj (by simp [iM,aI,bG.fp,aR])
 ·
  simp only [List.mem_cons,List.not_mem_nil,or_false] at ha
  subst ha
  exact gL.2 ⟨rfl,rfl,hlen.symm,h1,cs',k2,k7,k8⟩
theorem aj.Ip {t1 el:Nat} {zd:D} {jj:Nat} (H:Has B S (aI w ys :: l)) (hw:bC ops e { dst:=none,op:=.call { callee:=.builtin .clear,args:=#[x],argTypes:=#[t1] },type:=ty,pos:=p,after:=af,guard:=g }=some true)
  (hx:bB e x=some (uP w ys.length jj)) (he:bz C.P t1=some el) (hz:zeroOf C.P el=some zd) (hzl:zd.cells.length=1) (hb:FZ w ys.length jj)
  (k:∀ S',Has B S' (aI w ys :: l)→aj R C nt ops rest e S' Q) :
  aj R C nt ops ({ dst:=none,op:=.call { callee:=.builtin .clear,args:=#[x],argTypes:=#[t1] },type:=ty,pos:=p,after:=af,guard:=g } :: rest) e S Q:=by
 obtain ⟨id,gg,lim,rfl,b1,b2⟩:=hb
 have hp:=gL.1 (H.ok _ List.mem_cons_self)
 obtain ⟨_,_,_,hlim,cs,hH,hcl,hct⟩:=hp
 have hlt:id < S.nx:=Has.lt H (jw.2 ⟨aI (.eD id gg 0 ys.length lim 1) ys,by simp,by simp [aI,bG.fp,aR]⟩)
 have hm:fV (bB e) [x]=some [uP (.eD id gg 0 ys.length lim 1) ys.length jj]:=by simp only [fV,hx,Option.map_some]
 by_cases hl:ys.length=lim
 ·
  refine aj.K3 hw (v:=.tup []) (S':=S) ?_ (k S H)
  simp only [oper,hm,dK,List.getElem?_toArray,List.getElem?_cons_zero,he,uP,if_pos hl,qJ]
 ·
  by_cases h0:jj - ys.length=0
  ·
   refine aj.K3 hw (v:=.tup []) (S':=S) ?_ (k S H)
   simp only [oper,hm,dK,List.getElem?_toArray,List.getElem?_cons_zero,he,uP,if_neg hl,qJ,if_pos h0]
  ·
   refine aj.K3 hw (v:=.tup []) (S':={ S with H:=S.H.set id (.cells gg (setAt cs (0 + ys.length * 1) (((List.replicate (jj - ys.length) zd.cells).flatten).map .d))) }) ?_ (k _ ?_)
   ·
    simp only [oper,hm,dK,List.getElem?_toArray,List.getElem?_cons_zero,he,uP,if_neg hl,qJ,if_neg h0,St.look,hH,Nat.beq_refl,cond_true,hz]
    rw [if_pos ⟨hzl,by decide,by omega⟩]
   ·
    refine Has.upd (l0:=[_]) (bs:=[_]) H (wf_set H.wf hlt _) (Nat.le_refl _) (fun j hj _=>⟨?_,rfl⟩) (fun a ha=>?_) (by simp [iM,aI,bG.fp,aR]) (fun j hj=>.inl (by simpa [iM,aI,bG.fp,aR] using hj))
    ·
     simp only [AL.aP]
     rw [if_neg (fun q=>hj (by subst q; simp [iM,aI,bG.fp,aR]))]
    ·
     simp only [List.mem_cons,List.not_mem_nil,or_false] at ha
     subst ha
     refine gL.2 ⟨rfl,rfl,rfl,hlim,_,by simp only [AL.aP,if_true]; rfl,by rw [cz,hcl],?_⟩
     rw [← hct]
     have hfl:((List.replicate (jj - ys.length) zd.cells).flatten.map AV.d).length=jj - ys.length:=by
      rw [List.length_map,List.length_flatten,List.map_replicate,List.sum_replicate_nat,hzl,Nat.mul_one]
     apply List.ext_getElem?
     intro m
     by_cases hmm:m < ys.length
     ·
      rw [List.getElem?_take_of_lt hmm,List.getElem?_take_of_lt hmm,eH _ _ _ _ (by rw [hfl]; omega),if_neg (by omega)]
     ·
      rw [List.getElem?_take_eq_none (by omega),List.getElem?_take_eq_none (by omega)]
end
end
end Go.Ev

namespace Go.Ev
noncomputable section
set_option linter.unusedVariables false
set_option linter.unusedSimpArgs false
variable {R:bO} {P:Program} {B:St}
section
variable {α:Type} {enc:α→D} {kid:α→List Int} {sz k:Nat} {v:AV} {wss:List (List AV)} {xs:List α} {hole:Option Nat} {z:α} {n:Int} {S:St}
variable {C:eT} {ρ:Operand→Option AV} {l:List bG} {x y:Operand} {t ty q off:Nat}
theorem xG (H:Has B S l) (hi:l[q]? = some (aA enc kid sz k v wss xs hole)) (hz:idx xs n=some z) (off:Nat):∃ id g o,bF v n.toNat off=.ptr id g o:=by
 obtain ⟨id,g,ws,a,b,h1,h2,rfl,h4,_⟩:=(gq.1 (H.at hi)).ptr hz off
 exact ⟨_,_,_,rfl⟩
theorem bN (H:Has B S l) (hi:l[q]? = some (aA enc kid sz k v wss xs hole)) (hz:idx xs n=some z) (h:ρ x=some (bF v n.toNat off)):oper C ρ S (.nilCheck x)=some (.val (bF v n.toNat off) S):=by
 obtain ⟨id,g,o,e⟩:=xG H hi hz off
 rw [e] at h ⊢
 exact bI h
theorem lN (H:Has B S l) (hi:l[q]? = some (aA enc kid sz k v wss xs hole)) (hz:idx xs n=some z) (h:ρ x=some (bF v n.toNat off)) (hy:ρ y=some (.d .nilp)) {e:Nat} (hu:C.P.underlying t=some (.pointer e)):oper C ρ S (.binOp .eql t x y ty)=some (.val (.d (.bool false)) S):=by
 obtain ⟨id,g,o,e⟩:=xG H hi hz off
 rw [e] at h
 exact aD h hy (Cm hu)
end
section
variable {C:eT} {nt:Nat} {ops:Array Oper} {rest:List Oper} {e:Env} {S:St} {Q:Stp→Prop} {l:List bG} {t ty:Nat} {p:String} {af:Array Edge} {g:Option (Nat × Bool)} {x y:Operand} {w:AV} {ys r:List Int}
theorem aj.IV {tt ty2 el:Nat} (H:Has B S (aI w ys :: l)) (hw:bC ops e { dst:=some t,op:=.binOp .eql tt x y ty2,type:=ty,pos:=p,after:=af,guard:=g }=some true) (hx:bB e x=some w) (hy:bB e y=some (.d .aS)) (hu:C.P.underlying tt=some (.slice el)) (ht:Nat.blt t nt=true)
  (k:∀ b:Bool,(b=true→ys=[])→(b=false→w ≠ .d .aS)→aj R C nt ops rest ((t,.d (.bool b)) :: e) S Q) :
  aj R C nt ops ({ dst:=some t,op:=.binOp .eql tt x y ty2,type:=ty,pos:=p,after:=af,guard:=g } :: rest) e S Q:=by
 have hp:=gL.1 (H.ok _ List.mem_cons_self)
 unfold jg at hp
 split at hp
 ·
  refine aj.val hw (aD hx hy (r:=.bool true) ?_) ht (k true (fun _=>hp) (fun h=>by cases h))
  simp [jO,AV.eqv,lF,hu]
 ·
  refine aj.val hw (aD hx hy (r:=.bool false) ?_) ht (k false (fun h=>by cases h) (fun _=>by simp))
  simp [jO,AV.eqv,hu]
 ·
  exact hp.elim
theorem KJ:∀ (r:List Int),(((r.map (D.int .i64)).map D.cells).flatten.map AV.d)=r.map ji
 | []=>rfl
 | a :: l=>by simp only [List.map_cons,List.flatten_cons,List.map_append,KJ l]; rfl
theorem aj.Ii {t1 u el nb:Nat} (H:Has B S (aI w ys :: l)) (hw:bC ops e { dst:=some t,op:=.call { callee:=.builtin .append,args:=#[x,y],argTypes:=#[t1,u] },type:=ty,pos:=p,after:=af,guard:=g }=some true)
  (hne:w ≠ .d .aS) (hx:bB e x=some (.d (.sl [] true))) (hy:bB e y=some w) (hnr:C.rowT t1=true) (hu:iX C u=true) (he:bz C.P t1=some el) (hs:aM C.P el=1) (hr:Ev.app nb [] ys=some r) (hnb:bytesOf C.P el=nb) (h0:(Nat.blt 0 nb && Nat.ble nb 65536)=true) (hz:fK C el=true) (ht:Nat.blt t nt=true)
  (k:∀ v S',Has B S' (.row 1 v (r.map (D.int .i64)) :: aI w ys :: l)→aj R C nt ops rest ((t,v) :: e) S' Q) :
  aj R C nt ops ({ dst:=some t,op:=.call { callee:=.builtin .append,args:=#[x,y],argTypes:=#[t1,u] },type:=ty,pos:=p,after:=af,guard:=g } :: rest) e S Q:=by
 obtain ⟨hb,hr'⟩:=mO hr
 rw [List.nil_append] at hr'
 subst hr'
 have hp:=gL.1 (H.ok _ List.mem_cons_self)
 have hm:fV (bB e) [x,y]=some [.d (.sl [] true),w]:=by simp only [fV,hx,hy,Option.map_some]
 have hinfo:(C.P.info? el).isSome=true:=by
  unfold fK at hz
  cases hq:C.P.info? el with
  | none=>rw [hq] at hz; cases hz
  | some x=>rfl
 have hg:pW C el (0 + r.length)=true:=tJ (by simpa using hb) hnb h0 hz
 unfold jg at hp
 split at hp
 ·
  exact (hne rfl).elim
 ·
  rename_i id gg off len lim sz'
  obtain ⟨rfl,rfl,rfl,hlim,cs,hH,hcl,hct⟩:=hp
  have hle:r.length ≤ cs.length:=by have:=congrArg List.length hct; simp at this; omega
  have hsrc:jA S 1 (.eD id gg 0 r.length lim 1)=some (cs.take r.length,r.length):=by
   simp only [jA,oW,St.look,hH,Nat.beq_refl,cond_true]
   rw [if_pos ⟨trivial,by decide,by omega⟩,List.drop_zero,Nat.mul_one]
  by_cases hn:r.length=0
  ·
   have hr0:r=[]:=List.eq_nil_of_length_eq_zero hn
   refine aj.val hw (v:=.d (.sl [] true)) (S':=S) ?_ ht (k _ _ (by subst hr0; exact H.Ll 1))
   simp only [oper,hm,dK,List.getElem?_toArray,List.getElem?_cons_zero,List.getElem?_cons_succ,hu,if_true,he,hnr,cond_true,iC,hs,hsrc]
   rw [if_pos hn,if_pos hinfo]
   rfl
  ·
   refine aj.val hw (v:=.eD S.nx 0 0 r.length r.length 1) (S':=bH S (.cells 0 (r.map ji))) ?_ ht (k _ _ (H.new (.cells 0 (r.map ji)) (a:=.row 1 (.eD S.nx 0 0 r.length r.length 1) (r.map (D.int .i64))) rfl ⟨rfl,by simp,by simp,rfl,by decide,fun z hz=>?_,r.map ji,?_,by simp only [bH,AL.aP,if_true]⟩))
   ·
    simp only [oper,hm,dK,List.getElem?_toArray,List.getElem?_cons_zero,List.getElem?_cons_succ,hu,if_true,he,hnr,cond_true,iC,hs,hsrc]
    rw [if_neg hn,if_pos ⟨hn,by decide,rfl,by simpa using hg⟩,hct]
    simp [bH]
   ·
    obtain ⟨n,hn,rfl⟩:=List.mem_map.1 hz
    exact ⟨rfl,rfl⟩
   ·
    rw [KJ]; exact .refl _
 ·
  exact hp.elim
end
end
end Go.Ev
namespace Go.Ev
theorem EG {ys r:List Int} {i j:Int} (h:GU ys i j=some r):0 ≤ i∧i < j∧j ≤ ys.length:=by
 unfold GU at h
 split at h
 ·
  assumption
 ·
  cases h
theorem zZ {B S:St} {α:Type} {enc:α→D} {kid:α→List Int} {sz k:Nat} {v:AV} {wss:List (List AV)} {xs:List α} {hole:Option Nat} {l:List bG} {i:Nat} (H:Has B S l) (hi:l[i]? = some (aA enc kid sz k v wss xs hole)):v.plain=true∧v.cells=[v]:=by
 have h:=(gq.1 (H.at hi)).2.2.2
 revert h
 split
 ·
  exact fun _=>⟨rfl,rfl⟩
 ·
  exact fun _=>⟨rfl,rfl⟩
 ·
  exact fun q=>q.elim
end Go.Ev
namespace Go.Ev
theorem xD {B S:St} {C:eT} {fn:Func} {e:Env} {l:List bG} (H:Has B S l) {a t i id u:Nat} {cs:List AV} {v y:AV} (hf:fn.results = #[.cell a t,.tmp u]) (ha:AL.get e a=some (.ptr id 0 0)) (hi:l[i]? = some (.box id cs)) (hp:part C.P t cs 0=some v) (hu:AL.get e u=some y):mW C fn e S=some (.tup [v,y]):=by
 have hb:S.H.get id=some (.cells 0 cs):=H.at hi
 simp only [mW,hf,fV,zh,ha,kT,St.look,hb,Nat.beq_refl,cond_true,hp,hu,Option.map_some]
theorem Less.Mw {a a' b b':AV} (h:Less a a') (k:Less b b'):Less (.tup [a,b]) (.tup [a',b']):=fun cx S w v hr=>by
 cases hr with
 | tup _ vs hl hh =>
  refine .tup _ vs hl (fun i x u hx hu=>?_)
  match i with
  | 0=>simp at hx; subst hx; exact h _ _ _ _ (hh 0 _ u rfl hu)
  | 1=>simp at hx; subst hx; exact k _ _ _ _ (hh 1 _ u rfl hu)
  | n + 2=>simp at hx
end Go.Ev
namespace Go.Ev
end Go.Ev

namespace Go.Ev
noncomputable section
set_option linter.unusedVariables false
set_option linter.unusedSimpArgs false
set_option linter.unusedSectionVars false
variable {R:bO} {P:Program} {B:St}
section
variable {κ:Type} [BEq κ] [LawfulBEq κ]
def ED (ek:κ→D):Nat→List (κ × List Int)→List AV→List (D × AV × Nat)
 | i,(k,_) :: l,w :: ws=>(ek k,w,i) :: ED ek (i + 1) l ws
 | _,_,_=>[]
def xu (w:AV) (ys:List Int) (S:St):Prop:=match w with
 | .d .aS=>ys=[]
 | .d (.sl [] _)=>ys=[]
 | .eD id g off len lim sz=>sz=1∧len=ys.length∧len ≤ lim∧∃ cs,S.H.get id=some (.cells g cs)∧(cs.drop off).take len=ys.map ji
 | _=>False
theorem jg.rd {w:AV} {ys:List Int} {S:St} (h:jg w ys S):xu w ys S:=by
 unfold jg at h
 split at h
 ·
  exact h
 ·
  obtain ⟨rfl,rfl,rfl,h4,cs,h5,h6,h7⟩:=h
  exact ⟨rfl,rfl,by have:=congrArg List.length h7; simp at this; omega,cs,h5,by simpa using h7⟩
 ·
  exact h.elim
theorem xu.keep {w:AV} {ys:List Int} {S S':St} (h:xu w ys S) (k:∀ id ∈ aR w,S'.H.get id=S.H.get id):xu w ys S':=by
 unfold xu at *
 split at h
 ·
  exact h
 ·
  exact h
 ·
  obtain ⟨h1,h2,h3,cs,h4,h5⟩:=h
  exact ⟨h1,h2,h3,cs,by rw [k _ (by simp [aR])]; exact h4,h5⟩
 ·
  exact h.elim
theorem xu.live {w:AV} {ys:List Int} {S:St} (h:xu w ys S):∀ id ∈ aR w,∃ b,S.H.get id=some b:=by
 unfold xu at h
 split at h
 ·
  intro id hid; simp [aR] at hid
 ·
  intro id hid; simp [aR] at hid
 ·
  obtain ⟨h1,h2,h3,cs,h4,h5⟩:=h
  intro id hid
  simp only [aR,List.mem_singleton] at hid
  subst hid; exact ⟨_,h4⟩
 ·
  exact h.elim
theorem xu.plain {w:AV} {ys:List Int} {S:St} (h:xu w ys S):w.plain=true:=by
 unfold xu at h
 split at h <;> first | rfl | exact h.elim
def vP (gr:Bool) (w:AV) (ys:List Int) (S:St):Prop:=if gr=true then jg w ys S else xu w ys S
theorem vP.rd {gr:Bool} {w:AV} {ys:List Int} {S:St} (h:vP gr w ys S):xu w ys S:=by
 unfold vP at h; split at h
 ·
  exact h.rd
 ·
  exact h
theorem vP.keep {gr:Bool} {w:AV} {ys:List Int} {S S':St} (h:vP gr w ys S) (k:∀ id ∈ aR w,S'.H.get id=S.H.get id):vP gr w ys S':=by
 unfold vP at *; split at h
 ·
  rename_i e; rw [if_pos e]; exact h.keep k
 ·
  rename_i e; rw [if_neg e]; exact h.keep k
def jk (hole:Option Nat) (ws:List AV):List Nat:=bR 0 hole (ws.map ([·]))
theorem nP {hole:Option Nat} {ws:List AV} {id:Nat}:id ∈ jk hole ws↔∃ i w,ws[i]? = some w∧hole ≠ some i∧id ∈ aR w:=by
 unfold jk
 rw [jm]
 constructor
 ·
  rintro ⟨i,q,h1,h2,h3⟩
  rw [List.getElem?_map,Option.map_eq_some_iff] at h1
  obtain ⟨w,h4,rfl⟩:=h1
  exact ⟨i,w,h4,h2,h3⟩
 ·
  rintro ⟨i,w,h1,h2,h3⟩
  exact ⟨i,[w],by rw [List.getElem?_map,h1]; rfl,h2,h3⟩
theorem qY {ws:List AV} {n:Nat} {w:AV} (h:ws[n]? = some w):(jk none ws).Perm (aR w ++ jk (some n) ws) :=
 kY (k:=0) (wss:=ws.map ([·])) (n:=n) (ws:=[w]) (by rw [List.getElem?_map,h]; rfl)
theorem Hg {ws:List AV} {n:Nat} {w:AV}:jk (some n) (ws.set n w)=jk (some n) ws:=by
 unfold jk; rw [List.map_set,uN]
theorem Hr (ws:List AV) (w:AV):jk none (ws ++ [w])=jk none ws ++ aR w:=by
 unfold jk; rw [List.map_append]; exact uK [w] _
def KP (ek:κ→D) (b:Nat) (kvs:List (κ × List Int)) (ws:List AV) (gr:Bool) (hole:Option Nat) (S:St):Prop :=
 ws.length=kvs.length∧S.H.get b=some (.map { es:=ED ek 0 kvs ws,clk:=kvs.length })∧∀ (i:Nat) (x:κ × List Int) (w:AV),kvs[i]? = some x→ws[i]? = some w→hole ≠ some i→vP gr w x.2 S
def dI (ek:κ→D) (b:Nat) (kvs:List (κ × List Int)) (ws:List AV) (gr:Bool) (hole:Option Nat):bG:=.abs (b :: jk hole ws) (KP ek b kvs ws gr hole)
variable {ek:κ→D} {b:Nat} {kvs:List (κ × List Int)} {ws:List AV} {gr:Bool} {hole:Option Nat} {S S':St}
theorem lJ:(dI ek b kvs ws gr hole).ok S↔KP ek b kvs ws gr hole S:=by
 constructor
 ·
  exact fun h=>h.2 S (fun _ _=>rfl)
 ·
  intro h
  obtain ⟨h1,h2,h3⟩:=id h
  refine ⟨fun id hid=>?_,fun S' e=>⟨h1,by rw [e b List.mem_cons_self]; exact h2,fun i x w hx hw hn=>(h3 i x w hx hw hn).keep (fun id hid=>e id (List.mem_cons_of_mem _ (nP.2 ⟨i,w,hw,hn,hid⟩)))⟩⟩
  rcases List.mem_cons.1 hid with rfl | hid
  ·
   exact ⟨_,h2⟩
  ·
   obtain ⟨i,w,hw,hn,hq⟩:=nP.1 hid
   have hi:i < kvs.length:=by rw [← h1]; exact (List.getElem?_eq_some_iff.1 hw).1
   exact (h3 i _ w (List.getElem?_eq_getElem hi) hw hn).rd.live id hq
theorem q8:iM [dI ek b kvs ws gr hole]=b :: jk hole ws:=by simp [iM,dI,bG.fp]
def mw (kvs:List (κ × List Int)) (ws:List AV) (k:κ):AV:=match gK k kvs 0 with
 | some (i,_)=>ws.getD i .any
 | none=>.d .aS
def yx (kvs:List (κ × List Int)) (k:κ):Option Nat:=(gK k kvs 0).map (·.1)
theorem zn {P:Program} {t:Nat} (K:rE P t ek) (k:κ):∀ (m:List (κ × List Int)) (ws:List AV) (i j:Nat),ws.length=m.length→kN P t (ek k) (ED ek i m ws) j=some ((gK k m j).map fun r=>(r.1,ws.getD (r.1 - j) .any))
 | [],[],i,j,_=>rfl
 | (a,b) :: l,w :: ws,i,j,h=>by
  simp only [ED,kN,K.eq,gK]
  cases hb:k == a with
  | true =>
   have:=eq_of_beq hb
   subst this
   simp [K.same]
  | false =>
   simp only [zn K k l ws (i + 1) (j + 1) (by simpa using h)]
   cases hf:gK k l (j + 1) with
   | none=>rfl
   | some r =>
    have:=(ql k l (j + 1) r.1 r.2 hf).1
    simp only [Option.map_some,Bool.false_eq_true,if_false,Option.some.injEq,Prod.mk.injEq,true_and]
    rw [show r.1 - j=(r.1 - (j + 1)) + 1 by omega]; rfl
theorem wI (k:κ):∀ (m:List (κ × List Int)) (i j:Nat) (v:List Int),gK k m i=some (j,v)→m[j - i]? = some (k,v)
 | [],i,j,v,h=>by simp [gK] at h
 | (a,b) :: l,i,j,v,h=>by
  simp only [gK] at h
  split at h
  ·
   rename_i e
   have:=eq_of_beq e; subst this
   simp only [Option.some.injEq,Prod.mk.injEq] at h; obtain ⟨rfl,rfl⟩:=h; simp
  ·
   have h1:=wI k l (i + 1) j v h
   have:=(ql k l (i + 1) j v h).1
   rw [show j - i=(j - (i + 1)) + 1 by omega]; simpa using h1
section
variable {C:eT} {ρ:Operand→Option AV} {l:List bG} {x y:Operand} {t1 kt et q:Nat} {k:κ}
theorem rz (H:Has B S l) (hi:l[q]? = some (dI ek b kvs ws gr hole)) (hm:ρ x=some (.map b)) (hky:ρ y=some (.d (ek k))) (hk:pQ C t1=some (kt,et)) (K:rE C.P kt ek) (hz:zeroOf C.P et=some .aS) :
  oper C ρ S (.lookup t1 x y false)=some (.val (mw kvs ws k) S):=by
 obtain ⟨h1,h2,h3⟩:=lJ.1 (H.at hi)
 have:kK C t1 S (.map b) (ek k) false=some (mw kvs ws k):=by
  simp only [kK,hk,mapOf,h2,K.ok,if_true,zn K k kvs ws 0 0 h1]
  unfold mw
  cases gK k kvs 0 with
  | none=>simp [hz]
  | some r=>simp
 simp only [oper,hm,hky,this,Option.map_some]
theorem Has.NU {m:vg} (hm:m = { es:=[],clk:=0 }) (H:Has B S (.map b m :: l)):Has B S (dI ek b [] [] true none :: l):=by
 subst hm
 refine Has.qG (l0:=[_]) (bs:=[_]) H (fun a ha=>?_) (by simp [iM,dI,bG.fp,jk,bR]) (fun id hid=>by simpa [iM,dI,bG.fp,jk,bR] using hid)
 simp only [List.mem_cons,List.not_mem_nil,or_false] at ha
 subst ha
 exact lJ.2 ⟨rfl,H.ok _ List.mem_cons_self,fun i x w h=>by simp at h⟩
theorem Has.MO (H:Has B S (dI ek b kvs ws true none :: l)):Has B S (dI ek b kvs ws false none :: l):=by
 refine Has.qG (l0:=[_]) (bs:=[_]) H (fun a ha=>?_) (by have:=Has.nd0 (l0:=[_]) H; rwa [q8] at this ⊢) (fun id hid=>by rw [q8] at hid ⊢; exact hid)
 simp only [List.mem_cons,List.not_mem_nil,or_false] at ha
 subst ha
 obtain ⟨h1,h2,h3⟩:=lJ.1 (H.ok _ List.mem_cons_self)
 exact lJ.2 ⟨h1,h2,fun i x w hx hw hn=>(h3 i x w hx hw hn).rd⟩
theorem Has.L8 (H:Has B S (dI ek b kvs ws true none :: l)) (k:κ):Has B S (aI (mw kvs ws k) (iT kvs k []) :: dI ek b kvs ws true (yx kvs k) :: l):=by
 obtain ⟨h1,h2,h3⟩:=lJ.1 (H.ok _ List.mem_cons_self)
 unfold mw iT Cq yx
 cases hf:gK k kvs 0 with
 | none=>exact H.Io
 | some r =>
  obtain ⟨i,v⟩:=r
  have hg:=wI k kvs 0 i v hf
  rw [Nat.sub_zero] at hg
  have hi:i < ws.length:=by rw [h1]; exact (List.getElem?_eq_some_iff.1 hg).1
  have hw:=List.getElem?_eq_getElem hi
  have hwd:ws.getD i .any=ws[i]:=by rw [List.getD_eq_getElem?_getD,hw]; rfl
  have hv:=h3 i _ _ hg hw (by simp)
  simp only [Option.map_some,Option.getD_some]
  rw [hwd]
  have hnd:=Has.nd0 (l0:=[_]) H
  rw [q8] at hnd
  have hperm:=qY hw
  have e:iM [aI ws[i] v,dI ek b kvs ws true (some i)]=aR ws[i] ++ (b :: jk (some i) ws):=by simp [iM,aI,dI,bG.fp]
  have hp2:(aR ws[i] ++ (b :: jk (some i) ws)).Perm (b :: jk none ws):=List.perm_middle.trans (List.Perm.cons _ hperm.symm)
  refine Has.qG (l0:=[_]) (bs:=[_,_]) H (fun a ha=>?_) (by rw [e]; exact hp2.nodup_iff.2 hnd) (fun id hid=>by rw [q8]; rw [e] at hid; exact hp2.mem_iff.1 hid)
  simp only [List.mem_cons,List.not_mem_nil,or_false] at ha
  rcases ha with rfl | rfl
  ·
   exact gL.2 hv
  ·
   exact lJ.2 ⟨h1,h2,fun j x w hx hw' _=>h3 j x w hx hw' (by simp)⟩
def qz (kvs:List (κ × List Int)) (ws:List AV) (k:κ) (w:AV):List AV:=match gK k kvs 0 with
 | some (i,_)=>ws.set i w
 | none=>ws ++ [w]
theorem Gq:∀ (m:List (κ × List Int)) (ws:List AV) (i j:Nat) (k:κ) (v:List Int) (w:AV),ws.length=m.length→(ED ek i m ws).modify j (fun p=>(ek k,w,p.2.2))=ED ek i (m.set j (k,v)) (ws.set j w)
 | [],[],i,j,k,v,w,h=>by simp [ED]
 | (a,c) :: l,u :: ws,i,0,k,v,w,h=>by simp [ED]
 | (a,c) :: l,u :: ws,i,j + 1,k,v,w,h=>by
  have:=Gq l ws (i + 1) j k v w (by simpa using h)
  simp only [ED,List.set_cons_succ,List.modify_succ_cons,this]
theorem Gs:∀ (m:List (κ × List Int)) (ws:List AV) (i:Nat) (k:κ) (v:List Int) (w:AV),ws.length=m.length→ED ek i m ws ++ [(ek k,w,i + m.length)]=ED ek i (m ++ [(k,v)]) (ws ++ [w])
 | [],[],i,k,v,w,h=>rfl
 | (a,c) :: l,u :: ws,i,k,v,w,h=>by
  have:=Gs l ws (i + 1) k v w (by simpa using h)
  simp only [ED,List.cons_append,List.length_cons]
  rw [show i + (l.length + 1)=i + 1 + l.length by omega,this]
theorem CZ (K:rE C.P kt ek) (hk:pQ C t1=some (kt,et)) (h1:ws.length=kvs.length) (h2:S.H.get b=some (.map { es:=ED ek 0 kvs ws,clk:=kvs.length })) {w:AV} (hp:w.plain=true) (v:List Int) :
  oF C t1 S (.map b) (ek k) w=some { S with H:=S.H.set b (.map { es:=ED ek 0 (jZ kvs k v) (qz kvs ws k w),clk:=(jZ kvs k v).length }) }:=by
 simp only [oF,hk,h2,K.ok,hp,Bool.and_self,if_true,zn K k kvs ws 0 0 h1]
 unfold jZ qz
 cases hf:gK k kvs 0 with
 | none =>
  have:=Gs (ek:=ek) kvs ws 0 k v w h1
  rw [Nat.zero_add] at this
  simp [this]
 | some r=>simp [Gq (ek:=ek) kvs ws 0 r.1 k v w h1]
theorem GA (h1:ws.length=kvs.length) (v:List Int) (w:AV):(qz kvs ws k w).length=(jZ kvs k v).length:=by
 unfold qz jZ
 cases gK k kvs 0 with
 | none=>simp [h1]
 | some r=>simp [h1]
end
end
end
end Go.Ev

namespace Go.Ev
noncomputable section
set_option linter.unusedVariables false
set_option linter.unusedSimpArgs false
set_option linter.unusedSectionVars false
variable {R:bO} {P:Program} {B:St}
section
variable {κ:Type} [BEq κ] [LawfulBEq κ] {ek:κ→D} {b:Nat} {kvs:List (κ × List Int)} {ws:List AV} {gr:Bool} {hole:Option Nat} {S S':St} {k:κ}
theorem IK {v:List Int}:∀ {i:Nat} {x:κ × List Int} {w u:AV},(jZ kvs k v)[i]? = some x→(qz kvs ws k u)[i]? = some w→ws.length=kvs.length →
  (w=u∧x.2=v∧(yx kvs k=some i∨yx kvs k=none∧i=kvs.length))∨(kvs[i]? = some x∧ws[i]? = some w∧yx kvs k ≠ some i):=by
 intro i x w u hx hw h1
 unfold jZ at hx
 unfold qz at hw
 unfold yx
 cases hf:gK k kvs 0 with
 | none =>
  rw [hf] at hx hw
  simp only at hx hw
  by_cases hi:i < kvs.length
  ·
   rw [List.getElem?_append_left hi] at hx
   rw [List.getElem?_append_left (by omega)] at hw
   exact .inr ⟨hx,hw,by simp⟩
  ·
   have hi':i=kvs.length:=by
    have:=(List.getElem?_eq_some_iff.1 hx).1
    simp at this; omega
   subst hi'
   rw [List.getElem?_append_right (Nat.le_refl _)] at hx
   rw [← h1,List.getElem?_append_right (Nat.le_refl _)] at hw
   simp at hx hw
   subst hx; subst hw
   exact .inl ⟨rfl,rfl,.inr ⟨rfl,rfl⟩⟩
 | some r =>
  rw [hf] at hx hw
  simp only at hx hw
  by_cases hi:r.1=i
  ·
   subst hi
   have hlt:r.1 < kvs.length:=by have:=(List.getElem?_eq_some_iff.1 hx).1; simpa using this
   rw [List.getElem?_set_self hlt] at hx
   rw [List.getElem?_set_self (by omega)] at hw
   cases hx; cases hw
   exact .inl ⟨rfl,rfl,.inl rfl⟩
  ·
   rw [List.getElem?_set_ne hi] at hx hw
   exact .inr ⟨hx,hw,by simp [hi]⟩
theorem DY {u:AV} (h1:ws.length=kvs.length):(jk none (qz kvs ws k u)).Perm (aR u ++ jk (yx kvs k) ws):=by
 unfold qz yx
 cases hf:gK k kvs 0 with
 | none=>simp only [Option.map_none]; rw [Hr]; exact List.perm_append_comm
 | some r =>
  simp only [Option.map_some]
  have hg:=(ql k kvs 0 r.1 r.2 hf).2
  have:=qY (ws:=ws.set r.1 u) (n:=r.1) (w:=u) (by rw [List.getElem?_set_self (by omega)])
  rwa [Hg] at this
section
variable {C:eT} {ρ:Operand→Option AV} {l:List bG} {x y:Operand} {t1 kt et q el:Nat} {n:Int} {kk:IntKind}
theorem Ai (H:Has B S l) (hi:l[q]? = some (dI ek b kvs ws gr none)) (k:κ):xu (mw kvs ws k) (iT kvs k []) S:=by
 obtain ⟨h1,h2,h3⟩:=lJ.1 (H.at hi)
 unfold mw iT Cq
 cases hf:gK k kvs 0 with
 | none=>exact (rfl:xu (.d .aS) [] S)
 | some r =>
  obtain ⟨i,v⟩:=r
  have hg:=wI k kvs 0 i v hf
  rw [Nat.sub_zero] at hg
  have hlt:i < ws.length:=by rw [h1]; exact (List.getElem?_eq_some_iff.1 hg).1
  have hw:=List.getElem?_eq_getElem hlt
  have hwd:ws.getD i .any=ws[i]:=by rw [List.getD_eq_getElem?_getD,hw]; rfl
  simp only [Option.map_some,Option.getD_some]
  rw [hwd]
  exact (h3 i _ _ hg hw (by simp)).rd
variable {w:AV} {ys:List Int}
theorem Fp (h:xu w ys S) (hx:ρ x=some w) (ht:(bz C.P t1).isSome=true):oper C ρ S (.call { callee:=.builtin .len,args:=#[x],argTypes:=#[t1] })=some (.val (.d (.int .i64 (ys.length:Int))) S):=by
 have hu:∃ e,C.P.underlying t1=some (.slice e):=by
  unfold bz at ht
  split at ht
  ·
   rename_i hu; exact ⟨_,hu⟩
  ·
   cases ht
 obtain ⟨e,hu⟩:=hu
 unfold xu at h
 split at h
 ·
  subst h; exact mM hx (by simp [nG,hu]) rfl
 ·
  subst h; exact mM hx (by simp [nG,hu]) rfl
 ·
  obtain ⟨_,h2,_⟩:=h; subst h2; exact mM hx (by simp [nG,hu]) rfl
 ·
  exact h.elim
def JE (w:AV) (n:Nat):AV:=match w with
 | .eD id g off _ _ sz=>.ptr id g (off + n * sz)
 | _=>.any
theorem EO (h:xu w ys S) {z:Int} (hz:idx ys n=some z) (hx:ρ x=some w) (hy:ρ y=some (.d (.int kk n))) (he:bz C.P t1=some el) (ha:(eQ C.P el).isSome=true) (hs:aM C.P el=1):oper C ρ S (.indexAddr t1 x y)=some (.val (JE w n.toNat) S):=by
 obtain ⟨h0,h1⟩:=dR hz
 unfold xu at h
 split at h
 ·
  subst h; simp at h1
 ·
  subst h; simp at h1
 ·
  obtain ⟨rfl,rfl,h3,cs,h4,h5⟩:=h
  refine bA hx hy ?_
  simp only [gF,he,h0,ha,decide_true,Bool.and_self,if_true]
  rw [if_pos ⟨(List.getElem?_eq_some_iff.1 h1).1,hs.symm⟩,hs]
  rfl
 ·
  exact h.elim
theorem Ez (h:xu w ys S) {z:Int} (hz:idx ys n=some z) (hx:ρ x=some (JE w n.toNat)) (ha:eQ C.P t1=some false):oper C ρ S (.load t1 x)=some (.val (.d (.int .i64 z)) S):=by
 obtain ⟨h0,h1⟩:=dR hz
 unfold xu at h
 split at h
 ·
  subst h; simp at h1
 ·
  subst h; simp at h1
 ·
  rename_i id g off len lim sz
  obtain ⟨rfl,rfl,h3,cs,h4,h5⟩:=h
  have hlt:=(List.getElem?_eq_some_iff.1 h1).1
  have hc:cs[off + n.toNat]? = some (ji z):=by
   have:((cs.drop off).take ys.length)[n.toNat]? = some (ji z):=by rw [h5,List.getElem?_map,h1]; rfl
   rw [List.getElem?_take_of_lt hlt,List.getElem?_drop] at this
   exact this
  have:part C.P t1 cs (off + n.toNat * 1)=some (ji z):=by
   unfold part; rw [ha,Nat.mul_one]; exact hc
  simp only [JE] at hx
  simp only [oper,hx,kT,St.look,h4,Nat.beq_refl,cond_true,this,Option.map_some]
  rfl
 ·
  exact h.elim
def pX (w:AV) (j:Nat):AV:=match w with
 | .eD id g off len lim sz=>if j=lim then .d (.sl [] false) else .eD id g (off + j * sz) (len - j) (lim - j) sz
 | x=>x
theorem E5 (w:AV) (j:Nat):∀ id ∈ aR (pX w j),id ∈ aR w:=by
 unfold pX
 split
 ·
  split
  ·
   intro id h; simp [aR] at h
  ·
   intro id h; simpa [aR] using h
 ·
  exact fun _ h=>h
theorem Hm {j:Int} {r:List Int} (h:xu w ys S) (hc:cut ys j (ys.length:Int)=some r) (hj:0 < ys.length):xu (pX w j.toNat) r S:=by
 obtain ⟨⟨h0,h1,_⟩,rfl⟩:=yF hc
 unfold xu at h
 split at h
 ·
  subst h; simp at hj
 ·
  subst h; simp at hj
 ·
  rename_i id g off len lim sz
  obtain ⟨rfl,rfl,h3,cs,h4,h5⟩:=h
  unfold pX
  simp only
  split
  ·
   rename_i e
   show ((ys.take ((ys.length:Int)).toNat).drop j.toNat)=[]
   rw [Int.toNat_natCast,List.take_length]
   exact List.drop_of_length_le (by omega)
  ·
   refine ⟨rfl,by simp,by simp; omega,cs,h4,?_⟩
   rw [Int.toNat_natCast,List.take_length,List.map_drop,← h5,List.drop_take,List.drop_drop]
   simp
 ·
  exact h.elim
theorem Ec {j:Int} {r:List Int} {lo:Operand} (h:xu w ys S) (hc:cut ys j (ys.length:Int)=some r) (hj:0 < ys.length) (hx:ρ x=some w) (hl:ρ lo=some (.d (.int kk j))) (he:bz C.P t1=some el) (hu:(C.P.underlying el).isSome=true) (hs:aM C.P el=1) :
  oper C ρ S (.slice t1 x (some lo) none none)=some (.val (pX w j.toNat) S):=by
 obtain ⟨⟨h0,h1,_⟩,_⟩:=yF hc
 unfold xu at h
 split at h
 ·
  subst h; simp at hj
 ·
  subst h; simp at hj
 ·
  rename_i id g off len lim sz
  obtain ⟨rfl,rfl,h3,cs,h4,h5⟩:=h
  simp only [oper,hx,pK,hl,mK,qM,he,iV,asNat,if_pos h0]
  rw [if_pos ⟨hs.symm,hu,by decide⟩,if_pos ⟨by omega,by omega⟩]
  simp only [pX,Option.map_some]
  split <;> rfl
 ·
  exact h.elim
end
section
variable {C:eT} {nt:Nat} {ops:Array Oper} {rest:List Oper} {e:Env} {Q:Stp→Prop} {l:List bG} {ty:Nat} {p:String} {af:Array Edge} {g:Option (Nat × Bool)} {x y z:Operand} {w:AV} {ys:List Int} {t1 kt et:Nat}
theorem Has.II {pre:List bG} {H0:List Nat} (hpre:iM pre=H0) (H:Has B S (pre ++ dI ek b kvs ws gr hole :: l)) (hh:hole=none∨hole=yx kvs k) (hids:∀ id ∈ aR w,id ∈ H0∨(hole=none∧∃ i u,yx kvs k=some i∧ws[i]? = some u∧id ∈ aR u)) (hnw:(aR w).Nodup) (hv:vP gr w ys S) :
  Has B { S with H:=S.H.set b (.map { es:=ED ek 0 (jZ kvs k ys) (qz kvs ws k w),clk:=(jZ kvs k ys).length }) } (dI ek b (jZ kvs k ys) (qz kvs ws k w) gr none :: l):=by
 subst hpre
 have H2:Has B S ((pre ++ [dI ek b kvs ws gr hole]) ++ l):=by simpa using H
 obtain ⟨h1,h2,h3⟩:=lJ.1 (H.ok (dI ek b kvs ws gr hole) (by simp))
 have hnd:=Has.nd0 H2
 have efp:iM (pre ++ [dI ek b kvs ws gr hole])=iM pre ++ (b :: jk hole ws):=by rw [qN,q8]
 rw [efp] at hnd
 have hlt:b < S.nx:=Has.lt H (jw.2 ⟨dI ek b kvs ws gr hole,by simp,by simp [dI,bG.fp]⟩)
 have hnd3:=(List.nodup_append.1 hnd).2.1
 have hb:=(List.nodup_cons.1 hnd3).1
 have hsub:∀ id ∈ jk (yx kvs k) ws,id ∈ jk hole ws:=fun id hid=>by
  rcases hh with rfl | rfl
  ·
   obtain ⟨i,u,q1,q2,q3⟩:=nP.1 hid; exact nP.2 ⟨i,u,q1,by simp,q3⟩
  ·
   exact hid
 have hndk:(jk (yx kvs k) ws).Nodup:=by
  rcases hh with rfl | rfl
  ·
   cases hm:yx kvs k with
   | none=>exact (List.nodup_cons.1 hnd3).2
   | some i =>
    by_cases hi:i < ws.length
    ·
     have:=qY (List.getElem?_eq_getElem hi)
     exact (List.nodup_append.1 (this.nodup_iff.1 (List.nodup_cons.1 hnd3).2)).2.1
    ·
     unfold yx at hm
     cases hf:gK k kvs 0 with
     | none=>rw [hf] at hm; cases hm
     | some r =>
      rw [hf] at hm; simp at hm; subst hm
      have:=(ql k kvs 0 r.1 r.2 hf).2
      omega
  ·
   exact (List.nodup_cons.1 hnd3).2
 have hdis:∀ id ∈ aR w,id ∉ jk (yx kvs k) ws∧id ≠ b:=fun id hid=>by
  rcases hids id hid with h | ⟨rfl,i,u,hm,hu,hq⟩
  ·
   have hd:=(List.nodup_append.1 hnd).2.2 id h
   exact ⟨fun q=>hd id (List.mem_cons_of_mem _ (hsub id q)) rfl,fun q=>hd id (by rw [q]; exact List.mem_cons_self) rfl⟩
  ·
   have:=qY hu
   have hn:=this.nodup_iff.1 (List.nodup_cons.1 hnd3).2
   refine ⟨fun q=>?_,fun q=>hb (by rw [← q]; exact this.mem_iff.2 (List.mem_append_left _ hq))⟩
   rw [hm] at q
   exact (List.nodup_append.1 hn).2.2 id hq id q rfl
 have hperm:=DY (k:=k) (u:=w) h1
 have hidin:∀ id ∈ b :: jk none (qz kvs ws k w),id ∈ iM (pre ++ [dI ek b kvs ws gr hole]):=fun id hid=>by
  rw [efp]
  rcases List.mem_cons.1 hid with rfl | hid
  ·
   exact List.mem_append_right _ List.mem_cons_self
  ·
   rcases List.mem_append.1 (hperm.mem_iff.1 hid) with hid | hid
   ·
    rcases hids id hid with h | ⟨rfl,i,u,hm,hu,hq⟩
    ·
     exact List.mem_append_left _ h
    ·
     exact List.mem_append_right _ (List.mem_cons_of_mem _ (nP.2 ⟨i,u,hu,by simp,hq⟩))
   ·
    exact List.mem_append_right _ (List.mem_cons_of_mem _ (hsub id hid))
 have hbw:b ∉ jk none (qz kvs ws k w):=fun q=>by
  rcases List.mem_append.1 (hperm.mem_iff.1 q) with q | q
  ·
   exact (hdis b q).2 rfl
  ·
   exact hb (hsub b q)
 have hkeep:∀ {u:AV} {vs:List Int},vP gr u vs S→b ∉ aR u→vP gr u vs { S with H:=S.H.set b (.map { es:=ED ek 0 (jZ kvs k ys) (qz kvs ws k w),clk:=(jZ kvs k ys).length }) }:=fun q hq=>q.keep (fun id hid=>by simp only [AL.aP]; rw [if_neg (fun (e:b=id)=>hq (by rw [e]; exact hid))])
 refine Has.upd (bs:=[_]) H2 (wf_set H.wf hlt _) (Nat.le_refl _) (fun j hj _=>⟨?_,rfl⟩) (fun a ha=>?_) ?_ (fun j hj=>.inl ?_)
 ·
  simp only [AL.aP]
  rw [if_neg (fun q=>hj (by rw [efp,← q]; exact List.mem_append_right _ List.mem_cons_self))]
 ·
  simp only [List.mem_cons,List.not_mem_nil,or_false] at ha
  subst ha
  refine lJ.2 ⟨GA h1 ys w,by simp only [AL.aP,if_true],fun i x u hx hu _=>?_⟩
  have hbu:b ∉ aR u:=fun q=>hbw (nP.2 ⟨i,u,hu,by simp,q⟩)
  rcases IK hx hu h1 with ⟨rfl,e2,_⟩ | ⟨q1,q2,q3⟩
  ·
   rw [e2]; exact hkeep hv hbu
  ·
   refine hkeep (h3 i x u q1 q2 ?_) hbu
   rcases hh with rfl | rfl
   ·
    simp
   ·
    exact q3
 ·
  rw [q8]
  refine List.nodup_cons.2 ⟨hbw,hperm.nodup_iff.2 (List.nodup_append.2 ⟨hnw,hndk,fun a ha c hc hac=>?_⟩)⟩
  subst hac; exact (hdis a ha).1 hc
 ·
  rw [q8] at hj; exact hidin j hj
theorem vC (w:AV):(aR w).Nodup:=by unfold aR; split <;> simp
theorem aj.Kc (H:Has B S (aI w ys :: dI ek b kvs ws true (yx kvs k) :: l)) (hw:bC ops e { dst:=none,op:=.mapUpdate t1 x y z,type:=ty,pos:=p,after:=af,guard:=g }=some true) (hm:bB e x=some (.map b)) (hky:bB e y=some (.d (ek k))) (hv:bB e z=some w) (hk:pQ C t1=some (kt,et)) (K:rE C.P kt ek)
  (kk:∀ ws' S',Has B S' (dI ek b (jZ kvs k ys) ws' true none :: l)→aj R C nt ops rest e S' Q) :
  aj R C nt ops ({ dst:=none,op:=.mapUpdate t1 x y z,type:=ty,pos:=p,after:=af,guard:=g } :: rest) e S Q:=by
 have hs:=gL.1 (H.ok _ List.mem_cons_self)
 obtain ⟨h1,h2,h3⟩:=lJ.1 (H.ok (dI ek b kvs ws true (yx kvs k)) (by simp))
 have hupd:=CZ (C:=C) (k:=k) (ws:=ws) (v:=ys) K hk h1 h2 hs.rd.plain
 have:=Has.II (pre:=[aI w ys]) (H0:=aR w) (by simp [iM,aI,bG.fp]) H (.inr rfl) (fun id hid=>.inl hid) (vC w) (by unfold vP; exact hs)
 exact aj.skip hw (by simp only [oper,hm,hky,hv,hupd,Option.map_some]) (kk _ _ this)
theorem aj.JN {j:Int} {r:List Int} (H:Has B S (dI ek b kvs ws false none :: l)) (hw:bC ops e { dst:=none,op:=.mapUpdate t1 x y z,type:=ty,pos:=p,after:=af,guard:=g }=some true) (hm:bB e x=some (.map b)) (hky:bB e y=some (.d (ek k))) (hc:cut (iT kvs k []) j ((iT kvs k []).length:Int)=some r) (hpos:0 < (iT kvs k []).length) (hv:bB e z=some (pX (mw kvs ws k) j.toNat)) (hk:pQ C t1=some (kt,et)) (K:rE C.P kt ek)
  (kk:∀ ws' S',Has B S' (dI ek b (jZ kvs k r) ws' false none :: l)→aj R C nt ops rest e S' Q) :
  aj R C nt ops ({ dst:=none,op:=.mapUpdate t1 x y z,type:=ty,pos:=p,after:=af,guard:=g } :: rest) e S Q:=by
 have hrow:=Ai H (q:=0) rfl k
 have hr:=Hm hrow hc hpos
 obtain ⟨h1,h2,h3⟩:=lJ.1 (H.ok _ List.mem_cons_self)
 have hupd:=CZ (C:=C) (k:=k) (ws:=ws) (v:=r) K hk h1 h2 hr.plain
 have:=Has.II (pre:=[]) (k:=k) (w:=pX (mw kvs ws k) j.toNat) (ys:=r) (H0:=[]) rfl H (.inl rfl) (fun id hid=>.inr ⟨rfl,by
  have h0:=E5 _ _ id hid
  unfold mw at h0
  unfold yx
  cases hf:gK k kvs 0 with
  | none=>rw [hf] at h0; simp [aR] at h0
  | some q =>
   rw [hf] at h0
   have hlt:=(ql k kvs 0 q.1 q.2 hf).2
   have hwi:=List.getElem?_eq_getElem (l:=ws) (i:=q.1) (by omega)
   refine ⟨q.1,_,rfl,hwi,?_⟩
   simp only [List.getD_eq_getElem?_getD,hwi] at h0
   exact h0⟩) (vC _) (by unfold vP; exact hr)
 exact aj.skip hw (by simp only [oper,hm,hky,hv,hupd,Option.map_some]) (kk _ _ this)
end
end
end
end Go.Ev
namespace Go.Ev
theorem F7 {α:Type} {l:List α} {n:Int} {x:α} (h:idx l n=some x):0 < l.length:=by
 have:=(List.getElem?_eq_some_iff.1 (dR h).2).1
 omega
theorem LV {P:Program} {t:Nat} {xs ys:List D} (h:P.eqGuardType P.depth t=false):AV.eqv P t (.d (.agg xs)) (.d (.agg ys))=lF P 20 t (.agg xs) (.agg ys):=by simp [AV.eqv,h]
theorem BN {P:Program} {t:Nat} {fs:Array Field} {xs:List D} (hu:P.underlying t=some (.struct fs)) (h1:xs.all mI=true) (h2:(fs.all fun f=>f.name != "_" && l5 P f.type && (jf P f.type xs f.offset).isSome)=true):nC P t (.agg xs)=true:=by
 simp only [nC,hu,h1,h2,Bool.and_self]
end Go.Ev

namespace Go.Ev
noncomputable section
set_option linter.unusedVariables false
set_option linter.unusedSimpArgs false
variable {R:bO} {P:Program} {B:St}
section
variable {α:Type} {enc:α→D} {C:eT} {S:St} {l:List bG} {v rv:AV} {xs r:List α} {z:α} {c:List AV} {sz:Nat} {x y:Operand} {t el nb u:Nat}
theorem yn {ρ:Operand→Option AV} (H:Has B S (gN sz 1 rv c :: .row sz v (xs.map enc) :: l)) (hx:ρ x=some v) (hy:ρ y=some rv) (hnr:C.rowT t=true) (hu:iX C u=true) (he:bz C.P t=some el) (hs:aM C.P el=sz) (hpos:Nat.blt 0 sz=true)
  (hr:Ev.app nb xs [z]=some r) (hnb:bytesOf C.P el=nb) (h0:(Nat.blt 0 nb && Nat.ble nb 65536)=true) (hz:fK C el=true) (hle:gJ ((enc z).cells.map .d) c) (hzl:(enc z).cells.length=sz) (hzf:kJ (enc z).cells=true) :
  ∃ v' S',oper C ρ S (.call { callee:=.builtin .append,args:=#[x,y],argTypes:=#[t,u] })=some (.val v' S')∧Has B S' (.row sz v' (r.map enc) :: l):=by
 obtain ⟨hb,rfl⟩:=mO hr
 subst hs
 have hpos:0 < aM C.P el:=Nat.le_of_ble_eq_true hpos
 have hm:fV ρ [x,y]=some [v,rv]:=by simp only [fV,hx,hy,Option.map_some]
 have hraw:=wW.1 (H.ok (gN (aM C.P el) 1 rv c) (by simp))
 have hcl:c.length=aM C.P el:=by obtain ⟨_,_,_,_,q⟩:=hraw; omega
 have hsrc:=Cs hraw hpos
 have hg:pW C el (xs.length + 1)=true:=tJ (by simpa using hb) hnb h0 hz
 have hp:=H.ok (.row (aM C.P el) v (xs.map enc)) (by simp)
 have H2:Has B S ([gN (aM C.P el) 1 rv c,.row (aM C.P el) v (xs.map enc)] ++ l):=H
 have e2:iM [gN (aM C.P el) 1 rv c,.row (aM C.P el) v (xs.map enc)]=aR rv ++ (bG.row (aM C.P el) v (xs.map enc)).fp:=by simp [iM,gN,bG.fp]
 have finish:∀ (id g:Nat) (cs:List AV) (S':St),gJ ((((xs ++ [z]).map enc).map D.cells).flatten.map .d) cs→(∀ w ∈ (xs ++ [z]).map enc,w.cells.length=aM C.P el∧kJ w.cells=true)→S'.H.get id=some (.cells g cs)→(∀ j,j ≠ id→S'.H.get j=S.H.get j)→S'.T=S.T→S'.Wf→S.nx ≤ S'.nx→(id ∈ (bG.row (aM C.P el) v (xs.map enc)).fp∨S.nx ≤ id) →
   Has B S' (.row (aM C.P el) (.eD id g 0 (xs.length + 1) (xs.length + 1) (aM C.P el)) ((xs ++ [z]).map enc) :: l):=fun id g cs S' hl hw hH hsame hT wf nx hin=>by
  refine Has.upd (bs:=[_]) H2 wf nx (fun j hj hlt=>⟨hsame j (fun q=>?_),by rw [hT]⟩) (fun a ha=>?_) (by simp [iM,bG.fp]) (fun j hj=>?_)
  ·
   subst q
   rcases hin with h | h
   ·
    exact hj (by rw [e2]; exact List.mem_append_right _ h)
   ·
    omega
  ·
   simp only [List.mem_cons,List.not_mem_nil,or_false] at ha
   subst ha
   exact ⟨rfl,by simp,by simp,rfl,hpos,hw,cs,hl,hH⟩
  ·
   have:j=id:=by simpa [iM,bG.fp] using hj
   subst this
   rcases hin with h | h
   ·
    exact .inl (by rw [e2]; exact List.mem_append_right _ h)
   ·
    exact .inr h
 have first:∀ w,(w=.d .aS∨w=.d (.sl [] true))→xs=[]→∃ v' S',(iC C el S w [] rv).map (fun r=>uq.val r.1 r.2)=some (.val v' S')∧Has B S' (.row (aM C.P el) v' ((xs ++ [z]).map enc) :: l):=fun w hw hxs=>by
  subst hxs
  refine ⟨.eD S.nx 0 0 1 1 (aM C.P el),{ S with H:=S.H.set S.nx (.cells 0 c),nx:=S.nx + 1 },?_,?_⟩
  ·
   simp only [iC,hsrc]
   rw [if_neg (by decide),if_pos ⟨by decide,hpos,rfl,by simpa using hg⟩]
   rfl
  ·
   exact finish S.nx 0 c _ (by simpa using hle) (fun w hw=>by simp at hw; subst hw; exact ⟨hzl,hzf⟩) (by simp [AL.aP]) (fun j hj=>by simp only [AL.aP]; rw [if_neg (Ne.symm hj)]) rfl (Cw H.wf _) (Nat.le_succ _) (.inr (Nat.le_refl _))
 simp only [oper,hm,dK,List.getElem?_toArray,List.getElem?_cons_zero,List.getElem?_cons_succ,hu,if_true,he]
 simp only [bG.ok] at hp
 split at hp
 ·
  simp only [hnr,cond_true]; exact first _ (.inl rfl) (by simpa using hp)
 ·
  simp only [hnr,cond_true]; exact first _ (.inr rfl) (by simpa using hp)
 ·
  rename_i id g off len lim sz'
  obtain ⟨rfl,rfl,rfl,rfl,_,hsz,cs,hcs,hid⟩:=hp
  have hlen:cs.length=xs.length * aM C.P el:=by
   have:=hcs.len
   rw [List.length_map,D5 (fun x hx=>(hsz x hx).1)] at this
   simpa using this.symm
  have hlt:id < S.nx:=Has.lt H (jw.2 ⟨.row (aM C.P el) (.eD id g 0 (xs.map enc).length (xs.map enc).length (aM C.P el)) (xs.map enc),by simp,by simp [bG.fp]⟩)
  refine ⟨.eD id (g + 1) 0 (xs.length + 1) (xs.length + 1) (aM C.P el),{ S with H:=S.H.set id (.cells (g + 1) (cs.take ((xs.map enc).length * aM C.P el) ++ c)) },?_,?_⟩
  ·
   simp only [jF,hsrc,St.look,hid,Nat.beq_refl,cond_true,List.length_map]
   rw [if_pos ⟨trivial,hpos,by omega⟩,if_neg (by decide),if_neg (by omega),if_pos ⟨trivial,hg⟩]
   rfl
  ·
   refine finish id (g + 1) (cs.take ((xs.map enc).length * aM C.P el) ++ c) _ ?_ (fun w hw=>?_) (by simp only [AL.aP,if_true]) (fun j hj=>by simp only [AL.aP]; rw [if_neg (Ne.symm hj)]) rfl (wf_set H.wf hlt _) (Nat.le_refl _) (.inl (by simp [bG.fp]))
   ·
    rw [List.length_map,← hlen,List.take_length]
    simp only [List.map_append,List.flatten_append,List.map_cons,List.map_nil,List.flatten_cons,List.flatten_nil,List.append_nil]
    exact hcs.append hle
   ·
    rw [List.map_append] at hw
    rcases List.mem_append.1 hw with hw | hw
    ·
     exact hsz w hw
    ·
     simp at hw; subst hw; exact ⟨hzl,hzf⟩
 ·
  exact hp.elim
end
section
variable {α:Type} {enc:α→D} {C:eT} {nt:Nat} {ops:Array Oper} {rest:List Oper} {e:Env} {S:St} {Q:Stp→Prop} {l:List bG} {t ty:Nat} {p:String} {af:Array Edge} {g:Option (Nat × Bool)} {x y:Operand} {v rv:AV} {xs r:List α} {z:α} {c:List AV} {sz t1 u el nb:Nat}
theorem aj.zw (H:Has B S (gN sz 1 rv c :: .row sz v (xs.map enc) :: l)) (hw:bC ops e { dst:=some t,op:=.call { callee:=.builtin .append,args:=#[x,y],argTypes:=#[t1,u] },type:=ty,pos:=p,after:=af,guard:=g }=some true)
  (hx:bB e x=some v) (hy:bB e y=some rv) (hnr:C.rowT t1=true) (hu:iX C u=true) (he:bz C.P t1=some el) (hs:aM C.P el=sz) (hpos:Nat.blt 0 sz=true)
  (hr:Ev.app nb xs [z]=some r) (hnb:bytesOf C.P el=nb) (h0:(Nat.blt 0 nb && Nat.ble nb 65536)=true) (hz:fK C el=true) (hle:gJ ((enc z).cells.map .d) c) (hzl:(enc z).cells.length=sz) (hzf:kJ (enc z).cells=true) (ht:Nat.blt t nt=true)
  (kk:∀ v' S',Has B S' (.row sz v' (r.map enc) :: l)→aj R C nt ops rest ((t,v') :: e) S' Q) :
  aj R C nt ops ({ dst:=some t,op:=.call { callee:=.builtin .append,args:=#[x,y],argTypes:=#[t1,u] },type:=ty,pos:=p,after:=af,guard:=g } :: rest) e S Q:=by
 obtain ⟨v',S',h1,h2⟩:=yn (C:=C) (ρ:=bB e) H hx hy hnr hu he hs hpos hr hnb h0 hz hle hzl hzf
 exact aj.val hw h1 ht (kk v' S' h2)
end
end
end Go.Ev

namespace Go.Ev
namespace Pr
set_option linter.unusedVariables false
set_option linter.unusedSimpArgs false
structure Attr where
 Name:Str
 Value:Str
 deriving DecidableEq
def az (x:Attr):D:=.agg [(.str x.Name),(.str x.Value)]
theorem Attr.eq (x:Attr):az x=.agg [(.str x.Name),(.str x.Value)]:=rfl
theorem Attr.cells (x:Attr):(az x).cells=[(.str x.Name),(.str x.Value)]:=by rw [Attr.eq]; rfl
theorem Attr.agg (x:Attr):(az x).isAgg=true:=by rw [Attr.eq]; rfl
theorem Attr.len (x:Attr):(az x).cells.length=2:=by rw [Attr.cells]; rfl
theorem Attr.cn (x:Attr):(az x).cn=az x:=by
 rw [Attr.eq]
 exact Jf (by
  intro d hd
  simp only [List.mem_cons,List.not_mem_nil,or_false] at hd
  rcases hd with rfl | rfl
  ·
   exact rfl
  ·
   exact rfl)
theorem Attr.rF {P:Program} {t:Nat} {x:Attr} (ha:eQ P t=some true) (hz:aM P t=2):jf P t (az x).cells 0=some (az x):=by
 rw [Attr.cells,wE ha hz rfl,Attr.eq]; rfl
def Attr.beq (x y:Attr):Bool:=((x.Name == y.Name) && ((x.Value == y.Value) && true))
structure bf where
 Tag:Str
 Key:Str
 Text:Str
 aL:(List Attr)
def bP (x:bf):D:=.agg [(.str x.Tag),(.str x.Key),(.str x.Text),(.sl ((x.aL).map az) false),.aS]
theorem bf.eq (x:bf):bP x=.agg [(.str x.Tag),(.str x.Key),(.str x.Text),(.sl ((x.aL).map az) false),.aS]:=rfl
theorem bf.cells (x:bf):(bP x).cells=[(.str x.Tag),(.str x.Key),(.str x.Text),(.sl ((x.aL).map az) false),.aS]:=by rw [bf.eq]; rfl
theorem bf.dN (x:bf):(AV.d (bP x)).cells=[.d (.str x.Tag),.d (.str x.Key),.d (.str x.Text),.d (.sl ((x.aL).map az) false),.d .aS]:=by rw [bf.eq]; rfl
theorem bf.agg (x:bf):(bP x).isAgg=true:=by rw [bf.eq]; rfl
theorem bf.len (x:bf):(bP x).cells.length=5:=by rw [bf.cells]; rfl
theorem bf.rF {P:Program} {t:Nat} {x:bf} (ha:eQ P t=some true) (hz:aM P t=5):jf P t (bP x).cells 0=some (bP x):=by
 rw [bf.cells,wE ha hz rfl,bf.eq]; rfl
structure aG where
 lives:Bool
 tag:Str
 key:Str
 text:Str
 attrs:(List Attr)
 parent:Int
def dV (x:aG):D:=.agg [(.bool x.lives),(.str x.tag),(.str x.key),(.str x.text),(.sl ((x.attrs).map az) false),.aS,(.int .i64 x.parent)]
theorem aG.eq (x:aG):dV x=.agg [(.bool x.lives),(.str x.tag),(.str x.key),(.str x.text),(.sl ((x.attrs).map az) false),.aS,(.int .i64 x.parent)]:=rfl
theorem aG.dN (x:aG):(AV.d (dV x)).cells=[.d (.bool x.lives),.d (.str x.tag),.d (.str x.key),.d (.str x.text),.d (.sl ((x.attrs).map az) false),.d .aS,.d (.int .i64 x.parent)]:=by rw [aG.eq]; rfl
structure ah where
 lives:Bool
 tag:Str
 key:Str
 text:Str
 attrs:(List Attr)
 kids:(List Int)
 parent:Int
def ae (x:ah):D:=.agg [(.bool x.lives),(.str x.tag),(.str x.key),(.str x.text),(.sl ((x.attrs).map az) false),(.sl ((x.kids).map (D.int .i64)) false),(.int .i64 x.parent)]
structure ay where
 l:(List ah)
 freed:(List Int)
inductive Tree where
 | mk (Tag:Str) (Key:Str) (Text:Str) (aL:(List Attr)) (Kids:(List Tree))
def Tree.Tag:Tree→Str | .mk x _ _ _ _=>x
def Tree.Key:Tree→Str | .mk _ x _ _ _=>x
def Tree.Text:Tree→Str | .mk _ _ x _ _=>x
def Tree.aL:Tree→(List Attr) | .mk _ _ _ x _=>x
def Tree.Kids:Tree→(List Tree) | .mk _ _ _ _ x=>x
mutual
def ak:Tree→D
 | .mk x0 x1 x2 x3 x4=>.agg [(.str x0),(.str x1),(.str x2),(.sl ((x3).map az) false),.sl (oh x4) false]
def oh:List Tree→List D
 | []=>[]
 | x :: l=>ak x :: oh l
end
theorem wh:∀ (l:List Tree),oh l=l.map ak
 | []=>rfl
 | x :: l=>by rw [oh,wh l]; rfl
theorem Tree.eq (x:Tree):ak x=.agg [(.str x.Tag),(.str x.Key),(.str x.Text),(.sl ((x.aL).map az) false),(.sl ((x.Kids).map ak) false)]:=by
 cases x
 rw [ak,wh]
 rfl
theorem Tree.cells (x:Tree):(ak x).cells=[(.str x.Tag),(.str x.Key),(.str x.Text),(.sl ((x.aL).map az) false),(.sl ((x.Kids).map ak) false)]:=by rw [Tree.eq]; rfl
theorem Tree.dN (x:Tree):(AV.d (ak x)).cells=[.d (.str x.Tag),.d (.str x.Key),.d (.str x.Text),.d (.sl ((x.aL).map az) false),.d (.sl ((x.Kids).map ak) false)]:=by rw [Tree.eq]; rfl
theorem Tree.agg (x:Tree):(ak x).isAgg=true:=by rw [Tree.eq]; rfl
theorem Tree.len (x:Tree):(ak x).cells.length=5:=by rw [Tree.cells]; rfl
mutual
theorem Tree.cn:∀ (x:Tree),(ak x).cn=ak x
 | .mk x0 x1 x2 x3 x4=>by
  rw [ak]
  exact Jf (by
   intro d hd
   simp only [List.mem_cons,List.not_mem_nil,or_false] at hd
   rcases hd with rfl | rfl | rfl | rfl | rfl
   ·
    exact rfl
   ·
    exact rfl
   ·
    exact rfl
   ·
    exact MI Attr.cn _ _
   ·
    exact congrArg (D.sl · false) (Tree.Gx x4))
theorem Tree.Gx:∀ (l:List Tree),D.Gx (oh l)=oh l
 | []=>rfl
 | x :: l=>by rw [oh,D.Gx,Tree.cn x,Tree.Gx l]
end
theorem Tree.rF {P:Program} {t:Nat} {x:Tree} (ha:eQ P t=some true) (hz:aM P t=5):jf P t (ak x).cells 0=some (ak x):=by
 rw [Tree.cells,wE ha hz rfl,Tree.eq]; rfl
structure aY where
 tag:Str
 key:Str
 deriving DecidableEq
def aN (x:aY):D:=.agg [(.str x.tag),(.str x.key)]
theorem aY.eq (x:aY):aN x=.agg [(.str x.tag),(.str x.key)]:=rfl
theorem aY.dN (x:aY):(AV.d (aN x)).cells=[.d (.str x.tag),.d (.str x.key)]:=by rw [aY.eq]; rfl
def aY.beq (x y:aY):Bool:=((x.tag == y.tag) && ((x.key == y.key) && true))
structure dP where
 Under:(List Int)
 Kinds:(List Int)
 Keys:(List Int)
 Texts:(List Int)
def gD (x:dP):D:=.agg [(.sl ((x.Under).map (D.int .i64)) false),(.sl ((x.Kinds).map (D.int .i64)) false),(.sl ((x.Keys).map (D.int .i64)) false),(.sl ((x.Texts).map (D.int .i64)) false)]
theorem dP.eq (x:dP):gD x=.agg [(.sl ((x.Under).map (D.int .i64)) false),(.sl ((x.Kinds).map (D.int .i64)) false),(.sl ((x.Keys).map (D.int .i64)) false),(.sl ((x.Texts).map (D.int .i64)) false)]:=rfl
theorem dP.dN (x:dP):(AV.d (gD x)).cells=[.d (.sl ((x.Under).map (D.int .i64)) false),.d (.sl ((x.Kinds).map (D.int .i64)) false),.d (.sl ((x.Keys).map (D.int .i64)) false),.d (.sl ((x.Texts).map (D.int .i64)) false)]:=by rw [dP.eq]; rfl
theorem dP.agg (x:dP):(gD x).isAgg=true:=by rw [dP.eq]; rfl
theorem dP.inj (x y:dP) (h:gD x=gD y):x=y:=by
 obtain ⟨x0,x1,x2,x3⟩:=x
 obtain ⟨y0,y1,y2,y3⟩:=y
 rw [dP.eq,dP.eq] at h
 have h:=D.agg.inj h
 obtain ⟨h0,h⟩:=List.cons.inj h
 obtain ⟨h1,h⟩:=List.cons.inj h
 obtain ⟨h2,h⟩:=List.cons.inj h
 obtain ⟨h3,h⟩:=List.cons.inj h
 obtain rfl:x0=y0:=(Ck int_inj) _ _ h0
 obtain rfl:x1=y1:=(Ck int_inj) _ _ h1
 obtain rfl:x2=y2:=(Ck int_inj) _ _ h2
 obtain rfl:x3=y3:=(Ck int_inj) _ _ h3
 rfl
def jQ (n:Nat) (a2:ay) (a6:aG):Option (Int × ay) :=
 (if (decide ((IntKind.wrap .i64 (((a2.freed).length:Int) - 1)) < 0))=true then ((app 112 a2.l [(ah.mk (aG.mk true a6.tag a6.key a6.text a6.attrs a6.parent).lives (aG.mk true a6.tag a6.key a6.text a6.attrs a6.parent).tag (aG.mk true a6.tag a6.key a6.text a6.attrs a6.parent).key (aG.mk true a6.tag a6.key a6.text a6.attrs a6.parent).text (aG.mk true a6.tag a6.key a6.text a6.attrs a6.parent).attrs [] (aG.mk true a6.tag a6.key a6.text a6.attrs a6.parent).parent)]).bind fun z17=>(some (((z17).length:Int),(ay.mk z17 a2.freed)))) else ((idx a2.freed (IntKind.wrap .i64 (((a2.freed).length:Int) - 1))).bind fun z38=>((cut a2.freed 0 (IntKind.wrap .i64 (((a2.freed).length:Int) - 1))).bind fun z39=>((idx a2.l (IntKind.wrap .i64 (z38 - 1))).bind fun z46=>(some (z38,(ay.mk (kE a2.l (IntKind.wrap .i64 (z38 - 1)) (ah.mk (aG.mk true a6.tag a6.key a6.text a6.attrs a6.parent).lives (aG.mk true a6.tag a6.key a6.text a6.attrs a6.parent).tag (aG.mk true a6.tag a6.key a6.text a6.attrs a6.parent).key (aG.mk true a6.tag a6.key a6.text a6.attrs a6.parent).text (aG.mk true a6.tag a6.key a6.text a6.attrs a6.parent).attrs [] (aG.mk true a6.tag a6.key a6.text a6.attrs a6.parent).parent)) z39)))))))
def j5 (n:Nat) (a2:ay) (a6:Str):Option (Int × ay) :=
 ((jQ n a2 (aG.mk false [] [] a6 [] 0)).bind fun z7=>(some (z7.1,z7.2)))
def ic (n:Nat) (a2:ay) (a6:Str) (a7:Str):Option (Int × ay) :=
 (if (a6 == [])=true then ((j5 n a2 []).bind fun z9=>(some (z9.1,z9.2))) else ((jQ n a2 (aG.mk false a6 a7 [] [] 0)).bind fun z16=>(some (z16.1,z16.2))))
def tL (n:Nat)  : Option (Option ay) :=
 ((ic n (ay.mk [] []) [114,111,111,116] []).bind fun z7=>(some (some z7.2)))
def gM (n:Nat) (a2:ay) (a6:Int):Option Bool :=
 ((if ((decide (a6 < 1)) || (decide (((a2.l).length:Int) < a6)))=true then some true else ((idx a2.l (IntKind.wrap .i64 (a6 - 1))).bind fun z8=>(some (!z8.lives)))).bind fun z9=>(if z9=true then (some false) else ((idx a2.l (IntKind.wrap .i64 (a6 - 1))).bind fun z12=>(some true))))
def il (n:Nat) (a1:(List Int)):Option (List Int):=app 8 [] a1
def gQ (n:Nat) (a2:ay) (a6:Int):Option (List Int) :=
 ((gM n a2 a6).bind fun z7=>(if z7=true then ((idx a2.l (IntKind.wrap .i64 (a6 - 1))).bind fun z15=>((il n z15.kids).bind fun z16=>(some z16))) else (some [])))
def iU (x17:Int) (again18:(List Int)→Int→Option (List Int)) (x22:(List Int)):Option (List Int) :=
 (again18 (x22) ((IntKind.wrap .i64 (x17 + 1))))
def eG (a2:ay):Nat→(List Int)→Int→Option (List Int)
 | 0,_,_=>none
 | k18 + 1,x15,x17 =>
  (if (decide (x17 < ((a2.l).length:Int)))=true then ((idx a2.l x17).bind fun z25=>(if ((z25.lives && (z25.parent == 0)) && ((IntKind.wrap .i64 (x17 + 1)) != 1))=true then ((app 8 x15 [(IntKind.wrap .i64 (x17 + 1))]).bind fun z34=>(iU x17 (eG a2 k18) (z34))) else (iU x17 (eG a2 k18) (x15)))) else (some x15))
def uo (n:Nat) (a2:ay):Option (List Int) :=
 (eG a2 n ([]) (0))
def cu (n:Nat) (a1:(List Attr)):Option (List Attr):=app 32 [] a1
def fe (self:ay→Int→Option Tree) (a2:ay) (z10:ah) (z16:(List Attr)):Nat→(List Tree)→Int→Option Tree
 | 0,_,_=>none
 | k41 + 1,x38,x40 =>
  (if (decide (x40 < ((z10.kids).length:Int)))=true then ((idx z10.kids x40).bind fun z43=>((self a2 z43).bind fun z48=>((app 96 x38 [z48]).bind fun z52=>((fe self a2 z10 z16 k41) (z52) ((IntKind.wrap .i64 (x40 + 1))))))) else (some (Tree.mk z10.tag z10.key z10.text z16 x38)))
def gB:Nat→ay→Int→Option Tree
 | 0,_,_=>none
 | n + 1,a2,a6 =>
  ((idx a2.l (IntKind.wrap .i64 (a6 - 1))).bind fun z10=>((cu n z10.attrs).bind fun z16=>(fe (gB n) a2 z10 z16 n ([]) (0))))
def iP (n:Nat) (a2:ay) (a6:Int):Option (Tree × Bool) :=
 ((gM n a2 a6).bind fun z10=>(if z10=true then ((idx a2.l (IntKind.wrap .i64 (a6 - 1))).bind fun z20=>((gB n a2 a6).bind fun z21=>(some (z21,true)))) else (some ((Tree.mk [] [] [] [] []),false))))
def dZ (n:Nat) (a2:ay):Option Int :=
 (some (IntKind.wrap .i64 (((a2.l).length:Int) - ((a2.freed).length:Int))))
def bX (a1:(List Int)) (a2:(List Int)):Nat→Int→Option Bool
 | 0,_=>none
 | k12 + 1,x11 =>
  (if (decide (x11 < ((a1).length:Int)))=true then ((idx a1 x11).bind fun z14=>((idx a2 x11).bind fun z15=>(if (z14 != z15)=true then (some false) else ((bX a1 a2 k12) ((IntKind.wrap .i64 (x11 + 1))))))) else (some true))
def gV (n:Nat) (a1:(List Int)) (a2:(List Int)):Option Bool :=
 (if (((a1).length:Int) != ((a2).length:Int))=true then (some false) else (bX a1 a2 n (0)))
def dU (a2:ay) (a7:Int):Nat→Int→Option Bool
 | 0,_=>none
 | k16 + 1,x15 =>
  (if ((x15 != 0) && (x15 != a7))=true then ((idx a2.l (IntKind.wrap .i64 (x15 - 1))).bind fun z19=>((dU a2 a7 k16) (z19.parent))) else (some (x15 == a7)))
def jP (n:Nat) (a2:ay) (a6:Int) (a7:Int):Option Bool :=
 (dU a2 a7 n (a6))
def bQ (a1:(List Int)) (a2:Int):Nat→Int→Option Int
 | 0,_=>none
 | k11 + 1,x10 =>
  (if (decide (x10 < ((a1).length:Int)))=true then ((idx a1 x10).bind fun z13=>(if (a2 == z13)=true then (some x10) else ((bQ a1 a2 k11) ((IntKind.wrap .i64 (x10 + 1)))))) else (some (-1)))
def gu (n:Nat) (a1:(List Int)) (a2:Int):Option Int :=
 (bQ a1 a2 n (0))
def fJ (n:Nat) (a1:(List Int)) (a3:Int) (a4:Int):Option (List Int) :=
 ((GU a1 a3 a4).bind fun z5=>(if (a3 == a4)=true then (some a1) else (some z5)))
def jE (n:Nat) (a2:ay) (a6:Int):Option ay :=
 ((idx a2.l (IntKind.wrap .i64 (a6 - 1))).bind fun z7=>(if (z7.parent == 0)=true then (some a2) else ((idx a2.l (IntKind.wrap .i64 (z7.parent - 1))).bind fun z9=>((idx a2.l (IntKind.wrap .i64 (z7.parent - 1))).bind fun z10=>((gu n z10.kids a6).bind fun z11=>((fJ n z10.kids z11 (IntKind.wrap .i64 (z11 + 1))).bind fun z14=>((idx (kE a2.l (IntKind.wrap .i64 (z7.parent - 1)) (ah.mk z10.lives z10.tag z10.key z10.text z10.attrs z14 z10.parent)) (IntKind.wrap .i64 (a6 - 1))).bind fun z27=>(some (ay.mk (kE (kE a2.l (IntKind.wrap .i64 (z7.parent - 1)) (ah.mk z10.lives z10.tag z10.key z10.text z10.attrs z14 z10.parent)) (IntKind.wrap .i64 (a6 - 1)) (ah.mk z27.lives z27.tag z27.key z27.text z27.attrs z27.kids 0)) a2.freed)))))))))
def fQ (n:Nat) (a2:ay) (a6:Int) (a7:Int) (a8:Int):Option (Bool × ay) :=
 ((gM n a2 a6).bind fun z9=>(if z9=true then ((gM n a2 a7).bind fun z25=>(if z25=true then ((idx a2.l (IntKind.wrap .i64 (a6 - 1))).bind fun z34=>((idx a2.l (IntKind.wrap .i64 (a7 - 1))).bind fun z35=>(if ((z34.tag == []) || (a7 == 1))=true then (some (false,a2)) else ((jP n a2 a6 a7).bind fun z38=>(if z38=true then (some (false,a2)) else ((jE n a2 a7).bind fun z43=>((idx z43.l (IntKind.wrap .i64 (a6 - 1))).bind fun z49=>((Ja z49.kids (vk 0 (wK a8 ((z49.kids).length:Int))) a7).bind fun z56=>((idx (kE z43.l (IntKind.wrap .i64 (a6 - 1)) (ah.mk z49.lives z49.tag z49.key z49.text z49.attrs z56 z49.parent)) (IntKind.wrap .i64 (a7 - 1))).bind fun z85=>(some (true,(ay.mk (kE (kE z43.l (IntKind.wrap .i64 (a6 - 1)) (ah.mk z49.lives z49.tag z49.key z49.text z49.attrs z56 z49.parent)) (IntKind.wrap .i64 (a7 - 1)) (ah.mk z85.lives z85.tag z85.key z85.text z85.attrs z85.kids a6)) z43.freed)))))))))))) else ((idx a2.l (IntKind.wrap .i64 (a6 - 1))).bind fun z32=>(some (false,a2))))) else ((gM n a2 a7).bind fun z16=>(if z16=true then (some (false,a2)) else (some (false,a2))))))
def jG (n:Nat) (a2:ay) (a6:Int) (a7:(List Attr)):Option (Bool × ay) :=
 ((gM n a2 a6).bind fun z8=>(if z8=true then ((idx a2.l (IntKind.wrap .i64 (a6 - 1))).bind fun z16=>(if (z16.tag == [])=true then (some (false,a2)) else ((cu n a7).bind fun z18=>(some (true,(ay.mk (kE a2.l (IntKind.wrap .i64 (a6 - 1)) (ah.mk z16.lives z16.tag z16.key z16.text z18 z16.kids z16.parent)) a2.freed)))))) else (some (false,a2))))
def gP (n:Nat) (self:ay→Tree→Option (Int × ay)) (a6:Tree) (z18:(Int × ay)):Nat→ay→Int→Option (Int × ay)
 | 0,_,_=>none
 | k47 + 1,x42,x46 =>
  (if (decide (x46 < ((a6.Kids).length:Int)))=true then ((idx a6.Kids x46).bind fun z49=>((self x42 z49).bind fun z55=>((fQ n z55.2 z18.1 z55.1 x46).bind fun z62=>((gP n self a6 z18 k47) (z62.2) ((IntKind.wrap .i64 (x46 + 1))))))) else (some (z18.1,x42)))
def iD:Nat→ay→Tree→Option (Int × ay)
 | 0,_,_=>none
 | n + 1,a2,a6 =>
  (if (a6.Tag == [])=true then ((j5 n a2 a6.Text).bind fun z11=>(some (z11.1,z11.2))) else ((ic n a2 a6.Tag a6.Key).bind fun z18=>((jG n z18.2 z18.1 a6.aL).bind fun z25=>(gP n (iD n) a6 z18 n (z25.2) (0)))))
def mY (n:Nat) (a2:ay) (a6:Int) (a7:Str):Option (Bool × ay) :=
 ((gM n a2 a6).bind fun z8=>(if z8=true then ((idx a2.l (IntKind.wrap .i64 (a6 - 1))).bind fun z16=>(if (!(z16.tag == []))=true then (some (false,a2)) else (some (true,(ay.mk (kE a2.l (IntKind.wrap .i64 (a6 - 1)) (ah.mk z16.lives z16.tag z16.key a7 z16.attrs z16.kids z16.parent)) a2.freed))))) else (some (false,a2))))
def oM (n:Nat) (a1:Tree):Option aY :=
 (some (aY.mk a1.Tag a1.Key))
def iJ (x82:Int) (again83:(List (aY × List Int))→(List Int)→Int→Option (List Int)) (x87:(List (aY × List Int))) (x89:(List Int)):Option (List Int) :=
 (again83 (x87) (x89) ((IntKind.wrap .i64 (x82 + 1))))
def dW (n:Nat) (a2:(List Tree)):Nat→(List (aY × List Int))→(List Int)→Int→Option (List Int)
 | 0,_,_,_=>none
 | k83 + 1,x78,x80,x82 =>
  (if (decide (x82 < ((a2).length:Int)))=true then ((idx a2 x82).bind fun z92=>((oM n z92).bind fun z98=>(if (((iT x78 z98 []).length:Int) == 0)=true then ((app 8 x80 [(-1)]).bind fun z104=>(iJ x82 (dW n a2 k83) (x78) (z104))) else ((idx (iT x78 z98 []) 0).bind fun z110=>((app 8 x80 [z110]).bind fun z115=>((oM n z92).bind fun z121=>((cut (iT x78 z98 []) 1 ((iT x78 z98 []).length:Int)).bind fun z122=>(iJ x82 (dW n a2 k83) ((jZ x78 z98 z122)) (z115))))))))) else (some x80))
def fO (n:Nat) (a1:(List Tree)) (a2:(List Tree)):Nat→(List (aY × List Int))→Int→Option (List Int)
 | 0,_,_=>none
 | k20 + 1,x17,x19 =>
  (if (decide (x19 < ((a1).length:Int)))=true then ((idx a1 x19).bind fun z22=>((oM n z22).bind fun z28=>((app 8 (iT x17 z28 []) [x19]).bind fun z36=>((fO n a1 a2 k20) ((jZ x17 z28 z36)) ((IntKind.wrap .i64 (x19 + 1))))))) else (dW n a2 n (x17) ([]) (0)))
def mq (n:Nat) (a1:(List Tree)) (a2:(List Tree)):Option (List Int) :=
 (fO n a1 a2 n ([]) (0))
def jX (n:Nat) (a2:ay) (a6:Int):Option (Bool × ay) :=
 ((gM n a2 a6).bind fun z7=>(if z7=true then ((idx a2.l (IntKind.wrap .i64 (a6 - 1))).bind fun z15=>(if (z15.parent == 0)=true then (some (false,a2)) else ((jE n a2 a6).bind fun z17=>(some (true,z17))))) else (some (false,a2))))
def eY (self:ay→Int→Option ay) (z7:ah):Nat→ay→Int→Option ay
 | 0,_,_=>none
 | k42 + 1,x38,x41 =>
  (if (decide (x41 < ((z7.kids).length:Int)))=true then ((idx z7.kids x41).bind fun z44=>((self x38 z44).bind fun z45=>((eY self z7 k42) (z45) ((IntKind.wrap .i64 (x41 + 1)))))) else (some x38))
def fT:Nat→ay→Int→Option ay
 | 0,_,_=>none
 | n + 1,a2,a6 =>
  ((idx a2.l (IntKind.wrap .i64 (a6 - 1))).bind fun z7=>((app 8 a2.freed [a6]).bind fun z20=>(eY (fT n) z7 n ((ay.mk (kE a2.l (IntKind.wrap .i64 (a6 - 1)) (ah.mk (aG.mk false [] [] [] [] 0).lives (aG.mk false [] [] [] [] 0).tag (aG.mk false [] [] [] [] 0).key (aG.mk false [] [] [] [] 0).text (aG.mk false [] [] [] [] 0).attrs [] (aG.mk false [] [] [] [] 0).parent)) z20)) (0))))
def lT (n:Nat) (a2:ay) (a6:Int):Option (Bool × ay) :=
 ((gM n a2 a6).bind fun z7=>(if z7=true then ((idx a2.l (IntKind.wrap .i64 (a6 - 1))).bind fun z15=>(if ((a6 == 1) || (z15.parent != 0))=true then (some (false,a2)) else ((fT n a2 a6).bind fun z18=>(some (true,z18))))) else (some (false,a2))))
def nI (n:Nat) (a2:ay):Option Int :=
 (some 1)
def jN (n:Nat) (a2:ay) (a6:Int):Option (Int × ay) :=
 ((nI n a2).bind fun z7=>(if (a6 == z7)=true then (some (0,a2)) else ((dZ n a2).bind fun z12=>((jX n a2 a6).bind fun z16=>((lT n z16.2 a6).bind fun z22=>((dZ n z22.2).bind fun z28=>(some ((IntKind.wrap .i64 (z12 - z28)),z22.2))))))))
def fM (n:Nat) (a2:ay) (a6:(List Int)):Nat→(List Tree)→Int→Option (List Tree)
 | 0,_,_=>none
 | k19 + 1,x16,x18 =>
  (if (decide (x18 < ((a6).length:Int)))=true then ((idx a6 x18).bind fun z21=>((iP n a2 z21).bind fun z22=>((app 96 x16 [z22.1]).bind fun z31=>((fM n a2 a6 k19) (z31) ((IntKind.wrap .i64 (x18 + 1))))))) else (some x16))
def oG (n:Nat) (a2:ay) (a6:(List Int)):Option (List Tree) :=
 (fM n a2 a6 n ([]) (0))
def iK (x32:Int) (again33:(List Int)→Int→Option (List Int)) (x37:(List Int)):Option (List Int) :=
 (again33 (x37) ((IntKind.wrap .i64 (x32 + 1))))
def dX (a1:Int) (x14:(List (Int × Int))):Nat→(List Int)→Int→Option (List Int)
 | 0,_,_=>none
 | k33 + 1,x30,x32 =>
  (if (decide (x32 < (vk a1 0)))=true then (if ((iT x14 x32 0) == 0)=true then ((app 8 x30 [x32]).bind fun z41=>(iK x32 (dX a1 x14 k33) (z41))) else (iK x32 (dX a1 x14 k33) (x30))) else (some x30))
def fU (n:Nat) (a1:Int) (a2:(List Int)):Nat→(List (Int × Int))→Int→Option (List Int)
 | 0,_,_=>none
 | k16 + 1,x14,x15 =>
  (if (decide (x15 < ((a2).length:Int)))=true then ((idx a2 x15).bind fun z18=>((fU n a1 a2 k16) ((jZ x14 z18 (IntKind.wrap .i64 ((iT x14 z18 0) + 1)))) ((IntKind.wrap .i64 (x15 + 1))))) else (dX a1 x14 n ([]) (0)))
def oq (n:Nat) (a1:Int) (a2:(List Int)):Option (List Int) :=
 (fU n a1 a2 n ([]) (0))
def iF (x88:Int) (again89:ay→Int→Option (Bool × ay)) (x93:ay):Option (Bool × ay) :=
 (again89 (x93) ((IntKind.wrap .i64 (x88 + 1))))
def dJ (n:Nat) (self:ay→Int→Tree→Option (Bool × ay)) (a6:Int) (a7:Tree) (z36:(List Int)) (z44:(List Int)):Nat→ay→Int→Option (Bool × ay)
 | 0,_,_=>none
 | k89 + 1,x84,x88 =>
  (if (decide (x88 < ((a7.Kids).length:Int)))=true then ((idx a7.Kids x88).bind fun z98=>((idx z44 x88).bind fun z104=>(if (decide (z104 < 0))=true then ((iD n x84 z98).bind fun z106=>((fQ n z106.2 a6 z106.1 x88).bind fun z113=>(iF x88 (dJ n self a6 a7 z36 z44 k89) (z113.2)))) else ((idx z44 x88).bind fun z119=>((idx z36 z119).bind fun z120=>((fQ n x84 a6 z120 x88).bind fun z121=>((idx z44 x88).bind fun z127=>((idx z36 z127).bind fun z128=>((self z121.2 z128 z98).bind fun z129=>(iF x88 (dJ n self a6 a7 z36 z44 k89) (z129.2))))))))))) else (some (true,x84)))
def gz (n:Nat) (self:ay→Int→Tree→Option (Bool × ay)) (a6:Int) (a7:Tree) (z36:(List Int)) (z44:(List Int)) (z48:(List Int)):Nat→ay→Int→Option (Bool × ay)
 | 0,_,_=>none
 | k63 + 1,x59,x62 =>
  (if (decide (x62 < ((z48).length:Int)))=true then ((idx z48 x62).bind fun z65=>((idx z36 z65).bind fun z66=>((jN n x59 z66).bind fun z67=>((gz n self a6 a7 z36 z44 z48 k63) (z67.2) ((IntKind.wrap .i64 (x62 + 1))))))) else (dJ n self a6 a7 z36 z44 n (x59) (0)))
def eB:Nat→ay→Int→Tree→Option (Bool × ay)
 | 0,_,_,_=>none
 | n + 1,a2,a6,a7 =>
  ((iP n a2 a6).bind fun z11=>(if (((!z11.2) || (!(z11.1.Tag == a7.Tag))) || (!(z11.1.Key == a7.Key)))=true then (some (false,a2)) else (if (a7.Tag == [])=true then ((mY n a2 a6 a7.Text).bind fun z24=>(some (z24.1,z24.2))) else ((jG n a2 a6 a7.aL).bind fun z30=>((gQ n z30.2 a6).bind fun z36=>((oG n z30.2 z36).bind fun z40=>((mq n z40 a7.Kids).bind fun z44=>((oq n ((z36).length:Int) z44).bind fun z48=>(gz n (eB n) a6 a7 z36 z44 z48 n (z30.2) (0))))))))))
def bD (x47:ay) (x50:Bool):Option Bool :=
 (some x50)
def iw (n:Nat)  : Option Bool :=
 ((tL n).bind fun z1=>(Jb z1 (some false) (fun x7=>((iD n x7 (Tree.mk [117,108] [] [] [] [(Tree.mk [108,105] [49] [] [] []),(Tree.mk [108,105] [50] [] [] [])])).bind fun z23=>((gQ n z23.2 z23.1).bind fun z30=>((eB n z23.2 z23.1 (Tree.mk [117,108] [] [] [] [(Tree.mk [108,105] [50] [] [] []),(Tree.mk [108,105] [49] [] [] [])])).bind fun z34=>((gQ n z34.2 z23.1).bind fun z41=>(if (z23.1 == 2)=true then (if z34.1=true then (if (((z30).length:Int) == 2)=true then (if (((z41).length:Int) == 2)=true then ((idx z30 0).bind fun z56=>((idx z41 1).bind fun z57=>(if (z56 == z57)=true then ((idx z30 1).bind fun z59=>((idx z41 0).bind fun z60=>(if (z59 == z60)=true then ((jN n z34.2 z23.1).bind fun z62=>(if (z62.1 == 3)=true then ((dZ n z62.2).bind fun z69=>(bD (z62.2) ((z69 == 1)))) else (bD (z62.2) (false)))) else (bD (z34.2) (false))))) else (bD (z34.2) (false))))) else (bD (z34.2) (false))) else (bD (z34.2) (false))) else (bD (z34.2) (false))) else (bD (z34.2) (false))))))))))
def bJ (a1:(List Attr)) (a2:(List Attr)):Nat→Int→Option Bool
 | 0,_=>none
 | k12 + 1,x11 =>
  (if (decide (x11 < ((a1).length:Int)))=true then ((idx a1 x11).bind fun z14=>((idx a2 x11).bind fun z15=>(if (!(Attr.beq z14 z15))=true then (some false) else ((bJ a1 a2 k12) ((IntKind.wrap .i64 (x11 + 1))))))) else (some true))
def fq (n:Nat) (a1:(List Attr)) (a2:(List Attr)):Option Bool :=
 (if (((a1).length:Int) != ((a2).length:Int))=true then (some false) else (bJ a1 a2 n (0)))
def dA (self:Tree→Tree→Option Bool) (a1:Tree) (a2:Tree):Nat→Int→Option Bool
 | 0,_=>none
 | k24 + 1,x23 =>
  (if (decide (x23 < ((a1.Kids).length:Int)))=true then ((idx a1.Kids x23).bind fun z26=>((idx a2.Kids x23).bind fun z27=>((self z26 z27).bind fun z28=>(if (!z28)=true then (some false) else ((dA self a1 a2 k24) ((IntKind.wrap .i64 (x23 + 1)))))))) else (some true))
def dh:Nat→Tree→Tree→Option Bool
 | 0,_,_=>none
 | n + 1,a1,a2 =>
  ((if (((!(a1.Tag == a2.Tag)) || (!(a1.Key == a2.Key))) || (!(a1.Text == a2.Text)))=true then some true else ((fq n a1.aL a2.aL).bind fun z11=>(some (!z11)))).bind fun z12=>(if (z12 || (((a1.Kids).length:Int) != ((a2.Kids).length:Int)))=true then (some false) else (dA (dh n) a1 a2 n (0))))
def eu (a2:Int) (x7:Int):Option Int :=
 (some (IntKind.wrap .i64 (a2 + x7)))
def di (n:Nat) (a1:Int) (a2:Int) (a3:Int):Option Int :=
 ((G9 .i64 a1 (IntKind.wrap .i64 ((IntKind.wrap .i64 (a3 - a2)) + 1))).bind fun z4=>(if (decide (z4 < 0))=true then (eu a2 ((IntKind.wrap .i64 ((IntKind.wrap .i64 ((IntKind.wrap .i64 (z4 + a3)) - a2)) + 1)))) else (eu a2 (z4))))
def jK (n:Nat)  : Option (List Str) :=
 (some [[97],[98],[105,116,101,109],[120,32,121],[37],[97,47,98],[46,46],[122],[49],[108,105,115,116],[255],[63,61,38]])
def eX (n:Nat) (a1:(List Int)) (a2:Int):Option Int :=
 (if (((a1).length:Int) == 0)=true then (some 0) else ((G9 .i64 a2 ((a1).length:Int)).bind fun z4=>((idx a1 z4).bind fun z5=>(some z5))))
def df (a1:(List Int)):Nat→Int→Int→Option Int
 | 0,_,_=>none
 | k13 + 1,x11,x12 =>
  (if ((decide (0 ≤ x11)) && (decide (x12 < 99)))=true then ((idx a1 x11).bind fun z16=>((df a1 k13) (z16) ((IntKind.wrap .i64 (x12 + 1))))) else (some x12))
def iZ (n:Nat) (a1:(List Int)) (a2:Int):Option Int :=
 (df a1 n (a2) (0))
def eO (x24:Int) (again25:(List Tree)→Int→Option Tree) (x29:(List Tree)):Option Tree :=
 (again25 (x29) ((IntKind.wrap .i64 (x24 + 1))))
def bV (self:(List bf)→(List Int)→Int→Option Tree) (a1:(List bf)) (a2:(List Int)) (a3:Int) (z7:bf):Nat→(List Tree)→Int→Option Tree
 | 0,_,_=>none
 | k25 + 1,x22,x24 =>
  (if (decide (x24 < ((a1).length:Int)))=true then ((idx a2 x24).bind fun z32=>(if (z32 == a3)=true then ((self a1 a2 x24).bind fun z34=>((app 96 x22 [z34]).bind fun z35=>(eO x24 (bV self a1 a2 a3 z7 k25) (z35)))) else (eO x24 (bV self a1 a2 a3 z7 k25) (x22)))) else (some (Tree.mk z7.Tag z7.Key z7.Text z7.aL x22)))
def bW:Nat→(List bf)→(List Int)→Int→Option Tree
 | 0,_,_,_=>none
 | n + 1,a1,a2,a3 =>
  ((idx a1 a3).bind fun z7=>(bV (bW n) a1 a2 a3 z7 n ([]) (0)))
def dD (x20:(List bf)) (x22:(List Int)) (x24:Int) (again25:(List bf)→(List Int)→Int→Option Tree) (x44:Str) (x45:Str) (x46:Str) (x47:(List Attr)) (x51:Int):Option Tree :=
 ((app 96 x20 [(bf.mk x44 x45 x46 x47)]).bind fun z53=>((app 8 x22 [x51]).bind fun z57=>(again25 (z53) (z57) ((IntKind.wrap .i64 (x24 + 1))))))
def cZ (n:Nat) (x20:(List bf)) (x22:(List Int)) (x24:Int) (again25:(List bf)→(List Int)→Int→Option Tree) (x32:Int) (x44:Str) (x45:Str) (x46:Str) (x47:(List Attr)):Option Tree :=
 ((iZ n x22 x32).bind fun z61=>(if (decide (6 < z61))=true then (dD x20 x22 x24 again25 x44 x45 x46 x47 (0)) else (dD x20 x22 x24 again25 x44 x45 x46 x47 (x32))))
def dC (n:Nat) (a1:dP) (z8:(List Str)) (x20:(List bf)) (x22:(List Int)) (x24:Int) (again25:(List bf)→(List Int)→Int→Option Tree) (x32:Int) (z66:Str) (x71:Str):Option Tree :=
 ((eX n a1.Texts x24).bind fun z73=>(if ((LM .i64 z73 1) == 1)=true then ((eX n a1.Texts (IntKind.wrap .i64 (x24 + 1))).bind fun z75=>((di n z75 0 (IntKind.wrap .i64 (((z8).length:Int) - 1))).bind fun z76=>((idx z8 z76).bind fun z77=>(cZ n x20 x22 x24 again25 x32 ((bf.mk z66 [] [] []).Tag) (x71) ((bf.mk z66 [] [] []).Text) ([(Attr.mk [120] z77)]))))) else (cZ n x20 x22 x24 again25 x32 ((bf.mk z66 [] [] []).Tag) (x71) ((bf.mk z66 [] [] []).Text) ((bf.mk z66 [] [] []).aL))))
def cO (n:Nat) (a1:dP) (z8:(List Str)) (x20:(List bf)) (x22:(List Int)) (x24:Int) (again25:(List bf)→(List Int)→Int→Option Tree) (x32:Int):Option Tree :=
 ((eX n a1.Texts x24).bind fun z34=>((di n z34 0 (IntKind.wrap .i64 (((z8).length:Int) - 1))).bind fun z35=>((idx z8 z35).bind fun z36=>((eX n a1.Kinds x24).bind fun z63=>((di n z63 0 5).bind fun z64=>(if (decide (z64 < 4))=true then ((idx [[97],[98],[108,105],[111,117,116,108,101,116]] z64).bind fun z66=>((eX n a1.Keys x24).bind fun z83=>((di n z83 0 6).bind fun z84=>(if (decide (z84 < 4))=true then (dC n a1 z8 x20 x22 x24 again25 x32 z66 ((([(IntKind.wrap .u8 (IntKind.wrap .i64 (48 + z84)))]).map fun (n:Int)=>UInt8.ofNat n.toNat))) else (dC n a1 z8 x20 x22 x24 again25 x32 z66 ((bf.mk z66 [] [] []).Key)))))) else (cZ n x20 x22 x24 again25 x32 ((bf.mk [] [] z36 []).Tag) ((bf.mk [] [] z36 []).Key) ((bf.mk [] [] z36 []).Text) ((bf.mk [] [] z36 []).aL))))))))
def aT (n:Nat) (a1:dP) (z8:(List Str)):Nat→(List bf)→(List Int)→Int→Option Tree
 | 0,_,_,_=>none
 | k25 + 1,x20,x22,x24 =>
  (if ((decide (x24 < ((a1.Under).length:Int))) && (decide (x24 < 12)))=true then ((idx a1.Under x24).bind fun z28=>((di n z28 0 (IntKind.wrap .i64 (((x20).length:Int) - 1))).bind fun z29=>((idx x20 z29).bind fun z88=>(if (z88.Tag == [])=true then (cO n a1 z8 x20 x22 x24 (aT n a1 z8 k25) (0)) else (cO n a1 z8 x20 x22 x24 (aT n a1 z8 k25) (z29)))))) else ((bW n x20 x22 0).bind fun z90=>(some z90)))
def fB (n:Nat) (a1:dP):Option Tree :=
 ((jK n).bind fun z8=>(aT n a1 z8 n ([(bf.mk [100,105,118] [] [] [])]) ([(-1)]) (0)))
def fF (self:Tree→Option Int) (a1:Tree):Nat→Int→Int→Option Int
 | 0,_,_=>none
 | k15 + 1,x13,x14 =>
  (if (decide (x14 < ((a1.Kids).length:Int)))=true then ((idx a1.Kids x14).bind fun z17=>((self z17).bind fun z23=>((fF self a1 k15) ((IntKind.wrap .i64 (x13 + z23))) ((IntKind.wrap .i64 (x14 + 1)))))) else (some x13))
def gH:Nat→Tree→Option Int
 | 0,_=>none
 | n + 1,a1 =>
  (fF (gH n) a1 n (1) (0))
def bT (x109:Int) (again110:Int→Option Bool) (x115:Bool):Option Bool :=
 (if x115=true then (some false) else (again110 ((IntKind.wrap .i64 (x109 + 1)))))
def bM (x141:ay) (x144:Bool):Option Bool :=
 (some x144)
def aV (n:Nat) (z22:Tree) (z41:(Int × ay)) (z48:(List Int)) (z52:Int) (z75:(List Int)) (z76:(Bool × ay)) (z84:(List Int)):Nat→Int→Option Bool
 | 0,_=>none
 | k110 + 1,x109 =>
  (if (decide (x109 < ((z75).length:Int)))=true then ((idx z75 x109).bind fun z112=>(if (decide (((z48).length:Int) ≤ z112))=true then (bT x109 (aV n z22 z41 z48 z52 z75 z76 z84 k110) (true)) else (if (decide (0 ≤ z112))=true then ((idx z84 x109).bind fun z120=>((idx z48 z112).bind fun z121=>(bT x109 (aV n z22 z41 z48 z52 z75 z76 z84 k110) ((z120 != z121))))) else (bT x109 (aV n z22 z41 z48 z52 z75 z76 z84 k110) (false))))) else ((eB n z76.2 z41.1 z22).bind fun z122=>(if (!z122.1)=true then (some false) else ((iP n z122.2 z41.1).bind fun z130=>(if z130.2=true then ((dh n z130.1 z22).bind fun z147=>(if z147=true then ((dZ n z122.2).bind fun z149=>(if (z149 == z52)=true then ((jN n z122.2 z41.1).bind fun z154=>((gH n z22).bind fun z160=>(if (z154.1 == z160)=true then ((dZ n z154.2).bind fun z162=>(if (z162 == 1)=true then ((iw n).bind fun z167=>(bM (z154.2) (z167))) else (bM (z154.2) (false)))) else (bM (z154.2) (false))))) else (bM (z122.2) (false)))) else (bM (z122.2) (false)))) else (bM (z122.2) (false)))))))
def bU (n:Nat) (z22:Tree) (z41:(Int × ay)) (z48:(List Int)) (z52:Int) (z75:(List Int)) (z76:(Bool × ay)) (z84:(List Int)) (x99:Bool):Option Bool :=
 (if x99=true then (some false) else (aV n z22 z41 z48 z52 z75 z76 z84 n (0)))
def ib (n:Nat) (a1:dP) (a2:dP):Option Bool :=
 ((tL n).bind fun z9=>(Jb z9 (some false) (fun x15=>((fB n a1).bind fun z22=>((fB n a2).bind fun z23=>((iD n x15 z22).bind fun z41=>((gQ n z41.2 z41.1).bind fun z48=>((dZ n z41.2).bind fun z52=>((eB n z41.2 z41.1 z22).bind fun z56=>(if (!z56.1)=true then (some false) else ((gQ n z56.2 z41.1).bind fun z64=>((gV n z64 z48).bind fun z68=>(if (!z68)=true then (some false) else ((dZ n z56.2).bind fun z70=>(if (z70 != z52)=true then (some false) else ((mq n z22.Kids z23.Kids).bind fun z75=>((eB n z56.2 z41.1 z23).bind fun z76=>(if (!z76.1)=true then (some false) else ((gQ n z76.2 z41.1).bind fun z84=>((iP n z76.2 z41.1).bind fun z88=>(if (!z88.2)=true then (bU n z22 z41 z48 z52 z75 z76 z84 (true)) else ((dh n z88.1 z23).bind fun z202=>(if (!z202)=true then (bU n z22 z41 z48 z52 z75 z76 z84 (true)) else (if (((z84).length:Int) != ((z75).length:Int))=true then (bU n z22 z41 z48 z52 z75 z76 z84 (true)) else ((dZ n z76.2).bind fun z205=>((gH n z23).bind fun z209=>(bU n z22 z41 z48 z52 z75 z76 z84 ((z205 != (IntKind.wrap .i64 (1 + z209)))))))))))))))))))))))))))))))
end Pr
end Go.Ev

import Derived.Test.YtddhgnleekcbiaaGreatDoorPartB
import Derived.Lib.SlTrimSet
import Derived.Lib.Bytealg
import Derived.Lib.Join
import Derived.Shelf.Spec.SlicesInsertGrow
import Derived.Shelf.Strings.Builder1
import Derived.Shelf.Strings.OnBuilder
import Derived.Shelf.Strings.SplitShaped
import Derived.Shelf.Strings.SlTrimAscii
import Derived.Shelf.Small.Strs
import Derived.Shelf.Strings.Cut
import Derived.DataReads
import GoSem.ClaimChange
import Derived.WideShapes
import Derived.ChangeShapes
namespace Go.Ev
set_option linter.unusedVariables false
set_option linter.unusedSimpArgs false
variable {B:St}
abbrev Str:=List UInt8
abbrev Ei {α:Type} (enc:α→D) (l:List α):D:=.sl (l.map enc) false
theorem Less.agg' {cs:List AV} {ds:List D} {d:D} (h:aO cs ds) (hd:d=.agg ds):Less (.d d) (Ev.fF cs):=by subst hd; exact Less.fF h
theorem En {xs:List D} {b:Bool}:Less (.d (.sl xs false)) (.d (.sl xs b)):=(gU.pM xs b).less
theorem Eg {b:Bool}:Less (.d (.sl [] b)) (.d .di):=(gU.di b).less
theorem lC {α:Type} {enc:α→D} {nb:Nat} {l ys r:List α} (h:app nb l ys=some r):((l.map enc).length + (ys.map enc).length) * nb ≤ bound:=by
 have:=(wO h).1
 simpa using this
theorem uD {α:Type} {enc:α→D} {nb:Nat} {l ys r:List α} (h:app nb l ys=some r):l.map enc ++ ys.map enc=r.map enc:=by
 rw [(wO h).2,List.map_append]
def zF (k:IntKind) (a b:Int):Option Int:=if b=0 then none else some (a.tmod b)
def zW (k:IntKind) (a b:Int):Option Int:=if b=0 then none else some (k.wrap (a.tdiv b))
theorem tq {P:Program} {t:Nat} {k:IntKind} {a b z:Int} (h:zF k a b=some z):eQ P t .rem (.d (.int k a)) (.d (.int k b))=some (.int k z):=by
 unfold zF at h
 split at h
 ·
  cases h
 ·
  rename_i hb; rw [Ab hb]; cases h; rfl
theorem zf {P:Program} {t:Nat} {k:IntKind} {a b z:Int} (h:zW k a b=some z):eQ P t .quo (.d (.int k a)) (.d (.int k b))=some (.int k z):=by
 unfold zW at h
 split at h
 ·
  cases h
 ·
  rename_i hb; rw [Ay hb]; cases h; rfl
def cat (a b:Str):Option Str:=if a.length + b.length ≤ 4611686018427387904 then some (a ++ b) else none
theorem nY {P:Program} {t:Nat} {a b z:Str} (h:cat a b=some z):eQ P t .add (.d (.str a)) (.d (.str b))=some (.str z):=by
 unfold cat at h
 split at h
 ·
  rename_i hb; rw [Be hb]; cases h; rfl
 ·
  cases h
section
variable {C:bN} {ρ:Operand→Option AV} {S:St} {x y z:Operand} {t:Nat}
theorem bE {α:Type} {enc:α→D} {l:List α} {b:Bool} {tt:Nat} (h:ρ x=some (.d (.sl (l.map enc) b))) (ht:(aS C.P tt).isSome=true):oper C ρ S (.call { callee:=.builtin .len,args:=#[x],argTypes:=#[tt] })=some (.val (.d (.int .i64 (l.length:Int))) S) :=
 rY h (Aq ht) (by simp [fQ])
theorem sZ {α:Type} {enc:α→D} {xs:List α} {tt:Nat} {S0:St} {l:List bC} (H:Has B S0 l) {i:Nat} {v:AV} (hi:l[i]? = some (.grow v (xs.map enc))) (h:ρ x=some v) (ht:(aS C.P tt).isSome=true):oper C ρ S (.call { callee:=.builtin .len,args:=#[x],argTypes:=#[tt] })=some (.val (.d (.int .i64 (xs.length:Int))) S) :=
 rY h (xz H hi ht) (by rw [yD H hi]; simp)
theorem mZ:∀ (l:List Int),fZ (l.map (D.int .u8))=some (l.map fun n=>UInt8.ofNat n.toNat)
 | []=>rfl
 | n :: l=>by simp only [List.map_cons,fZ,mZ l,Option.map_some]
theorem o6 {src dst:Nat} {l:List Int} {b:Bool} (h:ρ x=some (.d (.sl (l.map (D.int .u8)) b))) (hd:o9 C.P dst=true) (hs:kM C src=true):oper C ρ S (.convert src dst x)=some (.val (.d (.str (l.map fun n=>UInt8.ofNat n.toNat))) S):=by
 simp only [oper,h,rM,hd,hs,Bool.and_self,if_true,mZ,Option.map_some]
def qd (l:List (Nat × Nat)):Nat→Option (Nat × Nat):=fun i=>l[i]?
def placesOf (P:Program) (t:Nat):Option (List (Nat × Nat)):=match P.underlying t with
 | some (.struct fs)=>if fs.all fun f=>(P.underlying f.type).isSome then some (fs.toList.map fun x=>(x.offset,au P x.type)) else none
 | _=>none
theorem nV {l:List (Nat × Nat)} (h:placesOf C.P t=some l):oper.P_place C t=some (qd l):=by
 unfold placesOf at h
 unfold oper.P_place
 split at h
 ·
  rename_i fs hu
  simp only [hu]
  split at h
  ·
   rename_i ha
   rw [if_pos ha]
   simp only [Option.some.injEq] at h
   subst h
   congr 1
   funext i
   simp [qd]
  ·
   cases h
 ·
  cases h
theorem gF {ps:Array (Nat × Operand)} {z:D} {pv:List (Nat × AV)} {pl:Nat→Option (Nat × Nat)} {cs:List AV} (hz:zeroOf C.P t=some z) (he:iQ ρ ps=some pv) (hp:oper.P_place C t=some pl) (hf:fu iR pl (AV.d z).cells pv=some cs):oper C ρ S (.build t ps)=some (.val (fF cs) S):=by
 simp only [oper,hz,he,hp,hf,Option.map_some]
inductive mo (sz:Nat):List AV→List D→Prop
 | nil:mo sz [] []
 | cons {v:AV} {d:D} {vs:List AV} {ds:List D} (h:qO v=some d) (hl:d.cells.length=sz) (k:mo sz vs ds):mo sz (v :: vs) (d :: ds)
def lQ (n:Nat):List AV→List (Nat × AV)
 | []=>[]
 | v :: l=>(n,v) :: lQ (n + 1) l
theorem ug {α:Type}:∀ (l cs:List α) (off:Nat),(setAt cs off l).length=cs.length
 | [],cs,off=>rfl
 | v :: l,cs,off=>by rw [setAt,ug l,List.length_set]
theorem nS {α:Type}:∀ (l a b c:List α),l.length=b.length→setAt (a ++ b ++ c) a.length l=a ++ l ++ c
 | [],a,b,c,h=>by
  have:b=[]:=List.eq_nil_of_length_eq_zero h.symm
  subst this; simp [setAt]
 | v :: l,a,b,c,h=>by
  cases b with
  | nil=>simp at h
  | cons w b =>
   simp only [List.length_cons,Nat.add_right_cancel_iff] at h
   have:=nS l (a ++ [v]) b c h
   simp only [setAt]
   have e:(a ++ w :: b ++ c).set a.length v=a ++ [v] ++ b ++ c:=by
    simp [List.set_append]
   rw [e,show a.length + 1=(a ++ [v]).length by simp,this]
   simp
theorem yc {sz:Nat} {vs:List AV} {ds:List D} (h:mo sz vs ds):∀ (done:List D) (todo:List D),(∀ d ∈ done,d.cells.length=sz)→todo.length=vs.length * sz →
  fu cellsD (fun i=>some (i * sz,sz)) ((done.map D.cells).flatten ++ todo) (lQ done.length vs)=some (((done ++ ds).map D.cells).flatten):=by
 induction h with
 | nil =>
  intro done todo _ ht
  have:todo=[]:=List.eq_nil_of_length_eq_zero (by simpa using ht)
  subst this
  simp [lQ,fu]
 | @cons v d vs ds h hl k ih =>
  intro done todo hd ht
  have hlen:((done.map D.cells).flatten).length=done.length * sz:=by
   clear ih ht
   induction done with
   | nil=>simp
   | cons x l ihl =>
    simp only [List.map_cons,List.flatten_cons,List.length_append,hd x List.mem_cons_self,List.length_cons,ihl (fun d h=>hd d (List.mem_cons_of_mem _ h))]
    rw [Nat.add_mul]; omega
  simp only [List.length_cons] at ht
  rw [Nat.add_mul,Nat.one_mul] at ht
  have hc:cellsD v=some d.cells:=by simp only [cellsD,h]
  simp only [lQ,fu,hc]
  rw [if_pos ⟨hl,by rw [List.length_append,hlen,hl]; omega⟩]
  have e1:todo=todo.take sz ++ todo.drop sz:=(List.take_append_drop sz todo).symm
  have e2:setAt ((done.map D.cells).flatten ++ todo) (done.length * sz) d.cells=((done ++ [d]).map D.cells).flatten ++ todo.drop sz:=by
   rw [e1,← List.append_assoc,← hlen,nS _ _ _ _ (by rw [hl,List.length_take]; omega)]
   simp
  rw [e2]
  have:=ih (done ++ [d]) (todo.drop sz) (fun x hx=>by
   rcases List.mem_append.1 hx with hx | hx
   ·
    exact hd x hx
   ·
    rw [List.mem_singleton.1 hx]; exact hl) (by rw [List.length_drop]; omega)
  rw [show (done ++ [d]).length=done.length + 1 by simp] at this
  rw [this]
  simp
theorem pY {sz:Nat}:∀ (ds:List D),(∀ d ∈ ds,d.cells.length=sz)→chunk sz ds.length ((ds.map D.cells).flatten)=ds.map D.cells
 | [],_=>rfl
 | d :: ds,h=>by
  have hd:=h d List.mem_cons_self
  simp only [List.length_cons,chunk,List.map_cons,List.flatten_cons]
  rw [List.take_append_of_le_length (by omega),List.take_of_length_le (by omega),List.drop_append_of_le_length (by omega),List.drop_of_length_le (by omega),List.nil_append,pY ds (fun d hd=>h d (List.mem_cons_of_mem _ hd))]
theorem qx {ag:Bool}:∀ (ds:List D),(∀ d ∈ ds,if ag=true then d.isAgg=true else d.isAgg=false)→dG (om ag) (ds.map D.cells)=some ds
 | [],_=>rfl
 | d :: ds,h=>by
  have hd:=h d List.mem_cons_self
  have:om ag d.cells=some d:=by
   unfold om
   cases ag with
   | true =>
    simp only [if_true] at hd ⊢
    cases d <;> simp_all [D.isAgg,D.cells]
   | false =>
    simp only [Bool.false_eq_true,if_false] at hd ⊢
    cases d <;> simp_all [D.isAgg,D.cells]
  simp only [List.map_cons,dG,this,qx ds (fun d hd=>h d (List.mem_cons_of_mem _ hd)),Option.map_some]
theorem mo.len {sz:Nat} {vs:List AV} {ds:List D} (h:mo sz vs ds):ds.length=vs.length∧∀ d ∈ ds,d.cells.length=sz:=by
 induction h with
 | nil=>exact ⟨rfl,by simp⟩
 | cons h hl k ih=>exact ⟨by simp [ih.1],fun d hd=>by rcases List.mem_cons.1 hd with rfl | hd; exact hl; exact ih.2 d hd⟩
theorem bY {n el sz:Nat} {ag:Bool} {ps:Array (Nat × Operand)} {zd:D} {vs:List AV} {ds:List D} (hr:C.rowT t=false) (he:aS C.P t=some el) (ha:dA C.P el=some ag) (hz:zeroOf C.P el=some zd) (hs:au C.P el=sz) (hzl:zd.cells.length=sz) (hb:n * sz ≤ 16777216∧0 < n * sz)
  (hv:mo sz vs ds) (hn:vs.length=n) (hg:∀ d ∈ ds,if ag=true then d.isAgg=true else d.isAgg=false) (hev:iQ ρ ps=some (lQ 0 vs)):oper C ρ S (.buildSlice t n ps)=some (.val (.d (.sl ds true)) S):=by
 obtain ⟨k1,k2⟩:=hv.len
 subst hs
 have f1:=yc hv [] ((List.replicate n zd.cells).flatten) (by simp) (by
  rw [List.length_flatten,List.map_replicate,List.sum_replicate_nat,hzl,hn])
 simp only [List.map_nil,List.flatten_nil,List.nil_append,List.length_nil] at f1
 have f2:=pY ds k2
 rw [k1,hn] at f2
 simp only [oper,jK,hr,Bool.false_and,cond_false,he,hev]
 rw [if_pos hb.1,if_neg (by omega)]
 simp only [hz,hzl,if_true,f1,ha,f2,qx ds hg,Option.map_some]
end
end Go.Ev
namespace Go.Ev
end Go.Ev
namespace Go.Ev
variable {B:St}
end Go.Ev
namespace Go.Ev
def uY (u:Option TypeDesc) (a b:D):Option Bool:=match u,a,b with
 | some .bool,.bool a,.bool b=>some (a == b)
 | some (.int _),.int k a,.int k' b=>if k=k' then some (a == b) else none
 | some .string,.str a,.str b=>some (a == b)
 | _,_,_=>none
def uT (P:Program):List Field→List D→List D→Option Bool
 | [],_,_=>some true
 | f :: l,xs,ys=>match f.name == "_", xs[f.offset]?,ys[f.offset]? with
  | false,some a,some b=>(match dA P f.type,uY (P.underlying f.type) a b,uT P l xs ys with
   | some false,some p,some q=>some (p && q)
   | _,_,_=>none)
  | _,_,_=>none
theorem xu {P:Program} {n t:Nat} {a b:D} {p:Bool} (h:uY (P.underlying t) a b=some p):il P (n + 1) t a b=some p:=by
 unfold uY at h
 split at h
 ·
  rename_i hu; simp only [il,hu]; exact h
 ·
  rename_i hu; simp only [il,hu]; exact h
 ·
  rename_i hu; simp only [il,hu]; exact h
 ·
  cases h
theorem og {P:Program} {n:Nat} {xs ys:List D}:∀ (fs:List Field) {b:Bool},uT P fs xs ys=some b→fs.foldr (fun f k=>if f.name = "_" then k else
    match dJ P f.type xs f.offset,dJ P f.type ys f.offset with
    | some a,some b=>match il P (n + 1) f.type a b with
     | some true=>k
     | some false=>some false
     | none=>none
    | _,_=>none) (some true)=some b
 | [],b,h=>h
 | f :: l,b,h=>by
  simp only [uT] at h
  split at h
  ·
   rename_i a c hn hx hy
   split at h
   ·
    rename_i p q ha hp hq
    cases h
    have hne:¬ f.name = "_" := fun e=>by rw [e] at hn; cases hn
    simp only [List.foldr_cons,if_neg hne]
    have h1:dJ P f.type xs f.offset=some a:=by simp only [dJ,ha,hx]
    have h2:dJ P f.type ys f.offset=some c:=by simp only [dJ,ha,hy]
    have ih:=og (n:=n) l hq
    have h3:=xu (n:=n) hp
    simp only [h1,h2,h3]
    cases p with
    | true=>simp only [Bool.true_and]; exact ih
    | false=>simp only [Bool.false_and]
   ·
    cases h
  ·
   cases h
theorem wV {P:Program} {n t:Nat} {fs:Array Field} {xs ys:List D} (hu:P.underlying t=some (.struct fs)) (g2:P.stoodInHeld t=false):il P (n + 1 + 1) t (.agg xs) (.agg ys)=fs.toList.foldr (fun f k=>if f.name = "_" then k else
    match dJ P f.type xs f.offset,dJ P f.type ys f.offset with
    | some a,some b=>match il P (n + 1) f.type a b with
     | some true=>k
     | some false=>some false
     | none=>none
    | _,_=>none) (some true):=by
 generalize n + 1=m
 simp only [il,hu,g2,Bool.false_eq_true,if_false]
 rfl
theorem Bu {P:Program} {t:Nat} {fs:Array Field} {xs ys:List D} {b:Bool} (g1:P.eqGuardType P.depth t=false) (hu:P.underlying t=some (.struct fs)) (g2:P.stoodInHeld t=false) (h:uT P fs.toList xs ys=some b) :
  AV.eqv P t (.d (.agg xs)) (.d (.agg ys))=some b:=by
 have h1:AV.eqv P t (.d (.agg xs)) (.d (.agg ys))=il P 20 t (.agg xs) (.agg ys):=by
  show (if P.eqGuardType P.depth t then none else il P 20 t (.agg xs) (.agg ys))=_
  rw [g1]; rfl
 rw [h1,wV (n:=18) hu g2]
 exact og fs.toList h
theorem xG {P:Program} {t:Nat} {x y:D} {xs ys:List D} {b:Bool} (hx:x=.agg xs) (hy:y=.agg ys) (h:AV.eqv P t (.d (.agg xs)) (.d (.agg ys))=some b):eQ P t .neq (.d x) (.d y)=some (.bool (!b)):=by
 subst hx hy; simp only [eQ,h,Option.map_some]
end Go.Ev

namespace Go.Ev
set_option linter.unusedVariables false
set_option linter.unusedSimpArgs false
variable {B:St}
variable {R:aM} {C:bN} {nt:Nat}
section rules
variable {T:List Fact} {ops:Array Oper} {rest:List (Nat × Oper)} {I K:List Nat} {e:Env} {S S':St} {Q:Env→St→Prop} {l l':List bC} {t ty i:Nat} {p:String} {af:Array Edge} {g:Option (Nat × Bool)} {v:AV} {x y:Operand}
end rules
end Go.Ev
namespace Go.Ev
end Go.Ev
namespace Go.Ev
end Go.Ev

namespace Go.Ev
set_option linter.unusedVariables false
set_option linter.unusedSimpArgs false
variable {R:aM} {C:bN} {P:Program} {nt:Nat} {B:St}
theorem bP.rel {ys xs:List AV} (h:bP ys xs) {cx:Cx} {S:St} {w:World} {us:List Value} (hr:∀ (i:Nat) (x:AV) (u:Value),xs[i]? = some x→us[i]? = some u→av cx S w x u) :
  ∀ (i:Nat) (y:AV) (u:Value),ys[i]? = some y→us[i]? = some u→av cx S w y u:=fun i y u hy hu=>by
 have hlt:i < xs.length:=by rw [← h.len]; exact (List.getElem?_eq_some_iff.1 hy).1
 have hx:=List.getElem?_eq_getElem hlt
 exact h.get hy hx _ _ _ _ (hr i _ u hx hu)
theorem cB.Cc {f:Nat} {args args':List AV} {S:St} {Q:Out→Prop} (h:cB R P f args' S Q) (hl:bP args' args):cB R P f args S Q :=
 ⟨h.1,fun cx w us h1 h2 h3=>h.2 cx w us h1 (by rw [h2,hl.len]) (hl.rel h3)⟩
theorem SpecS.of_wp {f:Nat} {fn:Func} {c:Code} (hf:C.P.funcs[f]? = some fn) (hc:fn.body=some c) (hn:(fn.name == "runtime.NumGoroutine")=false) {args:List AV} (hle:Nat.ble args.length fn.ntmps=true) {S:St} {v:AV}
  (h:S.Wf→aD R C.P fn.ntmps c (iT 0 args) S (BD C fn (fun r=>r.1=none∧eu S r.2.2∧∃ v',kH r.2.1=some v'∧xX v v'))):cB R C.P f args S (fun r=>r=(none,v,S)):=by
 refine ⟨⟨fn,hf,by simp [hc],by simpa using hn⟩,fun cx w us hS hl hr=>?_⟩
 have hs:=cB.of_wp hf hc hn (args:=args) (Nat.le_of_ble_eq_true hle) (h hS.wf)
 refine (hs.2 cx w us hS hl hr).mono (fun e w' he=>?_)
 obtain ⟨⟨p,v1,S1⟩,⟨hp,hk,v',hv,ha⟩,cx1,k1,k2,k3⟩:=he
 simp only at hp hv hk
 subst hp
 obtain ⟨d1,d2⟩:=zI hS.wf k1 k2 (hk.sub hS)
 obtain ⟨u,rfl,k3⟩:=k3
 exact ⟨_,rfl,cx1,d1,d2,u,rfl,ha.rel (jU hv k3 (fun _ _ q=>q))⟩
theorem xZ {ρ:Operand→Option AV} {S:St} {x:Operand} {g:Nat} {caps:List AV} {as_:Array Operand} {ts:Array Nat} {args:List AV} (hx:ρ x=some (.fn g caps)) (ha:dG ρ as_.toList=some args):oper C ρ S (.call { callee:=.value x,args:=as_,argTypes:=ts })=some (.call g (args ++ caps)):=by
 simp only [oper,hx,ha]
theorem sj {ρ:Operand→Option AV} {S:St} {g:Nat} {caps:Array Operand} {cs:List AV} (h:dG ρ caps.toList=some cs):oper C ρ S (.makeFunc (.func g) #[] caps)=some (.val (.fn g cs) S):=by
 simp only [oper,h,Option.map_some]
theorem xY {ρ:Operand→Option AV} {S:St} {l:List bC} {x:Operand} {t id off:Nat} {cs:List AV} {v:AV} (H:Has B S l) (hb:B.H.get id=some (.cells 0 cs)) (h:ρ x=some (.ptr id 0 off)) (hp:part C.P t cs off=some v):oper C ρ S (.load t x)=some (.val v S):=by
 have hb:=H.keeps.H _ _ hb
 simp only [oper,h,iP,St.look,hb,Nat.beq_refl,cond_true,hp,Option.map_some]
end Go.Ev
namespace Go.Ev
theorem gX {pl:Nat→Option (Nat × Nat)} {cells:List AV} {i off size:Nat} {v:AV} {rest:List (Nat × AV)} {cs' r:List AV} (hp:pl i=some (off,size)) (hc:iR v=some cs') (hl:cs'.length=size) (hb:Nat.ble (off + cs'.length) cells.length=true) (k:fu iR pl (setAt cells off cs') rest=some r):fu iR pl cells ((i,v) :: rest)=some r:=by
 simp only [fu,hp,hc]
 rw [if_pos ⟨hl,Nat.le_of_ble_eq_true hb⟩]; exact k
theorem map_nil {α β:Type} {f:α→β} {l:List α} (h:l.map f=[]):l=[]:=List.map_eq_nil_iff.1 h
theorem wE {α:Type} {enc:α→D} {C:bN} {t el:Nat} {l r:List α} {b:Bool} {lo hi:Option D} {x y:Int} (he:aS C.P t=some el) (hu:(C.P.underlying el).isSome=true) (hlen:∀ z,(enc z).cells.length=au C.P el)
  (hlo:eG lo 0=some x.toNat∧0 ≤ x) (hhi:eG hi (l.map enc).length=some y.toNat∧0 ≤ y) (h:cut l x y=some r):∃ b',mH C t (l.map enc) b lo hi none=some (.sl (r.map enc) b')∧(b=false→b'=false):=by
 obtain ⟨⟨h1,h2,h3⟩,rfl⟩:=qC h
 have hh:qH (au C.P el) (l.map enc)=true:=by
  cases l with
  | nil=>rfl
  | cons z l=>simp [qH,hlen]
 refine ⟨b && Nat.beq y.toNat (l.map enc).length,?_,fun h=>by rw [h]; rfl⟩
 have e1:decide (x.toNat ≤ y.toNat)=true:=decide_eq_true (by omega)
 have e2:decide (y.toNat ≤ (l.map enc).length)=true:=decide_eq_true (by simp; omega)
 simp only [mH,he,hh,hu,Bool.and_self,if_true,hlo.1,hhi.1,e1,e2]
 simp [List.map_take,List.map_drop]
section
variable {α:Type} {enc:α→D} {C:bN} {ρ:Operand→Option AV} {S:St} {t el:Nat} {x lo hi:Operand} {l r:List α} {k k':IntKind} {a c:Int}
theorem tX {k:IntKind} {a:Int} (h:0 ≤ a):asNat (.int k a)=some a.toNat:=by simp only [asNat,if_pos h]
theorem yo (hx:ρ x=some (.d (.sl (l.map enc) false))) (hl:ρ lo=some (.d (.int k a))) (he:aS C.P t=some el) (hu:(C.P.underlying el).isSome=true) (hlen:∀ z,(enc z).cells.length=au C.P el) (h:cut l a (l.length:Int)=some r) :
  oper C ρ S (.slice t x (some lo) none none)=some (.val (.d (.sl (r.map enc) false)) S):=by
 have hb:=(qC h).1
 obtain ⟨b',h1,h2⟩:=wE (C:=C) (b:=false) (lo:=some (.int k a)) (hi:=none) he hu hlen ⟨tX (k:=k) hb.1,hb.1⟩ ⟨by simp [eG],by omega⟩ h
 rw [h2 rfl] at h1
 simp only [oper,hx,lN,hl,mX,h1,Option.map_some]
theorem xH (hx:ρ x=some (.d (.sl (l.map enc) false))) (hh:ρ hi=some (.d (.int k' c))) (he:aS C.P t=some el) (hu:(C.P.underlying el).isSome=true) (hlen:∀ z,(enc z).cells.length=au C.P el) (h:cut l 0 c=some r) :
  oper C ρ S (.slice t x none (some hi) none)=some (.val (.d (.sl (r.map enc) false)) S):=by
 have hb:=(qC h).1
 obtain ⟨b',h1,h2⟩:=wE (C:=C) (b:=false) (lo:=none) (hi:=some (.int k' c)) he hu hlen ⟨rfl,by omega⟩ ⟨tX (k:=k') (by omega),by omega⟩ h
 rw [h2 rfl] at h1
 simp only [oper,hx,lN,hh,mX,h1,Option.map_some]
end
section
variable {C:bN} {ρ:Operand→Option AV} {S:St} {t:Nat} {x lo hi:Operand} {s r:Str} {k k':IntKind} {a c:Int}
end
end Go.Ev

namespace Go.Ev
noncomputable section
set_option linter.unusedVariables false
set_option linter.unusedSimpArgs false
section
variable {R:aM} {C:bN} {nt:Nat} {ops:Array Oper} {rest:List Oper} {e:Env} {B S S':St} {Q:Stp→Prop} {l l':List bC} {t ty:Nat} {p:String} {af:Array Edge} {g:Option (Nat × Bool)} {v:AV} {x y:Operand}
end
def strings_IndexByte (n:Nat) (s:Str) (c:Int):Option Int:=some (Lib.indexByte s c.toNat.toUInt8)
def xB (c:UInt8):List UInt8→List (List UInt8)
 | []=>[[]]
 | b :: l=>if b == c then [] :: xB c l else match xB c l with
  | []=>[[b]]
  | x :: r=>(b :: x) :: r
def strings_Split (n:Nat) (s sep:Str):Option (List Str):=match sep with
 | [c]=>if s.length ≤ 1000000 then some (xB c s) else none
 | _=>none
def strings_Join (n:Nat) (l:List Str) (sep:Str):Option Str:=if (Lib.join l sep).length ≤ bound∧l.length ≤ bound then some (Lib.join l sep) else none
end
end Go.Ev

namespace Go.Ev
noncomputable section
set_option linter.unusedVariables false
set_option linter.unusedSimpArgs false
set_option linter.unusedSectionVars false
section
variable {κ ν:Type} [BEq κ] [LawfulBEq κ]
end
section
variable {κ ν:Type} [BEq κ] [LawfulBEq κ] {R:aM} {C:bN} {nt:Nat} {ops:Array Oper} {rest:List Oper} {e:Env} {B S S':St} {Q:Stp→Prop} {l l':List bC} {t ty:Nat} {p:String} {af:Array Edge} {g:Option (Nat × Bool)} {x y w:Operand} {ρ:Operand→Option AV} {ek:κ→D} {ev:ν→D} {m:List (κ × ν)} {k:κ} {v z:ν}
end
end
end Go.Ev

namespace Go.Ev
noncomputable section
set_option linter.unusedVariables false
set_option linter.unusedSimpArgs false
theorem BV {L l1 l2:List Nat} {listed:Array Bool} {i:Nat} (hlt':i < listed.size) (hsp:(L.filter fun i=>!listed.getD i false)=l1 ++ i :: l2) (hne1:∀ k ∈ l1,k ≠ i) (hne2:∀ k ∈ l2,k ≠ i) :
  L.filter (fun j=>!(listed.setIfInBounds i true).getD j false)=l1 ++ l2:=by
 have:(fun j=>!(listed.setIfInBounds i true).getD j false)=(fun j=>(!listed.getD j false) && decide (j ≠ i)):=by
  funext j
  by_cases hj:i=j
  ·
   subst hj; simp [hlt']
  ·
   rw [getD_set_ne false hj]; simp [Ne.symm hj]
 rw [this,← List.filter_filter]
 have hcomm:∀ (l:List Nat) (p q:Nat→Bool),(l.filter p).filter q=(l.filter q).filter p:=fun l p q=>by
  rw [List.filter_filter,List.filter_filter]; congr 1; funext a; exact Bool.and_comm _ _
 rw [hcomm,hsp,List.filter_append,List.filter_cons]
 simp only [ne_eq,not_true_eq_false,decide_false,Bool.false_eq_true,if_false]
 congr 1
 ·
  rw [List.filter_eq_self]; intro k hk; simpa using hne1 k hk
 ·
  rw [List.filter_eq_self]; intro k hk; simpa using hne2 k hk
theorem Cy {ops:Array Oper} (hr:kR ops=true) {listed:Array Bool} (hcl:Closed ops listed) {i:Nat} {o:Oper} (h2:ops[i]? = some o) (h3:∀ e ∈ o.after,Region.binds .any e=true→listed.getD e.on false=true) :
  ∀ k,k < i→((Region.before ops).getD i 0).testBit k=true→listed.getD k false=true:=by
 intro k hk hb
 obtain ⟨r1,r2,_⟩:=eO hr h2
 have hlt:i < ops.size:=(Array.getElem?_eq_some_iff.1 h2).1
 have hkx:∃ x,ops[k]? = some x:=⟨ops[k],by simp [show k < ops.size by omega]⟩
 obtain ⟨x,hx⟩:=hkx
 have:=r2 k x hk hx
 rw [if_pos hb] at this
 obtain ⟨ed,he,hbnd,hor⟩:=this
 rcases hor with q | q
 ·
  rw [← q]; exact h3 ed he hbnd
 ·
  by_cases hke:k < ed.on
  ·
   exact hcl ed.on (h3 ed he hbnd) k hke q
  ·
   rcases Nat.lt_or_ge ed.on k with q1 | q1
   ·
    exfalso
    have hel:ed.on < ops.size:=by have:=r1 ed he hbnd; omega
    have:=(eO hr (show ops[ed.on]? = some ops[ed.on] by simp [hel])).2.2 k (by omega)
    rw [this] at q; cases q
   ·
    have:k=ed.on:=by omega
    rw [this]; exact h3 ed he hbnd
theorem yu {ops:Array Oper} {listed:Array Bool} (hcl:Closed ops listed) {i:Nat} (hclo:∀ k,k < i→((Region.before ops).getD i 0).testBit k=true→listed.getD k false=true):Closed ops (listed.setIfInBounds i true):=by
 intro j hj k hkj hb
 by_cases hij:i=j
 ·
  subst hij
  exact getD_set_true (hclo k hkj hb)
 ·
  rw [getD_set_ne false hij] at hj
  exact getD_set_true (hcl j hj k hkj hb)
theorem xR {ops:Array Oper} (hr:kR ops=true) {listed:Array Bool} (hsz:listed.size=ops.size) {m:Nat} (m1:m < ops.size) (m2:listed.getD m false=false):Region.ready .any ops listed ≠ []:=by
 have hex:∃ m,m < ops.size∧listed.getD m false=false∧∀ k,k < m→listed.getD k false=true:=by
  induction m using Nat.strongRecOn with
  | _ m ihm =>
   by_cases hall:∀ k,k < m→listed.getD k false=true
   ·
    exact ⟨m,m1,m2,hall⟩
   ·
    have:∃ k,k < m∧listed.getD k false=false:=by
     refine Classical.byContradiction fun hc=>hall fun k hk=>?_
     cases hv:listed.getD k false with
     | true=>rfl
     | false=>exact absurd ⟨k,hk,hv⟩ hc
    obtain ⟨k,hk,hv⟩:=this
    exact ihm k hk (by omega) hv
 obtain ⟨m,hmlt,hm2,hmin⟩:=hex
 have hmo:ops[m]? = some ops[m]:=by simp [hmlt]
 have hready:m ∈ Region.ready .any ops listed:=by
  rw [mem_ready]
  refine ⟨by have:m < listed.size:=(by omega); simp [this] at hm2 ⊢; exact hm2,ops[m],hmo,fun ed he hb=>?_⟩
  have hon:=(eO hr hmo).1 ed he hb
  exact hmin ed.on hon
 intro hnone
 rw [hnone] at hready
 cases hready
end
end Go.Ev

namespace Go.Ev
noncomputable section
set_option linter.unusedVariables false
set_option linter.unusedSimpArgs false
variable {R:aM} {C:bN} {nt:Nat}
section
variable {B:St} {T:List Fact} {ops:Array Oper} {rest:List (Nat × Oper)} {I K:List Nat} {e:Env} {S S':St} {Q:Env→St→Prop} {l l':List bC} {t ty i:Nat} {p:String} {af:Array Edge} {g:Option (Nat × Bool)} {v:AV} {x y:Operand}
end
end
end Go.Ev

namespace Go.Ev
noncomputable section
set_option linter.unusedVariables false
set_option linter.unusedSimpArgs false
variable {R:aM} {C:bN} {P:Program} {nt:Nat} {B:St}
inductive BQ (v:AV) (d:D):AV→AV→Prop
 | same (x:AV):BQ v d x x
 | it:BQ v d v (.d d)
inductive ma (v:AV) (d:D):List AV→List AV→Prop
 | nil:ma v d [] []
 | cons {x y:AV} {xs ys:List AV} (h:BQ v d x y) (k:ma v d xs ys):ma v d (x :: xs) (y :: ys)
theorem ma.len {v:AV} {d:D} {xs ys:List AV} (h:ma v d xs ys):ys.length=xs.length:=by
 induction h with
 | nil=>rfl
 | cons _ _ ih=>simp [ih]
theorem ma.get {v:AV} {d:D} {xs ys:List AV} (h:ma v d xs ys):∀ {i:Nat} {y:AV},ys[i]? = some y→∃ x,xs[i]? = some x∧BQ v d x y:=by
 induction h with
 | nil=>intro i y h; simp at h
 | cons h k ih =>
  intro i y hy
  cases i with
  | zero=>simp at hy; subst hy; exact ⟨_,rfl,h⟩
  | succ i=>simpa using ih (by simpa using hy)
theorem ma.refl (v:AV) (d:D):∀ (l:List AV),ma v d l l
 | []=>.nil
 | x :: l=>.cons (.same x) (.refl v d l)
def Dm (v:AV) (d:D) (b b':iU):Prop:=b'=b∨∃ g cs cs',b=.cells g cs∧b'=.cells g cs'∧ma v d cs cs'
theorem jB {v:Value} (h:v.oneCell'=true):v.cells.toList=[v]∧mG v=false:=by
 cases v <;> simp_all [Value.oneCell',Value.cells,mG]
theorem cZ.of_cells {w:World} {fr:Nat→Nat→Prop} {x:D} {vs:List Value} (hf:eD x.cells=true) (hl:vs.length=x.cells.length) (ho:∀ v ∈ vs,v.oneCell'=true)
  (h:∀ (i:Nat) (c:D) (v:Value),x.cells[i]? = some c→vs[i]? = some v→cZ w fr c [v]):cZ w fr x vs:=by
 have one:∀ (x:D),x.cells=[x]→(vs.length=x.cells.length)→(∀ (i:Nat) (c:D) (v:Value),x.cells[i]? = some c→vs[i]? = some v→cZ w fr c [v])→cZ w fr x vs:=fun x hx hl h=>by
  rw [hx] at hl h
  match vs,hl with
  | [v],_=>exact h 0 x v rfl rfl
 cases x with
 | agg ys =>
  simp only [D.cells] at hl h hf
  refine .agg ys vs hl ho (fun y hy=>?_) h
  clear hl h
  induction ys with
  | nil=>cases hy
  | cons z ys ih =>
   simp only [eD,Bool.and_eq_true,Bool.not_eq_true'] at hf
   rcases List.mem_cons.1 hy with rfl | hy
   ·
    exact hf.1
   ·
    exact ih hf.2 hy
 | _=>exact one _ rfl hl h
theorem flat_get {xs:List D} {sz:Nat} (hsz:∀ x ∈ xs,x.cells.length=sz):∀ {i j:Nat} {x c:D},xs[i]? = some x→x.cells[j]? = some c→((xs.map D.cells).flatten)[i * sz + j]? = some c:=by
 induction xs with
 | nil=>intro i j x c hx; simp at hx
 | cons y xs ih =>
  intro i j x c hx hc
  have hy:=hsz y List.mem_cons_self
  rw [List.map_cons,List.flatten_cons]
  cases i with
  | zero =>
   simp at hx; subst hx
   rw [Nat.zero_mul,Nat.zero_add,List.getElem?_append_left (List.getElem?_eq_some_iff.1 hc).1]; exact hc
  | succ i =>
   have:=ih (fun x hx=>hsz x (List.mem_cons_of_mem _ hx)) (i:=i) (by simpa using hx) hc
   rw [Nat.add_mul,Nat.one_mul,List.getElem?_append_right (by omega)]
   rw [show i * sz + sz + j - y.cells.length=i * sz + j by omega]; exact this
theorem vX {xs:List D} {sz:Nat} (hsz:∀ x ∈ xs,x.cells.length=sz):((xs.map D.cells).flatten).length=xs.length * sz:=by
 induction xs with
 | nil=>simp
 | cons y xs ih =>
  rw [List.map_cons,List.flatten_cons,List.length_append,ih (fun x hx=>hsz x (List.mem_cons_of_mem _ hx)),hsz y List.mem_cons_self,List.length_cons,Nat.add_mul,Nat.one_mul]; omega
theorem Bn {cx:Cx} {S:St} {w:World} (h:aB R cx S w) {id g sz:Nat} {xs:List D} {cs0:List AV} (hcs0:bP ((xs.map D.cells).flatten.map .d) cs0) (hid:S.H.get id=some (.cells g cs0)) (hpos:0 < sz) (hsz:∀ x ∈ xs,x.cells.length=sz∧eD x.cells=true)
  {fr':Nat→Nat→Prop} (hp:∀ (b o:Nat) (v:Value),¬ cx.fr b o→w.cell? ⟨b,o,none⟩=some v→w.cell? ⟨b,o,none⟩=some v∧¬ fr' b o) (hfr:∀ o,¬ fr' (cx.bm id) o) {u:Value} (hu:av cx S w (.msl id g 0 xs.length xs.length sz) u):aJ w fr' (.sl xs false) u:=by
 cases hu with
 | msl _ _ _ _ _ _ b cap hn hl hcap h63 hq =>
  obtain ⟨hb,_,_⟩:=hq (by unfold cur; rw [hid])
  subst hb
  obtain ⟨c1,c2,arr,el,c3,⟨c4,c5,c6⟩,c7⟩:=h.cells id g _ hid
  refine ⟨?_,rfl⟩
  by_cases hne:xs=[]
  ·
   subst hne; exact .sl0 _ cap false (fun q=>by cases q)
  have hflat:=vX (fun x hx=>(hsz x hx).1)
  let vs:Nat→List Value:=fun i=>(List.range sz).map fun j=>(arr[i * sz + j]?).getD default
  have hcell:∀ (i j:Nat) (x:D),xs[i]? = some x→j < sz→∃ c v,x.cells[j]? = some c∧arr[i * sz + j]? = some v∧av cx S w (.d c) v∧v.oneCell'=true:=fun i j x hx hj=>by
   have hxl:=(hsz x (List.mem_of_getElem? hx)).1
   have hc:x.cells[j]? = some x.cells[j]:=List.getElem?_eq_getElem (by omega)
   have hfg:=flat_get (fun x hx=>(hsz x hx).1) hx hc
   have hlt:i * sz + j < cs0.length:=by
    have:=(List.getElem?_eq_some_iff.1 hfg).1
    have h2:=hcs0.len
    rw [List.length_map] at h2; omega
   obtain ⟨v,v1,v2,v3⟩:=c7 (i * sz + j) _ (List.getElem?_eq_getElem hlt)
   exact ⟨_,v,hc,v1,hcs0.get (by rw [List.getElem?_map,hfg]; rfl) (List.getElem?_eq_getElem hlt) _ _ _ _ v2,v3⟩
  have hvs:∀ (i j:Nat) (v:Value),(vs i)[j]? = some v→j < sz∧(arr[i * sz + j]?).getD default=v:=fun i j v hv=>by
   simp only [vs,List.getElem?_map,Option.map_eq_some_iff] at hv
   obtain ⟨k,hk,rfl⟩:=hv
   rw [List.getElem?_eq_some_iff] at hk
   obtain ⟨hlt,hk⟩:=hk
   simp at hlt hk
   subst hk
   exact ⟨hlt,rfl⟩
  refine .sl xs false (cx.bm id) 0 cap sz vs hne hcap (fun q=>by cases q) (fun i x hx=>(hsz x (List.mem_of_getElem? hx)).1) (fun i hi=>by simp [vs]) (fun i x hx=>?_) (fun i j v hi hv=>?_)
  ·
   have hm:=hsz x (List.mem_of_getElem? hx)
   refine cZ.of_cells hm.2 (by simp [vs,hm.1]) (fun v hv=>?_) (fun j c v hc hv=>?_)
   ·
    obtain ⟨j,hj,rfl⟩:=List.getElem_of_mem hv
    have hj':=List.getElem?_eq_getElem hj
    obtain ⟨k1,k2⟩:=hvs i j _ hj'
    obtain ⟨c,v,_,v1,_,v3⟩:=hcell i j x hx k1
    rw [v1] at k2
    rw [← k2]; exact v3
   ·
    obtain ⟨k1,k2⟩:=hvs i j v hv
    obtain ⟨c',v',h1,v1,v2,v3⟩:=hcell i j x hx k1
    rw [v1] at k2
    simp at k2
    subst k2
    rw [hc] at h1; cases h1
    have:=(v2.dd.mono hp).1
    rw [(jB v3).1] at this
    exact this
  ·
   obtain ⟨k1,k2⟩:=hvs i j v hv
   obtain ⟨c',v',h1,v1,v2,v3⟩:=hcell i j xs[i] (List.getElem?_eq_getElem hi) k1
   rw [v1] at k2
   simp at k2
   subst k2
   refine ⟨?_,hfr _⟩
   simp only [World.cell?,c3,Nat.zero_add]
   simp [v1]
theorem uz (hR:ObjOk R) {cx:Cx} {S S':St} {w:World} (h:aB R cx S w) {id g sz:Nat} {xs:List D} {cs0:List AV} (hcs0:bP ((xs.map D.cells).flatten.map .d) cs0) (hid:S.H.get id=some (.cells g cs0)) (hpos:0 < sz) (hsz:∀ x ∈ xs,x.cells.length=sz∧eD x.cells=true)
  (nx:S'.nx=S.nx) (hT:S'.T=S.T) (hH:∀ k b',S'.H.get k=some b'→k ≠ id∧∃ b,S.H.get k=some b∧Dm (.msl id g 0 xs.length xs.length sz) (.sl xs false) b b') :
  ∃ cx',aB R cx' S' w∧Ext cx S w cx' S' w∧∀ u,av cx S w (.msl id g 0 xs.length xs.length sz) u→av cx' S' w (.d (.sl xs false)) u:=by
 have hl:live S id:=iX hid
 have ownId:∀ k b,live S k→cx.fp k b→b=cx.bm id→k=id:=fun k b hk hf hb=>by
  subst hb
  exact h.sep k id _ hk hl hf ((h.cells id g _ hid).fp _ |>.2 rfl)
 have hcur:∀ k g',cur S' k=some g'→cur S k=some g':=fun k g' hc=>by
  unfold cur at hc ⊢
  cases hk:S'.H.get k with
  | none =>
   rw [hk] at hc
   simp only [hT] at hc
   cases hS:S.H.get k with
   | none=>exact hc
   | some b=>rw [h.kC k b hS] at hc; cases hc
  | some b' =>
   rw [hk] at hc
   obtain ⟨_,b,hb,hz⟩:=hH k b' hk
   rw [hb]
   rcases hz with rfl | ⟨g1,cs,cs',rfl,rfl,_⟩
   ·
    cases b' <;> exact hc
   ·
    exact hc
 have hlive:∀ k,live S' k→live S k:=fun k hk=>by
  cases hc:cur S' k with
  | none=>exact absurd hc hk
  | some g'=>unfold live; rw [hcur k g' hc]; simp
 have hno:¬ live S' id:=fun q=>by
  cases hc:S'.H.get id with
  | some b'=>exact (hH id b' hc).1 rfl
  | none =>
   unfold live cur at q
   rw [hc,hT,h.kC id _ hid] at q
   exact q rfl
 have hit:∀ k g',isIt S' k g'→isIt S k g':=fun k g' q=>by
  obtain ⟨_,b,hb,hz⟩:=hH k _ q
  rcases hz with hz | ⟨g1,cs,cs',_,hz,_⟩
  ·
   rw [← hz] at hb; exact hb
  ·
   cases hz
 let cx':Cx:={ cx with fr:=fun b o=>cx.fr b o∧b ≠ cx.bm id }
 have prot:∀ (b o:Nat) (v:Value),¬ cx.fr b o→w.cell? ⟨b,o,none⟩=some v→w.cell? ⟨b,o,none⟩=some v∧¬ cx'.fr b o:=fun b o v h1 h2=>⟨h2,fun q=>h1 q.1⟩
 have ext:Ext cx S w cx' S' w:=by
  refine ⟨Nat.le_refl _,rfl,rfl,rfl,by rw [nx]; exact Nat.le_refl _,prot,fun b hb hn=>⟨rfl,fun o=>⟨fun q=>q.1,fun q=>⟨q,fun hq=>?_⟩⟩⟩,fun k b hk hf=>⟨fun _=>⟨hlive k hk,.inl hf⟩,fun hge=>?_⟩,fun k g' _ q=>⟨g',hit k g' q⟩,fun k g' b _ _ _ hf=>hf,fun k g' _ hc=>⟨g',hcur k g' hc,Nat.le_refl _,fun _=>⟨rfl,rfl,rfl⟩⟩⟩
  ·
   subst hq
   exact vV hid (by intro x; simp) (hn id hl ((h.cells id g _ hid).fp _ |>.2 rfl))
  ·
   exact absurd (h.wf k (hlive k hk)) (by omega)
 have key:∀ u,av cx S w (.msl id g 0 xs.length xs.length sz) u→av cx' S' w (.d (.sl xs false)) u:=fun u hu =>
  .d _ _ (Bn h hcs0 hid hpos hsz prot (fun o q=>q.2 rfl) hu)
 refine ⟨cx',⟨fun k hk=>by rw [nx]; exact h.wf k (hlive k hk),fun k b' hk=>?_,fun k g' cs' hk=>?_,fun k es hk=>?_,fun k q x hk=>?_,fun k en hk=>?_,fun k k' b a1 a2=>h.sep k k' b (hlive k a1) (hlive k' a2),fun b o q=>h.lt b o q.1,hR.stat _ _ _ _ h.stat prot⟩,ext,key⟩
 ·
  obtain ⟨_,b,hb,_⟩:=hH k b' hk
  rw [hT]; exact h.kC k b hb
 ·
  obtain ⟨hne',b,hb,hz⟩:=hH k _ hk
  have hex:∃ cs,b=.cells g' cs∧ma (.msl id g 0 xs.length xs.length sz) (.sl xs false) cs cs':=by
   rcases hz with hz | ⟨g1,cs,cs2,h1,h2,h3⟩
   ·
    exact ⟨cs',hz.symm,.refl _ _ _⟩
   ·
    cases h2; exact ⟨cs,h1,h3⟩
  obtain ⟨cs,rfl,hfz⟩:=hex
  obtain ⟨c1,c2,arr,el,c3,⟨c4,c5,c6⟩,c7⟩:=h.cells k g' cs hb
  have hlk:live S k:=iX hb
  refine ⟨c1,fun o=>⟨c2 o,fun hq=>hne' (ownId k _ hlk ((c1 _).2 rfl) hq)⟩,arr,el,c3,⟨c4,by rw [hfz.len]; exact c5,by rw [hfz.len]; exact c6⟩,fun i x hx=>?_⟩
  obtain ⟨y,hy,hfa⟩:=hfz.get hx
  obtain ⟨v,v1,v2,v3⟩:=c7 i y hy
  refine ⟨v,v1,?_,v3⟩
  cases hfa with
  | same=>exact v2.mono ext
  | it=>exact key v v2
 ·
  obtain ⟨hne',b,hb,hz⟩:=hH k _ hk
  have hb':b=.map es:=by
   rcases hz with hz | ⟨g1,cs,cs2,h1,h2,h3⟩
   ·
    exact hz.symm
   ·
    cases h2
  subst hb'
  obtain ⟨c1,c2,ms,clk,c3,c4,c5⟩:=h.maps k es hb
  refine ⟨c1,fun o=>⟨c2 o,fun hq=>hne' (ownId k _ (iX hb) ((c1 _).2 rfl) hq)⟩,ms,clk,c3,c4,fun i p m hp hm=>?_⟩
  obtain ⟨v1,v2⟩:=c5 i p m hp hm
  exact ⟨v1.mono prot,v2.mono ext⟩
 ·
  obtain ⟨hne',b,hb,hz⟩:=hH k _ hk
  have hb':b=.obj q x:=by
   rcases hz with hz | ⟨g1,cs,cs2,h1,h2,h3⟩
   ·
    exact hz.symm
   ·
    cases h2
  subst hb'
  obtain ⟨c1,c2⟩:=h.objs k q x hb
  exact ⟨c1,fun b o hf=>⟨c2 b o hf,fun hq=>hne' (ownId k b (iX hb) hf hq)⟩⟩
 ·
  rw [hT] at hk
  obtain ⟨c1,c2,c3⟩:=h.toks k en hk
  have hkid:k ≠ id:=fun q=>by subst q; rw [h.kC _ _ hid] at hk; cases hk
  exact ⟨c1,fun o ho=>⟨c2 o ho,fun hq=>hkid (ownId k _ (qm hk) ((c1 _).2 rfl) hq)⟩,c3⟩
inductive nO (v:AV) (d:D):List bC→List bC→Prop
 | nil:nO v d [] []
 | same {a:bC} {l l':List bC} (k:nO v d l l'):nO v d (a :: l) (a :: l')
 | box {id:Nat} {cs cs':List AV} {l l':List bC} (h:ma v d cs cs') (k:nO v d l l'):nO v d (.box id cs :: l) (.box id cs' :: l')
theorem nO.CG {v:AV} {d:D} {l l':List bC} (h:nO v d l l'):l'.map bC.fp=l.map bC.fp:=by
 induction h with
 | nil=>rfl
 | same _ ih=>simp [ih]
 | box _ _ ih=>simp [ih,bC.fp]
theorem nO.mem {v:AV} {d:D} {l l':List bC} (h:nO v d l l') {a':bC} (ha:a' ∈ l'):a' ∈ l∨∃ id cs cs',a'=.box id cs'∧.box id cs ∈ l∧ma v d cs cs':=by
 induction h with
 | nil=>cases ha
 | same _ ih =>
  rcases List.mem_cons.1 ha with rfl | ha
  ·
   exact .inl List.mem_cons_self
  ·
   rcases ih ha with h | ⟨id,cs,cs',h1,h2,h3⟩
   ·
    exact .inl (List.mem_cons_of_mem _ h)
   ·
    exact .inr ⟨id,cs,cs',h1,List.mem_cons_of_mem _ h2,h3⟩
 | box hz _ ih =>
  rcases List.mem_cons.1 ha with rfl | ha
  ·
   exact .inr ⟨_,_,_,rfl,List.mem_cons_self,hz⟩
  ·
   rcases ih ha with h | ⟨id,cs,cs',h1,h2,h3⟩
   ·
    exact .inl (List.mem_cons_of_mem _ h)
   ·
    exact .inr ⟨id,cs,cs',h1,List.mem_cons_of_mem _ h2,h3⟩
theorem nO.yn {v:AV} {d:D} {l l':List bC} (h:nO v d l l') {id:Nat} {cs':List AV} (ha:bC.box id cs' ∈ l'):∃ cs,.box id cs ∈ l∧ma v d cs cs':=by
 rcases h.mem ha with h | ⟨id2,cs,cs2,h1,h2,h3⟩
 ·
  exact ⟨cs',h,.refl _ _ _⟩
 ·
  cases h1; exact ⟨cs,h2,h3⟩
open Classical in
def uX (l:List bC) (k:Nat) (b:iU):iU:=if h:∃ cs,bC.box k cs ∈ l then .cells 0 (Classical.choose h) else b
def AL.xK {α:Type} (f:Nat→α→α):AL α→AL α
 | []=>[]
 | (k,v) :: l=>(k,f k v) :: AL.xK f l
theorem AL.rJ {α:Type} (f:Nat→α→α):∀ (l:AL α) (k:Nat),AL.get (AL.xK f l) k=(AL.get l k).map (f k)
 | [],k=>by simp [AL.xK,AL.get]
 | (a,v) :: l,k=>by
  simp only [AL.xK,AL.bF,AL.rJ f l k]
  by_cases h:a=k
  ·
   subst h; simp
  ·
   simp [h]
theorem yF {l:List bC} (hn:(l.map bC.fp).flatten.Nodup) {a b:bC} (ha:a ∈ l) (hb:b ∈ l) {id:Nat} (h1:id ∈ a.fp) (h2:id ∈ b.fp):a=b:=by
 obtain ⟨i,hi,rfl⟩:=List.getElem_of_mem ha
 obtain ⟨j,hj,rfl⟩:=List.getElem_of_mem hb
 by_cases hij:i=j
 ·
  subst hij; rfl
 ·
  exact (rz hn (List.getElem?_eq_getElem hi) (List.getElem?_eq_getElem hj) hij h1 h2).elim
theorem qE {l:List bC} (hn:(l.map bC.fp).flatten.Nodup) {k:Nat} {cs:List AV} (h:bC.box k cs ∈ l) (b:iU):uX l k b=.cells 0 cs:=by
 have hex:∃ cs,bC.box k cs ∈ l:=⟨cs,h⟩
 unfold uX
 rw [dif_pos hex]
 have:=yF hn (Classical.choose_spec hex) h (id:=k) (by simp [bC.fp]) (by simp [bC.fp])
 simp only [bC.box.injEq,true_and] at this
 rw [this]
theorem mP {l:List bC} {k:Nat} (h:∀ cs,bC.box k cs ∉ l) (b:iU):uX l k b=b:=by
 unfold uX
 rw [dif_neg (fun ⟨cs,q⟩=>h cs q)]
def sD (v:AV) (d:D) (e2 e:Env):Prop:=∀ t x,AL.get e2 t=some x→∃ y,AL.get e t=some y∧(Less x y∨(y=v∧x=.d d))
theorem sD.nil {v:AV} {d:D} {e:Env}:sD v d [] e:=fun _ _ h=>by simp [AL.get] at h
theorem sD.cons {v:AV} {d:D} {t:Nat} {x y:AV} {e2 e:Env} (h:AL.get e t=some y) (hl:Less x y) (k:sD v d e2 e):sD v d ((t,x) :: e2) e:=fun u z hz=>by
 rw [AL.bF] at hz
 by_cases hu:t=u
 ·
  subst hu; rw [if_pos rfl] at hz; cases hz; exact ⟨y,h,.inl hl⟩
 ·
  rw [if_neg hu] at hz; exact k u z hz
theorem sD.it {v:AV} {d:D} {t:Nat} {e2 e:Env} (h:AL.get e t=some v) (k:sD v d e2 e):sD v d ((t,.d d) :: e2) e:=fun u z hz=>by
 rw [AL.bF] at hz
 by_cases hu:t=u
 ·
  subst hu; rw [if_pos rfl] at hz; cases hz; exact ⟨v,h,.inr ⟨rfl,rfl⟩⟩
 ·
  rw [if_neg hu] at hz; exact k u z hz
theorem bC.Bz {S S':St} {v:AV} {d:D} {l l':List bC} (hz:nO v d l l') (nd':(l'.map bC.fp).flatten.Nodup) (hok:∀ a ∈ l,a.ok S)
  (hH:∀ a ∈ l',∀ k ∈ a.fp,S'.H.get k=(S.H.get k).map (uX l' k)) (hT:S'.T=S.T):∀ a ∈ l',a.ok S':=by
 intro a' ha'
 cases a' with
 | box k cs' =>
  obtain ⟨cs,h1,h2⟩:=hz.yn ha'
  have:=hok _ h1
  simp only [bC.ok] at this ⊢
  rw [hH _ ha' k (by simp [bC.fp]),this,Option.map_some,qE nd' ha']
 | _ =>
  have hm:_ ∈ l:=(hz.mem ha').resolve_right (fun ⟨_,_,_,q,_⟩=>by cases q)
  refine bC.keep (hok _ hm) (fun k hk=>?_) (fun k hk=>by rw [hT])
  rw [hH _ ha' k hk]
  cases hb:S.H.get k with
  | none=>rfl
  | some b =>
   rw [Option.map_some,mP (fun cs q=>?_)]
   have:=yF nd' ha' q (id:=k) hk (by simp [bC.fp])
   cases this
theorem Has.freeze (hR:ObjOk R) {S:St} {l l':List bC} (H:Has B S l) {i sz:Nat} {v:AV} {xs:List D} (hi:l[i]? = some (.row sz v xs)) (hz:nO v (.sl xs false) (l.eraseIdx i) l') :
  ∃ S',Has B S' l'∧∀ nt e e2,sD v (.sl xs false) e2 e→iy R nt e S e2 S':=by
 have hg:=H.at hi
 have hil:i < l.length:=(List.getElem?_eq_some_iff.1 hi).1
 have hsub:(l.eraseIdx i).Sublist l:=List.eraseIdx_sublist ..
 have nd':(l'.map bC.fp).flatten.Nodup:=by rw [hz.CG]; exact H.nd.sublist (AJ bC.fp hsub)
 have hfp':∀ a' ∈ l',∃ a ∈ l.eraseIdx i,a.fp=a'.fp:=fun a' ha'=>by
  rcases hz.mem ha' with h | ⟨id,cs,cs',rfl,h2,_⟩
  ·
   exact ⟨a',h,rfl⟩
  ·
   exact ⟨_,h2,rfl⟩
 have hfpl:∀ a' ∈ l',∃ a ∈ l,a.fp=a'.fp:=fun a' ha'=>let ⟨a,h1,h2⟩:=hfp' a' ha'; ⟨a,hsub.subset h1,h2⟩
 have hout:∀ a ∈ l',∀ id ∈ a.fp,B.H.get id=none∧B.T.get id=none:=fun a' ha' id hid=>by
  obtain ⟨a,h1,h2⟩:=hfpl a' ha'
  exact H.out a h1 id (by rw [h2]; exact hid)
 simp only [bC.ok] at hg
 have plain:xs=[]→(∃ b,(v=.d .di∧b=true)∨(v=.d (.sl [] true)∧b=true))→∃ S',Has B S' l'∧∀ nt e e2,sD v (.sl xs false) e2 e→iy R nt e S e2 S':=fun hx hv=>by
  subst hx
  have hless:Less (.d (.sl [] false)) v:=by
   obtain ⟨b,⟨rfl,_⟩ | ⟨rfl,_⟩⟩:=hv
   ·
    exact Eg
   ·
    exact En
  have hF:∀ {cs cs':List AV},ma v (.sl [] false) cs cs'→bP cs' cs:=fun h=>by
   induction h with
   | nil=>exact .nil
   | cons h k ih =>
    refine .cons ?_ ih
    cases h with
    | same=>exact .refl _
    | it=>exact hless
  let S':St:={ S with H:=AL.xK (uX l') S.H }
  have hget:∀ k,S'.H.get k=(S.H.get k).map (uX l' k):=fun k=>AL.rJ _ _ _
  have ws:fE S' S:=by
   refine ⟨rfl,fun _=>rfl,fun k=>?_⟩
   rw [hget]
   cases hb:S.H.get k with
   | none=>exact iE.refl _
   | some b =>
    rw [Option.map_some]
    by_cases hk:∃ cs',bC.box k cs' ∈ l'
    ·
     obtain ⟨cs',hk⟩:=hk
     obtain ⟨cs,h1,h2⟩:=hz.yn hk
     have:=H.ok _ (hsub.subset h1)
     simp only [bC.ok] at this
     rw [hb] at this; cases this
     rw [qE nd' hk]
     exact ⟨rfl,hF h2⟩
    ·
     rw [mP (fun cs q=>hk ⟨cs,q⟩)]; exact iE.refl _
  refine ⟨S',⟨fun k hk=>H.wf k (ws.live.1 hk),bC.Bz hz nd' (fun a ha=>H.ok a (hsub.subset ha)) (fun a ha k hk=>hget k) rfl,nd',H.bwf,⟨H.keeps.nx,fun k b hb=>?_,H.keeps.T⟩,hout⟩,fun nt e e2 he cx w a h1 h2=>?_⟩
  ·
   rw [hget,H.keeps.H k b hb,Option.map_some,mP (fun cs q=>?_)]
   have:=(hout _ q k (by simp [bC.fp])).1
   rw [this] at hb; cases hb
  ·
   refine ⟨cx,h1.dw ws,Ext.dw ws (Ext.refl w (h1.dw ws).wf),⟨h2.size,fun t x hx=>?_⟩⟩
   obtain ⟨y,hy,hq⟩:=he t x hx
   obtain ⟨u,u1,u2⟩:=h2.rel t y hy
   refine ⟨u,u1,av.dw ws ?_⟩
   rcases hq with hq | ⟨rfl,rfl⟩
   ·
    exact hq _ _ _ _ u2
   ·
    exact hless _ _ _ _ u2
 split at hg
 ·
  exact plain hg ⟨true,.inl ⟨rfl,rfl⟩⟩
 ·
  exact plain hg ⟨true,.inr ⟨rfl,rfl⟩⟩
 ·
  rename_i id g off len lim sz'
  obtain ⟨rfl,rfl,rfl,hszz,hpos,hsz,cs0,hcs0,hid⟩:=hg
  subst hszz
  let S':St:={ S with H:=AL.xK (uX l') (AL.del S.H id) }
  have hget:∀ k,S'.H.get k=if id=k then none else (S.H.get k).map (uX l' k):=fun k=>by
   show AL.get (AL.xK _ _) k=_
   rw [AL.rJ,AL.j4]
   by_cases hk:id=k <;> simp [hk]
  have hnot:∀ a ∈ l',∀ k ∈ a.fp,id ≠ k:=fun a' ha' k hk hq=>by
   subst hq
   obtain ⟨a,h1,h2⟩:=hfp' a' ha'
   rw [← h2] at hk
   obtain ⟨j,hj,hja⟩:=List.mem_eraseIdx_iff_getElem?.1 h1
   exact rz H.nd hi hja (fun q=>hj q.symm) (id:=id) (by simp [bC.fp]) hk
  have hB:B.H.get id=none:=(H.out _ (List.mem_of_getElem? hi) id (by simp [bC.fp])).1
  have hlive:∀ k,live S' k→live S k:=fun k hk=>by
   unfold live cur at hk ⊢
   rw [hget] at hk
   by_cases hq:id=k
   ·
    subst hq; rw [hid]; simp
   ·
    rw [if_neg hq] at hk
    cases hb:S.H.get k with
    | none=>rw [hb] at hk; exact hk
    | some b=>cases b <;> simp
  refine ⟨S',⟨fun k hk=>H.wf k (hlive k hk),bC.Bz hz nd' (fun a ha=>H.ok a (hsub.subset ha)) (fun a ha k hk=>by rw [hget,if_neg (hnot a ha k hk)]) rfl,nd',H.bwf,⟨H.keeps.nx,fun k b hb=>?_,H.keeps.T⟩,hout⟩,fun nt e e2 he cx w a h1 h2=>?_⟩
  ·
   rw [hget,if_neg (fun q=>by subst q; rw [hB] at hb; cases hb),H.keeps.H k b hb,Option.map_some,mP (fun cs q=>?_)]
   have:=(hout _ q k (by simp [bC.fp])).1
   rw [this] at hb; cases hb
  ·
   have hA:∀ k b',S'.H.get k=some b'→k ≠ id∧∃ b,S.H.get k=some b∧Dm (.msl id g 0 xs.length xs.length sz') (.sl xs false) b b':=fun k b' hb'=>by
    rw [hget] at hb'
    by_cases hq:id=k
    ·
     rw [if_pos hq] at hb'; cases hb'
    ·
     rw [if_neg hq] at hb'
     obtain ⟨b,hb,rfl⟩:=Option.map_eq_some_iff.1 hb'
     refine ⟨fun q=>hq q.symm,b,hb,?_⟩
     by_cases hk:∃ cs',bC.box k cs' ∈ l'
     ·
      obtain ⟨cs',hk⟩:=hk
      obtain ⟨cs,h3,h4⟩:=hz.yn hk
      have:=H.ok _ (hsub.subset h3)
      simp only [bC.ok] at this
      rw [hb] at this; cases this
      rw [qE nd' hk]
      exact .inr ⟨0,cs,cs',rfl,rfl,h4⟩
     ·
      rw [mP (fun cs q=>hk ⟨cs,q⟩)]; exact .inl rfl
   obtain ⟨cx',k1,k2,k3⟩:=uz hR h1 hcs0 hid hpos hsz (S':=S') rfl rfl hA
   refine ⟨cx',k1,k2,⟨h2.size,fun t x hx=>?_⟩⟩
   obtain ⟨y,hy,hq⟩:=he t x hx
   obtain ⟨u,u1,u2⟩:=h2.rel t y hy
   refine ⟨u,u1,?_⟩
   rcases hq with hq | ⟨rfl,rfl⟩
   ·
    exact (hq _ _ _ _ u2).mono k2
   ·
    exact k3 u u2
 ·
  exact hg.elim
end
end Go.Ev

namespace Go.Ev
noncomputable section
set_option linter.unusedVariables false
set_option linter.unusedSimpArgs false
variable {R:aM} {P:Program} {B:St}
theorem bP.drop {ys xs:List AV} (h:bP ys xs):∀ n,bP (ys.drop n) (xs.drop n):=by
 induction h with
 | nil=>intro n; rw [List.drop_nil]; exact .nil
 | cons h k ih=>intro n; cases n with
  | zero=>exact .cons h k
  | succ n=>exact ih n
theorem bP.take {ys xs:List AV} (h:bP ys xs):∀ n,bP (ys.take n) (xs.take n):=by
 induction h with
 | nil=>intro n; rw [List.take_nil]; exact .nil
 | cons h k ih=>intro n; cases n with
  | zero=>exact .nil
  | succ n=>exact .cons h (ih n)
theorem bP.append {a b c d:List AV} (h:bP a b) (k:bP c d):bP (a ++ c) (b ++ d):=by
 induction h with
 | nil=>exact k
 | cons h _ ih=>exact .cons h ih
theorem bP.set {ys xs:List AV} (h:bP ys xs) {y x:AV} (hl:Less y x):∀ n,bP (ys.set n y) (xs.set n x):=by
 induction h with
 | nil=>intro n; exact .nil
 | cons h k ih=>intro n; cases n with
  | zero=>exact .cons hl k
  | succ n=>exact .cons h (ih n)
theorem bP.setAt {cy cx:List AV} (hc:bP cy cx):∀ {ys xs:List AV} (h:bP ys xs) (n:Nat),bP (setAt ys n cy) (setAt xs n cx):=by
 induction hc with
 | nil=>intro ys xs h n; exact h
 | cons h k ih=>intro ys xs hh n; exact ih (hh.set h n) (n + 1)
theorem tT {α β:Type} (f:α→β):∀ (l cs:List α) (n:Nat),(setAt cs n l).map f=setAt (cs.map f) n (l.map f)
 | [],cs,n=>rfl
 | x :: l,cs,n=>by rw [setAt,tT f l,List.map_set]; rfl
theorem uB {cx:Cx} {S:St} {w:World} {d:D} {v:Value} (h:av cx S w (.d d) v) (hd:d.isAgg=false):v.oneCell'=true∧v.cells.toList=[v]:=by
 have h2:=h.dd.2
 have h1:=h.dd.1
 rw [hd] at h2
 cases v with
 | agg _=>cases h2
 | tuple vs =>
  generalize hcs:(Value.tuple vs).cells.toList=cs at h1
  cases h1 <;> first | (simp [Value.cells] at hcs; done) | (cases hd; done)
 | _=>exact ⟨rfl,rfl⟩
theorem Less.Cz {ws:List AV} {ds:List D} (h:bP (ds.map .d) ws) (hf:eD ds=true):Less (.d (.agg ds)) (Ev.fF ws):=by
 intro cx S w v hr
 have hall:∀ d ∈ ds,d.isAgg=false:=by
  clear h
  induction ds with
  | nil=>intro d hd; cases hd
  | cons z ys ih =>
   simp only [eD,Bool.and_eq_true,Bool.not_eq_true'] at hf
   intro d hd
   rcases List.mem_cons.1 hd with rfl | hd
   ·
    exact hf.1
   ·
    exact ih hf.2 d hd
 have hlen:ws.length=ds.length:=by have:=h.len; rw [List.length_map] at this; exact this.symm
 have core:∀ (vs:List Value),vs.length=ws.length→(∀ u ∈ vs,u.oneCell'=true)→(∀ (i:Nat) (x:AV) (u:Value),ws[i]? = some x→vs[i]? = some u→av cx S w x u)→cZ w cx.fr (.agg ds) vs:=fun vs hl ho hh=>by
  refine .agg ds vs (by rw [hl,hlen]) ho hall (fun i d u hd hu=>?_)
  have hlt:i < ws.length:=by rw [hlen]; exact (List.getElem?_eq_some_iff.1 hd).1
  have hx:=List.getElem?_eq_getElem hlt
  have hd':=h.get (i:=i) (by rw [List.getElem?_map,hd]; rfl) hx _ _ _ _ (hh i _ u hx hu)
  have:=hd'.dd.1
  rwa [(uB hd' (hall d (List.mem_of_getElem? hd))).2] at this
 unfold Ev.fF at hr
 split at hr
 ·
  rename_i xs hxs
  have hws:ws=xs.map .d:=by
   clear hr core hlen h
   induction ws generalizing xs with
   | nil=>simp [oZ] at hxs; subst hxs; rfl
   | cons x l ih =>
    cases x <;> simp only [oZ] at hxs <;> try (cases hxs)
    obtain ⟨ys,h1,rfl⟩:=Option.map_eq_some_iff.1 hxs
    rw [ih ys h1]; rfl
  have hd:=hr.dd
  refine .d _ _ ⟨?_,hd.2⟩
  have h1:=hd.1
  generalize hcs:v.cells.toList=cs at h1 ⊢
  cases h1 with
  | agg _ _ hl ho hn hh =>
   refine core cs (by rw [hws,List.length_map]; exact hl) ho (fun i x u hx hu=>?_)
   rw [hws,List.getElem?_map,Option.map_eq_some_iff] at hx
   obtain ⟨y,hy,rfl⟩:=hx
   have:=hh i y u hy hu
   have ho':=ho u (List.mem_of_getElem? hu)
   exact .d _ _ ⟨by rw [(jB ho').1]; exact this,by rw [(jB ho').2]; exact hn y (List.mem_of_getElem? hy)⟩
 ·
  cases hr with
  | agg _ vs hl ho hh =>
   refine .d _ _ ⟨?_,rfl⟩
   simp only [Value.cells]
   exact core vs hl ho hh
def lS (v p:AV) (n off:Nat):Prop:=∃ id g len lim sz,v=.msl id g 0 len lim sz∧p=.ptr id g (n * sz + off)
theorem pJ {S:St} {sz:Nat} {v:AV} {xs:List D} (h:(bC.row sz v xs).ok S) {n:Nat} {d:D} (hn:xs[n]? = some d) :
  ∃ id g cs,v=.msl id g 0 xs.length xs.length sz∧0 < sz∧(∀ x ∈ xs,x.cells.length=sz∧eD x.cells=true)∧bP ((xs.map D.cells).flatten.map .d) cs∧S.H.get id=some (.cells g cs):=by
 simp only [bC.ok] at h
 split at h
 ·
  subst h; simp at hn
 ·
  subst h; simp at hn
 ·
  rename_i id g off len lim sz'
  obtain ⟨rfl,rfl,rfl,rfl,h1,h2,cs,h3,h4⟩:=h
  exact ⟨id,g,cs,rfl,h1,h2,h3,h4⟩
 ·
  exact h.elim
section
variable {C:bN} {ρ:Operand→Option AV} {S:St} {l:List bC} {x y:Operand} {t:Nat} {v:AV}
theorem wh {α:Type} {enc:α→D} {xs:List α} {i sz:Nat} (H:Has B S l) (hi:l[i]? = some (.row sz v (xs.map enc))) {n:Int} {k:IntKind} {z:α} {el:Nat} (hx:ρ x=some v) (hy:ρ y=some (.d (.int k n)))
  (h:idx xs n=some z) (he:aS C.P t=some el) (ha:(dA C.P el).isSome=true) (hz:(enc z).cells.length=au C.P el) :
  ∃ p,oper C ρ S (.indexAddr t x y)=some (.val p S)∧lS v p n.toNat 0:=by
 obtain ⟨h0,h1⟩:=jc h
 have hm:(xs.map enc)[n.toNat]? = some (enc z):=by rw [List.getElem?_map,h1]; rfl
 obtain ⟨id,g,cs,rfl,hpos,hsz,hcs,hid⟩:=pJ (H.at hi) hm
 have hszel:sz=au C.P el:=by rw [← hz]; exact ((hsz _ (List.mem_of_getElem? hm)).1).symm
 have hlt:n.toNat < (xs.map enc).length:=(List.getElem?_eq_some_iff.1 hm).1
 refine ⟨_,bK hx hy (r:=.ptr id g (0 + n.toNat * au C.P el)) ?_,id,g,_,_,sz,rfl,by rw [hszel]; simp⟩
 simp only [dx,he,h0,ha,decide_true,Bool.and_self,if_true]
 rw [if_pos ⟨hlt,hszel⟩]
theorem xn {xs:List D} {sz:Nat} (hsz:∀ x ∈ xs,x.cells.length=sz):∀ {n:Nat} {d:D},xs[n]? = some d→∃ a b,(xs.map D.cells).flatten=a ++ d.cells ++ b∧a.length=n * sz∧∀ d',((xs.set n d').map D.cells).flatten=a ++ d'.cells ++ b:=by
 induction xs with
 | nil=>intro n d h; simp at h
 | cons y xs ih =>
  intro n d h
  cases n with
  | zero =>
   simp at h; subst h
   exact ⟨[],(xs.map D.cells).flatten,by simp,by simp,fun d'=>by simp⟩
  | succ n =>
   obtain ⟨a,b,h1,h2,h3⟩:=ih (fun x hx=>hsz x (List.mem_cons_of_mem _ hx)) (n:=n) (by simpa using h)
   refine ⟨y.cells ++ a,b,by rw [List.map_cons,List.flatten_cons,h1]; simp,?_,fun d'=>by rw [List.set_cons_succ,List.map_cons,List.flatten_cons,h3]; simp⟩
   rw [List.length_append,h2,hsz y List.mem_cons_self,Nat.add_mul,Nat.one_mul]; omega
theorem zg {l:List D} (h:eD l=true):∀ {i:Nat} {d:D},l[i]? = some d→d.isAgg=false:=by
 induction l with
 | nil=>intro i d hd; simp at hd
 | cons y l ih =>
  simp only [eD,Bool.and_eq_true,Bool.not_eq_true'] at h
  intro i d hd
  cases i with
  | zero=>simp at hd; subst hd; exact h.1
  | succ i=>exact ih h.2 (by simpa using hd)
theorem Ak {l:List D} (h:∀ d ∈ l,d.isAgg=false):eD l=true:=by
 induction l with
 | nil=>rfl
 | cons y l ih=>simp only [eD,h y List.mem_cons_self,ih (fun d hd=>h d (List.mem_cons_of_mem _ hd)),Bool.not_false,Bool.and_self]
theorem zA {l:List D} (h:eD l=true):∀ d ∈ l,d.isAgg=false:=fun d hd=>by
 obtain ⟨i,hi,rfl⟩:=List.getElem_of_mem hd
 exact zg h (List.getElem?_eq_getElem hi)
theorem uN {xs:List D} {i n off sz:Nat} {d r:D} {p:AV} (H:Has B S l) (hi:l[i]? = some (.row sz v xs)) (hp:lS v p n off) (hd:xs[n]? = some d) (h:ρ x=some p) (hr:dJ C.P t d.cells off=some r) :
  ∃ w,oper C ρ S (.load t x)=some (.val w S)∧Less (.d r) w:=by
 obtain ⟨id,g,cs,rfl,hpos,hsz,hcs,hid⟩:=pJ (H.at hi) hd
 obtain ⟨id',g',len,lim,sz',he,rfl⟩:=hp
 cases he
 have hdl:=hsz d (List.mem_of_getElem? hd)
 obtain ⟨a,b,h1,h2,h3⟩:=xn (fun x hx=>(hsz x hx).1) hd
 have hlen:cs.length=((xs.map D.cells).flatten).length:=by have:=hcs.len; rw [List.length_map] at this; exact this.symm
 rw [h1] at hcs hlen
 simp only [List.length_append,h2,hdl.1] at hlen
 have key:∃ w,part C.P t cs (n * sz + off)=some w∧Less (.d r) w:=by
  unfold dJ at hr
  unfold part
  split at hr
  ·
   rename_i hag
   split at hr
   ·
    rename_i hb
    cases hr
    rw [hdl.1] at hb
    refine ⟨_,?_,Less.Cz (ws:=(cs.drop (n * sz + off)).take (au C.P t)) ?_ ?_⟩
    ·
     rw [if_pos (by omega)]
    ·
     have:=(hcs.drop (n * sz + off)).take (au C.P t)
     rw [← List.map_drop,← List.map_take] at this
     have e:((a ++ d.cells ++ b).drop (n * sz + off)).take (au C.P t)=(d.cells.drop off).take (au C.P t):=by
      rw [List.append_assoc,← h2,List.drop_append,List.drop_of_length_le (by omega),List.nil_append,show a.length + off - a.length=off by omega,List.drop_append,List.take_append]
      rw [show au C.P t - (d.cells.drop off).length=0 by rw [List.length_drop,hdl.1]; omega,List.take_zero,List.append_nil]
     rw [e] at this; exact this
    ·
     refine Ak (fun c hc=>zA hdl.2 c ?_)
     exact List.mem_of_mem_drop (List.mem_of_mem_take hc)
   ·
    cases hr
  ·
   rename_i hag
   have hlt:off < d.cells.length:=(List.getElem?_eq_some_iff.1 hr).1
   rw [hdl.1] at hlt
   have hx:=List.getElem?_eq_getElem (l:=cs) (i:=n * sz + off) (by omega)
   refine ⟨_,hx,hcs.get (i:=n * sz + off) ?_ hx⟩
   rw [List.getElem?_map,List.append_assoc,List.getElem?_append_right (by omega),h2,show n * sz + off - n * sz=off by omega,List.getElem?_append_left (by rw [hdl.1]; exact hlt),hr]; rfl
  ·
   cases hr
 obtain ⟨w,k1,k2⟩:=key
 exact ⟨w,by simp only [oper,h,iP,St.look,hid,Nat.beq_refl,cond_true,k1,Option.map_some],k2⟩
theorem zZ {α:Type} {a b cs cv:List α} {off:Nat} (h:off + cv.length ≤ cs.length):setAt (a ++ cs ++ b) (a.length + off) cv=a ++ setAt cs off cv ++ b:=by
 induction cv generalizing cs off with
 | nil=>rfl
 | cons c cv ih =>
  simp only [List.length_cons] at h
  rw [setAt,setAt]
  have e:(a ++ cs ++ b).set (a.length + off) c=a ++ cs.set off c ++ b:=by
   rw [List.append_assoc,List.set_append_right _ _ (by omega),show a.length + off - a.length=off by omega,List.set_append_left _ _ (by omega),← List.append_assoc]
  rw [e,Nat.add_assoc]
  exact ih (by rw [List.length_set]; omega)
theorem sH {xs:List D} {i n off sz:Nat} {d d':D} {p vy:AV} {cv:List D} (H:Has B S l) (hi:l[i]? = some (.row sz v xs)) (hp:lS v p n off) (hd:xs[n]? = some d) (h:ρ x=some p) (hy:ρ y=some vy)
  (hcv:bP (cv.map .d) vy.cells) (hn:cv.length=au C.P t) (hpl:vy.plain=true) (hag:(dA C.P t).isSome=true) (hb:Nat.ble (off + cv.length) d.cells.length=true) (hs:setAt d.cells off cv=d'.cells) (hf:eD d'.cells=true) :
  ∃ S',oper C ρ S (.store t x y)=some (.skip S')∧Has B S' (l.set i (.row sz v (xs.set n d'))):=by
 obtain ⟨id,g,cs,rfl,hpos,hsz,hcs,hid⟩:=pJ (H.at hi) hd
 obtain ⟨id',g',len,lim,sz',he,rfl⟩:=hp
 cases he
 have hdl:=hsz d (List.mem_of_getElem? hd)
 obtain ⟨a,b,h1,h2,h3⟩:=xn (fun x hx=>(hsz x hx).1) hd
 have hlen:cs.length=((xs.map D.cells).flatten).length:=by have:=hcs.len; rw [List.length_map] at this; exact this.symm
 have hb:=Nat.le_of_ble_eq_true hb
 have hvl:vy.cells.length=cv.length:=by have:=hcv.len; rw [List.length_map] at this; exact this.symm
 rw [h1] at hlen
 simp only [List.length_append,h2,hdl.1] at hlen
 rw [hdl.1] at hb
 refine ⟨{ S with H:=S.H.set id (.cells g (setAt cs (n * sz + off) vy.cells)) },?_,?_⟩
 ·
  simp only [oper,h,hy,mE,hid]
  rw [if_pos ⟨hvl.trans hn,hpl,hag⟩,if_pos trivial,if_pos (by omega)]
  rfl
 ·
  refine H.set hi rfl ?_ (fun j hl=>?_) (fun j hj=>?_) (fun j hj=>rfl) rfl
  ·
   refine ⟨rfl,by simp,by simp,rfl,hpos,fun z hz=>?_,_,?_,by simp [AL.aF]; rfl⟩
   ·
    rcases List.mem_or_eq_of_mem_set hz with hz | rfl
    ·
     exact hsz z hz
    ·
     exact ⟨by rw [← hs,ug]; exact hdl.1,hf⟩
   ·
    rw [h3,← hs,← zZ (by rw [hdl.1]; exact hb),h2,tT,← h1]
    exact bP.setAt hcv hcs _
  ·
   refine H.wf j ?_
   unfold live cur at hl ⊢
   simp only [AL.aF] at hl
   by_cases hij:id=j
   ·
    subst hij; rw [hid]; simp
   ·
    rw [if_neg hij] at hl; exact hl
  ·
   simp only [bC.fp,List.mem_singleton] at hj
   simp only [AL.aF]
   rw [if_neg (fun q=>hj q.symm)]
theorem zM {xs:List D} {i tt sz:Nat} (H:Has B S l) (hi:l[i]? = some (.row sz v xs)) (h:(aS C.P tt).isSome=true):kz C tt v=true∧fQ v S=some xs.length:=by
 have hg:=H.at hi
 have hu:∃ e,C.P.underlying tt=some (.slice e):=by
  unfold aS at h
  split at h
  ·
   rename_i hu; exact ⟨_,hu⟩
  ·
   cases h
 obtain ⟨e,hu⟩:=hu
 simp only [bC.ok] at hg
 split at hg
 ·
  subst hg; exact ⟨by simp [kz,hu],rfl⟩
 ·
  subst hg; exact ⟨by simp [kz,hu],rfl⟩
 ·
  obtain ⟨rfl,rfl,rfl,_⟩:=hg; exact ⟨by simp [kz,hu],rfl⟩
 ·
  exact hg.elim
theorem zB {α:Type} {enc:α→D} {xs:List α} {tt i sz:Nat} (H:Has B S l) (hi:l[i]? = some (.row sz v (xs.map enc))) (h:ρ x=some v) (ht:(aS C.P tt).isSome=true):oper C ρ S (.call { callee:=.builtin .len,args:=#[x],argTypes:=#[tt] })=some (.val (.d (.int .i64 (xs.length:Int))) S):=by
 obtain ⟨h1,h2⟩:=zM (C:=C) H hi ht
 exact rY h h1 (by rw [h2]; simp)
end
end
end Go.Ev

namespace Go.Ev
noncomputable section
set_option linter.unusedVariables false
set_option linter.unusedSimpArgs false
variable {R:aM} {P:Program} {B:St}
theorem yg {C:bN} {S:St} {y:AV} {ys:List D} {sz:Nat} (h:eH y=some ys) (hs:sizes sz ys=true):ic S sz y=some ((ys.map D.cells).flatten.map .d,ys.length):=by
 cases y with
 | d x=>cases x <;> simp only [eH] at h <;> first | (cases h; done) | (cases h; simp [ic,lq,eH,hs,sizes]; try simpa [sizes] using hs)
 | tsl zs tok=>simp only [eH] at h; cases h; simp [ic,lq,eH,hs]
 | _=>simp only [eH] at h; cases h
section
variable {C:bN} {ρ:Operand→Option AV} {S:St} {l:List bC} {x y:Operand} {t:Nat} {v:AV}
theorem qb {i u:Nat} {vy:AV} {xs ys:List D} {el nb:Nat} (H:Has B S l) (hx:ρ x=some v) (hy:ρ y=some vy) (hi:l[i]? = some (.row (au C.P el) v xs)) (hd:eH vy=some ys) (hnr:C.rowT t=true) (hu:dR C u=true) (he:aS C.P t=some el)
  (hb:(xs.length + ys.length) * nb ≤ bound) (hnb:bytesOf C.P el=nb) (h0:(Nat.blt 0 nb && Nat.ble nb 65536)=true) (hsy:sizes (au C.P el) ys=true) (hfy:∀ z ∈ ys,eD z.cells=true) (hpos:Nat.blt 0 (au C.P el)=true) (hz:dD C el=true) :
  ∃ v' S',oper C ρ S (.call { callee:=.builtin .append,args:=#[x,y],argTypes:=#[t,u] })=some (.val v' S')∧Has B S' (l.set i (.row (au C.P el) v' (xs ++ ys))):=by
 subst hnb
 have hm:dG ρ [x,y]=some [v,vy]:=by simp only [dG,hx,hy,Option.map_some]
 have hpos:0 < au C.P el:=Nat.le_of_ble_eq_true hpos
 have hinfo:(C.P.info? el).isSome=true:=by
  unfold dD at hz
  cases hq:C.P.info? el with
  | none=>rw [hq] at hz; cases hz
  | some x=>rfl
 have hgrow:∀ n,n=xs.length + ys.length→nX C el n=true:=fun n hn=>by
  simp only [Bool.and_eq_true] at h0
  simp only [nX,hz,Bool.and_true,Bool.and_eq_true]
  exact ⟨⟨Nat.ble_eq_true_of_le (by rw [hn]; exact hb),h0.1⟩,h0.2⟩
 have hsrc:=yg (C:=C) (S:=S) hd hsy
 have hil:i < l.length:=(List.getElem?_eq_some_iff.1 hi).1
 have hsame:∀ w,l[i]? = some (.row (au C.P el) w xs)→l.set i (.row (au C.P el) w xs)=l:=fun w hw=>by
  apply List.ext_getElem?
  intro j
  rw [List.getElem?_set]
  by_cases hij:i=j
  ·
   subst hij; simp [hil]; exact (List.getElem?_eq_some_iff.1 hw).2.symm
  ·
   simp [hij]
 have fresh:S.H.get S.nx=none:=H.wf.fresh (Nat.le_refl _)
 have hysz:=iJ hsy
 have first:∀ w,(w=.d .di∨w=.d (.sl [] true))→l[i]? = some (.row (au C.P el) w xs)→xs=[]→∃ v' S',eY C el S w [] vy=some (v',S')∧Has B S' (l.set i (.row (au C.P el) v' (xs ++ ys))):=fun w hw hiw hxs=>by
  subst hxs
  by_cases hn:ys.length=0
  ·
   have:ys=[]:=List.eq_nil_of_length_eq_zero hn
   subst this
   refine ⟨w,S,?_,?_⟩
   ·
    simp only [eY,hsrc,List.length_nil,if_true,hinfo]
   ·
    rw [List.append_nil,hsame w hiw]; exact H
  ·
   refine ⟨.msl S.nx 0 0 ys.length ys.length (au C.P el),{ S with H:=S.H.set S.nx (.cells 0 ((ys.map D.cells).flatten.map .d)),nx:=S.nx + 1 },?_,?_⟩
   ·
    simp only [eY,hsrc]
    rw [if_neg hn,if_pos ⟨hn,hpos,rfl,by rw [List.length_nil]; exact hgrow _ (by simp)⟩]
    simp
   ·
    have hfp:(bC.row (au C.P el) w []).fp=[]:=by rcases hw with rfl | rfl <;> rfl
    refine H.Ag hiw hfp rfl ⟨rfl,rfl,rfl,rfl,hpos,fun z hz=>⟨hysz z hz,hfy z hz⟩,_,.refl _,by simp [AL.aF]⟩ (fun id hl=>?_) (fun id hid=>by simp only [AL.aF]; rw [if_neg (by omega)]) (fun id hid=>rfl) (Nat.le_succ _)
    show id < S.nx + 1
    unfold live cur at hl
    simp only [AL.aF] at hl
    by_cases hq:S.nx=id
    ·
     omega
    ·
     rw [if_neg hq] at hl
     have:=H.wf id hl
     omega
 have hg:=H.at hi
 simp only [oper,hm,dH,List.getElem?_toArray,List.getElem?_cons_zero,List.getElem?_cons_succ,hu,if_true,he]
 simp only [bC.ok] at hg
 split at hg
 ·
  subst hg
  obtain ⟨v',S',h1,h2⟩:=first _ (.inl rfl) hi rfl
  exact ⟨v',S',by simp only [hnr,cond_true,h1,Option.map_some],h2⟩
 ·
  subst hg
  obtain ⟨v',S',h1,h2⟩:=first _ (.inr rfl) hi rfl
  exact ⟨v',S',by simp only [hnr,cond_true,h1,Option.map_some],h2⟩
 ·
  rename_i id g off len lim sz'
  obtain ⟨rfl,rfl,rfl,rfl,_,hsz,cs,hcs,hid⟩:=hg
  have hlen:cs.length=xs.length * au C.P el:=by
   have:=hcs.len
   rw [List.length_map,vX (fun x hx=>(hsz x hx).1)] at this; exact this.symm
  by_cases hn:ys.length=0
  ·
   have:ys=[]:=List.eq_nil_of_length_eq_zero hn
   subst this
   refine ⟨.msl id g 0 xs.length xs.length (au C.P el),S,?_,?_⟩
   rotate_left 1
   ·
    rw [List.append_nil,hsame _ hi]; exact H
   ·
    simp only [jN,hsrc,St.look,hid,Nat.beq_refl,cond_true]
    rw [if_pos ⟨trivial,hpos,by omega⟩]
    simp
  ·
   refine ⟨.msl id (g + 1) 0 (xs.length + ys.length) (xs.length + ys.length) (au C.P el),{ S with H:=S.H.set id (.cells (g + 1) (cs.take (xs.length * au C.P el) ++ (ys.map D.cells).flatten.map .d)) },?_,?_⟩
   ·
    have hm':0 < ys.length * au C.P el:=Nat.mul_pos (by omega) hpos
    simp only [jN,hsrc,St.look,hid,Nat.beq_refl,cond_true]
    rw [if_pos ⟨trivial,hpos,by omega⟩,if_neg hn,if_neg (by omega),if_pos ⟨trivial,hgrow _ rfl⟩]
    rfl
   ·
    refine H.set hi rfl ⟨rfl,by simp,by simp,rfl,hpos,fun z hz=>?_,cs.take (xs.length * au C.P el) ++ (ys.map D.cells).flatten.map .d,?_,by simp only [AL.aF,if_true]⟩ (fun j hl=>?_) (fun j hj=>?_) (fun j hj=>rfl) rfl
    ·
     rcases List.mem_append.1 hz with hz | hz
     ·
      exact hsz z hz
     ·
      exact ⟨hysz z hz,hfy z hz⟩
    ·
     rw [List.map_append,List.flatten_append,List.map_append,← hlen,List.take_of_length_le (Nat.le_refl _)]
     exact hcs.append (.refl _)
    ·
     refine H.wf j ?_
     unfold live cur at hl ⊢
     simp only [AL.aF] at hl
     by_cases hij:id=j
     ·
      subst hij; rw [hid]; simp
     ·
      rw [if_neg hij] at hl; exact hl
    ·
     simp only [bC.fp,List.mem_singleton] at hj
     simp only [AL.aF]
     rw [if_neg (fun q=>hj q.symm)]
 ·
  exact hg.elim
theorem Has.DC {B S:St} {l:List bC} (H:Has B S l) (sz:Nat):Has B S (.row sz (.d .di) [] :: l):=H.Bl rfl rfl
end
theorem cB.kC {f:Nat} {args:List AV} {S:St} {Q:Out→Prop} (h:cB R P f args S Q):cB R P f args S (fun o=>Q o∧∀ id b,o.2.2.H.get id=some b→o.2.2.T.get id=none) :=
 ⟨h.1,fun cx w us h1 h2 h3=>(h.2 cx w us h1 h2 h3).mono fun e w' ⟨r,q,cx',k,k2⟩=>⟨r,⟨q,k.kC⟩,cx',k,k2⟩⟩
section
variable {C:bN} {nt:Nat}
section steps
variable {ops:Array Oper} {rest:List Oper} {e:Env} {S S':St} {Q:Stp→Prop} {l l':List bC} {t ty:Nat} {p:String} {af:Array Edge} {g:Option (Nat × Bool)} {x y:Operand} {v:AV}
theorem ah.CQ {α:Type} {enc:α→D} {xs:List α} {i sz tt:Nat} {n:Int} {k:IntKind} {z:α} {el:Nat} (H:Has B S l) (hw:bf ops e { dst:=some t,op:=.indexAddr tt x y,type:=ty,pos:=p,after:=af,guard:=g }=some true) (hi:l[i]? = some (.row sz v (xs.map enc))) (hx:bA e x=some v) (hy:bA e y=some (.d (.int k n)))
  (h:idx xs n=some z) (he:aS C.P tt=some el) (ha:(dA C.P el).isSome=true) (hz:(enc z).cells.length=au C.P el) (ht:Nat.blt t nt=true)
  (k:∀ p,lS v p n.toNat 0→ah R C nt ops rest ((t,p) :: e) S Q) :
  ah R C nt ops ({ dst:=some t,op:=.indexAddr tt x y,type:=ty,pos:=p,after:=af,guard:=g } :: rest) e S Q:=by
 obtain ⟨p,h1,h2⟩:=wh (C:=C) (ρ:=bA e) H hi hx hy h he ha hz
 exact ah.val hw h1 ht (k p h2)
theorem ah.BJ {xs:List D} {i n off sz tt:Nat} {d r:D} {q:AV} (H:Has B S l) (hw:bf ops e { dst:=some t,op:=.load tt x,type:=ty,pos:=p,after:=af,guard:=g }=some true) (hi:l[i]? = some (.row sz v xs)) (hp:lS v q n off) (hd:xs[n]? = some d) (h:bA e x=some q) (hr:dJ C.P tt d.cells off=some r) (ht:Nat.blt t nt=true)
  (k:ah R C nt ops rest ((t,.d r) :: e) S Q) :
  ah R C nt ops ({ dst:=some t,op:=.load tt x,type:=ty,pos:=p,after:=af,guard:=g } :: rest) e S Q:=by
 obtain ⟨w,h1,h2⟩:=uN (C:=C) (ρ:=bA e) H hi hp hd h hr
 exact ah.val hw h1 ht (ah.less h2 k)
theorem ah.Bt {xs:List D} {i n off sz tt:Nat} {d d':D} {q vy:AV} {cv:List D} (H:Has B S l) (hw:bf ops e { dst:=none,op:=.store tt x y,type:=ty,pos:=p,after:=af,guard:=g }=some true) (hi:l[i]? = some (.row sz v xs)) (hp:lS v q n off) (hd:xs[n]? = some d) (h:bA e x=some q) (hy:bA e y=some vy)
  (hcv:bP (cv.map .d) vy.cells) (hn:cv.length=au C.P tt) (hpl:vy.plain=true) (hag:(dA C.P tt).isSome=true) (hb:Nat.ble (off + cv.length) d.cells.length=true) (hs:setAt d.cells off cv=d'.cells) (hf:eD d'.cells=true)
  (hl:l.set i (.row sz v (xs.set n d'))=l') (k:∀ S',Has B S' l'→ah R C nt ops rest e S' Q) :
  ah R C nt ops ({ dst:=none,op:=.store tt x y,type:=ty,pos:=p,after:=af,guard:=g } :: rest) e S Q:=by
 subst hl
 obtain ⟨S',h1,h2⟩:=sH (C:=C) (ρ:=bA e) H hi hp hd h hy hcv hn hpl hag hb hs hf
 exact ah.skip hw h1 (k S' h2)
theorem ah.zG {i u t1:Nat} {vy:AV} {xs ys zs:List D} {el nb sz:Nat} (H:Has B S l) (hw:bf ops e { dst:=some t,op:=.call { callee:=.builtin .append,args:=#[x,y],argTypes:=#[t1,u] },type:=ty,pos:=p,after:=af,guard:=g }=some true)
  (hx:bA e x=some v) (hy:bA e y=some vy) (hi:l[i]? = some (.row sz v xs)) (hsz:au C.P el=sz) (hd:eH vy=some ys) (hnr:C.rowT t1=true) (hu:dR C u=true) (he:aS C.P t1=some el)
  (hb:(xs.length + ys.length) * nb ≤ bound) (hnb:bytesOf C.P el=nb) (h0:(Nat.blt 0 nb && Nat.ble nb 65536)=true) (hsy:sizes (au C.P el) ys=true) (hfy:∀ z ∈ ys,eD z.cells=true) (hpos:Nat.blt 0 sz=true) (hz:dD C el=true) (ht:Nat.blt t nt=true) (hzs:xs ++ ys=zs)
  (k:∀ v' S',Has B S' (l.set i (.row sz v' zs))→ah R C nt ops rest ((t,v') :: e) S' Q) :
  ah R C nt ops ({ dst:=some t,op:=.call { callee:=.builtin .append,args:=#[x,y],argTypes:=#[t1,u] },type:=ty,pos:=p,after:=af,guard:=g } :: rest) e S Q:=by
 subst hzs
 subst hsz
 obtain ⟨v',S',h1,h2⟩:=qb (C:=C) (ρ:=bA e) H hx hy hi hd hnr hu he hb hnb h0 hsy hfy hpos hz
 exact ah.val hw h1 ht (k v' S' h2)
end steps
end
end
end Go.Ev

namespace Go.Ev
noncomputable section
set_option linter.unusedVariables false
set_option linter.unusedSimpArgs false
variable {R:aM} {P:Program} {B:St}
def oV {α:Type} (l:List α) (n:Int) (z:α):List α:=l.set n.toNat z
theorem Bj {α:Type} {enc:α→D} (h:∀ x,eD (enc x).cells=true) (l:List α):∀ z ∈ l.map enc,eD z.cells=true:=fun z hz=>by
 obtain ⟨x,_,rfl⟩:=List.mem_map.1 hz
 exact h x
inductive kT (sz:Nat):List AV→List (List AV)→Prop
 | nil:kT sz [] []
 | cons {v:AV} {c:List AV} {vs:List AV} {cs:List (List AV)} (h:iR v=some c) (hl:c.length=sz) (k:kT sz vs cs):kT sz (v :: vs) (c :: cs)
theorem xk {sz:Nat} {vs:List AV} {cs:List (List AV)} (h:kT sz vs cs):∀ (done:List (List AV)) (todo:List AV),(∀ d ∈ done,d.length=sz)→todo.length=vs.length * sz →
  fu iR (fun i=>some (i * sz,sz)) (done.flatten ++ todo) (lQ done.length vs)=some ((done ++ cs).flatten):=by
 induction h with
 | nil =>
  intro done todo _ ht
  have:todo=[]:=List.eq_nil_of_length_eq_zero (by simpa using ht)
  subst this
  simp [lQ,fu]
 | @cons v d vs ds h hl k ih =>
  intro done todo hd ht
  have hlen:(done.flatten).length=done.length * sz:=by
   clear ih ht
   induction done with
   | nil=>simp
   | cons x l ihl =>
    simp only [List.flatten_cons,List.length_append,hd x List.mem_cons_self,List.length_cons,ihl (fun d h=>hd d (List.mem_cons_of_mem _ h))]
    rw [Nat.add_mul]; omega
  simp only [List.length_cons] at ht
  rw [Nat.add_mul,Nat.one_mul] at ht
  simp only [lQ,fu,h]
  rw [if_pos ⟨hl,by rw [List.length_append,hlen,hl]; omega⟩]
  have e1:todo=todo.take sz ++ todo.drop sz:=(List.take_append_drop sz todo).symm
  have e2:setAt (done.flatten ++ todo) (done.length * sz) d=((done ++ [d])).flatten ++ todo.drop sz:=by
   rw [e1,← List.append_assoc,← hlen,nS _ _ _ _ (by rw [hl,List.length_take]; omega)]
   simp
  rw [e2]
  have:=ih (done ++ [d]) (todo.drop sz) (fun x hx=>by
   rcases List.mem_append.1 hx with hx | hx
   ·
    exact hd x hx
   ·
    rw [List.mem_singleton.1 hx]; exact hl) (by rw [List.length_drop]; omega)
  rw [show (done ++ [d]).length=done.length + 1 by simp] at this
  rw [this]
  simp
inductive qY {α:Type} (enc:α→D):List α→List (List AV)→Prop
 | nil:qY enc [] []
 | cons {x:α} {c:List AV} {xs:List α} {cs:List (List AV)} (h:bP ((enc x).cells.map .d) c) (k:qY enc xs cs):qY enc (x :: xs) (c :: cs)
theorem qY.flat {α:Type} {enc:α→D} {xs:List α} {cs:List (List AV)} (h:qY enc xs cs):bP (((xs.map enc).map D.cells).flatten.map .d) cs.flatten∧xs.length=cs.length:=by
 induction h with
 | nil=>exact ⟨.nil,rfl⟩
 | cons h k ih=>exact ⟨by simp only [List.map_cons,List.flatten_cons,List.map_append]; exact h.append ih.1,by simp [ih.2]⟩
theorem kT.len {sz:Nat} {vs:List AV} {cs:List (List AV)} (h:kT sz vs cs):vs.length=cs.length∧∀ c ∈ cs,c.length=sz:=by
 induction h with
 | nil=>exact ⟨rfl,by simp⟩
 | cons h hl k ih=>exact ⟨by simp [ih.1],fun d hd=>by rcases List.mem_cons.1 hd with rfl | hd; exact hl; exact ih.2 d hd⟩
theorem su {α:Type} {enc:α→D} {C:bN} {ρ:Operand→Option AV} {S:St} {l:List bC} {t n el sz:Nat} {ps:Array (Nat × Operand)} {zd:D} {vs:List AV} {cs:List (List AV)} {xs:List α} (H:Has B S l) (hr:C.rowT t=true) (he:aS C.P t=some el) (ha:(dA C.P el).isSome=true) (hz:zeroOf C.P el=some zd) (hs:au C.P el=sz) (hzl:zd.cells.length=sz) (hb:n * sz ≤ 16777216∧0 < n * sz)
  (hv:kT sz vs cs) (hn:vs.length=n) (hl:qY enc xs cs) (hsz:∀ x,(enc x).cells.length=sz) (hf:∀ x,eD (enc x).cells=true) (hev:iQ ρ ps=some (lQ 0 vs)):∃ v S',oper C ρ S (.buildSlice t n ps)=some (.val v S')∧Has B S' (.row sz v (xs.map enc) :: l):=by
 obtain ⟨k1,k2⟩:=hv.len
 obtain ⟨l1,l2⟩:=hl.flat
 subst hs
 have hn0:n ≠ 0:=fun q=>by subst q; simp at hb
 have hpos:0 < au C.P el:=Nat.pos_of_ne_zero (fun q=>by rw [q] at hb; simp at hb)
 have f1:=xk hv [] ((List.replicate n zd.cells).flatten.map .d) (by simp) (by
  rw [List.length_map,List.length_flatten,List.map_replicate,List.sum_replicate_nat,hzl,hn])
 simp only [List.flatten_nil,List.nil_append,List.length_nil] at f1
 have hrow:jK C t n=true:=by
  simp only [jK,hr,Bool.true_and]
  cases hq:Nat.beq n 0
  ·
   rfl
  ·
   exact absurd (Nat.eq_of_beq_eq_true hq) hn0
 refine ⟨.msl S.nx 0 0 n n (au C.P el),aP S (.cells 0 cs.flatten),?_,H.new (.cells 0 cs.flatten) (a:=.row (au C.P el) (.msl S.nx 0 0 n n (au C.P el)) (xs.map enc)) rfl ⟨rfl,by simp; omega,by simp; omega,rfl,hpos,fun w hw=>?_,cs.flatten,l1,by simp only [aP,AL.aF,if_true]⟩⟩
 ·
  simp only [oper,hrow,cond_true,hev,gy,he,hz]
  rw [if_pos ⟨hzl,hb.2,hb.1,ha⟩]
  simp only [H.xL,cond_false,f1,Option.map_some]
  rfl
 ·
  obtain ⟨x,_,rfl⟩:=List.mem_map.1 hw
  exact ⟨hsz x,hf x⟩
section
variable {C:bN} {nt:Nat} {ops:Array Oper} {rest:List Oper} {e:Env} {S S':St} {Q:Stp→Prop} {l l':List bC} {t ty:Nat} {p:String} {af:Array Edge} {g:Option (Nat × Bool)} {x y:Operand} {v:AV}
theorem ah.za {α:Type} {enc:α→D} {xs:List α} {i off sz tt:Nat} {n:Int} {z z':α} {q vy:AV} {cv:List D} {cw:List AV} (H:Has B S l) (hw:bf ops e { dst:=none,op:=.store tt x y,type:=ty,pos:=p,after:=af,guard:=g }=some true) (hi:l[i]? = some (.row sz v (xs.map enc))) (hp:lS v q n.toNat off) (hz:idx xs n=some z) (h:bA e x=some q) (hy:bA e y=some vy)
  (hcw:vy.cells=cw) (hcv:bP (cv.map .d) cw) (hn:au C.P tt=cv.length) (hpl:vy.plain=true) (hag:(dA C.P tt).isSome=true) (hb:Nat.ble (off + cv.length) (enc z).cells.length=true) (hs:setAt (enc z).cells off cv=(enc z').cells) (hf:eD (enc z').cells=true)
  (k:∀ S',Has B S' (l.set i (.row sz v ((oV xs n z').map enc)))→ah R C nt ops rest e S' Q) :
  ah R C nt ops ({ dst:=none,op:=.store tt x y,type:=ty,pos:=p,after:=af,guard:=g } :: rest) e S Q:=by
 subst hcw
 have hd:(xs.map enc)[n.toNat]? = some (enc z):=by rw [List.getElem?_map,(jc hz).2]; rfl
 refine ah.Bt H hw hi hp hd h hy hcv hn.symm hpl hag hb hs hf rfl (fun S' hS=>k S' ?_)
 rw [oV,List.map_set]; exact hS
theorem ah.Aw {α:Type} {enc:α→D} {tt n el sz:Nat} {ps:Array (Nat × Operand)} {zd:D} {vs:List AV} {cs:List (List AV)} {xs:List α} (H:Has B S l) (hw:bf ops e { dst:=some t,op:=.buildSlice tt n ps,type:=ty,pos:=p,after:=af,guard:=g }=some true) (hr:C.rowT tt=true) (he:aS C.P tt=some el) (ha:(dA C.P el).isSome=true) (hz:zeroOf C.P el=some zd) (hs:au C.P el=sz) (hzl:zd.cells.length=sz) (hb:n * sz ≤ 16777216∧0 < n * sz)
  (hv:kT sz vs cs) (hn:vs.length=n) (hl:qY enc xs cs) (hsz:∀ x,(enc x).cells.length=sz) (hf:∀ x,eD (enc x).cells=true) (hev:iQ (bA e) ps=some (lQ 0 vs)) (ht:Nat.blt t nt=true)
  (k:∀ v S',Has B S' (.row sz v (xs.map enc) :: l)→ah R C nt ops rest ((t,v) :: e) S' Q) :
  ah R C nt ops ({ dst:=some t,op:=.buildSlice tt n ps,type:=ty,pos:=p,after:=af,guard:=g } :: rest) e S Q:=by
 obtain ⟨v',S',h1,h2⟩:=su (C:=C) (ρ:=bA e) H hr he ha hz hs hzl hb hv hn hl hsz hf hev
 exact ah.val hw h1 ht (k v' S' h2)
end
end
end Go.Ev
namespace Go.Ev
end Go.Ev
namespace Go.Ev
noncomputable section
set_option linter.unusedVariables false
def jT (v:AV) (n off:Nat):AV:=match v with
 | .msl id g _ _ _ sz=>.ptr id g (n * sz + off)
 | _=>.any
theorem um {S:St} {B:St} {l:List bC} (H:Has B S l) {i sz:Nat} {v:AV} {xs:List D} (hi:l[i]? = some (.row sz v xs)) {n:Nat} {d:D} (hd:xs[n]? = some d) (off:Nat):lS v (jT v n off) n off:=by
 obtain ⟨id,g,cs,rfl,_⟩:=pJ (H.at hi) hd
 exact ⟨id,g,_,_,sz,rfl,rfl⟩
theorem lS.eq {v p:AV} {n off:Nat} (h:lS v p n off):p=jT v n off:=by
 obtain ⟨id,g,len,lim,sz,rfl,rfl⟩:=h
 rfl
section
variable {R:aM} {C:bN} {nt:Nat} {B:St} {ops:Array Oper} {rest:List Oper} {e:Env} {S S':St} {Q:Stp→Prop} {l l':List bC} {t ty:Nat} {p:String} {af:Array Edge} {g:Option (Nat × Bool)} {x y:Operand} {v:AV}
theorem ah.pR {α:Type} {enc:α→D} {xs:List α} {i sz tt:Nat} {n:Int} {k:IntKind} {z:α} {el:Nat} (H:Has B S l) (hw:bf ops e { dst:=some t,op:=.indexAddr tt x y,type:=ty,pos:=p,after:=af,guard:=g }=some true) (hi:l[i]? = some (.row sz v (xs.map enc))) (hx:bA e x=some v) (hy:bA e y=some (.d (.int k n)))
  (h:idx xs n=some z) (he:aS C.P tt=some el) (ha:(dA C.P el).isSome=true) (hz:(enc z).cells.length=au C.P el) (ht:Nat.blt t nt=true)
  (k:ah R C nt ops rest ((t,jT v n.toNat 0) :: e) S Q) :
  ah R C nt ops ({ dst:=some t,op:=.indexAddr tt x y,type:=ty,pos:=p,after:=af,guard:=g } :: rest) e S Q :=
 ah.CQ H hw hi hx hy h he ha hz ht (fun p hp=>by rw [hp.eq]; exact k)
theorem ah.vP {α:Type} {enc:α→D} {xs:List α} {i off sz tt:Nat} {n:Int} {z:α} {r:D} (H:Has B S l) (hw:bf ops e { dst:=some t,op:=.load tt x,type:=ty,pos:=p,after:=af,guard:=g }=some true) (hi:l[i]? = some (.row sz v (xs.map enc))) (hz:idx xs n=some z) (h:bA e x=some (jT v n.toNat off)) (hr:dJ C.P tt (enc z).cells off=some r) (ht:Nat.blt t nt=true)
  (k:ah R C nt ops rest ((t,.d r) :: e) S Q) :
  ah R C nt ops ({ dst:=some t,op:=.load tt x,type:=ty,pos:=p,after:=af,guard:=g } :: rest) e S Q:=by
 have hd:(xs.map enc)[n.toNat]? = some (enc z):=by rw [List.getElem?_map,(jc hz).2]; rfl
 exact ah.BJ H hw hi (um H hi hd off) hd h hr ht k
theorem ah.tL {α:Type} {enc:α→D} {xs:List α} {i off sz tt:Nat} {n:Int} {z z':α} {vy:AV} {cv:List D} {cw:List AV} (H:Has B S l) (hw:bf ops e { dst:=none,op:=.store tt x y,type:=ty,pos:=p,after:=af,guard:=g }=some true) (hi:l[i]? = some (.row sz v (xs.map enc))) (hz:idx xs n=some z) (h:bA e x=some (jT v n.toNat off)) (hy:bA e y=some vy)
  (hcw:vy.cells=cw) (hcv:bP (cv.map .d) cw) (hn:au C.P tt=cv.length) (hpl:vy.plain=true) (hag:(dA C.P tt).isSome=true) (hb:Nat.ble (off + cv.length) (enc z).cells.length=true) (hs:setAt (enc z).cells off cv=(enc z').cells) (hf:eD (enc z').cells=true)
  (k:∀ S',Has B S' (l.set i (.row sz v ((oV xs n z').map enc)))→ah R C nt ops rest e S' Q) :
  ah R C nt ops ({ dst:=none,op:=.store tt x y,type:=ty,pos:=p,after:=af,guard:=g } :: rest) e S Q:=by
 have hd:(xs.map enc)[n.toNat]? = some (enc z):=by rw [List.getElem?_map,(jc hz).2]; rfl
 exact ah.za H hw hi (um H hi hd off) hz h hy hcw hcv hn hpl hag hb hs hf k
end
end
end Go.Ev

namespace Go.Ev
noncomputable section
set_option linter.unusedVariables false
set_option linter.unusedSimpArgs false
variable {R:aM} {C:bN} {nt:Nat} {B:St}
theorem BC {ops:Array Oper} (hr:kR ops=true) {Q:Exit→Act→World→Prop} (Inv:Array Bool→Act→World→Prop)
  (hstep:∀ listed a w i o (K:Act→World→Prop),listed.size=ops.size→Closed ops listed→listed.getD i false=false→ops[i]? = some o→(∀ k,k < i→((Region.before ops).getD i 0).testBit k=true→listed.getD k false=true)→Inv listed a w →
   (∀ a' w',Inv (listed.setIfInBounds i true) a' w'→K a' w')→wpOp C.P ops Q i K a w)
  (hend:∀ listed a w,(∀ i,i < ops.size→listed.getD i false=true)→Inv listed a w→Q .normal a w) :
  ∀ (fuel:Nat) (listed:Array Bool) {w:World} {a:Act},listed.size=ops.size→Closed ops listed→((List.range ops.size).filter fun i=>!listed.getD i false).length=fuel→Inv listed a w→wpAny C.P .any ops Q fuel listed a w:=by
 intro fuel
 induction fuel with
 | zero =>
  intro listed w a hsz hcl hlen hI
  have hnil:=List.eq_nil_of_length_eq_zero hlen
  have hall:∀ i,i < ops.size→listed.getD i false=true:=fun i hi=>by
   cases hc:listed.getD i false with
   | true=>rfl
   | false =>
    have:i ∈ (List.range ops.size).filter fun i=>!listed.getD i false:=by
     rw [List.mem_filter]; exact ⟨List.mem_range.2 hi,by rw [hc]; rfl⟩
    rw [hnil] at this; cases this
  refine ⟨?_,hend listed a w hall hI⟩
  cases hq:Region.ready .any ops listed with
  | nil=>rfl
  | cons i l =>
   have hi:i ∈ Region.ready .any ops listed:=by rw [hq]; simp
   obtain ⟨h1,o,h2,_⟩:=mem_ready.1 hi
   have hlt:i < ops.size:=(Array.getElem?_eq_some_iff.1 h2).1
   have:=hall i hlt
   have hlt':i < listed.size:=by omega
   simp [hlt'] at h1 this
   rw [h1] at this; cases this
 | succ fuel ih =>
  intro listed w a hsz hcl hlen hI
  refine ⟨fun hnone=>?_,fun i hi=>?_⟩
  ·
   exfalso
   cases hq:(List.range ops.size).filter fun i=>!listed.getD i false with
   | nil=>rw [hq] at hlen; simp at hlen
   | cons m l =>
    have hm:m ∈ (List.range ops.size).filter fun i=>!listed.getD i false:=by rw [hq]; simp
    obtain ⟨hm1,hm2⟩:=List.mem_filter.1 hm
    exact xR hr hsz (List.mem_range.1 hm1) (by simpa using hm2) hnone
  ·
   obtain ⟨h1,o,h2,h3⟩:=mem_ready.1 hi
   have hlt:i < ops.size:=(Array.getElem?_eq_some_iff.1 h2).1
   have hlt':i < listed.size:=by omega
   have h1':listed.getD i false=false:=by simp [hlt'] at h1 ⊢; exact h1
   have hclo:=Cy hr hcl h2 h3
   refine hstep listed a w i o _ hsz hcl h1' h2 hclo hI (fun a' w' hI'=>ih _ (by simpa using hsz) (yu hcl hclo) ?_ hI')
   have hsp:=hlen
   have hmem:i ∈ (List.range ops.size).filter fun i=>!listed.getD i false:=by
    rw [List.mem_filter]; exact ⟨List.mem_range.2 hlt,by rw [h1']; rfl⟩
   obtain ⟨l1,l2,hq⟩:=List.append_of_mem hmem
   have hnd:((List.range ops.size).filter fun i=>!listed.getD i false).Nodup:=List.Pairwise.filter _ List.nodup_range
   rw [hq] at hnd
   have hn2:=(List.nodup_append.1 hnd)
   have hne1:∀ k ∈ l1,k ≠ i:=fun k hk=>hn2.2.2 k hk i (by simp)
   have hne2:∀ k ∈ l2,k ≠ i:=fun k hk q=>by
    subst q
    exact (List.nodup_cons.1 hn2.2.1).1 hk
   rw [BV hlt' hq hne1 hne2]
   rw [hq] at hsp
   simp at hsp ⊢; omega
def Ci (cx:Cx) (S:St) (w:World) (a:Act) (t:Nat) (x:AV):Prop:=∃ v,a.tmps[t]? = some v∧av cx S w x v
structure mD (nt:Nat) (ops:Array Oper) (e0:Env) (listed:Array Bool) (ws:List (Option AV)) (cx:Cx) (S:St) (w:World) (a:Act):Prop where
 size:nt ≤ a.tmps.size
 new:∀ k o t,ops[k]? = some o→o.dst=some t→listed.getD k false=true→(∀ j o',j ≠ k→ops[j]? = some o'→o'.dst=some t→listed.getD j false=true→j < k)→∃ x,ws[k]? = some (some x)∧Ci cx S w a t x
 old:∀ t x,AL.get e0 t=some x→(∀ j o',ops[j]? = some o'→o'.dst=some t→listed.getD j false=false)→Ci cx S w a t x
abbrev Src:=List (Nat × Option Nat)
def jO (ws:List (Option AV)) (e0:Env):Src→Option Env
 | []=>some []
 | (t,some k) :: l=>match ws[k]? with
  | some (some x)=>(jO ws e0 l).map ((t,x) :: ·)
  | _=>none
 | (t,none) :: l=>match AL.get e0 t with
  | some x=>(jO ws e0 l).map ((t,x) :: ·)
  | none=>none
def oM (ops:Array Oper) (k t:Nat):Bool:=match ops[k]? with
 | some o=>(match o.dst with | some d=>Nat.beq d t | none=>false)
 | none=>false
theorem iK {ops:Array Oper} {k t:Nat}:oM ops k t=true↔∃ o,ops[k]? = some o∧o.dst=some t:=by
 unfold oM
 cases h:ops[k]? with
 | none=>simp
 | some o =>
  cases hd:o.dst with
  | none=>simp [hd]
  | some d=>simp [hd]
def ym (ops:Array Oper) (Bi:Nat) (i:Nat):Src→Bool
 | []=>true
 | (t,some k) :: l=>oM ops k t && Nat.testBit Bi k && ((List.range ops.size).all fun j=>!(oM ops j t) || Nat.beq j k || Nat.blt j k || Nat.beq j i || Nat.testBit ((Region.before ops).getD j 0) i) && ym ops Bi i l
 | (t,none) :: l=>((List.range ops.size).all fun j=>!(oM ops j t) || Nat.beq j i || Nat.testBit ((Region.before ops).getD j 0) i) && ym ops Bi i l
def zw (ops:Array Oper):Src→Bool
 | []=>true
 | (t,some k) :: l=>oM ops k t && ((List.range ops.size).all fun j=>!(oM ops j t) || Nat.beq j k || Nat.blt j k) && zw ops l
 | (t,none) :: l=>((List.range ops.size).all fun j=>!(oM ops j t)) && zw ops l
theorem lF {ops:Array Oper} {e0:Env} {listed:Array Bool} {ws:List (Option AV)} {cx:Cx} {S:St} {w:World} {a:Act} (h:mD nt ops e0 listed ws cx S w a):∀ {L:Src} {e:Env},jO ws e0 L=some e →
  (∀ t k,(t,some k) ∈ L→∃ o,ops[k]? = some o∧o.dst=some t∧listed.getD k false=true∧∀ j o',j ≠ k→ops[j]? = some o'→o'.dst=some t→listed.getD j false=true→j < k) →
  (∀ t,(t,none) ∈ L→∀ j o',ops[j]? = some o'→o'.dst=some t→listed.getD j false=false)→bW cx S w nt e a
 | [],e,he,_,_=>by
  simp only [jO,Option.some.injEq] at he
  subst he
  exact ⟨h.size,fun t x hx=>by simp [AL.get] at hx⟩
 | (t,some k) :: L,e,he,hA,hB=>by
  simp only [jO] at he
  split at he
  ·
   rename_i x hx
   obtain ⟨e',he',rfl⟩:=Option.map_eq_some_iff.1 he
   have ih:=lF h he' (fun t k hm=>hA t k (List.mem_cons_of_mem _ hm)) (fun t hm=>hB t (List.mem_cons_of_mem _ hm))
   refine ⟨h.size,fun u y hy=>?_⟩
   rw [AL.bF] at hy
   by_cases hu:t=u
   ·
    subst hu
    rw [if_pos rfl] at hy; cases hy
    obtain ⟨o,h1,h2,h3,h4⟩:=hA t k List.mem_cons_self
    obtain ⟨x',hx',hs⟩:=h.new k o t h1 h2 h3 h4
    rw [hx] at hx'; cases hx'
    exact hs
   ·
    rw [if_neg hu] at hy; exact ih.rel u y hy
  ·
   cases he
 | (t,none) :: L,e,he,hA,hB=>by
  simp only [jO] at he
  split at he
  ·
   rename_i x hx
   obtain ⟨e',he',rfl⟩:=Option.map_eq_some_iff.1 he
   have ih:=lF h he' (fun t k hm=>hA t k (List.mem_cons_of_mem _ hm)) (fun t hm=>hB t (List.mem_cons_of_mem _ hm))
   refine ⟨h.size,fun u y hy=>?_⟩
   rw [AL.bF] at hy
   by_cases hu:t=u
   ·
    subst hu
    rw [if_pos rfl] at hy; cases hy
    exact h.old t x hx (hB t List.mem_cons_self)
   ·
    rw [if_neg hu] at hy; exact ih.rel u y hy
  ·
   cases he
theorem ll {ops:Array Oper} (hr:kR ops=true) {i k:Nat} (hi:i < ops.size) (h:((Region.before ops).getD i 0).testBit k=true):k < i:=by
 rcases Nat.lt_or_ge k i with q | q
 ·
  exact q
 ·
  have:=(eO hr (show ops[i]? = some ops[i] by simp [hi])).2.2 k q
  rw [this] at h; cases h
theorem w9 {ops:Array Oper} (hr:kR ops=true) {e0:Env} {listed:Array Bool} (hcl:Closed ops listed) {ws:List (Option AV)} {cx:Cx} {S:St} {w:World} {a:Act} (h:mD nt ops e0 listed ws cx S w a) {i:Nat} (hi:i < ops.size) (hun:listed.getD i false=false)
  (hclo:∀ k,k < i→((Region.before ops).getD i 0).testBit k=true→listed.getD k false=true) {L:Src} {e:Env} (he:jO ws e0 L=some e) (hb:ym ops ((Region.before ops).getD i 0) i L=true):bW cx S w nt e a:=by
 have late:∀ j,j < ops.size→((Region.before ops).getD j 0).testBit i=true→listed.getD j false=true→False:=fun j hj hb hl=>by
  have:=hcl j hl i (ll hr hj hb) hb
  rw [this] at hun; cases hun
 have key:(∀ t k,(t,some k) ∈ L→∃ o,ops[k]? = some o∧o.dst=some t∧listed.getD k false=true∧∀ j o',j ≠ k→ops[j]? = some o'→o'.dst=some t→listed.getD j false=true→j < k) ∧
   (∀ t,(t,none) ∈ L→∀ j o',ops[j]? = some o'→o'.dst=some t→listed.getD j false=false):=by
  clear he
  induction L with
  | nil=>exact ⟨fun t k hm=>(by cases hm),fun t hm=>(by cases hm)⟩
  | cons p L ih =>
   obtain ⟨t,s⟩:=p
   cases s with
   | some k =>
    simp only [ym,Bool.and_eq_true] at hb
    obtain ⟨⟨⟨b1,b2⟩,b3⟩,b4⟩:=hb
    obtain ⟨ih1,ih2⟩:=ih b4
    refine ⟨fun u q hm=>?_,fun u hm=>?_⟩
    ·
     rcases List.mem_cons.1 hm with hm | hm
     ·
      cases hm
      obtain ⟨o,h1,h2⟩:=iK.1 b1
      refine ⟨o,h1,h2,hclo k (ll hr hi b2) b2,fun j o' hjk hj hd hl=>?_⟩
      have hjl:j < ops.size:=(Array.getElem?_eq_some_iff.1 hj).1
      have:=List.all_eq_true.1 b3 j (List.mem_range.2 hjl)
      simp only [iK.2 ⟨o',hj,hd⟩,Bool.not_true,Bool.false_or,Bool.or_eq_true] at this
      rcases this with ((q | q) | q) | q
      ·
       exact absurd (Nat.eq_of_beq_eq_true q) hjk
      ·
       exact Nat.le_of_ble_eq_true q
      ·
       rw [Nat.eq_of_beq_eq_true q,hun] at hl; cases hl
      ·
       exact (late j hjl q hl).elim
     ·
      exact ih1 u q hm
    ·
     rcases List.mem_cons.1 hm with hm | hm
     ·
      cases hm
     ·
      exact ih2 u hm
   | none =>
    simp only [ym,Bool.and_eq_true] at hb
    obtain ⟨b3,b4⟩:=hb
    obtain ⟨ih1,ih2⟩:=ih b4
    refine ⟨fun u q hm=>?_,fun u hm=>?_⟩
    ·
     rcases List.mem_cons.1 hm with hm | hm
     ·
      cases hm
     ·
      exact ih1 u q hm
    ·
     rcases List.mem_cons.1 hm with hm | hm
     ·
      cases hm
      intro j o' hj hd
      have hjl:j < ops.size:=(Array.getElem?_eq_some_iff.1 hj).1
      have:=List.all_eq_true.1 b3 j (List.mem_range.2 hjl)
      simp only [iK.2 ⟨o',hj,hd⟩,Bool.not_true,Bool.false_or,Bool.or_eq_true] at this
      rcases this with q | q
      ·
       rw [Nat.eq_of_beq_eq_true q]; exact hun
      ·
       cases hl:listed.getD j false with
       | false=>rfl
       | true=>exact (late j hjl q hl).elim
     ·
      exact ih2 u hm
 exact lF h he key.1 key.2
theorem Bh {ops:Array Oper} {e0:Env} {listed:Array Bool} (hall:∀ i,i < ops.size→listed.getD i false=true) {ws:List (Option AV)} {cx:Cx} {S:St} {w:World} {a:Act} (h:mD nt ops e0 listed ws cx S w a) {L:Src} {e:Env} (he:jO ws e0 L=some e) (hb:zw ops L=true):bW cx S w nt e a:=by
 have key:(∀ t k,(t,some k) ∈ L→∃ o,ops[k]? = some o∧o.dst=some t∧listed.getD k false=true∧∀ j o',j ≠ k→ops[j]? = some o'→o'.dst=some t→listed.getD j false=true→j < k) ∧
   (∀ t,(t,none) ∈ L→∀ j o',ops[j]? = some o'→o'.dst=some t→listed.getD j false=false):=by
  clear he
  induction L with
  | nil=>exact ⟨fun t k hm=>(by cases hm),fun t hm=>(by cases hm)⟩
  | cons p L ih =>
   obtain ⟨t,s⟩:=p
   cases s with
   | some k =>
    simp only [zw,Bool.and_eq_true] at hb
    obtain ⟨⟨b1,b3⟩,b4⟩:=hb
    obtain ⟨ih1,ih2⟩:=ih b4
    refine ⟨fun u q hm=>?_,fun u hm=>?_⟩
    ·
     rcases List.mem_cons.1 hm with hm | hm
     ·
      cases hm
      obtain ⟨o,h1,h2⟩:=iK.1 b1
      refine ⟨o,h1,h2,hall k (Array.getElem?_eq_some_iff.1 h1).1,fun j o' hjk hj hd hl=>?_⟩
      have hjl:j < ops.size:=(Array.getElem?_eq_some_iff.1 hj).1
      have:=List.all_eq_true.1 b3 j (List.mem_range.2 hjl)
      simp only [iK.2 ⟨o',hj,hd⟩,Bool.not_true,Bool.false_or,Bool.or_eq_true] at this
      rcases this with q | q
      ·
       exact absurd (Nat.eq_of_beq_eq_true q) hjk
      ·
       exact Nat.le_of_ble_eq_true q
     ·
      exact ih1 u q hm
    ·
     rcases List.mem_cons.1 hm with hm | hm
     ·
      cases hm
     ·
      exact ih2 u hm
   | none =>
    simp only [zw,Bool.and_eq_true] at hb
    obtain ⟨b3,b4⟩:=hb
    obtain ⟨ih1,ih2⟩:=ih b4
    refine ⟨fun u q hm=>?_,fun u hm=>?_⟩
    ·
     rcases List.mem_cons.1 hm with hm | hm
     ·
      cases hm
     ·
      exact ih1 u q hm
    ·
     rcases List.mem_cons.1 hm with hm | hm
     ·
      cases hm
      intro j o' hj hd
      have hjl:j < ops.size:=(Array.getElem?_eq_some_iff.1 hj).1
      have:=List.all_eq_true.1 b3 j (List.mem_range.2 hjl)
      simp only [iK.2 ⟨o',hj,hd⟩,Bool.not_true,Bool.or_self] at this
      cases this
     ·
      exact ih2 u hm
 exact lF h he key.1 key.2
inductive Eu (R:aM) (C:bN) (nt:Nat) (ops:Array Oper) (S:St) (e:Env) (o:Oper) (x:AV):Prop
 | val {v:AV} (hw:bf ops e o=some true) (ho:oper C (bA e) S o.op=some (.val v S)) (hl:Less x v)
 | call {f:Nat} {args:List AV} {v:AV} (hw:bf ops e o=some true) (ho:oper C (bA e) S o.op=some (.call f args)) (hs:cB R C.P f args S (fun r=>r=(none,v,S))) (hl:Less x v)
 | no (hw:bf ops e o=some false) (hl:Less x (.tup []))
 | step (h:ah R C nt ops [o] e S (fun r=>∃ e' v,r=.go e' S∧(∀ t,o.dst=some t→AL.get e' t=some v∧Less x v)))
inductive Ex (R:aM) (C:bN) (nt:Nat) (ops:Array Oper) (S:St) (e:Env) (o:Oper) (Q:AV→St→Prop):Prop
 | val {v:AV} {S':St} (hw:bf ops e o=some true) (ho:oper C (bA e) S o.op=some (.val v S')) (hq:Q v S')
 | skip {S':St} (hw:bf ops e o=some true) (ho:oper C (bA e) S o.op=some (.skip S')) (hd:o.dst=none) (hq:Q .any S')
 | call {f:Nat} {args:List AV} (hw:bf ops e o=some true) (ho:oper C (bA e) S o.op=some (.call f args)) (hs:cB R C.P f args S (fun r=>r.1=none∧Q r.2.1 r.2.2))
 | no (hw:bf ops e o=some false) (hq:Q (.tup []) S)
 | step (h:ah R C nt ops [o] e S (fun r=>∃ e' v S',r=.go e' S'∧(∀ t,o.dst=some t→AL.get e' t=some v)∧Q v S'))
theorem qB (hR:dZ R C) {ops:Array Oper} {o:Oper} {e:Env} {S:St} {Q:Stp→Prop} (h:nD R C nt ops o e S Q) (hno:∀ r,Q r→∃ e' S',r=.go e' S') {cx:Cx} {w:World} {a:Act} (hS:aB R cx S w) (he:bW cx S w nt e a)
  {K:Act→World→Prop} {Kx:Exit→Act→World→Prop} (hk:∀ e' S' cx' w' u,Q (.go e' S')→aB R cx' S' w'→Ext cx S w cx' S' w'→bW cx' S' w' nt e' (a.put o.dst u)→K (a.put o.dst u) w') (hnx:∀ t,o.op ≠ .next (.tmp t) false) {i:Nat} (hi:ops[i]? = some o):wpOp C.P ops Kx i K a w:=by
 have hrefl:=Ext.refl (cx:=cx) w hS.wf
 rcases h with ⟨t,rs,h1,h2,h3⟩ | ⟨e2,hw,h1,h2⟩ | ⟨e2,e',hw,h1,h2,h3⟩
 ·
  exact absurd h1 (hnx t)
 ·
  have he2:=he.weak hw
  unfold wpOp
  rw [hi]
  simp only
  rw [if_pos (bJ he h1)]
  left
  rcases h2 with ⟨v,S',e',h1,h2,h3⟩ | ⟨S',h1,h2,h3⟩ | ⟨f,args,h1,h2⟩ | ⟨t,x,y,ty,xs,b,el,hop,hx,hy,hu,hq⟩
  rotate_left 3
  ·
   have rx:=he2.eval x _ hx
   have ry:=he2.eval y _ hy
   obtain ⟨a0,n,c,ex,hnil⟩:=wI rx.dd
   have ey:a.eval y=.slice none 0 0:=by
    have:=ry.dd.val rfl
    generalize a.eval y=z at this
    cases this
    rfl
   have hrun:(execOp a.eval o).run C.P w=.ok (.value (.bool a0.isNone)) w:=by
    obtain ⟨dst,op,ty',pos,after,guard⟩:=o
    simp only at hop
    subst hop
    exact kV (by
     rw [ex,ey]
     have hg:(eqGuard .eql t x y (.slice a0 n c) (.slice none 0 0)).run C.P w=.ok () w:=cO rfl
     simp only [Sem.run_bind,hg,Result.andThen_ok]
     exact Lib.run_eql_slice_nil w t el a0 n c 0 0 hu)
   obtain ⟨e',hp,hk'⟩:=hq a0.isNone (fun h=>hnil (by cases a0 with | none=>rfl | some a=>cases h))
   unfold Oper.wp
   rw [hrun]
   exact hk _ _ cx w _ hk' hS hrefl (he2.put hp (.of_bool _))
  ·
   obtain ⟨cx',w',u,k1,k2,k3,k4⟩:=bU hR hS he2.eval o h1
   unfold Oper.wp
   rw [k1]
   exact hk _ _ cx' w' u h3 k2 k3 ((he2.mono k3).put h2 k4)
  ·
   obtain ⟨cx',w',k1,k2,k3⟩:=bU hR hS he2.eval o h1
   unfold Oper.wp
   rw [k1]
   refine hk _ _ cx' w' undef h3 k2 k3 ?_
   rw [h2]
   exact he2.mono k3
  ·
   obtain ⟨us,k1,k2,k3⟩:=bU hR hS he2.eval o h1
   obtain ⟨⟨fn,f1,f2,f3⟩,hcalls⟩:=h2
   unfold Oper.wp
   rw [k3 fn f1 f2 f3]
   refine (hcalls cx w us hS k1 k2).mono (fun en w' hen=>?_)
   obtain ⟨⟨p,v,S'⟩,hq,cx',m1,m2,m3⟩:=hen
   cases p with
   | none =>
    obtain ⟨u,rfl,m3⟩:=m3
    obtain ⟨e',hp,hq⟩:=hq
    exact hk _ _ cx' _ _ hq m1 m2 ((he2.mono m2).put hp m3)
   | some p =>
    obtain ⟨_,_,hc⟩:=hno _ hq
    cases hc
 ·
  have he2:=he.weak hw
  unfold wpOp
  rw [hi]
  simp only
  rw [if_neg (by rw [bJ he h1]; simp)]
  split at h2
  ·
   rename_i hd
   subst h2
   refine hk _ _ cx w _ h3 hS hrefl ?_
   rw [hd]
   exact he2
  ·
   rename_i t hd
   refine hk _ _ cx w _ h3 hS hrefl ?_
   rw [hd]
   exact he2.put h2 (.tup [] [] rfl (fun i x v hx=>by simp at hx))
theorem wC {cx:Cx} {S:St} {w:World} {a:Act} {e:Env} {t:Nat} {u:Value} {v:AV} (he:bW cx S w nt e (a.put (some t) u)) (hv:AL.get e t=some v):av cx S w v u:=by
 obtain ⟨u',h1,h2⟩:=he.rel t v hv
 simp only [Act.put] at h1
 have hlt:t < a.tmps.size:=by
  have:=(Array.getElem?_eq_some_iff.1 h1).1
  simpa using this
 rw [Array.getElem?_setIfInBounds_self_of_lt hlt] at h1
 cases h1
 exact h2
theorem zQ (hR:dZ R C) {ops:Array Oper} {o:Oper} {e:Env} {S:St} {x:AV} (h:Eu R C nt ops S e o x) {cx:Cx} {w:World} {a:Act} (hS:aB R cx S w) (he:bW cx S w nt e a)
  {K:Act→World→Prop} {Kx:Exit→Act→World→Prop} (hk:∀ cx' w' u,aB R cx' S w'→Ext cx S w cx' S w'→(∀ t,o.dst=some t→av cx' S w' x u)→K (a.put o.dst u) w') (hnx:∀ t,o.op ≠ .next (.tmp t) false) {i:Nat} (hi:ops[i]? = some o):wpOp C.P ops Kx i K a w:=by
 have hrefl:=Ext.refl (cx:=cx) w hS.wf
 unfold wpOp
 rw [hi]
 simp only
 cases h with
 | val hw ho hl =>
  rw [if_pos (bJ he hw)]
  left
  obtain ⟨cx',w',u,k1,k2,k3,k4⟩:=bU hR hS he.eval o ho
  unfold Oper.wp
  rw [k1]
  exact hk cx' w' u k2 k3 (fun _ _=>hl _ _ _ _ k4)
 | call hw ho hs hl =>
  rw [if_pos (bJ he hw)]
  left
  obtain ⟨us,k1,k2,k3⟩:=bU hR hS he.eval o ho
  obtain ⟨⟨fn,f1,f2,f3⟩,hcalls⟩:=hs
  unfold Oper.wp
  rw [k3 fn f1 f2 f3]
  refine (hcalls cx w us hS k1 k2).mono (fun en w' hen=>?_)
  obtain ⟨r,rfl,cx',m1,m2,m3⟩:=hen
  obtain ⟨u,rfl,m3⟩:=m3
  exact hk cx' w' u m1 m2 (fun _ _=>hl _ _ _ _ m3)
 | no hw hl =>
  rw [if_neg (by rw [bJ he hw]; simp)]
  have hv:av cx S w x (.tuple #[]):=hl _ _ _ _ (.tup [] [] rfl (fun i x v hx=>by simp at hx))
  exact hk cx w _ hS hrefl (fun _ _=>hv)
 | step h =>
  obtain ⟨e2,S2,hw,h⟩:=h
  obtain ⟨cx2,gS,gx,ge⟩:=hw cx w a hS he
  have:=qB hR h (fun r hr=>by
   cases r with
   | go e' S'=>exact ⟨_,_,rfl⟩
   | stop v S'=>obtain ⟨_,_,hc,_⟩:=hr; cases hc) gS ge (K:=K) (Kx:=Kx) (fun e' S' cx' w' u hq q1 q2 q3=>?_) hnx hi
  ·
   unfold wpOp at this
   rw [hi] at this
   exact this
  ·
   obtain ⟨e3,hw3,e4,v,hq1,hq2⟩:=hq
   cases hq1
   refine hk cx' w' u q1 (gx.trans q2) (fun t ht=>?_)
   obtain ⟨g1,g2⟩:=hq2 t ht
   rw [ht] at q3
   exact g2 _ _ _ _ (wC (q3.weak hw3) g1)
theorem y9 (hR:dZ R C) {ops:Array Oper} {o:Oper} {e:Env} {S:St} {Q:AV→St→Prop} (h:Ex R C nt ops S e o Q) {cx:Cx} {w:World} {a:Act} (hS:aB R cx S w) (he:bW cx S w nt e a)
  {K:Act→World→Prop} {Kx:Exit→Act→World→Prop} (hk:∀ v S' cx' w' u,Q v S'→aB R cx' S' w'→Ext cx S w cx' S' w'→(∀ t,o.dst=some t→av cx' S' w' v u)→K (a.put o.dst u) w') (hnx:∀ t,o.op ≠ .next (.tmp t) false) {i:Nat} (hi:ops[i]? = some o):wpOp C.P ops Kx i K a w:=by
 have hrefl:=Ext.refl (cx:=cx) w hS.wf
 unfold wpOp
 rw [hi]
 simp only
 cases h with
 | val hw ho hq =>
  rw [if_pos (bJ he hw)]
  left
  obtain ⟨cx',w',u,k1,k2,k3,k4⟩:=bU hR hS he.eval o ho
  unfold Oper.wp
  rw [k1]
  exact hk _ _ cx' w' u hq k2 k3 (fun _ _=>k4)
 | skip hw ho hd hq =>
  rw [if_pos (bJ he hw)]
  left
  obtain ⟨cx',w',k1,k2,k3⟩:=bU hR hS he.eval o ho
  unfold Oper.wp
  rw [k1]
  exact hk _ _ cx' w' undef hq k2 k3 (fun _ _=>.any _)
 | call hw ho hs =>
  rw [if_pos (bJ he hw)]
  left
  obtain ⟨us,k1,k2,k3⟩:=bU hR hS he.eval o ho
  obtain ⟨⟨fn,f1,f2,f3⟩,hcalls⟩:=hs
  unfold Oper.wp
  rw [k3 fn f1 f2 f3]
  refine (hcalls cx w us hS k1 k2).mono (fun en w' hen=>?_)
  obtain ⟨⟨p,v,S'⟩,⟨hp,hq⟩,cx',m1,m2,m3⟩:=hen
  simp only at hp
  subst hp
  obtain ⟨u,rfl,m3⟩:=m3
  exact hk _ _ cx' w' u hq m1 m2 (fun _ _=>m3)
 | no hw hq =>
  rw [if_neg (by rw [bJ he hw]; simp)]
  exact hk _ _ cx w _ hq hS hrefl (fun _ _=>.tup [] [] rfl (fun i x v hx=>by simp at hx))
 | step h =>
  obtain ⟨e2,S2,hw,h⟩:=h
  obtain ⟨cx2,gS,gx,ge⟩:=hw cx w a hS he
  have:=qB hR h (fun r hr=>by
   cases r with
   | go e' S'=>exact ⟨_,_,rfl⟩
   | stop v S'=>obtain ⟨_,_,_,hc,_⟩:=hr; cases hc) gS ge (K:=K) (Kx:=Kx) (fun e' S' cx' w' u hq q1 q2 q3=>?_) hnx hi
  ·
   unfold wpOp at this
   rw [hi] at this
   exact this
  ·
   obtain ⟨e3,hw3,e4,v,S4,hq1,hq2,hq3⟩:=hq
   cases hq1
   refine hk v S' cx' w' u hq3 q1 (gx.trans q2) (fun t ht=>?_)
   have g1:=hq2 t ht
   rw [ht] at q3
   exact wC (q3.weak hw3) g1
inductive jF:List (Option AV)→List (Option AV)→Prop
 | nil:jF [] []
 | new {x:Option AV} {a b:List (Option AV)} (k:jF a b):jF (x :: a) (none :: b)
 | old {x y:AV} {a b:List (Option AV)} (h:Less y x) (k:jF a b):jF (some y :: a) (some x :: b)
theorem jF.get {a b:List (Option AV)} (h:jF a b):∀ {k:Nat} {x:AV},b[k]? = some (some x)→∃ y,a[k]? = some (some y)∧Less y x:=by
 induction h with
 | nil=>intro k x h; simp at h
 | new k ih =>
  intro k x h
  cases k with
  | zero=>simp at h
  | succ k=>simpa using ih (by simpa using h)
 | old h k ih =>
  intro k x hx
  cases k with
  | zero=>simp at hx; subst hx; exact ⟨_,rfl,h⟩
  | succ k=>simpa using ih (by simpa using hx)
theorem mD.step {ops:Array Oper} (hr:kR ops=true) (hnt:∀ (k:Nat) (o:Oper) (t:Nat),ops[k]? = some o→o.dst=some t→t < nt) {e0:Env} {listed:Array Bool} (hsz:listed.size=ops.size) (hcl:Closed ops listed) {ws ws':List (Option AV)} {i:Nat} (hle:∀ k x,k ≠ i→ws[k]? = some (some x)→∃ y,ws'[k]? = some (some y)∧Less y x) {cx cx':Cx} {S S':St} {w w':World} {a:Act} (h:mD nt ops e0 listed ws cx S w a)
  {o:Oper} (hi:ops[i]? = some o) (hun:listed.getD i false=false) (ex:Ext cx S w cx' S' w') {u:Value} (hu:∀ t,o.dst=some t→∃ x,ws'[i]? = some (some x)∧av cx' S' w' x u):mD nt ops e0 (listed.setIfInBounds i true) ws' cx' S' w' (a.put o.dst u):=by
 have hlt:i < ops.size:=(Array.getElem?_eq_some_iff.1 hi).1
 have size:nt ≤ (a.put o.dst u).tmps.size:=by
  cases hd:o.dst with
  | none=>exact h.size
  | some t=>simp only [Act.put,Array.size_setIfInBounds]; exact h.size
 have keep:∀ t,o.dst ≠ some t→(a.put o.dst u).tmps[t]? = a.tmps[t]?:=fun t ht=>by
  cases hd:o.dst with
  | none=>rfl
  | some d =>
   have:d ≠ t:=fun q=>ht (by rw [hd,q])
   simp only [Act.put]
   rw [Array.getElem?_setIfInBounds_ne this]
 refine ⟨size,fun k ok t hk hd hlk hlast=>?_,fun t x hx hno=>?_⟩
 ·
  by_cases hki:k=i
  ·
   subst hki
   rw [hi] at hk; cases hk
   obtain ⟨x,hx,hr⟩:=hu t hd
   refine ⟨x,hx,u,?_,hr⟩
   have htn:=hnt k o t hi hd
   have:=h.size
   rw [hd]
   simp only [Act.put]
   rw [Array.getElem?_setIfInBounds_self_of_lt (by omega)]
  ·
   have hlk':listed.getD k false=true:=by rwa [getD_set_ne false (fun q=>hki q.symm)] at hlk
   have hklt:k < ops.size:=(Array.getElem?_eq_some_iff.1 hk).1
   have hdi:o.dst ≠ some t:=fun hdi=>by
    have hik:=hlast i o (fun q=>hki q.symm) hi hdi (by have hlt':i < listed.size:=(by omega); simp [hlt'])
    obtain ⟨r1,r2,_⟩:=eO hr hk
    have:=r2 i o hik hi
    split at this
    ·
     rename_i hb
     have:=hcl k hlk' i hik hb
     rw [hun] at this; cases this
    ·
     simp only [Oper.apart,hdi,hd,Bool.and_eq_true] at this
     simp at this
   obtain ⟨x,hx,v,v1,v2⟩:=h.new k ok t hk hd hlk' (fun j o' hjk hj hdj hlj=>hlast j o' hjk hj hdj (by
    by_cases hji:i=j
    ·
     subst hji; rw [hun] at hlj; cases hlj
    ·
     rw [getD_set_ne false hji]; exact hlj))
   obtain ⟨y,hy,hyx⟩:=hle k x hki hx
   exact ⟨y,hy,v,by rw [keep t hdi]; exact v1,hyx _ _ _ _ (v2.mono ex)⟩
 ·
  have hdi:o.dst ≠ some t:=fun hdi=>by
   have:=hno i o hi hdi
   have hlt':i < listed.size:=by omega
   simp [hlt'] at this
  obtain ⟨v,v1,v2⟩:=h.old t x hx (fun j o' hj hdj=>by
   have:=hno j o' hj hdj
   by_cases hji:i=j
   ·
    subst hji; exact hun
   ·
    rwa [getD_set_ne false hji] at this)
  exact ⟨v,by rw [keep t hdi]; exact v1,v2.mono ex⟩
inductive RL (R:aM) (C:bN) (nt:Nat) (ops:Array Oper) (srcs:List Src) (e0:Env) (ws:List (Option AV)) (S:St):List Nat→Prop
 | nil:RL R C nt ops srcs e0 ws S []
 | cons {i:Nat} {o:Oper} {x:AV} {e:Env} {os:List Nat} (ho:ops[i]? = some o) (hx:ws[i]? = some (some x)) (he:jO ws e0 (srcs.getD i [])=some e) (h:Eu R C nt ops S e o x) (k:RL R C nt ops srcs e0 ws S os):RL R C nt ops srcs e0 ws S (i :: os)
theorem RL.get {ops:Array Oper} {srcs:List Src} {e0:Env} {ws:List (Option AV)} {S:St} {os:List Nat} (h:RL R C nt ops srcs e0 ws S os):∀ {i:Nat},i ∈ os→∃ o x e,ops[i]? = some o∧ws[i]? = some (some x)∧jO ws e0 (srcs.getD i [])=some e∧Eu R C nt ops S e o x:=by
 induction h with
 | nil=>intro i h; cases h
 | cons ho hx he h k ih =>
  intro i hi
  rcases List.mem_cons.1 hi with rfl | hi
  ·
   exact ⟨_,_,_,ho,hx,he,h⟩
  ·
   exact ih hi
def Bb (i:Nat) (l:List Nat):Bool:=l.any fun j=>Nat.beq j i
theorem ql {i:Nat} {l:List Nat}:Bb i l=true↔i ∈ l:=by
 simp only [Bb,List.any_eq_true]
 constructor
 ·
  rintro ⟨j,hj,hb⟩; rw [← Nat.eq_of_beq_eq_true hb]; exact hj
 ·
  intro h; exact ⟨i,h,Nat.beq_refl i⟩
def uE (ops:Array Oper) (os done:List Nat) (w:Option Nat) (W:List Nat):Bool :=
 (os.all fun j=>!Bb j W) &&   (List.range ops.size).all fun i=>Bb i os || Bb i done || (done.any fun d=>Nat.testBit ((Region.before ops).getD d 0) i) || (match w with | some w=>Nat.beq i w || Nat.testBit ((Region.before ops).getD i 0) w | none=>false)
def AP (R:aM) (C:bN) (nt:Nat) (ops:Array Oper) (srcs:List Src) (fin:Src) (e0:Env) (Q:Env→St→Prop):List Nat→List Nat→List (Option AV)→St→Prop
 | [],done,ws,S=>∃ os,uE ops os done none []=true∧RL R C nt ops srcs e0 ws S os∧∃ E,jO ws e0 fin=some E∧Q E S
 | i :: W,done,ws,S=>∃ os,uE ops os done (some i) (i :: W)=true∧RL R C nt ops srcs e0 ws S os∧∃ o e,ops[i]? = some o∧jO ws e0 (srcs.getD i [])=some e ∧
   Ex R C nt ops S e o (fun v S'=>∃ ws',jF ws' ws∧(∀ t,o.dst=some t→∃ x,ws'[i]? = some (some x)∧Less x v)∧AP R C nt ops srcs fin e0 Q W (i :: done) ws' S')
def Cf (ops:Array Oper) (nt:Nat) (srcs:List Src) (fin:Src):Bool :=
 kR ops && zw ops fin && (List.range ops.size).all fun i=>ym ops ((Region.before ops).getD i 0) i (srcs.getD i []) && (match ops[i]? with | some o=>(match o.dst with | some t=>Nat.blt t nt | none=>true) && (match o.op with | .next _ _=>false | _=>true) | none=>true)
theorem aD.yM (hR:dZ R C) (hm:C.P.follows .mixedOrders=true) {id:Nat} {ops:Array Oper} (srcs:List Src) (fin:Src) (ht:Cf ops nt srcs fin=true) (W:List Nat) (hWn:W.Nodup) {e0:Env} {S:St} (ws:List (Option AV)) {Q:jR→Prop}
  (h:AP R C nt ops srcs fin e0 (fun e' S'=>Q (.normal,e',S')) W [] ws S):aD R C.P nt (.region id ops true) e0 S Q:=by
 simp only [Cf,Bool.and_eq_true] at ht
 obtain ⟨⟨hr,hfin⟩,hall⟩:=ht
 have hsrc:∀ i,i < ops.size→ym ops ((Region.before ops).getD i 0) i (srcs.getD i [])=true:=fun i hi=>by
  have:=List.all_eq_true.1 hall i (List.mem_range.2 hi)
  simp only [Bool.and_eq_true] at this
  exact this.1
 have hnt:∀ (k:Nat) (o:Oper) (t:Nat),ops[k]? = some o→o.dst=some t→t < nt:=fun k o t hk hd=>by
  have:=List.all_eq_true.1 hall k (List.mem_range.2 (Array.getElem?_eq_some_iff.1 hk).1)
  simp only [Bool.and_eq_true,hk,hd] at this
  exact Nat.le_of_ble_eq_true this.2.1
 have hnx:∀ (k:Nat) (o:Oper),ops[k]? = some o→∀ t,o.op ≠ .next (.tmp t) false:=fun k o hk t ho=>by
  have:=List.all_eq_true.1 hall k (List.mem_range.2 (Array.getElem?_eq_some_iff.1 hk).1)
  simp only [Bool.and_eq_true,hk,ho] at this
  cases this.2.2
 intro cx w a Kx hS he hk
 refine wp_region_any hm ?_
 obtain ⟨d1,d2⟩:=gK hR.toObjOk hS
 let Inv:Array Bool→Act→World→Prop:=fun listed a' w'=>a'.defers=a.defers∧∃ W' done ws' S' cx',AP R C nt ops srcs fin e0 (fun e' S'=>Q (.normal,e',S')) W' done ws' S'∧(∀ i ∈ done,listed.getD i false=true)∧(∀ i ∈ W',listed.getD i false=false)∧W'.Nodup ∧
  aB R cx' S' w'∧Ext cx S w cx' S' w'∧mD nt ops e0 listed ws' cx' S' w' a'
 have repf:∀ i,(Array.replicate ops.size false).getD i false=false:=fun i=>nR _ _
 refine BC hr Inv ?_ ?_ ops.size (Array.replicate ops.size false) (by simp) (fun j hj=>by rw [repf] at hj; cases hj) ?_ ?_
 ·
  intro listed a' w' i o K hsz hcl hun hi hclo ⟨hd,W',done,ws',S',cx',hD,hdone,hW',hnd,s1,x1,env⟩ hK
  have hlt:i < ops.size:=(Array.getElem?_eq_some_iff.1 hi).1
  have rstep:∀ os,RL R C nt ops srcs e0 ws' S' os→i ∈ os→i ∉ W'→wpOp C.P ops Kx i K a' w':=fun os hrl hio hiw=>by
   obtain ⟨o2,x,e,h1,h2,h3,h4⟩:=hrl.get hio
   rw [hi] at h1; cases h1
   have hrel:=w9 hr hcl env hlt hun hclo h3 (hsrc i hlt)
   refine zQ hR h4 s1 hrel (fun cx2 w2 u q1 q2 q3=>hK _ _ ⟨by rw [put_defers]; exact hd,W',done,ws',S',cx2,hD,fun j hj=>?_,fun j hj=>?_,hnd,q1,x1.trans q2,?_⟩) (hnx i o hi) hi
   ·
    by_cases hij:i=j
    ·
     subst hij; exact getD_set_true (hdone i hj)
    ·
     rw [getD_set_ne false hij]; exact hdone j hj
   ·
    have hij:i ≠ j:=fun q=>hiw (q ▸ hj)
    rw [getD_set_ne false hij]; exact hW' j hj
   ·
    exact mD.step hr hnt hsz hcl (fun k y _ hy=>⟨y,hy,.refl y⟩) env hi hun q2 (fun t ht=>⟨x,h2,q3 t ht⟩)
  have cov:∀ os w0,uE ops os done w0 W'=true→(i ∈ os∧i ∉ W')∨∃ w1,w0=some w1∧(i=w1∨listed.getD w1 false=true):=fun os w0 hc=>by
   simp only [uE,Bool.and_eq_true] at hc
   obtain ⟨c1,c2⟩:=hc
   have:=List.all_eq_true.1 c2 i (List.mem_range.2 hlt)
   simp only [Bool.or_eq_true] at this
   rcases this with ((q | q) | q) | q
   ·
    left
    have hio:=ql.1 q
    refine ⟨hio,fun hiw=>?_⟩
    have:=List.all_eq_true.1 c1 i hio
    rw [ql.2 hiw] at this; cases this
   ·
    have:=hdone i (ql.1 q)
    rw [hun] at this; cases this
   ·
    obtain ⟨d,hd1,hd2⟩:=List.any_eq_true.1 q
    have hl:=hdone d hd1
    have hdlt:d < ops.size:=by
     rcases Nat.lt_or_ge d ops.size with q | q
     ·
      exact q
     ·
      have:listed.getD d false=false:=by simp [show listed.size ≤ d by omega]
      rw [hl] at this; cases this
    have:=hcl d hl i (ll hr hdlt hd2) hd2
    rw [hun] at this; cases this
   ·
    right
    cases w0 with
    | none=>cases q
    | some w1 =>
     simp only [Bool.or_eq_true] at q
     refine ⟨w1,rfl,q.imp Nat.eq_of_beq_eq_true (fun q=>hclo w1 (ll hr hlt q) q)⟩
  cases W' with
  | nil =>
   obtain ⟨os,hc,hrl,_⟩:=_root_.id hD
   rcases cov os none hc with h | ⟨w1,h,_⟩
   ·
    exact rstep os hrl h.1 h.2
   ·
    cases h
  | cons w0 W2 =>
   obtain ⟨os,hc,hrl,o2,e,h1,h2,h3⟩:=_root_.id hD
   rcases cov os (some w0) hc with h | ⟨w1,h,hq⟩
   ·
    exact rstep os hrl h.1 h.2
   ·
    cases h
    rcases hq with rfl | hq
    ·
     rw [hi] at h1; cases h1
     have hrel:=w9 hr hcl env hlt hun hclo h2 (hsrc i hlt)
     refine y9 hR h3 s1 hrel (fun v S2 cx2 w2 u hqv q1 q2 q3=>?_) (hnx i o hi) hi
     obtain ⟨ws2,l1,l2,l3⟩:=hqv
     refine hK _ _ ⟨by rw [put_defers]; exact hd,W2,i :: done,ws2,S2,cx2,l3,fun j hj=>?_,fun j hj=>?_,(List.nodup_cons.1 hnd).2,q1,x1.trans q2,?_⟩
     ·
      by_cases hij:i=j
      ·
       subst hij
       have hlt':i < listed.size:=by omega
       simp [hlt']
      ·
       rw [getD_set_ne false hij]
       rcases List.mem_cons.1 hj with q | q
       ·
        exact absurd q.symm hij
       ·
        exact hdone j q
     ·
      have hij:i ≠ j:=fun q=>(List.nodup_cons.1 hnd).1 (q ▸ hj)
      rw [getD_set_ne false hij]; exact hW' j (List.mem_cons_of_mem _ hj)
     ·
      exact mD.step hr hnt hsz hcl (fun k y _ hy=>l1.get hy) env hi hun q2 (fun t ht=>by
       obtain ⟨x,k1,k2⟩:=l2 t ht
       exact ⟨x,k1,k2 _ _ _ _ (q3 t ht)⟩)
    ·
     have:=hW' w0 List.mem_cons_self
     rw [hq] at this; cases this
 ·
  intro listed a' w' hall' ⟨hd,W',done,ws',S',cx',hD,hdone,hW',hnd,s1,x1,env⟩
  cases W' with
  | nil =>
   obtain ⟨os,hc,hrl,E,hE,hQ⟩:=hD
   exact hk (.normal,E,S') hQ cx' a' w' s1 x1 (Bh hall' env hE hfin) hd
  | cons w0 W2 =>
   obtain ⟨os,hc,hrl,o2,e,h1,h2,h3⟩:=hD
   have:=hall' w0 (Array.getElem?_eq_some_iff.1 h1).1
   rw [hW' w0 List.mem_cons_self] at this; cases this
 ·
  have:((List.range ops.size).filter fun i=>!(Array.replicate ops.size false).getD i false)=List.range ops.size:=by
   rw [List.filter_eq_self]; intro i hi; rw [repf]; rfl
  rw [this]; simp
 ·
  refine ⟨rfl,W,[],ws,S,cx,h,fun i hi=>(by cases hi),fun i hi=>repf i,hWn,d1,d2,he.size,fun k o t _ _ hl _=>?_,fun t x hx _=>?_⟩
  ·
   rw [repf] at hl; cases hl
  ·
   obtain ⟨v,v1,v2⟩:=he.rel t x hx
   exact ⟨v,v1,v2.mono d2⟩
end
end Go.Ev
namespace Go.Ev
end Go.Ev

namespace Go.Ev
noncomputable section
open Go.Shelf Go.RowKit Go.Proofs
set_option linter.unusedVariables false
set_option linter.unusedSimpArgs false
end
end Go.Ev

namespace Go.Ev
noncomputable section
open Go.Shelf Go.RowKit Go.Proofs
set_option linter.unusedVariables false
set_option linter.unusedSimpArgs false
def iB (P:Program):bN:={ P:=P,good:=fun _=>false,rowT:=fun _=>false,prim:=fun _ _ _=>none,objT:=fun _=>none,hasPrim:=fun _=>false }
theorem BU {P:Program} {w:World} {t t2 e ty:Nat} {ie:TypeInfo} (hu:P.underlying t=some (.slice e)) (hi:P.info? e=some ie) (hz0:ie.zero=some (.int .u8 0)) (hz1:ie.size=1) (hz2:ie.bytes=1)
  (h2:dR (iB P) t2=true) {v u:Value} {n m:Nat} {xs news:List Value} (hown:w.ownsRow 0 e 1 v n xs)
  (hn:(Builtin.lenOf u).run P w=.ok m w) (hnew:∀ w',w'.heap=w.heap→(Builtin.firstCells 1 m u).run P w'=.ok news.toArray w') (hl:news.length=m) (h1:∀ x ∈ news,x.oneCell'=true) (hb:n + m ≤ bound) :
  ∃ v' w',(Builtin.append_ #[t,t2] ty #[v,u]).run P w=.ok v' w'∧w'.ownsRow 0 e 1 v' (n + m) (xs ++ news)∧w.grownBy w' v.ownBlock∧(v'.ownBlock=v.ownBlock∨v'.ownBlock=some w.heap.size):=by
 have hxl:xs.length=n:=by have:=hown.1; omega
 have hlen:(xs ++ news).length=(n + m) * 1:=by rw [List.length_append,hxl,hl]; omega
 have hmax:maxLen=9223372036854775807:=by decide
 have grows:∀ (base:Option Addr) (cap:Nat) (row:Option Nat),n ≤ cap→¬ n + m ≤ cap→(∀ w',w'.heap=w.heap→(Builtin.firstCells ie.size n (.slice base n cap)).run P w'=.ok xs.toArray w') →
   ∃ v' w',(Builtin.append_ #[t,t2] ty #[.slice base n cap,u]).run P w=.ok v' w'∧w'.ownsRow 0 e 1 v' (n + m) (xs ++ news)∧w.grownBy w' row∧(v'.ownBlock=some w.heap.size):=by
  intro base cap row hnc hroom hold
  obtain ⟨nc,n1,n63,n2⟩:=dP (C:=iB P) (w:=w) (ty:=ty) (sLen:=n) (sCap:=cap) (n:=m) (base:=base) (u:=u) hu hi h2 hn hroom (by omega) (by omega) (by rw [hz2,Nat.mul_one]; exact hb) hz0 (hold _ rfl) (by rw [hz1]; exact hnew w.drew rfl)
  refine ⟨_,_,n2,⟨hlen,.inr ⟨w.heap.size,nc,_,rfl,Nat.zero_le _,heap_alloc_new w.drew _,n1,by omega,?_,?_⟩⟩,⟨rfl,rfl,rfl,by rw [size_alloc]; exact Nat.le_succ _,fun k hk _=>heap_alloc_old w.drew _ hk⟩,rfl⟩
  ·
   simp [eZ,Value.cells,hxl,hl]; omega
  ·
   have:(n + m) * 1=(xs ++ news).length:=hlen.symm
   rw [this]
   simp only [Array.toList_append,List.append_assoc]
   rw [← List.append_assoc]
   exact List.take_left
 rcases hown.2 with ⟨rfl,rfl⟩ | ⟨g,cap,cur,rfl,_,hg,hnc,hcm,hcs,htake⟩
 ·
  have hxe:xs=[]:=List.eq_nil_of_length_eq_zero hxl
  subst hxe
  by_cases hm:m=0
  ·
   subst hm
   have hne:news=[]:=List.eq_nil_of_length_eq_zero hl
   subst hne
   refine ⟨.slice none 0 0,w,?_,World.ownsRow_nil w 0 e 1,⟨rfl,rfl,rfl,Nat.le_refl _,fun _ _ _=>rfl⟩,.inl rfl⟩
   exact run_append_fits (C:=iB P) (ty:=ty) (sLen:=0) (sCap:=0) (n:=0) (base:=none) hu hi h2 hn (Nat.le_refl _) (by rw [hz1]; exact hnew w rfl)
  ·
   obtain ⟨v',w',a1,a2,a3,a4⟩:=grows none 0 (Value.ownBlock (.slice none 0 0)) (Nat.le_refl _) (by omega) (fun w' _=>by simp [Builtin.firstCells,loadCells,loadCellsFrom])
   exact ⟨v',w',a1,a2,a3,.inr a4⟩
 ·
  rw [Nat.mul_one] at hcs htake
  by_cases hroom:n + m ≤ cap
  ·
   obtain ⟨w',r1,r2,r3,r4,r5,r6,r7,r8⟩:=dK (P:=P) news w g (n * ie.size) 0 cur e (0,0) hg h1 (by rw [hz1]; omega) (.inl rfl)
   refine ⟨.slice (some ⟨g,0,none⟩) (n + m) cap,w',?_,⟨hlen,.inr ⟨g,cap,_,rfl,Nat.zero_le _,r8,hroom,hcm,?_,?_⟩⟩,⟨r4,r5,r6,by rw [r2]; exact Nat.le_refl _,fun k _ hk=>r3 k (fun q=>hk (by rw [q]; rfl))⟩,.inl rfl⟩
   ·
    refine (run_append_fits (C:=iB P) (ty:=ty) (sLen:=n) (sCap:=cap) (n:=m) (base:=some ⟨g,0,none⟩) hu hi h2 hn hroom (by rw [hz1]; exact hnew w rfl)).trans ?_
    simp only [dO,Nat.zero_add]
    show ((storeCells ⟨g,n * ie.size,none⟩ news 0).run P w).andThen _=_
    rw [r1]; rfl
   ·
    simp [bL,hcs]
   ·
    rw [hz1,Nat.mul_one,Nat.mul_one,Nat.add_zero]
    apply List.ext_getElem?
    intro j
    rw [List.getElem?_take,List.getElem?_append,hxl]
    by_cases hj:j < n + m
    ·
     rw [if_pos hj,cz _ _ _ _ (by simp; omega)]
     by_cases hj2:j < n
     ·
      rw [if_neg (by omega),if_pos hj2,← htake,List.getElem?_take,if_pos hj2]
     ·
      rw [if_pos (by omega),if_neg hj2]
    ·
     rw [if_neg hj,if_neg (by omega),List.getElem?_eq_none (by omega)]
  ·
   obtain ⟨v',w',a1,a2,a3,a4⟩:=grows (some ⟨g,0,none⟩) cap (some g) hnc hroom (fun w' hh=>by
    have hg':w'.heap[g]? = some (.cells cur e (0,0)):=by rw [hh]; exact hg
    have:=ja (P:=P) (w:=w') (b:=g) (o:=0) (n:=n * ie.size) hg' (by rw [hz1]; omega)
    rw [hz1,Nat.mul_one,List.drop_zero,htake] at this
    rw [hz1]
    simpa [Builtin.firstCells] using this)
   exact ⟨v',w',a1,a2,a3,.inr a4⟩
theorem kI {P:Program} {w:World} {ops:Array Oper} {rest:List Oper} {o:Oper} {a:Act} {Q:Exit→Act→World→Prop} (hgd:o.guard=none) (s x:Operand) (t t2:TypeId)
  (ho:o.op=.call { callee:=.builtin .append,args:=#[s,x],argTypes:=#[t,t2] })
  (e:TypeId) (ie:TypeInfo) (hu:P.underlying t=some (.slice e)) (hi:P.info? e=some ie) (hz0:ie.zero=some (.int .u8 0)) (hz1:ie.size=1) (hz2:ie.bytes=1) (h2:dR (iB P) t2=true)
  (v:Value) (n:Nat) (xs:List Value) (hs:a.eval s=v) (hown:w.ownsRow 0 e 1 v n xs) (u:Value) (m:Nat) (news:List Value) (hx:a.eval x=u)
  (hn:(Builtin.lenOf u).run P w=.ok m w) (hnew:∀ w',w'.heap=w.heap→(Builtin.firstCells 1 m u).run P w'=.ok news.toArray w') (hl:news.length=m) (h1:∀ y ∈ news,y.oneCell'=true) (hb:n + m ≤ bound)
  (h:∀ v' w',w'.ownsRow 0 e 1 v' (n + m) (xs ++ news)→w.grownBy w' v.ownBlock→(v'.ownBlock=v.ownBlock∨v'.ownBlock=some w.heap.size)→wpList P ops Q rest (a.put o.dst v') w'):wpList P ops Q (o :: rest) a w :=
 wpList_plain hgd fun _ hK=>by
  obtain ⟨v',w',hr,a1,a2,a3⟩:=BU (ty:=o.type) hu hi hz0 hz1 hz2 h2 hown hn hnew hl h1 hb
  unfold Oper.wp execOp
  simp only [ho,resolve,invoke,builtin,Sem.run_bind,Sem.run_pure,Result.andThen_ok,List.map_toArray,List.map_cons,List.map_nil,hs,hx,hr]
  exact hK _ _ (h v' w' a1 a2 a3)
def pV (w w':World) (b:Nat) (v:Value) (xs:List Value) (T e:Nat):Prop :=
 (w'.os=w.os∧w'.tape=w.tape∧w'.output=w.output∧w.heap.size ≤ w'.heap.size) ∧
 ∃ v',w'.heap[b]? = some (.cells #[.pointer (some ⟨b,0,none⟩),v'] T (0,0))∧w'.ownsRow 0 e 1 v' xs.length xs∧v'.ownBlock ≠ some b ∧
  (∀ k,k < w.heap.size→k ≠ b→some k ≠ v.ownBlock→w'.heap[k]? = w.heap[k]?)∧(∀ g,v'.ownBlock=some g→v.ownBlock=some g∨w.heap.size ≤ g)
structure mO (T e:Nat) (b:Nat) (p v:Value) (xs:List Value) (w:World):Prop where
 hp:p=.pointer none∨p=.pointer (some ⟨b,0,none⟩)
 blk:w.heap[b]? = some (.cells #[p,v] T (0,0))
 own:w.ownsRow 0 e 1 v xs.length xs
 ne:v.ownBlock ≠ some b
theorem tN {P:Program} {ρ:Ren} (L:Lays.n240 P ρ) (X:Builder.X72 P ρ) {b:Nat} {p v:Value} {xs:List Value} {w:World} (h:mO (ρ.t 72) (ρ.t 5) b p v xs w) :
  Calls P (ρ.f 240) #[.pointer (some ⟨b,0,none⟩)] w fun e w'=>e=.returned (.tuple #[])∧mO (ρ.t 72) (ρ.t 5) b (.pointer (some ⟨b,0,none⟩)) v xs w' ∧
   w'.os=w.os∧w'.tape=w.tape∧w'.output=w.output∧w'.heap.size=w.heap.size∧∀ k,k ≠ b→w'.heap[k]? = w.heap[k]?:=by
 obtain ⟨hp,hb,hown,hne⟩:=h
 have hlt:b < w.heap.size:=by
  rcases Nat.lt_or_ge b w.heap.size with h' | h'
  ·
   exact h'
  ·
   simp [Array.getElem?_eq_none h'] at hb
 rcases hp with rfl | rfl
 ·
  refine (Any.Builder_copyCheck_fresh L X b w (by rw [Lib.cell_of_heap hb]; rfl) (by simp [World.shape?,hb]) (by simp [World.frozen?,hb])).mono ?_
  rintro e w' ⟨rfl,rfl⟩
  have hoth:∀ k,k ≠ b→(w.setCell ⟨b,0,none⟩ (.pointer (some ⟨b,0,none⟩))).heap[k]? = w.heap[k]?:=fun k hk=>by simp [World.setCell,Array.getElem?_modify,Ne.symm hk]
  refine ⟨rfl,⟨.inr rfl,by simp [World.setCell,Array.getElem?_modify,hb],hown.kept (row:=some b) ⟨rfl,rfl,rfl,by simp [World.setCell],fun k _ hk=>hoth k (fun q=>hk (by rw [q]))⟩ (.inr hne),hne⟩,rfl,rfl,rfl,by simp [World.setCell],hoth⟩
 ·
  refine (Any.Builder_copyCheck_used L X b w (by rw [Lib.cell_of_heap hb]; rfl)).mono ?_
  rintro e w' ⟨rfl,rfl⟩
  exact ⟨rfl,⟨.inr rfl,hb,hown,hne⟩,rfl,rfl,rfl,rfl,fun _ _=>rfl⟩
theorem yT {T e:Nat} {b:Nat} {v v':Value} {xs xs':List Value} {w w1 w2:World} (h1:mO T e b (.pointer (some ⟨b,0,none⟩)) v xs w1)
  (q1:w1.os=w.os) (q2:w1.tape=w.tape) (q3:w1.output=w.output) (q4:w1.heap.size=w.heap.size) (q5:∀ k,k ≠ b→w1.heap[k]? = w.heap[k]?)
  (hown':w2.ownsRow 0 e 1 v' xs'.length xs') (hgrow:w1.grownBy w2 v.ownBlock) (hblk:∀ g,v'.ownBlock=some g→v.ownBlock=some g∨w1.heap.size ≤ g) (hTe:T ≠ e):pV w (w2.setCell ⟨b,1,none⟩ v') b v xs' T e:=by
 obtain ⟨hp,hb,hown,hne⟩:=h1
 have hlt:b < w1.heap.size:=by
  rcases Nat.lt_or_ge b w1.heap.size with h' | h'
  ·
   exact h'
  ·
   simp [Array.getElem?_eq_none h'] at hb
 have hb2:w2.heap[b]? = some (.cells #[.pointer (some ⟨b,0,none⟩),v] T (0,0)):=by
  rw [hgrow.block b hlt (fun e=>hne e.symm)]; exact hb
 have hne':v'.ownBlock ≠ some b:=fun q=>by
  rcases hown'.2 with ⟨rfl,_⟩ | ⟨g,cap,cur,rfl,_,hg,_⟩
  ·
   simp [Value.ownBlock] at q
  ·
   simp [Value.ownBlock] at q
   subst q
   rw [hb2] at hg
   simp at hg
   exact hTe hg.2
 have hoth:∀ k,k ≠ b→(w2.setCell ⟨b,1,none⟩ v').heap[k]? = w2.heap[k]?:=fun k hk=>by simp [World.setCell,Array.getElem?_modify,Ne.symm hk]
 refine ⟨⟨hgrow.os.trans q1,hgrow.tape.trans q2,hgrow.output.trans q3,by have:=hgrow.size; simp [World.setCell]; omega⟩,v',by simp [World.setCell,Array.getElem?_modify,hb2],
  hown'.kept (row:=some b) ⟨rfl,rfl,rfl,by simp [World.setCell],fun k _ hk=>hoth k (fun q=>hk (by rw [q]))⟩ (.inr hne'),hne',fun k hk hkb hkv=>?_,fun g hg=>by rw [← q4]; exact hblk g hg⟩
 rw [hoth k hkb,hgrow.block k (by omega) hkv]
 exact q5 k hkb
set_option maxHeartbeats 2000000 in
set_option maxRecDepth 100000 in
theorem sw {P:Program} {ρ:Ren} (L:Lays.n167 P ρ) (X:Builder.Extra P ρ) {b:Nat} {p v:Value} {xs:List Value} {w:World} (h:mO (ρ.t 72) (ρ.t 5) b p v xs w) (c:Int) (hlen:xs.length + 1 ≤ bound) :
  Calls P (ρ.f 167) #[.pointer (some ⟨b,0,none⟩),.int .u8 c] w fun e w'=>e=.returned .nilIface∧pV w w' b v (xs ++ [.int .u8 c]) (ρ.t 72) (ρ.t 5):=by
 obtain ⟨i0,hi,hz0,hz1,hz2⟩:=info_parts X.infoByte
 have mixed:=L.mixed
 have t72:=L.t72; have a72:=L.a72; have z72:=L.z72; have v72:=L.v72; have u72:=run_underlying L.t72
 have t70:=L.t70; have a70:=L.a70; have z70:=L.z70; have v70:=L.v70; have u70:=run_underlying L.t70
 have t5:=L.t5; have a5:=L.a5; have z5:=L.z5; have v5:=L.v5; have u5:=run_underlying L.t5
 have t37:=L.t37; have a37:=L.a37; have z37:=L.z37; have v37:=L.v37; have u37:=run_underlying L.t37
 have t9:=L.t9; have a9:=L.a9; have z9:=L.z9; have v9:=L.v9; have u9:=run_underlying L.t9
 have t4:=L.t4; have a4:=L.a4; have z4:=L.z4; have v4:=L.v4; have u4:=run_underlying L.t4
 have t164:=L.t164; have a164:=L.a164; have z164:=L.z164; have v164:=L.v164; have u164:=run_underlying L.t164
 have e240:∀ args w,(callFunc (ρ.f 240) args).run P w=.ok (.enter (ρ.f 240) args) w:=enters_of L.f240 (by kernel_rfl) rfl
 go_enter L.f167,Body.n167_ntmps ρ
 go_wp2_with (go_at_fn (ρ.f 240); refine (tN { L with } X.toX72 h).mono ?_)
 rintro e w1 ⟨rfl,h1,q1,q2,q3,q4,q5⟩
 have hb1:=h1.blk
 have c0:w1.cell? ⟨b,0,none⟩=some (.pointer (some ⟨b,0,none⟩)):=by rw [Lib.cell_of_heap hb1]; rfl
 have c1:w1.cell? ⟨b,1,none⟩=some v:=by rw [Lib.cell_of_heap hb1]; rfl
 have hlt:b < w1.heap.size:=by
  rcases Nat.lt_or_ge b w1.heap.size with h' | h'
  ·
   exact h'
  ·
   simp [Array.getElem?_eq_none h'] at hb1
 have hsrc:dR (iB P) (ρ.t 37)=true:=by simp [dR,iB,L.t37]
 go_wp2_with (at_builtin; refine kI rfl _ _ (ρ.t 37) (ρ.t 37) rfl (ρ.t 5) i0 L.t37 hi hz0 hz1 hz2 hsrc _ _ _ rfl (h1.own.alloc _) _ 1 [.int .u8 c] rfl rfl ?c1 rfl ?c2 hlen ?_)
 case c1 =>
  intro w' hw'
  show (Builtin.firstCells 1 1 (.slice (some ⟨w.heap.size,0,none⟩) 1 1)).run P w'=_
  rw [← q4]
  have:=ja (P:=P) (w:=w') (b:=w1.heap.size) (o:=0) (n:=1) (arr:=#[.int .u8 c]) (el:=ρ.t 5) (fz:=(0,0)) (by rw [hw']; exact heap_alloc_new w1 _) (by simp)
  simpa [Builtin.firstCells] using this
 case c2=>intro u hu; simp at hu; subst hu; rfl
 intro v' w2 hown' hgrow hblk
 have hb2:w2.heap[b]? = some (.cells #[.pointer (some ⟨b,0,none⟩),v] (ρ.t 72) (0,0)):=by
  rw [hgrow.block b (by simp; omega) (fun e=>h1.ne e.symm),Lib.alloc_old w1 _ b hlt]
  exact hb1
 have d0:w2.cell? ⟨b,0,none⟩=some (.pointer (some ⟨b,0,none⟩)):=by rw [Lib.cell_of_heap hb2]; rfl
 have d1:w2.cell? ⟨b,1,none⟩=some v:=by rw [Lib.cell_of_heap hb2]; rfl
 have f1:w2.frozen? ⟨b,1,none⟩=false:=Lib.frozen_of_heap hb2 1
 obtain ⟨g,cap,rfl⟩:∃ g cap,v'=.slice (some ⟨g,0,none⟩) (xs.length + 1) cap:=by
  rcases hown'.2 with ⟨_,h0⟩ | ⟨g,cap,cur,hv,_⟩
  ·
   omega
  ·
   exact ⟨g,cap,hv⟩
 go_wp2
 go_ret
 refine ⟨rfl,yT h1 q1 q2 q3 q4 q5 (by simpa using hown') ⟨hgrow.os,hgrow.tape,hgrow.output,by have:=hgrow.size; simp at this; omega,fun k hk hkv=>by rw [hgrow.block k (by simp; omega) hkv]; exact Lib.alloc_old w1 _ k hk⟩ (fun g hg=>?_) X.neB5⟩
 rcases hblk with hq | hq
 ·
  exact .inl (hq.symm.trans hg)
 ·
  rw [hq] at hg
  simp at hg
  exact .inr (by omega)
set_option maxHeartbeats 2000000 in
set_option maxRecDepth 100000 in
theorem pq {P:Program} {ρ:Ren} (L:Lays.n166 P ρ) (X:Builder.Extra P ρ) {b:Nat} {p v:Value} {xs:List Value} {w:World} (h:mO (ρ.t 72) (ρ.t 5) b p v xs w) (s:ByteArray) (hlen:xs.length + s.size ≤ bound) :
  Calls P (ρ.f 166) #[.pointer (some ⟨b,0,none⟩),.string s] w fun e w'=>e=.returned (.tuple #[.int .i64 s.size,.nilIface])∧pV w w' b v (xs ++ Lib.strCells s) (ρ.t 72) (ρ.t 5):=by
 obtain ⟨i0,hi,hz0,hz1,hz2⟩:=info_parts X.infoByte
 have mixed:=L.mixed
 have t72:=L.t72; have a72:=L.a72; have z72:=L.z72; have v72:=L.v72; have u72:=run_underlying L.t72
 have t70:=L.t70; have a70:=L.a70; have z70:=L.z70; have v70:=L.v70; have u70:=run_underlying L.t70
 have t37:=L.t37; have a37:=L.a37; have z37:=L.z37; have v37:=L.v37; have u37:=run_underlying L.t37
 have t3:=L.t3; have a3:=L.a3; have z3:=L.z3; have v3:=L.v3; have u3:=run_underlying L.t3
 have t9:=L.t9; have a9:=L.a9; have z9:=L.z9; have v9:=L.v9; have u9:=run_underlying L.t9
 have t4:=L.t4; have a4:=L.a4; have z4:=L.z4; have v4:=L.v4; have u4:=run_underlying L.t4
 have t164:=L.t164; have a164:=L.a164; have z164:=L.z164; have v164:=L.v164; have u164:=run_underlying L.t164
 have t5:=X.t5; have a5:=X.a5; have z5:=X.z5; have v5:=X.v5; have u5:=run_underlying X.t5
 have e240:∀ args w,(callFunc (ρ.f 240) args).run P w=.ok (.enter (ρ.f 240) args) w:=enters_of L.f240 (by kernel_rfl) rfl
 go_enter L.f166,Body.n166_ntmps ρ
 go_wp2_with (go_at_fn (ρ.f 240); refine (tN { L with } X.toX72 h).mono ?_)
 rintro e w1 ⟨rfl,h1,q1,q2,q3,q4,q5⟩
 have hb1:=h1.blk
 have c0:w1.cell? ⟨b,0,none⟩=some (.pointer (some ⟨b,0,none⟩)):=by rw [Lib.cell_of_heap hb1]; rfl
 have c1:w1.cell? ⟨b,1,none⟩=some v:=by rw [Lib.cell_of_heap hb1]; rfl
 have hlt:b < w1.heap.size:=by
  rcases Nat.lt_or_ge b w1.heap.size with h' | h'
  ·
   exact h'
  ·
   simp [Array.getElem?_eq_none h'] at hb1
 have hsrc:dR (iB P) (ρ.t 9)=true:=by simp [dR,iB,L.t9]
 have hsl:(Lib.strCells s).length=s.size:=Lib.strCells_length s
 go_wp2_with (at_builtin; refine kI rfl _ _ (ρ.t 37) (ρ.t 9) rfl (ρ.t 5) i0 L.t37 hi hz0 hz1 hz2 hsrc _ _ _ rfl h1.own _ s.size (Lib.strCells s) rfl rfl ?c1 hsl ?c2 hlen ?_)
 case c1 =>
  intro w' hw'
  show (Builtin.firstCells 1 s.size (.string s)).run P w'=_
  simp only [Builtin.firstCells,Sem.run_pure]
  congr 1
  apply Array.ext'
  simp [Lib.strCells]
 case c2=>intro u hu; simp [Lib.strCells] at hu; obtain ⟨_,_,rfl⟩:=hu; rfl
 intro v' w2 hown' hgrow hblk
 have hb2:w2.heap[b]? = some (.cells #[.pointer (some ⟨b,0,none⟩),v] (ρ.t 72) (0,0)):=by
  rw [hgrow.block b hlt (fun e=>h1.ne e.symm)]
  exact hb1
 have d0:w2.cell? ⟨b,0,none⟩=some (.pointer (some ⟨b,0,none⟩)):=by rw [Lib.cell_of_heap hb2]; rfl
 have d1:w2.cell? ⟨b,1,none⟩=some v:=by rw [Lib.cell_of_heap hb2]; rfl
 have f1:w2.frozen? ⟨b,1,none⟩=false:=Lib.frozen_of_heap hb2 1
 obtain ⟨ao,n',cap,rfl⟩:∃ ao n' cap,v'=.slice ao n' cap:=by
  rcases hown'.2 with ⟨hv,_⟩ | ⟨g,cap,cur,hv,_⟩
  ·
   exact ⟨_,_,_,hv⟩
  ·
   exact ⟨_,_,_,hv⟩
 go_wp2
 go_ret2
 refine ⟨rfl,yT h1 q1 q2 q3 q4 q5 (by simpa [hsl] using hown') hgrow (fun g hg=>?_) X.neB5⟩
 rcases hblk with hq | hq
 ·
  exact .inl (hq.symm.trans hg)
 ·
  rw [hq] at hg
  simp at hg
  exact .inr (by omega)
def Kept (w w':World) (b:Nat) (v:Value):Prop :=
 w'.os=w.os∧w'.tape=w.tape∧w'.output=w.output∧w.heap.size ≤ w'.heap.size∧∀ k,k < w.heap.size→k ≠ b→some k ≠ v.ownBlock→w'.heap[k]? = w.heap[k]?
theorem Kept.same {w w':World} (b:Nat) (v:Value) (h1:w'.os=w.os) (h2:w'.tape=w.tape) (h3:w'.output=w.output) (h4:w'.heap=w.heap):Kept w w' b v :=
 ⟨h1,h2,h3,by rw [h4]; exact Nat.le_refl _,fun k _ _ _=>by rw [h4]⟩
set_option maxHeartbeats 2000000 in
set_option maxRecDepth 100000 in
theorem o7 {P:Program} {ρ:Ren} (L:Lays.n169 P ρ) (X:Builder.Extra P ρ) {b:Nat} {p v:Value} {l:List UInt8} {w:World} (h:mO (ρ.t 72) (ρ.t 5) b p v (Lib.byteCells l) w) (h0:l ≠ []) :
  Calls P (ρ.f 169) #[.pointer (some ⟨b,0,none⟩)] w fun e w'=>e=.returned (.string ⟨l.toArray⟩)∧Kept w w' b v:=by
 obtain ⟨hp,hbk,hown,hne⟩:=h
 have hl0:l.length ≠ 0:=by simpa using h0
 rw [Lib.byteCells_length] at hown
 obtain ⟨g,cap,cur,rfl,hg,hnc,hcm,hcs,htake⟩:∃ g cap cur,v=.slice (some ⟨g,0,none⟩) l.length cap∧w.heap[g]? = some (.cells cur (ρ.t 5) (0,0))∧l.length ≤ cap∧cap ≤ maxLen∧cur.size=cap * 1∧cur.toList.take (l.length * 1)=Lib.byteCells l:=by
  rcases hown.2 with ⟨_,hz⟩ | ⟨g,cap,cur,hv,_,r⟩
  ·
   exact absurd hz hl0
  ·
   exact ⟨g,cap,cur,hv,r⟩
 have c1:w.drew.cell? ⟨b,1,none⟩=some (.slice (some ⟨g,0,none⟩) l.length cap):=by
  have:w.drew.heap[b]? = some (.cells #[p,.slice (some ⟨g,0,none⟩) l.length cap] (ρ.t 72) (0,0)):=hbk
  rw [Lib.cell_of_heap this]; rfl
 have hSD:(Builtin.unsafeSliceData_ #[(ρ.t 37)] (ρ.t 127) #[.slice (some ⟨g,0,none⟩) l.length cap]).run P w.drew=.ok (.pointer (some ⟨g,0,none⟩)) w.drew :=
  Lib.run_unsafeSliceData_row _ _ _ _ _ _ (by omega)
 have hUS:(Builtin.unsafeString_ #[(ρ.t 127),(ρ.t 3)] (ρ.t 9) #[.pointer (some ⟨g,0,none⟩),.int .i64 l.length]).run P w.drew=.ok (.string ⟨l.toArray⟩) (w.drew.freeze ⟨g,0,none⟩ l.length):=by
  refine Lib.run_unsafeString_row w.drew (ρ.t 127) (ρ.t 3) (ρ.t 9) (ρ.t 5) L.t127 X.cellsByte g cur.size (by have hg':w.drew.heap[g]? = some (.cells cur (ρ.t 5) (0,0)):=hg; simp [World.shape?,hg']) l h0 (by omega) (by unfold maxLen at hcm; omega) ?_
  intro j x hx
  have:=hown.cells (g:=g) rfl j (.int .u8 x.toNat) (by simp [Lib.byteCells,hx])
  exact this
 have hfin:Kept w (w.drew.freeze ⟨g,0,none⟩ l.length) b (.slice (some ⟨g,0,none⟩) l.length cap):=by
  unfold World.freeze
  rw [if_neg hl0]
  refine ⟨rfl,rfl,rfl,by simp,fun k _ _ hk=>?_⟩
  have hk':g ≠ k:=fun q=>hk (by simp [Value.ownBlock,q])
  simp [Array.getElem?_modify,hk']
  rfl
 have mixed:=L.mixed
 have t72:=L.t72; have a72:=L.a72; have z72:=L.z72; have v72:=L.v72; have u72:=run_underlying L.t72
 have t70:=L.t70; have a70:=L.a70; have z70:=L.z70; have v70:=L.v70; have u70:=run_underlying L.t70
 have t37:=L.t37; have a37:=L.a37; have z37:=L.z37; have v37:=L.v37; have u37:=run_underlying L.t37
 have t127:=L.t127; have a127:=L.a127; have z127:=L.z127; have v127:=L.v127; have u127:=run_underlying L.t127
 have t3:=L.t3; have a3:=L.a3; have z3:=L.z3; have v3:=L.v3; have u3:=run_underlying L.t3
 have t9:=L.t9; have a9:=L.a9; have z9:=L.z9; have v9:=L.v9; have u9:=run_underlying L.t9
 have t5:=X.t5; have a5:=X.a5; have z5:=X.z5; have v5:=X.v5; have u5:=run_underlying X.t5
 go_enter L.f169,Body.n169_ntmps ρ
 go_wp2
 go_region_o
 all_goals (go_wp2; go_ret; exact ⟨rfl,hfin⟩)
set_option maxHeartbeats 2000000 in
set_option maxRecDepth 100000 in
theorem qi {P:Program} {ρ:Ren} (L:Lays.n169 P ρ) (X:Builder.Extra P ρ) {b:Nat} {p:Value} {w:World} (hbk:w.heap[b]? = some (.cells #[p,.slice none 0 0] (ρ.t 72) (0,0))) :
  Calls P (ρ.f 169) #[.pointer (some ⟨b,0,none⟩)] w fun e w'=>e=.returned (.string ⟨#[]⟩)∧Kept w w' b (.slice none 0 0):=by
 have hUS:=Any.unsafeString_none L X
 have c1:w.drew.cell? ⟨b,1,none⟩=some (.slice none 0 0):=by
  have:w.drew.heap[b]? = some (.cells #[p,.slice none 0 0] (ρ.t 72) (0,0)):=hbk
  rw [Lib.cell_of_heap this]; rfl
 have hSD:(Builtin.unsafeSliceData_ #[(ρ.t 37)] (ρ.t 127) #[.slice none 0 0]).run P w.drew=.ok (.pointer none) w.drew:=rfl
 have mixed:=L.mixed
 have t72:=L.t72; have a72:=L.a72; have z72:=L.z72; have v72:=L.v72; have u72:=run_underlying L.t72
 have t70:=L.t70; have a70:=L.a70; have z70:=L.z70; have v70:=L.v70; have u70:=run_underlying L.t70
 have t37:=L.t37; have a37:=L.a37; have z37:=L.z37; have v37:=L.v37; have u37:=run_underlying L.t37
 have t127:=L.t127; have a127:=L.a127; have z127:=L.z127; have v127:=L.v127; have u127:=run_underlying L.t127
 have t3:=L.t3; have a3:=L.a3; have z3:=L.z3; have v3:=L.v3; have u3:=run_underlying L.t3
 have t9:=L.t9; have a9:=L.a9; have z9:=L.z9; have v9:=L.v9; have u9:=run_underlying L.t9
 have t5:=X.t5; have a5:=X.a5; have z5:=X.z5; have v5:=X.v5; have u5:=run_underlying X.t5
 go_enter L.f169,Body.n169_ntmps ρ
 go_wp2
 go_region_o
 all_goals (go_wp2; go_ret; exact ⟨rfl,Kept.same _ _ rfl rfl rfl rfl⟩)
set_option maxHeartbeats 2000000 in
set_option maxRecDepth 100000 in
theorem mM {P:Program} {ρ:Ren} (L:Lays.n169 P ρ) (X:Builder.Extra P ρ) {b g:Nat} {p:Value} {cur:Array Value} {w:World} (hbk:w.heap[b]? = some (.cells #[p,.slice (some ⟨g,0,none⟩) 0 0] (ρ.t 72) (0,0))) (hg:w.heap[g]? = some (.cells cur (ρ.t 5) (0,0))) :
  Calls P (ρ.f 169) #[.pointer (some ⟨b,0,none⟩)] w fun e w'=>e=.returned (.string ⟨#[]⟩)∧Kept w w' b (.slice (some ⟨g,0,none⟩) 0 0):=by
 have hUS:=Any.unsafeString_none L X
 have hlt:b < w.heap.size:=by
  rcases Nat.lt_or_ge b w.heap.size with h' | h'
  ·
   exact h'
  ·
   simp [Array.getElem?_eq_none h'] at hbk
 have c1:w.drew.cell? ⟨b,1,none⟩=some (.slice (some ⟨g,0,none⟩) 0 0):=by
  have:w.drew.heap[b]? = some (.cells #[p,.slice (some ⟨g,0,none⟩) 0 0] (ρ.t 72) (0,0)):=hbk
  rw [Lib.cell_of_heap this]; rfl
 have hSD:(Builtin.unsafeSliceData_ #[(ρ.t 37)] (ρ.t 127) #[.slice (some ⟨g,0,none⟩) 0 0]).run P w.drew=.ok (.pointer (some ⟨w.drew.heap.size,0,none⟩)) (w.drew.alloc (.view ⟨g,0,none⟩ (ρ.t 5))) :=
  Lib.run_unsafeSliceData_zero w.drew _ _ (ρ.t 5) L.t127 ⟨g,0,none⟩ 0 ((ρ.t 5),cur.size) (by have hg':w.drew.heap[g]? = some (.cells cur (ρ.t 5) (0,0)):=hg; simp [World.shape?,hg'])
 have c2:(w.drew.alloc (.view ⟨g,0,none⟩ (ρ.t 5))).cell? ⟨b,1,none⟩=some (.slice (some ⟨g,0,none⟩) 0 0):=by
  have:(w.drew.alloc (.view ⟨g,0,none⟩ (ρ.t 5))).heap[b]? = _:=(Lib.alloc_old w.drew _ b hlt).trans hbk
  rw [Lib.cell_of_heap this]; rfl
 have c3:(w.alloc (.view ⟨g,0,none⟩ (ρ.t 5))).drew.cell? ⟨b,1,none⟩=some (.slice (some ⟨g,0,none⟩) 0 0):=c2
 have c0:w.cell? ⟨b,1,none⟩=some (.slice (some ⟨g,0,none⟩) 0 0):=c1
 have hfin:Kept w (w.drew.alloc (.view ⟨g,0,none⟩ (ρ.t 5))) b (.slice (some ⟨g,0,none⟩) 0 0) :=
  ⟨rfl,rfl,rfl,by rw [size_alloc]; exact Nat.le_succ _,fun k hk _ _=>heap_alloc_old w.drew _ hk⟩
 have mixed:=L.mixed
 have t72:=L.t72; have a72:=L.a72; have z72:=L.z72; have v72:=L.v72; have u72:=run_underlying L.t72
 have t70:=L.t70; have a70:=L.a70; have z70:=L.z70; have v70:=L.v70; have u70:=run_underlying L.t70
 have t37:=L.t37; have a37:=L.a37; have z37:=L.z37; have v37:=L.v37; have u37:=run_underlying L.t37
 have t127:=L.t127; have a127:=L.a127; have z127:=L.z127; have v127:=L.v127; have u127:=run_underlying L.t127
 have t3:=L.t3; have a3:=L.a3; have z3:=L.z3; have v3:=L.v3; have u3:=run_underlying L.t3
 have t9:=L.t9; have a9:=L.a9; have z9:=L.z9; have v9:=L.v9; have u9:=run_underlying L.t9
 have t5:=X.t5; have a5:=X.a5; have z5:=X.z5; have v5:=X.v5; have u5:=run_underlying X.t5
 go_enter L.f169,Body.n169_ntmps ρ
 go_wp2
 go_region_o
 all_goals (go_wp2; go_ret; exact ⟨rfl,hfin⟩)
set_option maxHeartbeats 2000000 in
set_option maxRecDepth 100000 in
theorem pz {P:Program} {ρ:Ren} (L:Lays.n169 P ρ) (X:Builder.Extra P ρ) {b g cap:Nat} {p:Value} {w:World} (hc0:cap ≠ 0) (hbk:w.heap[b]? = some (.cells #[p,.slice (some ⟨g,0,none⟩) 0 cap] (ρ.t 72) (0,0))) :
  Calls P (ρ.f 169) #[.pointer (some ⟨b,0,none⟩)] w fun e w'=>e=.returned (.string ⟨#[]⟩)∧Kept w w' b (.slice (some ⟨g,0,none⟩) 0 cap):=by
 have hUS:=Any.unsafeString_none L X
 have c1:w.drew.cell? ⟨b,1,none⟩=some (.slice (some ⟨g,0,none⟩) 0 cap):=by
  have:w.drew.heap[b]? = some (.cells #[p,.slice (some ⟨g,0,none⟩) 0 cap] (ρ.t 72) (0,0)):=hbk
  rw [Lib.cell_of_heap this]; rfl
 have hSD:(Builtin.unsafeSliceData_ #[(ρ.t 37)] (ρ.t 127) #[.slice (some ⟨g,0,none⟩) 0 cap]).run P w.drew=.ok (.pointer (some ⟨g,0,none⟩)) w.drew :=
  Lib.run_unsafeSliceData_row _ _ _ _ _ _ hc0
 clear hc0
 have mixed:=L.mixed
 have t72:=L.t72; have a72:=L.a72; have z72:=L.z72; have v72:=L.v72; have u72:=run_underlying L.t72
 have t70:=L.t70; have a70:=L.a70; have z70:=L.z70; have v70:=L.v70; have u70:=run_underlying L.t70
 have t37:=L.t37; have a37:=L.a37; have z37:=L.z37; have v37:=L.v37; have u37:=run_underlying L.t37
 have t127:=L.t127; have a127:=L.a127; have z127:=L.z127; have v127:=L.v127; have u127:=run_underlying L.t127
 have t3:=L.t3; have a3:=L.a3; have z3:=L.z3; have v3:=L.v3; have u3:=run_underlying L.t3
 have t9:=L.t9; have a9:=L.a9; have z9:=L.z9; have v9:=L.v9; have u9:=run_underlying L.t9
 have t5:=X.t5; have a5:=X.a5; have z5:=X.z5; have v5:=X.v5; have u5:=run_underlying X.t5
 go_enter L.f169,Body.n169_ntmps ρ
 go_wp2
 go_region_o
 all_goals (go_wp2; go_ret; exact ⟨rfl,Kept.same _ _ rfl rfl rfl rfl⟩)
theorem xV {P:Program} {ρ:Ren} (L:Lays.n169 P ρ) (X:Builder.Extra P ρ) {b:Nat} {p v:Value} {l:List UInt8} {w:World} (h:mO (ρ.t 72) (ρ.t 5) b p v (Lib.byteCells l) w) :
  Calls P (ρ.f 169) #[.pointer (some ⟨b,0,none⟩)] w fun e w'=>e=.returned (.string ⟨l.toArray⟩)∧Kept w w' b v:=by
 by_cases h0:l=[]
 ·
  subst h0
  obtain ⟨hp,hbk,hown,hne⟩:=h
  rcases hown.2 with ⟨rfl,_⟩ | ⟨g,cap,cur,rfl,_,hg,_⟩
  ·
   exact qi L X hbk
  ·
   by_cases hc0:cap=0
   ·
    subst hc0
    exact mM L X hbk hg
   ·
    exact pz L X hc0 hbk
 ·
  exact o7 L X h h0
end
end Go.Ev

namespace Go.Ev
noncomputable section
open Go.Shelf Go.RowKit Go.Proofs
set_option linter.unusedVariables false
set_option linter.unusedSimpArgs false
def Cr (T e:Nat) (k:Nat) (x:D) (w:World) (b:Nat) (F:Nat→Prop):Prop :=
 k=1∧∃ l p v,x=.str l∧mO T e b p v (Lib.byteCells l) w∧∀ c,F c↔(c=b∨v.ownBlock=some c)
def Du (k:Nat) (w:World) (b:Nat) (F:Nat→Prop):Prop:=k=3∧b < w.heap.size∧∀ c,F c↔c=b
def qF (T e:Nat) (G:World→(Nat→Nat→Prop)→Prop):aM:={ rel:=fun k x w b F=>Cr T e k x w b F∨Du k w b F,G:=G }
def kQ (G:World→(Nat→Nat→Prop)→Prop):Prop :=
 ∀ (w w':World) (fr fr':Nat→Nat→Prop),G w fr→(∀ (b o:Nat) (v:Value),¬ fr b o→w.cell? ⟨b,o,none⟩=some v→w'.cell? ⟨b,o,none⟩=some v∧¬ fr' b o)→G w' fr'
theorem y8 {e:Nat} {v:Value} {n:Nat} {xs:List Value} {w w':World} (h:w.ownsRow 0 e 1 v n xs) (hk:∀ c,v.ownBlock=some c→w'.heap[c]? = w.heap[c]?):w'.ownsRow 0 e 1 v n xs:=by
 refine ⟨h.1,?_⟩
 rcases h.2 with q | ⟨g,cap,cur,rfl,q1,q2,q3⟩
 ·
  exact .inl q
 ·
  exact .inr ⟨g,cap,cur,rfl,q1,by rw [hk g rfl]; exact q2,q3⟩
theorem uV {T e:Nat} {G:World→(Nat→Nat→Prop)→Prop} (hG:kQ G):ObjOk (qF T e G) where
 frame:=fun k x w w' b F h hF=>by
  rcases h with h | ⟨h1,h2,h3⟩
  ·
   obtain ⟨hk,l,p,v,hx,⟨h1,h2,h3,h4⟩,hf⟩:=h
   exact .inl ⟨hk,l,p,v,hx,⟨h1,by rw [hF b ((hf b).2 (.inl rfl))]; exact h2,y8 h3 (fun c hc=>hF c ((hf c).2 (.inr hc))),h4⟩,hf⟩
  ·
   refine .inr ⟨h1,?_,h3⟩
   have:=hF b ((h3 b).2 rfl)
   rcases Nat.lt_or_ge b w'.heap.size with q | q
   ·
    exact q
   ·
    rw [Array.getElem?_eq_none q,Array.getElem?_eq_getElem h2] at this; cases this
 lt:=fun k x w b F h=>by
  rcases h with h | ⟨h1,h2,h3⟩
  ·
   obtain ⟨hk,l,p,v,hx,⟨h1,h2,h3,h4⟩,hf⟩:=h
   refine ⟨fun c hc=>?_,(hf b).2 (.inl rfl)⟩
   rcases (hf c).1 hc with rfl | hc
   ·
    rcases Nat.lt_or_ge c w.heap.size with q | q
    ·
     exact q
    ·
     rw [Array.getElem?_eq_none q] at h2; cases h2
   ·
    exact (h3.lt c hc).2
  ·
   exact ⟨fun c hc=>by rw [(h3 c).1 hc]; exact h2,(h3 b).2 rfl⟩
 it:=fun x w b F=>by
  constructor
  ·
   rintro (⟨h,_⟩ | ⟨_,h1,h2⟩)
   ·
    cases h
   ·
    exact ⟨h1,h2⟩
  ·
   rintro ⟨h1,h2⟩
   exact .inr ⟨rfl,h1,h2⟩
 stat:=hG
theorem tK {T e:Nat} {G:World→(Nat→Nat→Prop)→Prop} (hG:kQ G) {cx:Cx} {S:St} {w w':World} (hS:aB (qF T e G) cx S w) {id:Nat} {l l':List UInt8} (hk:S.H.get id=some (.obj 1 (.str l)))
  {v:Value} (hfv:∀ c,cx.fp id c↔(c=cx.bm id∨v.ownBlock=some c)) (hp:pV w w' (cx.bm id) v (Lib.byteCells l') T e) :
  ∃ cx',aB (qF T e G) cx' { S with H:=S.H.set id (.obj 1 (.str l')) } w'∧Ext cx S w cx' { S with H:=S.H.set id (.obj 1 (.str l')) } w':=by
 obtain ⟨⟨p1,p2,p3,p4⟩,v',b1,b2,b3,b4,b5⟩:=hp
 obtain ⟨o1,o2⟩:=hS.objs id _ _ hk
 let cx':Cx:={ cx with fp:=fun i c=>if i=id then (c=cx.bm id∨v'.ownBlock=some c) else cx.fp i c,fr:=fun b o=>(b=cx.bm id∨v'.ownBlock=some b)∨cx.fr b o }
 have hlt:∀ c,(c=cx.bm id∨v'.ownBlock=some c)→c < w'.heap.size:=fun c hc=>by
  rcases hc with rfl | hc
  ·
   rcases Nat.lt_or_ge (cx.bm id) w'.heap.size with q | q
   ·
    exact q
   ·
    rw [Array.getElem?_eq_none q] at b1; cases b1
  ·
   exact (b2.lt c hc).2
 have hold:∀ c,(c=cx.bm id∨v'.ownBlock=some c)→cx.fp id c∨w.heap.size ≤ c:=fun c hc=>by
  rcases hc with rfl | hc
  ·
   exact .inl ((hfv _).2 (.inl rfl))
  ·
   rcases b5 c hc with q | q
   ·
    exact .inl ((hfv _).2 (.inr q))
   ·
    exact .inr q
 refine ⟨cx',nL (uV hG) hS hk (fun k x hx=>by simp [nN]) (fun g hg=>by simp [isIt,AL.aF] at hg) (fun g hg=>by simp [isIt,hk] at hg) rfl rfl (fun i hi=>by simp [AL.aF,Ne.symm hi]) (.inr ⟨1,.str l',by simp [AL.aF],.inl ⟨rfl,l',.pointer (some ⟨cx.bm id,0,none⟩),v',rfl,⟨.inr rfl,b1,b2,b3⟩,fun c=>by simp [cx']⟩⟩)
  p4 p1 p2 p3 (fun b hb hn=>b4 b hb (fun q=>hn ((hfv b).2 (.inl q))) (fun q=>hn ((hfv b).2 (.inr q.symm)))) (fun _=>rfl) (fun i hi b=>by simp [cx',hi]) (fun _=>rfl) (fun _=>rfl)
  (fun b hb=>?_) (fun b o hb=>?_) (fun b o hf hb q=>?_) (fun b o hf=>.inr hf) (fun b o hf=>?_)⟩
 ·
  simp only [cx',if_true] at hb
  rcases hold b hb with q | q
  ·
   exact .inl q
  ·
   exact .inr ⟨q,hlt b hb⟩
 ·
  simp only [cx',if_true] at hb
  exact .inl hb
 ·
  rcases q with q | q
  ·
   rcases hold b q with z | z
   ·
    exact hf (o2 b o z)
   ·
    omega
  ·
   exact hf q
 ·
  rcases hf with q | q
  ·
   exact hlt b q
  ·
   exact Nat.lt_of_lt_of_le (hS.lt b o q) p4
theorem AY {T e:Nat} {G:World→(Nat→Nat→Prop)→Prop} (hG:kQ G) {cx:Cx} {S:St} {w w':World} (hS:aB (qF T e G) cx S w) {id:Nat} {l:List UInt8} (hk:S.H.get id=some (.obj 1 (.str l)))
  {v:Value} (hfv:∀ c,cx.fp id c↔(c=cx.bm id∨v.ownBlock=some c)) (hp:Kept w w' (cx.bm id) v) :
  aB (qF T e G) cx { S with H:=S.H.del id } w'∧Ext cx S w cx { S with H:=S.H.del id } w':=by
 obtain ⟨p1,p2,p3,p4,p5⟩:=hp
 obtain ⟨o1,o2⟩:=hS.objs id _ _ hk
 exact nL (uV hG) hS hk (fun k x hx=>by simp [nN]) (fun g hg=>by simp [isIt,AL.j4] at hg) (fun g hg=>by simp [isIt,hk] at hg) rfl rfl (fun i hi=>by simp [AL.j4,Ne.symm hi]) (.inl (by simp [AL.j4]))
  p4 p1 p2 p3 (fun b hb hn=>p5 b hb (fun q=>hn ((hfv b).2 (.inl q))) (fun q=>hn ((hfv b).2 (.inr q.symm)))) (fun _=>rfl) (fun i hi b=>Iff.rfl) (fun _=>rfl) (fun _=>rfl)
  (fun b hb=>.inl hb) (fun b o hb=>o2 b o hb) (fun b o hf hb q=>hf q) (fun b o hf=>hf) (fun b o hf=>Nat.lt_of_lt_of_le (hS.lt b o hf) p4)
end
end Go.Ev

namespace Go.Ev
noncomputable section
open Go.Shelf Go.RowKit Go.Proofs
set_option linter.unusedVariables false
set_option linter.unusedSimpArgs false
abbrev Prim:=List AV→St→Option (AV × St)
structure jy (R:aM) (P:Program) (f:Nat) (p:Prim):Prop where
 pure:∀ args S v S',p args S=some (v,S')→(fA args).isSome=true→(kH v).isSome=true→∀ S2,p args S2=some (v,S2)
 calls:∀ args S v S',p args S=some (v,S')→(∃ fn,P.funcs[f]? = some fn∧fn.body.isSome=true∧fn.name ≠ "runtime.NumGoroutine") ∧
  ∀ cx w (us:List Value),aB R cx S w→us.length=args.length→(∀ (i:Nat) (x:AV) (u:Value),args[i]? = some x→us[i]? = some u→av cx S w x u) →
  Calls P f us.toArray w (fun e w'=>∃ cx',aB R cx' S' w'∧Ext cx S w cx' S' w'∧∃ u,e=.returned u∧av cx' S' w' v u)
def uK (R:aM) (P:Program):AL Prim→Prop
 | []=>True
 | (f,p) :: l=>jy R P f p∧uK R P l
theorem kP {R:aM} {P:Program}:∀ {l:AL Prim} {f:Nat} {p:Prim},uK R P l→AL.get l f=some p→jy R P f p
 | [],f,p,_,h=>by cases h
 | (k,q) :: l,f,p,hl,h=>by
  rw [AL.bF] at h
  split at h
  ·
   rename_i he
   cases h; subst he; exact hl.1
  ·
   exact kP hl.2 h
def yB (args:List AV) (S:St):Option (AV × St) :=
 match args with
 | [.ptr id 0 0,.d (.int .u8 c)]=>match S.H.get id with
  | some (.obj 1 (.str bs))=>if 0 ≤ c∧c < 256∧bs.length + 1 ≤ bound then some (.d .nili,{ S with H:=S.H.set id (.obj 1 (.str (bs ++ [UInt8.ofNat c.toNat]))) }) else none
  | _=>none
 | _=>none
def yh (args:List AV) (S:St):Option (AV × St) :=
 match args with
 | [.ptr id 0 0,.d (.str s)]=>match S.H.get id with
  | some (.obj 1 (.str bs))=>if bs.length + s.length ≤ bound then some (.tup [.d (.int .i64 (s.length:Nat)),.d .nili],{ S with H:=S.H.set id (.obj 1 (.str (bs ++ s))) }) else none
  | _=>none
 | _=>none
def xE (args:List AV) (S:St):Option (AV × St) :=
 match args with
 | [.ptr id 0 0]=>match S.H.get id with
  | some (.obj 1 (.str bs))=>some (.d (.str bs),{ S with H:=S.H.del id })
  | _=>none
 | _=>none
theorem vz {T e:Nat} {G:World→(Nat→Nat→Prop)→Prop} {cx:Cx} {S:St} {w:World} (hS:aB (qF T e G) cx S w) {id:Nat} {l:List UInt8} (hk:S.H.get id=some (.obj 1 (.str l))) {u:Value} (hu:av cx S w (.ptr id 0 0) u) :
  u=.pointer (some ⟨cx.bm id,0,none⟩)∧∃ p v,mO T e (cx.bm id) p v (Lib.byteCells l) w∧∀ c,cx.fp id c↔(c=cx.bm id∨v.ownBlock=some c):=by
 obtain ⟨⟨_,l',p,v,hx,h1,h2⟩ | ⟨h3,_⟩,_⟩:=hS.objs id _ _ hk
 rotate_left
 ·
  cases h3
 cases hx
 cases hu with
 | ptr _ _ _ b hn hp =>
  have:=hp (by simp [cur,hk,nN])
  subst this
  exact ⟨rfl,p,v,h1,h2⟩
theorem C8 {G:World→(Nat→Nat→Prop)→Prop} (hG:kQ G) {P:Program} {ρ:Ren} (L:Lays.n167 P ρ) (X:Builder.Extra P ρ):jy (qF (ρ.t 72) (ρ.t 5) G) P (ρ.f 167) yB where
 pure:=fun args S v S' h h1=>by
  exfalso
  unfold yB at h
  split at h
  ·
   simp [fA,qO] at h1
  ·
   cases h
 calls:=fun args S v S' h=>⟨⟨_,L.f167,rfl,by show ¬ ("(*strings.Builder).WriteByte" = "runtime.NumGoroutine"); decide⟩,fun cx w us hS hl hr=>by
  unfold yB at h
  split at h
  ·
   rename_i id c
   split at h
   ·
    rename_i bs hk
    split at h
    ·
     rename_i hc
     simp only [Option.some.injEq,Prod.mk.injEq] at h
     obtain ⟨rfl,rfl⟩:=h
     match us,hl with
     | [u0,u1],_ =>
     obtain ⟨rfl,p,v,h1,h2⟩:=vz hS hk (hr 0 _ _ rfl rfl)
     have r1:=hr 1 _ _ rfl rfl
     cases r1 with
     | d _ _ r1 =>
     have a1:=r1.val rfl; cases a1
     refine (sw L X h1 c (by rw [Lib.byteCells_length]; exact hc.2.2)).mono (fun e w' hp=>?_)
     obtain ⟨rfl,hp⟩:=hp
     have hb:Lib.byteCells bs ++ [.int .u8 c]=Lib.byteCells (bs ++ [UInt8.ofNat c.toNat]):=by
      have:((UInt8.ofNat c.toNat).toNat:Int)=c:=by
       rw [UInt8.toNat_ofNat']
       have h0:=hc.1; have h1:=hc.2.1
       omega
      simp only [Lib.byteCells,List.map_append,List.map_cons,List.map_nil,this]
     rw [hb] at hp
     obtain ⟨cx',k1,k2⟩:=tK hG hS hk h2 hp
     exact ⟨cx',k1,k2,_,rfl,.d _ _ (aJ.of_cell .nili rfl)⟩
    ·
     cases h
   ·
    cases h
  ·
   cases h⟩
theorem Da {G:World→(Nat→Nat→Prop)→Prop} (hG:kQ G) {P:Program} {ρ:Ren} (L:Lays.n166 P ρ) (X:Builder.Extra P ρ):jy (qF (ρ.t 72) (ρ.t 5) G) P (ρ.f 166) yh where
 pure:=fun args S v S' h h1=>by
  exfalso
  unfold yh at h
  split at h
  ·
   simp [fA,qO] at h1
  ·
   cases h
 calls:=fun args S v S' h=>⟨⟨_,L.f166,rfl,by show ¬ ("(*strings.Builder).WriteString" = "runtime.NumGoroutine"); decide⟩,fun cx w us hS hl hr=>by
  unfold yh at h
  split at h
  ·
   rename_i id s
   split at h
   ·
    rename_i bs hk
    split at h
    ·
     rename_i hc
     simp only [Option.some.injEq,Prod.mk.injEq] at h
     obtain ⟨rfl,rfl⟩:=h
     match us,hl with
     | [u0,u1],_ =>
     obtain ⟨rfl,p,v,h1,h2⟩:=vz hS hk (hr 0 _ _ rfl rfl)
     have r1:=hr 1 _ _ rfl rfl
     cases r1 with
     | d _ _ r1 =>
     have a1:=r1.val rfl; cases a1
     rename_i s xx
     refine (pq L X h1 s (by rw [Lib.byteCells_length]; simpa using hc)).mono (fun e w' hp=>?_)
     obtain ⟨rfl,hp⟩:=hp
     have hb:Lib.byteCells bs ++ Lib.strCells s=Lib.byteCells (bs ++ s.data.toList):=by
      simp [Lib.byteCells,Lib.strCells]
     rw [hb] at hp
     obtain ⟨cx',k1,k2⟩:=tK hG hS hk h2 hp
     refine ⟨cx',k1,k2,_,rfl,.tup _ [.int .i64 (s.size:Nat),.nilIface] rfl (fun i x v hx hv=>?_)⟩
     match i,hx,hv with
     | 0,hx,hv =>
      simp at hx hv; subst hx; subst hv
      exact .d _ _ (aJ.of_cell (.int _ _) rfl)
     | 1,hx,hv =>
      simp at hx hv; subst hx; subst hv
      exact .d _ _ (aJ.of_cell .nili rfl)
    ·
     cases h
   ·
    cases h
  ·
   cases h⟩
theorem C9 {G:World→(Nat→Nat→Prop)→Prop} (hG:kQ G) {P:Program} {ρ:Ren} (L:Lays.n169 P ρ) (X:Builder.Extra P ρ):jy (qF (ρ.t 72) (ρ.t 5) G) P (ρ.f 169) xE where
 pure:=fun args S v S' h h1=>by
  exfalso
  unfold xE at h
  split at h
  ·
   simp [fA,qO] at h1
  ·
   cases h
 calls:=fun args S v S' h=>⟨⟨_,L.f169,rfl,by show ¬ ("(*strings.Builder).String" = "runtime.NumGoroutine"); decide⟩,fun cx w us hS hl hr=>by
  unfold xE at h
  split at h
  ·
   rename_i id
   split at h
   ·
    rename_i bs hk
    simp only [Option.some.injEq,Prod.mk.injEq] at h
    obtain ⟨rfl,rfl⟩:=h
    match us,hl with
    | [u0],_ =>
    obtain ⟨rfl,p,v,h1,h2⟩:=vz hS hk (hr 0 _ _ rfl rfl)
    refine (xV L X h1).mono (fun e w' hp=>?_)
    obtain ⟨rfl,hp⟩:=hp
    obtain ⟨k1,k2⟩:=AY hG hS hk h2 hp
    refine ⟨cx,k1,k2,_,rfl,.d _ _ (aJ.of_cell ?_ rfl)⟩
    have:=cZ.str (w:=w') (fr:=cx.fr) ⟨bs.toArray⟩
    simpa using this
   ·
    cases h
  ·
   cases h⟩
end
end Go.Ev

namespace Go.Ev
noncomputable section
open Go.Shelf Go.RowKit Go.Proofs
set_option linter.unusedVariables false
set_option linter.unusedSimpArgs false
def Leaves (w:World) (fr:Nat→Nat→Prop) (v:AV) (e:Ending) (w':World):Prop :=
 Below w.heap.size w w'∧∃ u,e=.returned u∧∀ cx S,cx.fr=fr→av cx S w' v u
def iN (spec:List D→Option AV):Prim:=fun args S=>match fA args with
 | some ds=>(spec ds).map fun v=>(v,S)
 | none=>none
theorem jk {R:aM} (hR:ObjOk R) {P:Program} {f:Nat} {spec:List D→Option AV} (hd:∀ ds v,spec ds=some v→(kH v).isSome=true)
  (hb:∃ fn,P.funcs[f]? = some fn∧fn.body.isSome=true∧fn.name ≠ "runtime.NumGoroutine")
  (hc:∀ ds v,spec ds=some v→∀ (w:World) (fr:Nat→Nat→Prop) (us:List Value),R.G w fr→(∀ b o,fr b o→b < w.heap.size)→us.length=ds.length→(∀ (i:Nat) (y:D) (u:Value),ds[i]? = some y→us[i]? = some u→aJ w fr y u) →
   Calls P f us.toArray w (Leaves w fr v)):jy R P f (iN spec) where
 pure:=fun args S v S' h _ _ S2=>by
  unfold iN at h ⊢
  split at h
  ·
   rename_i ds hds
   simp only [Option.map_eq_some_iff,Prod.mk.injEq] at h
   obtain ⟨a,h1,rfl,_⟩:=h
   simp [hds,h1]
  ·
   cases h
 calls:=fun args S v S' h=>⟨hb,fun cx w us hS hl hr=>by
  unfold iN at h
  split at h
  ·
   rename_i ds hds
   simp only [Option.map_eq_some_iff,Prod.mk.injEq] at h
   obtain ⟨a,h1,rfl,rfl⟩:=h
   obtain ⟨d1,d2⟩:=iH hds
   refine (hc ds a h1 w cx.fr us hS.stat hS.lt (by rw [hl,d1]) (fun i y u hy hu=>?_)).mono (fun e w' hp=>?_)
   ·
    have hlt:i < args.length:=by rw [← d1]; exact (List.getElem?_eq_some_iff.1 hy).1
    have ha:=List.getElem?_eq_getElem hlt
    exact dQ (d2 i _ y ha hy) (hr i _ u ha hu)
   ·
    obtain ⟨hbl,u,rfl,hv⟩:=hp
    have e:Ext cx S w cx S w':=Ext.old hS hbl.size (fun b hb=>hbl.block b hb) hbl.os hbl.tape hbl.output
    exact ⟨cx,aB.old hR hS hbl.size (fun b hb=>hbl.block b hb) e,e,u,rfl,hv cx S rfl⟩
  ·
   cases h⟩
theorem pF (w:World) (fr:Nat→Nat→Prop) (l:List UInt8):aJ w fr (.str l) (.string ⟨l.toArray⟩):=by
 have:=cZ.str (w:=w) (fr:=fr) ⟨l.toArray⟩
 exact aJ.of_cell (by simpa using this) rfl
theorem jg {w:World} {fr:Nat→Nat→Prop} {l:List UInt8} {u:Value} (h:aJ w fr (.str l) u):u=.string ⟨l.toArray⟩:=by
 have a:=h.val rfl
 cases a
 simp
def qo:List D→Option AV
 | [.str s,.str c]=>if s.length ≤ bound∧c.length ≤ 1000∧(c.all fun b=>decide (b.toNat < 128))=true then some (.d (.str (Lib.trimS s c))) else none
 | _=>none
theorem Ch {R:aM} (hR:ObjOk R) {P:Program} {ρ:Ren} (L:Lays.n160 P ρ) (h116:(P.info? (ρ.t 116)).map (fun i=>(i.zero,i.size))=some (some (.agg (Array.replicate 256 (.bool false))),256)) :
  jy R P (ρ.f 160) (iN qo):=by
 refine jk hR (fun ds v h=>?_) ⟨_,L.f160,rfl,by show ¬ ("strings.Trim" = "runtime.NumGoroutine"); decide⟩ (fun ds v h w fr us hG hfr hl hr=>?_)
 ·
  unfold qo at h
  split at h
  ·
   split at h
   ·
    simp only [Option.some.injEq] at h; subst h; rfl
   ·
    cases h
  ·
   cases h
 ·
  unfold qo at h
  split at h
  ·
   rename_i s c
   split at h
   ·
    rename_i hc
    obtain ⟨h1,h2,h3⟩:=hc
    simp only [Option.some.injEq] at h; subst h
    match us,hl with
    | [u0,u1],_ =>
    obtain rfl:=jg (hr 0 _ _ rfl rfl)
    obtain rfl:=jg (hr 1 _ _ rfl rfl)
    refine (Any.strings_Trim_laid L h116 ⟨s.toArray⟩ ⟨c.toArray⟩ w (by simp [ByteArray.size]; unfold bound at h1; omega) (by simp [ByteArray.size]; omega) (by simpa using ascii_of_all h3)).mono (fun e w' hp=>?_)
    obtain ⟨rfl,hb⟩:=hp
    exact ⟨hb,_,rfl,fun cx S _=>.d _ _ (by simpa using pF w' cx.fr (Lib.trimS s c))⟩
   ·
    cases h
  ·
   cases h
def uP:List D→Option AV
 | [.str s,.int .u8 c]=>some (.d (.int .i64 (Lib.indexByte s c.toNat.toUInt8)))
 | _=>none
theorem CR {R:aM} (hR:ObjOk R) {P:Program} {ρ:Ren} (L:Lays.n137 P ρ):jy R P (ρ.f 137) (iN uP):=by
 refine jk hR (fun ds v h=>?_) ⟨_,L.f137,rfl,by show ¬ ("strings.IndexByte" = "runtime.NumGoroutine"); decide⟩ (fun ds v h w fr us hG hfr hl hr=>?_)
 ·
  unfold uP at h
  split at h
  ·
   simp only [Option.some.injEq] at h; subst h; rfl
  ·
   cases h
 ·
  unfold uP at h
  split at h
  ·
   rename_i s c
   simp only [Option.some.injEq] at h; subst h
   match us,hl with
   | [u0,u1],_ =>
   obtain rfl:=jg (hr 0 _ _ rfl rfl)
   have a1:=(hr 1 _ _ rfl rfl).val rfl
   cases a1
   refine (Any.strings_IndexByte L ⟨s.toArray⟩ c w).mono (fun e w' hp=>?_)
   obtain ⟨rfl,rfl⟩:=hp
   exact ⟨Below.refl _ _,_,rfl,fun cx S _=>.d _ _ (aJ.of_cell (by simpa using cZ.int (w:=w') (fr:=cx.fr) .i64 (Lib.indexByte s c.toNat.toUInt8)) rfl)⟩
  ·
   cases h
def fJ (c:UInt8):List UInt8→List (List UInt8)
 | []=>[[]]
 | b :: l=>if b == c then [] :: fJ c l else match fJ c l with
  | []=>[[b]]
  | x :: r=>(b :: x) :: r
theorem ou (c:UInt8):∀ (s:List UInt8),c ∉ s→fJ c s=[s]
 | [],_=>rfl
 | b :: l,h=>by
  have h1:¬ (b == c)=true:=fun q=>h (by rw [eq_of_beq q]; exact List.mem_cons_self)
  rw [fJ,if_neg h1,ou c l (fun q=>h (List.mem_cons_of_mem _ q))]
theorem oz (c:UInt8) (t:List UInt8):∀ (s:List UInt8),c ∉ s→fJ c (s ++ c :: t)=s :: fJ c t
 | [],_=>by simp [fJ]
 | b :: l,h=>by
  have h1:¬ (b == c)=true:=fun q=>h (by rw [eq_of_beq q]; exact List.mem_cons_self)
  rw [List.cons_append,fJ,if_neg h1,oz c t l (fun q=>h (List.mem_cons_of_mem _ q))]
theorem occ_one (s:List UInt8) (c:UInt8) (i:Nat):Lib.occAt s [c] i=(s[i]? == some c):=by
 unfold Lib.occAt
 cases h:s.drop i with
 | nil =>
  have:s[i]? = none:=by rw [List.getElem?_eq_none]; have:=congrArg List.length h; simp at this; omega
  rw [this]; rfl
 | cons b l =>
  have:s[i]? = some b:=by have:=congrArg (·[0]?) h; simpa using this
  rw [this]
  simp only [List.isPrefixOf_cons_cons,List.isPrefixOf_nil_left,Bool.and_true]
  by_cases hb:c=b
  ·
   subst hb; simp
  ·
   have h1:(c == b)=false:=by simpa using hb
   have h2:(some b == some c)=false:=by simpa using Ne.symm hb
   rw [h1,h2]
theorem yl (c:UInt8):∀ (n:Nat) (s:List UInt8),s.length ≤ n→Lib.splitK [c] 0 (Lib.count s [c]) s=fJ c s:=by
 intro n
 induction n with
 | zero =>
  intro s hs
  have:s=[]:=List.eq_nil_of_length_eq_zero (by omega)
  subst this
  rfl
 | succ n ih =>
  intro s hs
  rcases Lib.index_spec s [c] with ⟨h1,h2⟩ | ⟨i,h1,h2,h3,h4⟩
  ·
   rw [Lib.count_miss h1,Lib.splitK]
   refine (ou c s (fun hm=>?_)).symm
   obtain ⟨j,hj,hjs⟩:=List.getElem_of_mem hm
   have:=h2 j (by omega)
   rw [occ_one,List.getElem?_eq_getElem hj,hjs] at this
   simp at this
  ·
   rw [Lib.count_hit (by simp) h1]
   have hne:¬ (Lib.index s [c] == -1)=true:=fun q=>by have:=beq_iff_eq.1 q; omega
   rw [Nat.add_comm,Lib.splitK,if_neg hne,h1]
   have e1:((i:Int)).toNat=i:=by omega
   rw [e1]
   rw [occ_one] at h3
   have hi:s[i]? = some c:=by simpa using h3
   have hlt:=(List.getElem?_eq_some_iff.1 hi).1
   have hs2:s=s.take i ++ c :: s.drop (i + 1):=by
    have:=List.getElem_cons_drop hlt
    rw [(List.getElem?_eq_some_iff.1 hi).2] at this
    rw [this,List.take_append_drop]
   have hnm:c ∉ s.take i:=fun hm=>by
    obtain ⟨j,hj,hjs⟩:=List.getElem_of_mem hm
    simp at hj
    have:=h4 j (by omega)
    rw [occ_one,List.getElem?_eq_getElem (by omega)] at this
    simp at hjs
    simp [hjs] at this
   conv=>rhs; rw [hs2]
   rw [oz c _ _ hnm]
   simp only [Nat.add_zero,List.length_singleton]
   rw [ih _ (by simp; omega)]
def nW:List D→Option AV
 | [.str s,.str [c]]=>if s.length ≤ 1000000 then some (.d (.sl ((fJ c s).map .str) false)) else none
 | _=>none
def BG (g:Nat) (w:World) (fr:Nat→Nat→Prop):Prop:=(∃ m,w.cell? ⟨g,0,none⟩=some (.int .i64 m))∧¬ fr g 0
theorem Cu (g:Nat):kQ (BG g):=fun w w' fr fr' h hp=>by
 obtain ⟨⟨m,h1⟩,h2⟩:=h
 obtain ⟨a,b⟩:=hp g 0 _ h2 h1
 exact ⟨⟨m,a⟩,b⟩
theorem Bp {w:World} {fr:Nat→Nat→Prop} {xs:List (List UInt8)} {b el:Nat} {arr:Array Value} {fz:Nat × Nat} (hb:w.heap[b]? = some (.cells arr el fz)) (hfr:∀ o,¬ fr b o)
  (ha:arr.toList=xs.map fun l=>Value.string ⟨l.toArray⟩) (hne:xs ≠ []):aJ w fr (.sl (xs.map .str) false) (.slice (some ⟨b,0,none⟩) xs.length xs.length):=by
 refine aJ.of_cell ?_ rfl
 have:=cZ.sl (w:=w) (fr:=fr) (xs.map .str) false b 0 xs.length 1 (fun i=>[(arr.toList[i]?).getD .nilIface]) (by simpa using hne) (by simp) (fun q=>by cases q) (fun i x hx=>by
  simp only [List.getElem?_map,Option.map_eq_some_iff] at hx
  obtain ⟨a,_,rfl⟩:=hx; rfl) (fun i _=>rfl) (fun i x hx=>by
  simp only [List.getElem?_map,Option.map_eq_some_iff] at hx
  obtain ⟨a,h1,rfl⟩:=hx
  rw [ha,List.getElem?_map,h1]
  exact (pF w fr a).val rfl) (fun i j v hi hv=>by
  cases j with
  | zero =>
   simp only [List.getElem?_cons_zero,Option.some.injEq] at hv
   refine ⟨?_,hfr _⟩
   rw [cell_of hb,Nat.mul_one,Nat.zero_add,Nat.add_zero,← hv]
   have hi':i < arr.toList.length:=by rw [ha]; simpa using hi
   rw [List.getElem?_eq_getElem hi',Option.getD_some,← Array.getElem?_toList,List.getElem?_eq_getElem hi']
  | succ j=>simp at hv)
 simpa using this
theorem zo (c:UInt8) (s:List UInt8):fJ c s ≠ []:=by
 cases s with
 | nil=>simp [fJ]
 | cons b l =>
  unfold fJ
  split
  ·
   simp
  ·
   split <;> simp
theorem BO {R:aM} (hR:ObjOk R) {P:Program} {ρ:Ren} (L:Lays.n146 P ρ) (hi9:(P.info? (ρ.t 9)).map (fun i=>(i.zero,i.size,i.bytes))=some (some (.string ByteArray.empty),1,16))
  (hG:∀ w fr,R.G w fr→∃ m,w.cell? ⟨(ρ.g 1),0,none⟩=some (.int .i64 m)):jy R P (ρ.f 146) (iN nW):=by
 refine jk hR (fun ds v h=>?_) ⟨_,L.f146,rfl,by show ¬ ("strings.Split" = "runtime.NumGoroutine"); decide⟩ (fun ds v h w fr us hGw hfr hl hr=>?_)
 ·
  unfold nW at h
  split at h
  ·
   split at h
   ·
    simp only [Option.some.injEq] at h; subst h; rfl
   ·
    cases h
  ·
   cases h
 ·
  unfold nW at h
  split at h
  ·
   rename_i s c
   split at h
   ·
    rename_i hc
    simp only [Option.some.injEq] at h; subst h
    match us,hl with
    | [u0,u1],_ =>
    obtain rfl:=jg (hr 0 _ _ rfl rfl)
    obtain rfl:=jg (hr 1 _ _ rfl rfl)
    obtain ⟨m,hm⟩:=hG w fr hGw
    refine (Any.strings_Split L hi9 ⟨s.toArray⟩ ⟨#[c]⟩ m w (by simp [ByteArray.size]; omega) hm (by simp [ByteArray.size])).mono (fun e w' hp=>?_)
    obtain ⟨rfl,rfl⟩:=hp
    have hq:(Lib.splitB ⟨#[c]⟩ 0 (Lib.countB ⟨s.toArray⟩ ⟨#[c]⟩) ⟨s.toArray⟩).map (·.data.toList)=fJ c s:=by
     rw [Lib.splitB_data]
     have:=yl c s.length s (Nat.le_refl _)
     simpa [Lib.countB] using this
    have hlen:Lib.countB ⟨s.toArray⟩ ⟨#[c]⟩ + 1=(fJ c s).length:=by
     rw [← hq,List.length_map,Lib.splitB_all _ (by simp [ByteArray.size]) 0 _ _ rfl]
    refine ⟨(Below.refl _ _).alloc (Nat.le_refl _) _,_,rfl,fun cx S hcx=>.d _ _ ?_⟩
    rw [hlen]
    refine Bp (arr:=((Lib.splitB ⟨#[c]⟩ 0 (Lib.countB ⟨s.toArray⟩ ⟨#[c]⟩) ⟨s.toArray⟩).map Value.string).toArray) (heap_alloc_new w _) (fun o q=>?_) ?_ (zo c s)
    ·
     rw [hcx] at q; have:=hfr _ _ q; omega
    ·
     rw [← hq]
     simp
   ·
    cases h
  ·
   cases h
def strsOf:List D→Option (List (List UInt8))
 | []=>some []
 | .str s :: l=>(strsOf l).map (s :: ·)
 | _ :: _=>none
theorem ow:∀ {l:List D} {xs:List (List UInt8)},strsOf l=some xs→l=xs.map .str
 | [],xs,h=>by simp [strsOf] at h; subst h; rfl
 | x :: l,xs,h=>by
  cases x <;> try (cases h; done)
  simp only [strsOf,Option.map_eq_some_iff] at h
  obtain ⟨ys,h1,rfl⟩:=h
  rw [ow h1]; rfl
def rR:List D→Option AV
 | [.di,.str _]=>some (.d (.str []))
 | [.sl l _,.str sep]=>match strsOf l with
  | some xs=>if (Lib.join xs sep).length ≤ bound∧xs.length ≤ bound then some (.d (.str (Lib.join xs sep))) else none
  | none=>none
 | _=>none
theorem Ce {R:aM} (hR:ObjOk R) {P:Program} {ρ:Ren} (L:Lays.n156 P ρ) (X:Builder.Extra P ρ):jy R P (ρ.f 156) (iN rR):=by
 refine jk hR (fun ds v h=>?_) ⟨_,L.f156,rfl,by show ¬ ("strings.Join" = "runtime.NumGoroutine"); decide⟩ (fun ds v h w fr us hG hfr hl hr=>?_)
 ·
  unfold rR at h
  split at h
  ·
   simp only [Option.some.injEq] at h; subst h; rfl
  ·
   split at h
   ·
    split at h
    ·
     simp only [Option.some.injEq] at h; subst h; rfl
    ·
     cases h
   ·
    cases h
  ·
   cases h
 ·
  unfold rR at h
  split at h
  ·
   simp only [Option.some.injEq] at h; subst h
   match us,hl with
   | [u0,u1],_ =>
   have a0:=(hr 0 _ _ rfl rfl).val rfl
   cases a0
   obtain rfl:=jg (hr 1 _ _ rfl rfl)
   refine (Any.strings_Join_none L X none 0 _ w).mono (fun e w' hp=>?_)
   obtain ⟨rfl,rfl⟩:=hp
   exact ⟨Below.refl _ _,_,rfl,fun cx S _=>.d _ _ (pF w' cx.fr [])⟩
  ·
   rename_i l t sep
   split at h
   ·
    rename_i xs hxs
    split at h
    ·
     rename_i hc
     simp only [Option.some.injEq] at h; subst h
     have:=ow hxs
     subst this
     match us,hl with
     | [u0,u1],_ =>
     obtain rfl:=jg (hr 1 _ _ rfl rfl)
     have a0:=(hr 0 _ _ rfl rfl).val rfl
     have key:∀ (q:List UInt8) (e:Ending) (w':World),e=.returned (.string ⟨q.toArray⟩)→Below w.heap.size w w'→Leaves w fr (.d (.str q)) e w':=fun q e w' h1 h2 =>
      ⟨h2,_,h1,fun cx S _=>.d _ _ (pF w' cx.fr q)⟩
     generalize hys:xs.map D.str=ys at a0
     cases a0 with
     | sl0 a cap tt ht =>
      have:xs=[]:=by simpa using hys
      subst this
      refine (Any.strings_Join_none L X a cap _ w).mono (fun e w' hp=>?_)
      obtain ⟨rfl,rfl⟩:=hp
      exact key [] _ _ rfl (Below.refl _ _)
     | sl ys tt b off cap sz vs hne hcap htt hsz hlen hx hcell =>
      subst hys
      have hne':xs ≠ []:=by simpa using hne
      have hpos:0 < xs.length:=List.length_pos_iff.2 hne'
      have h0:(xs.map D.str)[0]? = some (.str (xs[0])):=by simp [hpos]
      have hsz1:sz=1:=(hsz 0 _ h0).symm
      subst hsz1
      have hcells:∀ (j:Nat) (x:ByteArray),(xs.map fun l=>(⟨l.toArray⟩:ByteArray))[j]? = some x→w.cell? ⟨b,off + j,none⟩=some (.string x):=fun j x hj=>by
       simp only [List.getElem?_map,Option.map_eq_some_iff] at hj
       obtain ⟨s,hs,rfl⟩:=hj
       have hjl:j < (xs.map D.str).length:=by simpa using (List.getElem?_eq_some_iff.1 hs).1
       have hr1:=hx j (.str s) (by simp [hs])
       have hl1:=hlen j hjl
       obtain ⟨v,hv⟩:∃ v,vs j=[v]:=by
        match hh:vs j,hl1 with
        | [v],_=>exact ⟨v,rfl⟩
       rw [hv] at hr1
       obtain rfl:=jg (aJ.of_cell hr1 rfl)
       have:=(hcell j 0 (.string ⟨s.toArray⟩) hjl (by rw [hv]; rfl)).1
       simpa using this
      have hbk:b < w.heap.size:=jf (hcells 0 ⟨(xs[0]).toArray⟩ (by simp [hpos]))
      have hjn:(xs.map fun l=>(⟨l.toArray⟩:ByteArray)).map (·.data.toList)=xs:=by rw [List.map_map]; exact List.map_id'' (fun _=>rfl) xs
      have hb2:bound ≤ 140737488355328:=by decide
      refine (Any.strings_Join L X b off cap (xs.map fun l=>(⟨l.toArray⟩:ByteArray)) ⟨sep.toArray⟩ w hcells hbk (by rw [List.length_map]; omega) (by simpa using hcap) (by rw [hjn]; simp only []; omega)).mono (fun e w' hp=>?_) |> fun z=>by simpa using z
      obtain ⟨rfl,hb3⟩:=hp
      rw [hjn]
      exact key _ _ _ rfl hb3
    ·
     cases h
   ·
    cases h
  ·
   cases h
end
end Go.Ev

namespace Go.Ev
noncomputable section
set_option linter.unusedVariables false
def Dk (P:Program) (f:Nat):Bool:=match P.funcs[f]? with
 | some fn=>(match fn.body with | some c=>codeOk c | none=>true) && !(fn.name == "runtime.NumGoroutine")
 | none=>true
def Au:List Nat→Nat→Bool
 | [],_=>false
 | x :: l,n=>bif Nat.beq x n then true else Au l n
theorem vM:∀ {l:List Nat} {n:Nat},Au l n=true→n ∈ l
 | [],n,h=>by cases h
 | x :: l,n,h=>by
  unfold Au at h
  cases hb:Nat.beq x n
  ·
   rw [hb] at h; exact List.mem_cons_of_mem _ (vM h)
  ·
   have:=Nat.eq_of_beq_eq_true hb; subst this; exact List.mem_cons_self
def u7 (P:Program) (good rows:List Nat) (ps:AL Prim) (hasB:Bool) (bt:Nat):bN :=
 { P:=P,good:=Au good,rowT:=Au rows,prim:=fun f args S=>match AL.get ps f with | some p=>p args S | none=>none,objT:=fun t=>bif hasB && Nat.beq t bt then some (1,.str []) else none,hasPrim:=AL.has ps }
theorem Db {G:World→(Nat→Nat→Prop)→Prop} (hG:kQ G) {P:Program} {good rows:List Nat} {ps:AL Prim} {hasB:Bool} {bt e:Nat} (hg:good.all (Dk P)=true) (hm:P.follows .mixedOrders=true)
  (hz:hasB=true→∀ w,(zeroValue bt).run P w=.ok (.agg #[.pointer none,.slice none 0 0]) w) (hp:uK (qF bt e G) P ps):uo (qF bt e G) (u7 P good rows ps hasB bt) where
 obj:={ uV hG with
  new:=fun t k x h=>by
   simp only [u7] at h
   cases hb:hasB && Nat.beq t bt with
   | false=>rw [hb] at h; cases h
   | true =>
    rw [hb] at h
    simp only [cond_true,Option.some.injEq,Prod.mk.injEq] at h
    obtain ⟨rfl,rfl⟩:=h
    simp only [Bool.and_eq_true] at hb
    have ht:=Nat.eq_of_beq_eq_true hb.2
    subst ht
    exact ⟨_,hz hb.1,fun w=>.inl ⟨rfl,[],.pointer none,.slice none 0 0,rfl,⟨.inl rfl,heap_alloc_new w _,World.ownsRow_nil _ 0 e 1,by simp [Value.ownBlock]⟩,fun c=>by simp [Value.ownBlock]⟩,rfl⟩ }
 mixed:=hm
 code:=fun f fn c h hf hc=>by
  have:=List.all_eq_true.1 hg f (vM h)
  unfold Dk at this
  have hf':P.funcs[f]? = some fn:=hf
  simp only [hf',hc,Bool.and_eq_true,Bool.not_eq_true'] at this
  exact ⟨this.1,fun q=>by rw [q] at this; simp at this⟩
 primPure:=fun f args S v S' _ h h1 h2 S2=>by
  simp only [u7] at h ⊢
  split at h
  ·
   rename_i p hq; exact (kP hp hq).pure args S v S' h h1 h2 S2
  ·
   cases h
 prim:=fun f args S v S' _ h=>by
  simp only [u7] at h
  split at h
  ·
   rename_i p hq; exact (kP hp hq).calls args S v S' h
  ·
   cases h
end
end Go.Ev

namespace Go.Ev
noncomputable section
set_option linter.unusedVariables false
set_option linter.unusedSimpArgs false
def zJ:Nat→Nat→Prop:=fun _ _=>False
structure iL (w:World) (ds:List D) (cs:List Value):Prop where
 len:cs.length=ds.length
 one:∀ v ∈ cs,v.oneCell'=true
 flat:∀ d ∈ ds,d.isAgg=false
 rel:∀ (i:Nat) (d:D) (v:Value),ds[i]? = some d→cs[i]? = some v→cZ w zJ d [v]
theorem iL.nil {w:World}:iL w [] []:=⟨rfl,by simp,by simp,by simp⟩
theorem iL.append {w:World} {a b:List D} {x y:List Value} (h:iL w a x) (k:iL w b y):iL w (a ++ b) (x ++ y) where
 len:=by simp [h.len,k.len]
 one:=fun v hv=>by rcases List.mem_append.1 hv with q | q; exact h.one v q; exact k.one v q
 flat:=fun v hv=>by rcases List.mem_append.1 hv with q | q; exact h.flat v q; exact k.flat v q
 rel:=fun i d v hd hv=>by
  by_cases hi:i < a.length
  ·
   rw [List.getElem?_append_left hi] at hd
   rw [List.getElem?_append_left (by rw [h.len]; exact hi)] at hv
   exact h.rel i d v hd hv
  ·
   rw [List.getElem?_append_right (by omega)] at hd
   rw [List.getElem?_append_right (by rw [h.len]; omega),h.len] at hv
   exact k.rel _ d v hd hv
theorem iL.single {w:World} {d:D} {v:Value} (h:cZ w zJ d [v]) (ho:v.oneCell'=true) (hd:d.isAgg=false):iL w [d] [v] where
 len:=rfl
 one:=by simpa using ho
 flat:=by simpa using hd
 rel:=fun i d' v' h1 h2=>by
  cases i with
  | zero=>simp at h1 h2; subst h1; subst h2; exact h
  | succ i=>simp at h1
theorem iL.CU {w:World} {x:D} {cs:List Value} (h:iL w x.cells cs):cZ w zJ x cs:=by
 cases hx:x.isAgg with
 | true =>
  cases x <;> simp [D.isAgg] at hx
  rename_i xs
  exact .agg xs cs h.len h.one h.flat h.rel
 | false =>
  have hc:x.cells=[x]:=by cases x <;> simp_all [D.isAgg,D.cells]
  rw [hc] at h
  have hl:=h.len
  match cs,hl with
  | [v],_=>exact h.rel 0 x v rfl rfl
def lV (P:Program) (t:Nat) {α:Type} (enc:α→D) (wf:α→Prop):Prop :=
 ∀ {H:Type} (en:TypeId × Value→H) (w:World) (base:Nat) (sp:Nat→Bool) (held:Bool) (fuel:Nat) (cs:List Value) (d:DataW H) (p:List MemPlace),
  DataW.trod en P w base sp held fuel t cs=some (d,p)→∃ x,wf x∧iL w (enc x).cells cs
theorem lV.int {P:Program} {t:Nat} {k:IntKind} (hu:P.underlying t=some (.int k)):lV P t (D.int k) (fun n=>(Lit.int k n).wf=true):=by
 intro H en w base sp held fuel cs d p h
 cases fuel with
 | zero=>cases h
 | succ fuel =>
  simp only [DataW.trod,hu] at h
  split at h <;> first | (simp_all; done) | skip
  rename_i k' k2 n heq
  simp only [Option.some.injEq,TypeDesc.int.injEq] at heq
  subst heq
  split at h
  ·
   rename_i hc
   obtain ⟨rfl,hw⟩:=hc
   exact ⟨n,hw,.single (.int _ _) rfl rfl⟩
  ·
   cases h
theorem nC {w:World} {base:Nat} {a:Addr} {n:Nat} {cs:List Value} (h:w.cells? base a n=some cs):cs.length=n∧∀ j v,cs[j]? = some v→w.cell? (a.add j)=some v:=by
 unfold World.cells? at h
 split at h
 ·
  have hl:=mapM_some_length h
  refine ⟨by simpa using hl,fun j v hj=>?_⟩
  have hlt:j < n:=by have:=(List.getElem?_eq_some_iff.1 hj).1; rw [hl] at this; simpa using this
  have:=mapM_some_get h j j (by simp [hlt])
  rw [this,hj]
 ·
  cases h
theorem lV.slice {P:Program} {t e:Nat} {α:Type} {enc:α→D} {wf:α→Prop} (hu:P.underlying t=some (.slice e)) (he:lV P e enc wf) (hsz:∀ x,(enc x).cells.length=P.cellsOf e) (h0:0 < P.cellsOf e) :
  lV P t (Ei enc) (fun l=>l.length ≤ maxLen∧∀ x ∈ l,wf x):=by
 intro H en w base sp held fuel cs d p h
 cases fuel with
 | zero=>cases h
 | succ fuel =>
  simp only [DataW.trod,hu] at h
  split at h <;> first | (simp_all; done) | skip
  ·
   exact ⟨[],⟨by simp,by simp⟩,.single (.sl0 none 0 false (fun h=>by cases h)) rfl rfl⟩
  ·
   rename_i e' a len cap heq
   simp only [Option.some.injEq,TypeDesc.slice.injEq] at heq
   subst heq
   split at h
   ·
    rename_i hc
    simp only [Option.bind_eq_some_iff] at h
    obtain ⟨els,hels,h⟩:=h
    have hl:=mapM_some_length hels
    have each:∀ i,i < len→∃ x ci,wf x∧w.cells? base (a.add (i * P.cellsOf e)) (P.cellsOf e)=some ci∧iL w (enc x).cells ci:=fun i hi=>by
     have hg:=mapM_some_get hels i i (by simp [hi])
     have hlt:i < els.length:=by rw [hl]; simpa using hi
     rw [List.getElem?_eq_getElem hlt,Option.bind_eq_some_iff] at hg
     obtain ⟨ci,h1,h2⟩:=hg
     obtain ⟨x,hx,hr⟩:=he en w base sp held fuel ci _ _ h2
     exact ⟨x,ci,hx,h1,hr⟩
    by_cases hz:len=0
    ·
     subst hz
     exact ⟨[],⟨by simp,by simp⟩,.single (.sl0 (some a) cap false (fun h=>by cases h)) rfl rfl⟩
    ·
     have hpos:0 < len:=by omega
     have hspot:a.spot=none:=by
      obtain ⟨x,ci,_,h1,_⟩:=each 0 hpos
      obtain ⟨l1,l2⟩:=nC h1
      have hne:0 < ci.length:=by omega
      have:=l2 0 ci[0] (List.getElem?_eq_getElem hne)
      unfold World.cell? at this
      split at this
      ·
       split at this
       ·
        cases this
       ·
        rename_i hs; cases hsp:a.spot with
        | none=>rfl
        | some q=>simp [Addr.add,hsp] at hs
      ·
       cases this
     have:Inhabited α:=⟨(each 0 hpos).choose⟩
     let f:Nat→α:=fun i=>if hi:i < len then (each i hi).choose else default
     let g:Nat→List Value:=fun i=>if hi:i < len then (each i hi).choose_spec.choose else []
     have hfg:∀ i,i < len→wf (f i)∧w.cells? base (a.add (i * P.cellsOf e)) (P.cellsOf e)=some (g i)∧iL w (enc (f i)).cells (g i):=fun i hi=>by
      have:=(each i hi).choose_spec.choose_spec
      simp only [f,g,hi,dif_pos]
      exact this
     let l:=(List.range len).map f
     have hll:l.length=len:=by simp [l]
     have hli:∀ i x,l[i]? = some x→i < len∧x=f i:=fun i x hx=>by
      simp only [l,List.getElem?_map,Option.map_eq_some_iff] at hx
      obtain ⟨j,hj,rfl⟩:=hx
      have:=List.getElem?_eq_some_iff.1 hj
      obtain ⟨h1,h2⟩:=this
      simp at h1 h2
      subst h2
      exact ⟨h1,rfl⟩
     refine ⟨l,⟨by rw [hll]; omega,fun x hx=>?_⟩,?_⟩
     ·
      obtain ⟨i,hi,rfl⟩:=List.getElem_of_mem hx
      obtain ⟨h1,h2⟩:=hli i _ (List.getElem?_eq_getElem hi)
      rw [h2]; exact (hfg i h1).1
     ·
      have ha:a=⟨a.block,a.off,none⟩:=by rw [← hspot]
      refine .single ?_ rfl rfl
      rw [ha]
      have hlm:(l.map enc).length=len:=by simp [hll]
      have key:cZ w zJ (.sl (l.map enc) false) [.slice (some ⟨a.block,a.off,none⟩) (l.map enc).length cap]:=by
       refine .sl (l.map enc) false a.block a.off cap (P.cellsOf e) g ?_ (by rw [hlm]; exact hc.2.1) (fun h=>by cases h) (fun i x hi=>?_) (fun i hi=>?_) (fun i x hi=>?_) (fun i j v hi hv=>?_)
       ·
        intro q; rw [q] at hlm; simp at hlm; omega
       ·
        rw [List.getElem?_map,Option.map_eq_some_iff] at hi
        obtain ⟨y,_,rfl⟩:=hi
        exact hsz y
       ·
        exact (nC (hfg i (by rw [hlm] at hi; exact hi)).2.1).1
       ·
        rw [List.getElem?_map,Option.map_eq_some_iff] at hi
        obtain ⟨y,hy,rfl⟩:=hi
        obtain ⟨h1,rfl⟩:=hli i y hy
        exact (hfg i h1).2.2.CU
       ·
        rw [hlm] at hi
        have:=(nC (hfg i hi).2.1).2 j v hv
        refine ⟨?_,fun q=>q⟩
        rw [← this]
        congr 1
        have hz:∀ (b:Addr) (m:Nat),b.spot=none→b.add m=⟨b.block,b.off + m,none⟩:=fun b m hb=>by
         obtain ⟨b1,b2,b3⟩:=b
         cases hb
         cases m <;> simp [Addr.add]
        rw [hz a _ hspot,hz _ j rfl]
      rw [hlm] at key
      exact key
   ·
    cases h
def tC (P:Program) (fs:List Field) (off tot:Nat) {β:Type} (enc:β→List D) (wf:β→Prop):Prop :=
 ∀ {H:Type} (en:TypeId × Value→H) (w:World) (base:Nat) (sp:Nat→Bool) (held:Bool) (fuel:Nat) (cs:List Value) (xs:List (DataW H × List MemPlace)),
  (fs.mapM fun f=>DataW.trod en P w base sp held fuel f.type ((cs.drop f.offset).take (P.cellsOf f.type)))=some xs→∃ y,wf y∧iL w (enc y) ((cs.drop off).take tot)
theorem tC.nil {P:Program} {off:Nat}:tC P [] off 0 (fun _:Unit=>[]) (fun _=>True) :=
 fun en w base sp held fuel cs xs h=>⟨(),trivial,by simpa using iL.nil⟩
theorem tC.cons {P:Program} {f:Field} {fs:List Field} {off sz tot:Nat} {α β:Type} {enc:α→D} {wf:α→Prop} {enc2:β→List D} {wf2:β→Prop}
  (ho:f.offset=off) (hz:P.cellsOf f.type=sz) (h:lV P f.type enc wf) (k:tC P fs (off + sz) tot enc2 wf2) :
  tC P (f :: fs) off (sz + tot) (fun p:α × β=>(enc p.1).cells ++ enc2 p.2) (fun p=>wf p.1∧wf2 p.2):=by
 intro H en w base sp held fuel cs xs hx
 simp only [List.mapM_cons,Option.pure_def,Option.bind_eq_bind,Option.bind_eq_some_iff] at hx
 obtain ⟨x,hx,ys,hys,_⟩:=hx
 rw [ho,hz] at hx
 obtain ⟨a,a1,a2⟩:=h en w base sp held fuel _ x.1 x.2 hx
 obtain ⟨b,b1,b2⟩:=k en w base sp held fuel cs ys hys
 refine ⟨(a,b),⟨a1,b1⟩,?_⟩
 rw [List.take_add,List.drop_drop]
 exact a2.append b2
theorem lV.struct {P:Program} {t tot:Nat} {fs:Array Field} {α β:Type} {enc:α→D} {wf:α→Prop} {enc2:β→List D} {wf2:β→Prop} (hu:P.underlying t=some (.struct fs)) (hz:P.cellsOf t=tot)
  (h:tC P fs.toList 0 tot enc2 wf2) (g:β→α) (hg:∀ y,(enc (g y)).cells=enc2 y) (hw:∀ y,wf2 y→wf (g y)):lV P t enc wf:=by
 intro H en w base sp held fuel cs d p hd
 cases fuel with
 | zero=>cases hd
 | succ fuel =>
  simp only [DataW.trod,hu] at hd
  split at hd
  ·
   rename_i hc
   simp only [Option.map_eq_some_iff] at hd
   obtain ⟨xs,hxs,_⟩:=hd
   obtain ⟨y,y1,y2⟩:=h en w base sp held fuel cs xs hxs
   refine ⟨g y,hw y y1,?_⟩
   rw [hg y]
   rw [hz] at hc
   simpa [← hc] using y2
  ·
   cases hd
theorem CE {P:Program} {t:Nat} {fs:Array Field} {α:Type} {enc:α→D} {wf:α→Prop} (hu:P.underlying t=some (.struct fs)) (O:lV P t enc wf) (ha:∀ x,(enc x).isAgg=true)
  {H:Type} {en:TypeId × Value→H} {w:World} {base b0:Nat} {sp:Nat→Bool} {held:Bool} {v:Value} {d:DataW H} {p:List MemPlace} {r:Reach} (hval:Value.okWide P w r b0 t v) (hd:DataW.Trod en P w base sp held t v d p) :
  ∃ x,wf x∧aJ w zJ (enc x) v:=by
 unfold Value.okWide at hval
 rw [hu] at hval
 obtain ⟨cs,rfl,_,_⟩:=hval
 obtain ⟨fuel,hf⟩:=hd
 obtain ⟨x,x1,x2⟩:=O en w base sp held fuel _ d p hf
 exact ⟨x,x1,x2.CU,ha x⟩
theorem Dx {P:Program} {t:Nat} {α:Type} {enc:α→D} {wf:α→Prop} (O:lV P t enc wf) (ha:∀ x,(enc x).isAgg=false)
  {H:Type} {en:TypeId × Value→H} {w:World} {base b0:Nat} {sp:Nat→Bool} {held:Bool} {v:Value} {d:DataW H} {p:List MemPlace} (hval:mG v=false) (hd:DataW.Trod en P w base sp held t v d p) :
  ∃ x,wf x∧aJ w zJ (enc x) v:=by
 obtain ⟨fuel,hf⟩:=hd
 obtain ⟨x,x1,x2⟩:=O en w base sp held fuel _ d p hf
 exact ⟨x,x1,x2.CU,by rw [hval]; exact ha x⟩
end
end Go.Ev

namespace Go.Ev
noncomputable section
set_option linter.unusedVariables false
set_option linter.unusedSimpArgs false
variable {R:aM} {C:bN} {P:Program}
theorem eF.Cb (ok:uo R C) {n f:Nat} {x:D} (h:zn C n f [] aG=some [(none,.d x,aG)]):eF R C.P f [] (.d x):=fun args S ha=>by
 obtain ⟨ds',h1,h2⟩:=ha
 cases h2
 have ha:args=[]:=by
  cases args with
  | nil=>rfl
  | cons y l =>
   simp only [fA] at h1
   split at h1
   ·
    cases hq:fA l <;> rw [hq] at h1 <;> cases h1
   ·
    cases h1
 subst ha
 refine AB.of ok.obj.toObjOk (ds:=[]) (v:=.d x) rfl ?_ S
 refine (cB.Cb ok h).mono (fun r hr=>?_)
 simp only [List.mem_singleton] at hr
 subst hr
 exact ⟨rfl,rfl⟩
theorem BB (hR:ObjOk R) {f:Nat} {ds:List D} {x:D} (h:eF R P f ds (.d x)) (w:World) (hG:R.G w (fun _ _=>False)) (us:List Value) (hl:us.length=ds.length)
  (hr:∀ (i:Nat) (y:D) (u:Value),ds[i]? = some y→us[i]? = some u→aJ w (fun _ _=>False) y u) :
  Calls P f us.toArray w (fun e w'=>∃ u,e=.returned u∧aJ w' (fun _ _=>False) x u∧RowKit.Below w.heap.size w w'):=by
 let cx:Cx:={ bm:=fun _=>0,fp:=fun _ _=>False,tsz:=fun _=>0,tot:=fun _=>0,fr:=fun _ _=>False }
 have hS:aB R cx aG w:=⟨fun id hl=>absurd rfl hl,fun id b hb=>by simp [aG,AL.get] at hb,fun id g cs hb=>by simp [aG,AL.get] at hb,fun id es hb=>by simp [aG,AL.get] at hb,
  fun id k x hb=>by simp [aG,AL.get] at hb,fun id en hb=>by simp [aG,AL.get] at hb,fun id id' b hl=>absurd rfl hl,fun b o q=>q.elim,hG⟩
 have h2:=(h (ds.map .d) aG ⟨ds,Ae ds,.refl ds⟩).2
 refine (h2 cx w us hS (by simp [hl]) (fun i y u hy hu=>?_)).mono (fun e w' he=>?_)
 ·
  simp only [List.getElem?_map,Option.map_eq_some_iff] at hy
  obtain ⟨z,hz,rfl⟩:=hy
  exact .d z u (hr i z u hz hu)
 ·
  obtain ⟨r,rfl,cx',k1,k2,k3⟩:=he
  obtain ⟨u,rfl,k3⟩:=k3
  obtain ⟨m1,m2,m3⟩:=lD hR hS k2
  exact ⟨u,rfl,m3 _ _ k3.dd,⟨m2.os,m2.tape,m2.output,m2.size,fun b hb=>(k2.other b hb (fun id hl=>absurd rfl hl)).1⟩⟩
end
end Go.Ev

namespace Go.Ev
noncomputable section
set_option linter.unusedVariables false
set_option linter.unusedSimpArgs false
variable {R:aM} {P:Program} {B:St}
theorem wW {S:St} {id:Nat}:live S id↔S.H.get id ≠ none∨S.T.get id ≠ none:=by
 unfold live cur
 cases hH:S.H.get id with
 | none=>simp
 | some b=>cases b <;> simp
def without (S:St) (ids:List Nat):St:=ids.foldl (fun S id=>{ S with H:=S.H.del id,T:=S.T.del id }) S
theorem jX:∀ (ids:List Nat) (S:St),(without S ids).nx=S.nx
 | [],S=>rfl
 | id :: l,S=>jX l { S with H:=S.H.del id,T:=S.T.del id }
theorem gB:∀ (ids:List Nat) (S:St) (k:Nat),(without S ids).H.get k=if k ∈ ids then none else S.H.get k
 | [],S,k=>by simp [without]
 | id :: l,S,k=>by
  show (without { S with H:=S.H.del id,T:=S.T.del id } l).H.get k=_
  rw [gB l]
  simp only [AL.j4]
  by_cases h1:k ∈ l
  ·
   simp [h1]
  ·
   by_cases h2:id=k
   ·
    subst h2; simp
   ·
    simp [h1,h2,Ne.symm h2]
theorem gN:∀ (ids:List Nat) (S:St) (k:Nat),(without S ids).T.get k=if k ∈ ids then none else S.T.get k
 | [],S,k=>by simp [without]
 | id :: l,S,k=>by
  show (without { S with H:=S.H.del id,T:=S.T.del id } l).T.get k=_
  rw [gN l]
  simp only [AL.j4]
  by_cases h1:k ∈ l
  ·
   simp [h1]
  ·
   by_cases h2:id=k
   ·
    subst h2; simp
   ·
    simp [h1,h2,Ne.symm h2]
theorem bC.there {S:St} {a:bC} (h:a.ok S):∀ id ∈ a.fp,S.H.get id ≠ none∨S.T.get id ≠ none:=fun id hid=>by
 cases a with
 | box i cs=>simp only [bC.fp,List.mem_singleton] at hid; subst hid; left; rw [show S.H.get id=_ from h]; simp
 | obj i k x=>simp only [bC.fp,List.mem_singleton] at hid; subst hid; left; rw [show S.H.get id=_ from h]; simp
 | map i m=>simp only [bC.fp,List.mem_singleton] at hid; subst hid; left; rw [show S.H.get id=_ from h]; simp
 | grow v xs =>
  cases v <;> simp only [bC.fp,List.not_mem_nil,List.mem_singleton] at hid
  subst hid
  right; rw [h.2.2.1]; simp
 | row sz v xs =>
  cases v <;> simp only [bC.fp,List.not_mem_nil,List.mem_singleton] at hid
  subst hid
  obtain ⟨cs,_,h8⟩:=h.2.2.2.2.2.2
  left; rw [h8]; simp
 | abs ids p=>obtain ⟨b,hb⟩:=h.1 id hid; left; rw [hb]; simp
theorem Has.frame {S:St} {l1 l2:List bC} (H:Has B S (l1 ++ l2)):∃ B',Has B' S l1∧∀ S' l1',Has B' S' l1'→(∀ id b,S'.H.get id=some b→S'.T.get id=none)→Has B S' (l1' ++ l2):=by
 let ids:=(l1.map bC.fp).flatten
 let B':=without S ids
 have hmem:∀ a ∈ l1,∀ id ∈ a.fp,id ∈ ids:=fun a ha id hid=>List.mem_flatten.2 ⟨_,List.mem_map.2 ⟨a,ha,rfl⟩,hid⟩
 have hnd:=H.nd
 rw [List.map_append,List.flatten_append,List.nodup_append] at hnd
 have hnot:∀ a ∈ l2,∀ id ∈ a.fp,id ∉ ids:=fun a ha id hid hq =>
  hnd.2.2 id hq id (List.mem_flatten.2 ⟨_,List.mem_map.2 ⟨a,ha,rfl⟩,hid⟩) rfl
 have hBids:∀ id ∈ ids,B.H.get id=none∧B.T.get id=none:=fun id hid=>by
  obtain ⟨CG,h1,h2⟩:=List.mem_flatten.1 hid
  obtain ⟨a,ha,rfl⟩:=List.mem_map.1 h1
  exact H.out a (List.mem_append_left _ ha) id h2
 have hwf:B'.Wf:=fun id hl=>by
  show id < B'.nx
  rw [jX]
  refine H.wf id (wW.2 ?_)
  rcases wW.1 hl with h | h
  ·
   rw [gB] at h
   split at h
   ·
    exact absurd rfl h
   ·
    exact .inl h
  ·
   rw [gN] at h
   split at h
   ·
    exact absurd rfl h
   ·
    exact .inr h
 refine ⟨B',⟨H.wf,fun a ha=>H.ok a (List.mem_append_left _ ha),hnd.1,hwf,⟨by rw [jX]; exact Nat.le_refl _,fun id b hb=>?_,fun id n hn=>?_⟩,fun a ha id hid=>?_⟩,fun S' l1' K hdis=>?_⟩
 ·
  rw [gB] at hb
  split at hb
  ·
   cases hb
  ·
   exact hb
 ·
  rw [gN] at hn
  split at hn
  ·
   cases hn
  ·
   exact hn
 ·
  have:=hmem a ha id hid
  rw [gB,gN,if_pos this,if_pos this]; exact ⟨rfl,rfl⟩
 ·
  have keepH:∀ id b,id ∉ ids→S.H.get id=some b→S'.H.get id=some b:=fun id b hn hb=>K.keeps.H id b (by rw [gB,if_neg hn]; exact hb)
  have keepT:∀ id n,id ∉ ids→S.T.get id=some n→S'.T.get id=some n:=fun id b hn hb=>K.keeps.T id b (by rw [gN,if_neg hn]; exact hb)
  have hok2:∀ a ∈ l2,a.ok S':=fun a ha=>by
   have hok:=H.ok a (List.mem_append_right _ ha)
   have hn:=hnot a ha
   cases a with
   | box id cs=>exact keepH _ _ (hn _ (by simp [bC.fp])) hok
   | obj id k x=>exact keepH _ _ (hn _ (by simp [bC.fp])) hok
   | map id m=>exact keepH _ _ (hn _ (by simp [bC.fp])) hok
   | grow v xs =>
    cases v with
    | tsl ys tok =>
     obtain ⟨h1,h2,h3,h4⟩:=hok
     have h3':=keepT _ _ (hn tok (by simp [bC.fp])) h3
     refine ⟨h1,h2,h3',?_⟩
     cases hb:S'.H.get tok with
     | none=>rfl
     | some b=>have:=hdis _ _ hb; rw [h3'] at this; cases this
    | d x=>cases x with
     | sl ys t=>cases t <;> exact hok
     | _=>exact hok
    | _=>exact hok
   | row sz v xs =>
    cases v with
    | msl id g off len lim sz' =>
     obtain ⟨h1,h2,h3,h4,h5,h6,cs,h7,h8⟩:=hok
     exact ⟨h1,h2,h3,h4,h5,h6,cs,h7,keepH _ _ (hn id (by simp [bC.fp])) h8⟩
    | d x=>cases x with
     | sl ys t=>cases ys <;> cases t <;> exact hok
     | _=>exact hok
    | _=>exact hok
   | abs ids' p=>exact bC.DI hok (fun id b hid hb=>keepH _ _ (hn id hid) hb)
  refine ⟨K.wf,fun a ha=>?_,?_,H.bwf,⟨?_,fun id b hb=>?_,fun id n hn=>?_⟩,fun a ha id hid=>?_⟩
  ·
   rcases List.mem_append.1 ha with ha | ha
   ·
    exact K.ok a ha
   ·
    exact hok2 a ha
  ·
   rw [List.map_append,List.flatten_append,List.nodup_append]
   refine ⟨K.nd,hnd.2.1,fun a ha b hb hab=>?_⟩
   subst hab
   obtain ⟨CG,h1,h2⟩:=List.mem_flatten.1 ha
   obtain ⟨x,hx,rfl⟩:=List.mem_map.1 h1
   obtain ⟨CG,h3,h4⟩:=List.mem_flatten.1 hb
   obtain ⟨y,hy,rfl⟩:=List.mem_map.1 h3
   obtain ⟨o1,o2⟩:=K.out x hx a h2
   have hn:=hnot y hy a h4
   rw [gB,if_neg hn] at o1
   rw [gN,if_neg hn] at o2
   rcases bC.there (H.ok y (List.mem_append_right _ hy)) a h4 with q | q
   ·
    exact q o1
   ·
    exact q o2
  ·
   have:=K.keeps.nx
   rw [jX] at this
   exact Nat.le_trans H.keeps.nx this
  ·
   exact keepH id b (fun q=>by rw [(hBids id q).1] at hb; cases hb) (H.keeps.H id b hb)
  ·
   exact keepT id n (fun q=>by rw [(hBids id q).2] at hn; cases hn) (H.keeps.T id n hn)
  ·
   rcases List.mem_append.1 ha with ha | ha
   ·
    obtain ⟨o1,o2⟩:=K.out a ha id hid
    by_cases hq:id ∈ ids
    ·
     exact hBids id hq
    ·
     rw [gB,if_neg hq] at o1
     rw [gN,if_neg hq] at o2
     refine ⟨?_,?_⟩
     ·
      cases hb:B.H.get id with
      | none=>rfl
      | some b=>have:=H.keeps.H _ _ hb; rw [o1] at this; cases this
     ·
      cases hb:B.T.get id with
      | none=>rfl
      | some b=>have:=H.keeps.T _ _ hb; rw [o2] at this; cases this
   ·
    exact H.out a (List.mem_append_right _ ha) id hid
theorem mK.dw {cx:Cx} {S2 S:St} {w:World} {p:Option AV} {v:AV} {e:Ending} (k:fE S2 S) (h:mK cx S w p v e):mK cx S2 w p v e:=by
 cases p with
 | none=>obtain ⟨u,h1,h2⟩:=h; exact ⟨u,h1,h2.dw k⟩
 | some p=>obtain ⟨u,h1,h2⟩:=h; exact ⟨u,h1,h2.dw k⟩
theorem Ext.vk {cx cx':Cx} {S S' S2:St} {w w':World} (k:fE S2 S') (e:Ext cx S w cx' S' w'):Ext cx S w cx' S2 w' where
 size:=e.size
 os:=e.os
 tape:=e.tape
 output:=e.output
 nx:=by rw [k.nx]; exact e.nx
 prot:=e.prot
 other:=fun b hb hn=>e.other b hb (fun id hl hf=>by
  obtain ⟨h1,g,h2,h3⟩:=hn id hl hf
  exact ⟨h1,g,h2,k.isIt.1 h3⟩)
 own:=fun id b hl hf=>e.own id b (k.live.1 hl) hf
 back:=fun id g hid h=>e.back id g hid (k.isIt.1 h)
 keep:=fun id g b hid h0 h hf=>e.keep id g b hid h0 (k.isIt.1 h) hf
 curs:=fun id g hid hc=>e.curs id g hid (by rw [← k.cur]; exact hc)
theorem cB.vk {f:Nat} {args:List AV} {S:St} {Q:Out→Prop} (h:cB R P f args S (fun o=>∃ S2,fE S2 o.2.2∧Q (o.1,o.2.1,S2))):cB R P f args S Q :=
 ⟨h.1,fun cx w us h1 h2 h3=>(h.2 cx w us h1 h2 h3).mono fun e w' ⟨r,⟨S2,k,q⟩,cx',m1,m2,m3⟩=>⟨_,q,cx',m1.dw k,m2.vk k,m3.dw k⟩⟩
def wS (R:aM) (P:Program) (f:Nat) (args:List AV) (ins:List bC) (res:AV→List bC→Prop):Prop :=
 ∀ B S,Has B S ins→cB R P f args S (fun o=>o.1=none∧∃ v l,Less v o.2.1∧res v l∧Has B o.2.2 l)
section
variable {C:bN} {nt:Nat}
theorem wS.of_wp {f:Nat} {fn:Func} {c:Code} (hf:C.P.funcs[f]? = some fn) (hc:fn.body=some c) (hn:(fn.name == "runtime.NumGoroutine")=false) {args:List AV} (hle:Nat.ble args.length fn.ntmps=true) {ins:List bC} {res:AV→List bC→Prop}
  (h:∀ B S,Has B S ins→aD R C.P fn.ntmps c (iT 0 args) S (BD C fn (fun o=>o.1=none∧∃ v l S2,fE S2 o.2.2∧Less v o.2.1∧res v l∧Has B S2 l))):wS R C.P f args ins res:=fun B S hB=>by
 refine cB.vk ((cB.of_wp hf hc hn (Nat.le_of_ble_eq_true hle) (h B S hB)).mono fun o ho=>?_)
 obtain ⟨h1,v,l,S2,h2,h3,h4,h5⟩:=ho
 exact ⟨S2,h2,h1,v,l,h3,h4,h5⟩
section steps
variable {ops:Array Oper} {rest:List Oper} {e:Env} {S S':St} {Q:Stp→Prop} {l l':List bC} {t ty:Nat} {p:String} {af:Array Edge} {g:Option (Nat × Bool)} {x y:Operand} {v:AV}
theorem ah.DN {op:Op} {f:Nat} {args args':List AV} {ins more:List bC} {res:AV→List bC→Prop} (H:Has B S (ins ++ more)) (hw:bf ops e { dst:=some t,op:=op,type:=ty,pos:=p,after:=af,guard:=g }=some true) (ho:oper C (bA e) S op=some (.call f args)) (hs:wS R C.P f args' ins res) (ha:bP args' args) (ht:Nat.blt t nt=true)
  (k:∀ v S' l',res v l'→Has B S' (l' ++ more)→ah R C nt ops rest ((t,v) :: e) S' Q) :
  ah R C nt ops ({ dst:=some t,op:=op,type:=ty,pos:=p,after:=af,guard:=g } :: rest) e S Q:=by
 obtain ⟨B',h1,h2⟩:=H.frame
 refine ah.one hw (.inr (.inr (.inl ⟨f,args,ho,((hs B' S h1).Cc ha).kC.mono fun r hr=>?_⟩)))
 obtain ⟨p,w,S'⟩:=r
 obtain ⟨⟨q1,v,l',q2,q3,q4⟩,hd⟩:=hr
 simp only at q1 q2 q3 q4 hd
 subst q1
 exact ⟨_,by simp only [Env.put,ht,cond_true],ah.weak (aa.top q2) (k v S' l' q3 (h2 S' l' q4 hd))⟩
end steps
end
end
end Go.Ev

namespace Go.Ev
namespace Pr
set_option linter.unusedVariables false
set_option linter.unusedSimpArgs false
structure Seg where
 Kind:Int
 Text:Str
 deriving DecidableEq
def bg (x:Seg):D:=.agg [(.int .i64 x.Kind),(.str x.Text)]
theorem Seg.eq (x:Seg):bg x=.agg [(.int .i64 x.Kind),(.str x.Text)]:=rfl
theorem Seg.cells (x:Seg):(bg x).cells=[(.int .i64 x.Kind),(.str x.Text)]:=by rw [Seg.eq]; rfl
theorem Seg.jv (x:Seg):(AV.d (bg x)).cells=[.d (.int .i64 x.Kind),.d (.str x.Text)]:=by rw [Seg.eq]; rfl
theorem Seg.agg (x:Seg):(bg x).isAgg=true:=by rw [Seg.eq]; rfl
theorem Seg.len (x:Seg):(bg x).cells.length=2:=by rw [Seg.cells]; rfl
theorem Seg.yN {P:Program} {t:Nat} {x:Seg} (ha:dA P t=some true) (hz:au P t=2):dJ P t (bg x).cells 0=some (bg x):=by
 rw [Seg.cells,uj ha hz rfl,Seg.eq]; rfl
def Seg.beq (x y:Seg):Bool:=((x.Kind == y.Kind) && ((x.Text == y.Text) && true))
structure aY where
 Kind:Int
 Flag:Int
 To:Str
 deriving DecidableEq
def pU (x:aY):D:=.agg [(.int .i64 x.Kind),(.int .i64 x.Flag),(.str x.To)]
theorem aY.eq (x:aY):pU x=.agg [(.int .i64 x.Kind),(.int .i64 x.Flag),(.str x.To)]:=rfl
theorem aY.jv (x:aY):(AV.d (pU x)).cells=[.d (.int .i64 x.Kind),.d (.int .i64 x.Flag),.d (.str x.To)]:=by rw [aY.eq]; rfl
structure ai where
 Name:Str
 Parent:Int
 Segs:(List Seg)
 Comp:Int
 kE:Bool
 aY:aY
def aA (x:ai):D:=.agg [(.str x.Name),(.int .i64 x.Parent),(.sl ((x.Segs).map bg) false),(.int .i64 x.Comp),(.bool x.kE),(.int .i64 x.aY.Kind),(.int .i64 x.aY.Flag),(.str x.aY.To)]
theorem ai.eq (x:ai):aA x=.agg [(.str x.Name),(.int .i64 x.Parent),(.sl ((x.Segs).map bg) false),(.int .i64 x.Comp),(.bool x.kE),(.int .i64 x.aY.Kind),(.int .i64 x.aY.Flag),(.str x.aY.To)]:=rfl
theorem ai.cells (x:ai):(aA x).cells=[(.str x.Name),(.int .i64 x.Parent),(.sl ((x.Segs).map bg) false),(.int .i64 x.Comp),(.bool x.kE),(.int .i64 x.aY.Kind),(.int .i64 x.aY.Flag),(.str x.aY.To)]:=by rw [ai.eq]; rfl
theorem ai.jv (x:ai):(AV.d (aA x)).cells=[.d (.str x.Name),.d (.int .i64 x.Parent),.d (.sl ((x.Segs).map bg) false),.d (.int .i64 x.Comp),.d (.bool x.kE),.d (.int .i64 x.aY.Kind),.d (.int .i64 x.aY.Flag),.d (.str x.aY.To)]:=by rw [ai.eq]; rfl
theorem ai.agg (x:ai):(aA x).isAgg=true:=by rw [ai.eq]; rfl
theorem ai.len (x:ai):(aA x).cells.length=8:=by rw [ai.cells]; rfl
theorem ai.yN {P:Program} {t:Nat} {x:ai} (ha:dA P t=some true) (hz:au P t=8):dJ P t (aA x).cells 0=some (aA x):=by
 rw [ai.cells,uj ha hz rfl,ai.eq]; rfl
structure bV where
 Parents:(List Int)
 Kinds:(List Int)
 Texts:(List Int)
 Rules:(List Int)
 Flags:(List Int)
 eu:(List Int)
 Comps:(List Int)
def gJ (x:bV):D:=.agg [(.sl ((x.Parents).map (D.int .i64)) false),(.sl ((x.Kinds).map (D.int .i64)) false),(.sl ((x.Texts).map (D.int .i64)) false),(.sl ((x.Rules).map (D.int .i64)) false),(.sl ((x.Flags).map (D.int .i64)) false),(.sl ((x.eu).map (D.int .i64)) false),(.sl ((x.Comps).map (D.int .i64)) false)]
theorem bV.eq (x:bV):gJ x=.agg [(.sl ((x.Parents).map (D.int .i64)) false),(.sl ((x.Kinds).map (D.int .i64)) false),(.sl ((x.Texts).map (D.int .i64)) false),(.sl ((x.Rules).map (D.int .i64)) false),(.sl ((x.Flags).map (D.int .i64)) false),(.sl ((x.eu).map (D.int .i64)) false),(.sl ((x.Comps).map (D.int .i64)) false)]:=rfl
theorem bV.jv (x:bV):(AV.d (gJ x)).cells=[.d (.sl ((x.Parents).map (D.int .i64)) false),.d (.sl ((x.Kinds).map (D.int .i64)) false),.d (.sl ((x.Texts).map (D.int .i64)) false),.d (.sl ((x.Rules).map (D.int .i64)) false),.d (.sl ((x.Flags).map (D.int .i64)) false),.d (.sl ((x.eu).map (D.int .i64)) false),.d (.sl ((x.Comps).map (D.int .i64)) false)]:=by rw [bV.eq]; rfl
theorem bV.agg (x:bV):(gJ x).isAgg=true:=by rw [bV.eq]; rfl
def dF (n:Nat):Option Bool:=some true
def bR (a2:Int) (x7:Int):Option Int :=
 (some (IntKind.wrap .i64 (a2 + x7)))
def aX (n:Nat) (a1:Int) (a2:Int) (a3:Int):Option Int :=
 ((zF .i64 a1 (IntKind.wrap .i64 ((IntKind.wrap .i64 (a3 - a2)) + 1))).bind fun z4=>(if (decide (z4 < 0))=true then (bR a2 ((IntKind.wrap .i64 ((IntKind.wrap .i64 ((IntKind.wrap .i64 (z4 + a3)) - a2)) + 1)))) else (bR a2 (z4))))
def dB (n:Nat) (a1:(List Seg)):Option Bool :=
 ((if (decide (0 < ((a1).length:Int)))=true then ((idx a1 (IntKind.wrap .i64 (((a1).length:Int) - 1))).bind fun z2=>(some (decide (2 ≤ z2.Kind)))) else some false).bind fun z3=>(some z3))
def bD (n:Nat) (a1:(List Int)) (a2:Int):Option Int :=
 (if (((a1).length:Int) == 0)=true then (some 0) else ((zF .i64 a2 ((a1).length:Int)).bind fun z4=>((idx a1 z4).bind fun z5=>(some z5))))
def aQ (x16:(List ai)) (x18:(List Int)) (x20:Int) (again21:(List ai)→(List Int)→Int→Option (List ai)) (x28:Int) (x32:Int) (x44:Int) (x45:Str) (z47:Str) (z48:Int) (z50:Int) (x63:Int) (x64:Int) (x65:Str):Option (List ai) :=
 ((app 96 x16 [(ai.mk ((ai.mk z47 x28 [(Seg.mk x44 x45)] z50 ((dm .i64 z48 1) == 1) (aY.mk 0 0 [])).Name) ((ai.mk z47 x28 [(Seg.mk x44 x45)] z50 ((dm .i64 z48 1) == 1) (aY.mk 0 0 [])).Parent) ((ai.mk z47 x28 [(Seg.mk x44 x45)] z50 ((dm .i64 z48 1) == 1) (aY.mk 0 0 [])).Segs) ((ai.mk z47 x28 [(Seg.mk x44 x45)] z50 ((dm .i64 z48 1) == 1) (aY.mk 0 0 [])).Comp) ((ai.mk z47 x28 [(Seg.mk x44 x45)] z50 ((dm .i64 z48 1) == 1) (aY.mk 0 0 [])).kE) (aY.mk x63 x64 x65))]).bind fun z67=>((app 8 x18 [x32]).bind fun z71=>(again21 (z67) (z71) ((IntKind.wrap .i64 (x20 + 1))))))
def aW (n:Nat) (a1:bV) (x16:(List ai)) (x18:(List Int)) (x20:Int) (again21:(List ai)→(List Int)→Int→Option (List ai)) (x28:Int) (x32:Int) (x44:Int) (x45:Str):Option (List ai) :=
 ((cat [114] (([(IntKind.wrap .u8 (IntKind.wrap .i64 (97 + x20)))]).map fun (n:Int)=>UInt8.ofNat n.toNat)).bind fun z47=>((bD n a1.eu x20).bind fun z48=>((bD n a1.Comps x20).bind fun z49=>((aX n z49 0 3).bind fun z50=>((bD n a1.Rules x20).bind fun z75=>(if ((dm .i64 z75 3) == 3)=true then ((bD n a1.Rules x20).bind fun z77=>((zW .i64 z77 4).bind fun z78=>((aX n z78 0 4).bind fun z79=>((bD n a1.Flags x20).bind fun z80=>((aX n z80 0 3).bind fun z81=>(if ((((aY.mk z79 z81 []).Kind) == 3) || (((aY.mk z79 z81 []).Kind) == 4))=true then ((bD n a1.Flags (IntKind.wrap .i64 (x20 + 1))).bind fun z88=>((aX n z88 0 (IntKind.wrap .i64 (((x16).length:Int) - 1))).bind fun z89=>((idx x16 z89).bind fun z90=>(aQ x16 x18 x20 again21 x28 x32 x44 x45 z47 z48 z50 ((aY.mk z79 z81 []).Kind) ((aY.mk z79 z81 []).Flag) (z90.Name))))) else (aQ x16 x18 x20 again21 x28 x32 x44 x45 z47 z48 z50 ((aY.mk z79 z81 []).Kind) ((aY.mk z79 z81 []).Flag) ((aY.mk z79 z81 []).To)))))))) else (aQ x16 x18 x20 again21 x28 x32 x44 x45 z47 z48 z50 ((ai.mk z47 x28 [(Seg.mk x44 x45)] z50 ((dm .i64 z48 1) == 1) (aY.mk 0 0 [])).aY.Kind) ((ai.mk z47 x28 [(Seg.mk x44 x45)] z50 ((dm .i64 z48 1) == 1) (aY.mk 0 0 [])).aY.Flag) ((ai.mk z47 x28 [(Seg.mk x44 x45)] z50 ((dm .i64 z48 1) == 1) (aY.mk 0 0 [])).aY.To))))))))
def aV (n:Nat) (a1:bV) (x16:(List ai)) (x18:(List Int)) (x20:Int) (again21:(List ai)→(List Int)→Int→Option (List ai)) (x28:Int) (x32:Int):Option (List ai) :=
 ((bD n a1.Kinds x20).bind fun z34=>((aX n z34 0 4).bind fun z35=>((cat [112] (([(IntKind.wrap .u8 (IntKind.wrap .i64 (97 + x20)))]).map fun (n:Int)=>UInt8.ofNat n.toNat)).bind fun z36=>(if (decide (((Seg.mk (IntKind.wrap .i64 (z35 - 1)) z36).Kind) ≤ 0))=true then ((bD n a1.Texts x20).bind fun z94=>((aX n z94 0 (IntKind.wrap .i64 ((([[97],[98],[105,116,101,109],[122],[49],[108,105,115,116]]).length:Int) - 1))).bind fun z95=>((idx [[97],[98],[105,116,101,109],[122],[49],[108,105,115,116]] z95).bind fun z96=>(aW n a1 x16 x18 x20 again21 x28 x32 ((Seg.mk 0 z96).Kind) ((Seg.mk 0 z96).Text))))) else (aW n a1 x16 x18 x20 again21 x28 x32 ((Seg.mk (IntKind.wrap .i64 (z35 - 1)) z36).Kind) ((Seg.mk (IntKind.wrap .i64 (z35 - 1)) z36).Text))))))
def aR (n:Nat) (a1:bV) (x16:(List ai)) (x18:(List Int)) (x20:Int) (again21:(List ai)→(List Int)→Int→Option (List ai)) (x28:Int):Option (List ai) :=
 (if (decide (0 ≤ x28))=true then ((idx x18 x28).bind fun z100=>(aV n a1 x16 x18 x20 again21 x28 ((IntKind.wrap .i64 (z100 + 1))))) else (aV n a1 x16 x18 x20 again21 x28 (1)))
def ak (n:Nat) (a1:bV):Nat→(List ai)→(List Int)→Int→Option (List ai)
 | 0,_,_,_=>none
 | k21 + 1,x16,x18,x20 =>
  (if ((decide (x20 < ((a1.Parents).length:Int))) && (decide (x20 < 7)))=true then ((idx a1.Parents x20).bind fun z24=>((aX n z24 (-1) (IntKind.wrap .i64 (((x16).length:Int) - 1))).bind fun z25=>((if (decide (0 ≤ z25))=true then ((idx x18 z25).bind fun z101=>((if (decide (3 < z101))=true then some true else ((idx x16 z25).bind fun z102=>((dB n z102.Segs).bind fun z103=>(some z103)))).bind fun z103=>(some z103))) else some false).bind fun z102=>(if z102=true then (aR n a1 x16 x18 x20 (ak n a1 k21) ((-1))) else (aR n a1 x16 x18 x20 (ak n a1 k21) (z25)))))) else (some x16))
def bQ (n:Nat) (a1:bV):Option (List ai) :=
 (ak n a1 n ([(ai.mk [104,111,109,101] (-1) [] 0 false (aY.mk 0 0 []))]) ([0]) (0))
def aI  : Nat→(List Int)→Int→Int→Option (List Int)
 | 0,_,_,_=>none
 | k15 + 1,x12,x13,x14 =>
  (if (decide (x13 < x14))=true then ((idx x12 x14).bind fun z17=>((idx x12 x13).bind fun z18=>((idx (oV x12 x13 z17) x14).bind fun z21=>((aI k15) ((oV (oV x12 x13 z17) x14 z18)) ((IntKind.wrap .i64 (x13 + 1))) ((IntKind.wrap .i64 (x14 - 1))))))) else (some x12))
def bS (n:Nat) (a1:(List Int)):Option (List Int) :=
 (aI n (a1) (0) ((IntKind.wrap .i64 (((a1).length:Int) - 1))))
def dE (n:Nat) (x5:(List Int)):Option (List Int) :=
 ((bS n x5).bind fun z8=>(some z8))
def bO (n:Nat) (a1:(List ai)):Nat→Int→(List Int)→Option (List Int)
 | 0,_,_=>none
 | k23 + 1,x20,x21 =>
  (if ((decide (0 ≤ x20)) && (decide (x20 < ((a1).length:Int))))=true then ((app 8 x21 [x20]).bind fun z29=>((idx a1 x20).bind fun z33=>(if (decide (x20 ≤ z33.Parent))=true then (dE n (z29)) else ((bO n a1 k23) (z33.Parent) (z29))))) else (dE n (x21)))
def fT (n:Nat) (a1:(List ai)) (a2:Int):Option (List Int) :=
 (bO n a1 n (a2) ([]))
def bX (a1:(List ai)) (z3:(List Int)):Nat→(List Seg)→Int→Option (List Seg)
 | 0,_,_=>none
 | k16 + 1,x13,x15 =>
  (if (decide (x15 < ((z3).length:Int)))=true then ((idx z3 x15).bind fun z18=>((idx a1 z18).bind fun z19=>((app 24 x13 z19.Segs).bind fun z20=>((bX a1 z3 k16) (z20) ((IntKind.wrap .i64 (x15 + 1))))))) else (some x13))
def fH (n:Nat) (a1:(List ai)) (a2:Int):Option (List Seg) :=
 ((fT n a1 a2).bind fun z3=>(bX a1 z3 n ([]) (0)))
def aL (a1:(List Seg)) (a2:(List Seg)):Nat→Int→Option Bool
 | 0,_=>none
 | k12 + 1,x11 =>
  (if (decide (x11 < ((a1).length:Int)))=true then ((idx a1 x11).bind fun z14=>((idx a2 x11).bind fun z15=>(if (!(Seg.beq z14 z15))=true then (some false) else ((aL a1 a2 k12) ((IntKind.wrap .i64 (x11 + 1))))))) else (some true))
def bI (n:Nat) (a1:(List Seg)) (a2:(List Seg)):Option Bool :=
 (if (((a1).length:Int) != ((a2).length:Int))=true then (some false) else (aL a1 a2 n (0)))
def az (a1:(List ai)) (p2:ai→Option Bool):Nat→Int→Option Int
 | 0,_=>none
 | k13 + 1,x12 =>
  (if (decide (x12 < ((a1).length:Int)))=true then ((idx a1 x12).bind fun z15=>((p2 z15).bind fun z16=>(if z16=true then (some x12) else ((az a1 p2 k13) ((IntKind.wrap .i64 (x12 + 1))))))) else (some (-1)))
def bz (n:Nat) (a1:(List ai)) (p2:ai→Option Bool):Option Int :=
 (az a1 p2 n (0))
def dM (n:Nat) (a1:ai) (a2:Str):Option Bool :=
 (some (a1.Name == a2))
def gY (n:Nat) (a1:(List ai)) (a2:Str):Option Int :=
 ((bz n a1 (fun y6=>dM n y6 a2)).bind fun z7=>(some z7))
def aZ (z6:(List ai)) (z8:(List Int)) (x20:Int) (again21:Int→Option Bool) (x25:Int):Option Bool :=
 ((idx z8 x20).bind fun z27=>((if (decide (z27 < 0))=true then some true else ((idx z8 x20).bind fun z28=>(some (decide (((z6).length:Int) ≤ z28))))).bind fun z29=>((if z29=true then some true else ((idx z8 x20).bind fun z31=>((idx z6 z31).bind fun z32=>(some (z32.Parent != x25))))).bind fun z32=>(if z32=true then (some false) else (again21 ((IntKind.wrap .i64 (x20 + 1))))))))
def ax (n:Nat) (z6:(List ai)) (z7:Int) (z8:(List Int)):Nat→Int→Option Bool
 | 0,_=>none
 | k21 + 1,x20 =>
  (if (decide (x20 < ((z8).length:Int)))=true then (if (decide (0 < x20))=true then ((idx z8 (IntKind.wrap .i64 (x20 - 1))).bind fun z37=>(aZ z6 z8 x20 (ax n z6 z7 z8 k21) (z37))) else (aZ z6 z8 x20 (ax n z6 z7 z8 k21) ((-1)))) else ((fH n z6 z7).bind fun z38=>((idx z6 z7).bind fun z39=>((if (decide (((z38).length:Int) < ((z39.Segs).length:Int)))=true then some true else ((cut z38 (IntKind.wrap .i64 (((z38).length:Int) - ((z39.Segs).length:Int))) ((z38).length:Int)).bind fun z40=>((bI n z40 z39.Segs).bind fun z41=>(some (!z41))))).bind fun z41=>(if z41=true then (some false) else ((cut z38 0 (IntKind.wrap .i64 (((z38).length:Int) - ((z39.Segs).length:Int)))).bind fun z45=>((idx z6 z7).bind fun z46=>((if ((decide (z46.Parent < 0)) && (((z45).length:Int) == 0))=true then some true else ((if (decide (0 ≤ z46.Parent))=true then ((fH n z6 z46.Parent).bind fun z48=>((bI n z45 z48).bind fun z49=>(some z49))) else some false).bind fun z49=>(some z49))).bind fun z49=>((if z49=true then ((idx z6 z7).bind fun z54=>((gY n z6 z54.Name).bind fun z55=>(some (z55 == z7)))) else some false).bind fun z55=>((if z55=true then ((dF n).bind fun z58=>(some z58)) else some false).bind fun z59=>(some z59)))))))))))
def dh (n:Nat) (a1:bV) (a2:Int):Option Bool :=
 ((bQ n a1).bind fun z6=>((aX n a2 0 (IntKind.wrap .i64 (((z6).length:Int) - 1))).bind fun z7=>((fT n z6 z7).bind fun z8=>((if (decide (((z8).length:Int) < 1))=true then some true else ((idx z8 (IntKind.wrap .i64 (((z8).length:Int) - 1))).bind fun z9=>(some (z9 != z7)))).bind fun z10=>(if z10=true then (some false) else (ax n z6 z7 z8 n (0)))))))
end Pr
end Go.Ev

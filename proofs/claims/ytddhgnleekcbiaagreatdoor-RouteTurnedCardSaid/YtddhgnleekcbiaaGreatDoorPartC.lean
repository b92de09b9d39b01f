import Derived.Test.YtddhgnleekcbiaaGreatDoorPartB
import Derived.Lib.SlTrimSet
import Derived.Lib.Bytealg
import Derived.Lib.Join
import Derived.Shelf.Spec.SlicesInsertGrow
import Derived.Shelf.Strings.Builder1
import Derived.Shelf.Strings.OnBuilder
import Derived.Shelf.Strings.SplitShaped
import Derived.Shelf.Strings.SlTrimAscii
import Derived.Shelf.Small.Strs
import Derived.Shelf.Strings.Cut
import Derived.DataReads
import GoSem.ClaimChange
import Derived.WideShapes
import Derived.ChangeShapes
namespace Go.Ev
set_option linter.unusedVariables false
set_option linter.unusedSimpArgs false
variable {B:St}
abbrev Str:=List UInt8
abbrev yF {α:Type} (enc:α→D) (l:List α):D:=.sl (l.map enc) false
theorem Less.agg' {cs:List AV} {ds:List D} {d:D} (h:aJ cs ds) (hd:d=.agg ds):Less (.d d) (Ev.gz cs):=by subst hd; exact Less.gz h
theorem Fs {xs:List D} {b:Bool}:Less (.d (.sl xs false)) (.d (.sl xs b)):=(iV.lH xs b).less
theorem FX {b:Bool}:Less (.d (.sl [] b)) (.d .cB):=(iV.cB b).less
theorem gU {α:Type} {enc:α→D} {nb:Nat} {l ys r:List α} (h:app nb l ys=some r):((l.map enc).length + (ys.map enc).length) * nb ≤ bound:=by
 have:=(yh h).1
 simpa using this
theorem l7 {α:Type} {enc:α→D} {nb:Nat} {l ys r:List α} (h:app nb l ys=some r):l.map enc ++ ys.map enc=r.map enc:=by
 rw [(yh h).2,List.map_append]
def BU (k:IntKind) (a b:Int):Option Int:=if b=0 then none else some (a.tmod b)
def CV (k:IntKind) (a b:Int):Option Int:=if b=0 then none else some (k.wrap (a.tdiv b))
theorem vB {P:Program} {t:Nat} {k:IntKind} {a b z:Int} (h:BU k a b=some z):fU P t .rem (.d (.int k a)) (.d (.int k b))=some (.int k z):=by
 unfold BU at h
 split at h
 ·
  cases h
 ·
  rename_i hb; rw [Df hb]; cases h; rfl
theorem Bd {P:Program} {t:Nat} {k:IntKind} {a b z:Int} (h:CV k a b=some z):fU P t .quo (.d (.int k a)) (.d (.int k b))=some (.int k z):=by
 unfold CV at h
 split at h
 ·
  cases h
 ·
  rename_i hb; rw [Dj hb]; cases h; rfl
def cat (a b:Str):Option Str:=if a.length + b.length ≤ 4611686018427387904 then some (a ++ b) else none
theorem mZ {P:Program} {t:Nat} {a b z:Str} (h:cat a b=some z):fU P t .add (.d (.str a)) (.d (.str b))=some (.str z):=by
 unfold cat at h
 split at h
 ·
  rename_i hb; rw [Dk hb]; cases h; rfl
 ·
  cases h
section
variable {C:bQ} {ρ:Operand→Option AV} {S:St} {x y z:Operand} {t:Nat}
theorem bY {α:Type} {enc:α→D} {l:List α} {b:Bool} {tt:Nat} (h:ρ x=some (.d (.sl (l.map enc) b))) (ht:(aV C.P tt).isSome=true):oper C ρ S (.call { callee:=.builtin .len,args:=#[x],argTypes:=#[tt] })=some (.val (.d (.int .i64 (l.length:Int))) S) :=
 oQ h (CK ht) (by simp [gT])
theorem uY {α:Type} {enc:α→D} {xs:List α} {tt:Nat} {S0:St} {l:List bD} (H:Has B S0 l) {i:Nat} {v:AV} (hi:l[i]? = some (.grow v (xs.map enc))) (h:ρ x=some v) (ht:(aV C.P tt).isSome=true):oper C ρ S (.call { callee:=.builtin .len,args:=#[x],argTypes:=#[tt] })=some (.val (.d (.int .i64 (xs.length:Int))) S) :=
 oQ h (zY H hi ht) (by rw [zb H hi]; simp)
theorem oK:∀ (l:List Int),ig (l.map (D.int .u8))=some (l.map fun n=>UInt8.ofNat n.toNat)
 | []=>rfl
 | n :: l=>by simp only [List.map_cons,ig,oK l,Option.map_some]
theorem lV {src dst:Nat} {l:List Int} {b:Bool} (h:ρ x=some (.d (.sl (l.map (D.int .u8)) b))) (hd:oM C.P dst=true) (hs:lF C src=true):oper C ρ S (.convert src dst x)=some (.val (.d (.str (l.map fun n=>UInt8.ofNat n.toNat))) S):=by
 simp only [oper,h,tX,hd,hs,Bool.and_self,if_true,oK,Option.map_some]
def nY (l:List (Nat × Nat)):Nat→Option (Nat × Nat):=fun i=>l[i]?
def placesOf (P:Program) (t:Nat):Option (List (Nat × Nat)):=match P.underlying t with
 | some (.struct fs)=>if fs.all fun f=>(P.underlying f.type).isSome then some (fs.toList.map fun x=>(x.offset,ax P x.type)) else none
 | _=>none
theorem kQ {l:List (Nat × Nat)} (h:placesOf C.P t=some l):oper.P_place C t=some (nY l):=by
 unfold placesOf at h
 unfold oper.P_place
 split at h
 ·
  rename_i fs hu
  simp only [hu]
  split at h
  ·
   rename_i ha
   rw [if_pos ha]
   simp only [Option.some.injEq] at h
   subst h
   congr 1
   funext i
   simp [nY]
  ·
   cases h
 ·
  cases h
theorem dF {ps:Array (Nat × Operand)} {z:D} {pv:List (Nat × AV)} {pl:Nat→Option (Nat × Nat)} {cs:List AV} (hz:zeroOf C.P t=some z) (he:jg ρ ps=some pv) (hp:oper.P_place C t=some pl) (hf:fI jd pl (AV.d z).cells pv=some cs):oper C ρ S (.build t ps)=some (.val (gz cs) S):=by
 simp only [oper,hz,he,hp,hf,Option.map_some]
inductive ow (sz:Nat):List AV→List D→Prop
 | nil:ow sz [] []
 | cons {v:AV} {d:D} {vs:List AV} {ds:List D} (h:sP v=some d) (hl:d.cells.length=sz) (k:ow sz vs ds):ow sz (v :: vs) (d :: ds)
def nD (n:Nat):List AV→List (Nat × AV)
 | []=>[]
 | v :: l=>(n,v) :: nD (n + 1) l
theorem vK {α:Type}:∀ (l cs:List α) (off:Nat),(setAt cs off l).length=cs.length
 | [],cs,off=>rfl
 | v :: l,cs,off=>by rw [setAt,vK l,List.length_set]
theorem qj {α:Type}:∀ (l a b c:List α),l.length=b.length→setAt (a ++ b ++ c) a.length l=a ++ l ++ c
 | [],a,b,c,h=>by
  have:b=[]:=List.eq_nil_of_length_eq_zero h.symm
  subst this; simp [setAt]
 | v :: l,a,b,c,h=>by
  cases b with
  | nil=>simp at h
  | cons w b =>
   simp only [List.length_cons,Nat.add_right_cancel_iff] at h
   have:=qj l (a ++ [v]) b c h
   simp only [setAt]
   have e:(a ++ w :: b ++ c).set a.length v=a ++ [v] ++ b ++ c:=by
    simp [List.set_append]
   rw [e,show a.length + 1=(a ++ [v]).length by simp,this]
   simp
theorem zQ {sz:Nat} {vs:List AV} {ds:List D} (h:ow sz vs ds):∀ (done:List D) (todo:List D),(∀ d ∈ done,d.cells.length=sz)→todo.length=vs.length * sz →
  fI cellsD (fun i=>some (i * sz,sz)) ((done.map D.cells).flatten ++ todo) (nD done.length vs)=some (((done ++ ds).map D.cells).flatten):=by
 induction h with
 | nil =>
  intro done todo _ ht
  have:todo=[]:=List.eq_nil_of_length_eq_zero (by simpa using ht)
  subst this
  simp [nD,fI]
 | @cons v d vs ds h hl k ih =>
  intro done todo hd ht
  have hlen:((done.map D.cells).flatten).length=done.length * sz:=by
   clear ih ht
   induction done with
   | nil=>simp
   | cons x l ihl =>
    simp only [List.map_cons,List.flatten_cons,List.length_append,hd x List.mem_cons_self,List.length_cons,ihl (fun d h=>hd d (List.mem_cons_of_mem _ h))]
    rw [Nat.add_mul]; omega
  simp only [List.length_cons] at ht
  rw [Nat.add_mul,Nat.one_mul] at ht
  have hc:cellsD v=some d.cells:=by simp only [cellsD,h]
  simp only [nD,fI,hc]
  rw [if_pos ⟨hl,by rw [List.length_append,hlen,hl]; omega⟩]
  have e1:todo=todo.take sz ++ todo.drop sz:=(List.take_append_drop sz todo).symm
  have e2:setAt ((done.map D.cells).flatten ++ todo) (done.length * sz) d.cells=((done ++ [d]).map D.cells).flatten ++ todo.drop sz:=by
   rw [e1,← List.append_assoc,← hlen,qj _ _ _ _ (by rw [hl,List.length_take]; omega)]
   simp
  rw [e2]
  have:=ih (done ++ [d]) (todo.drop sz) (fun x hx=>by
   rcases List.mem_append.1 hx with hx | hx
   ·
    exact hd x hx
   ·
    rw [List.mem_singleton.1 hx]; exact hl) (by rw [List.length_drop]; omega)
  rw [show (done ++ [d]).length=done.length + 1 by simp] at this
  rw [this]
  simp
theorem sF {sz:Nat}:∀ (ds:List D),(∀ d ∈ ds,d.cells.length=sz)→chunk sz ds.length ((ds.map D.cells).flatten)=ds.map D.cells
 | [],_=>rfl
 | d :: ds,h=>by
  have hd:=h d List.mem_cons_self
  simp only [List.length_cons,chunk,List.map_cons,List.flatten_cons]
  rw [List.take_append_of_le_length (by omega),List.take_of_length_le (by omega),List.drop_append_of_le_length (by omega),List.drop_of_length_le (by omega),List.nil_append,sF ds (fun d hd=>h d (List.mem_cons_of_mem _ hd))]
theorem uA {ag:Bool}:∀ (ds:List D),(∀ d ∈ ds,if ag=true then d.isAgg=true else d.isAgg=false)→dQ (qF ag) (ds.map D.cells)=some ds
 | [],_=>rfl
 | d :: ds,h=>by
  have hd:=h d List.mem_cons_self
  have:qF ag d.cells=some d:=by
   unfold qF
   cases ag with
   | true =>
    simp only [if_true] at hd ⊢
    cases d <;> simp_all [D.isAgg,D.cells]
   | false =>
    simp only [Bool.false_eq_true,if_false] at hd ⊢
    cases d <;> simp_all [D.isAgg,D.cells]
  simp only [List.map_cons,dQ,this,uA ds (fun d hd=>h d (List.mem_cons_of_mem _ hd)),Option.map_some]
theorem ow.len {sz:Nat} {vs:List AV} {ds:List D} (h:ow sz vs ds):ds.length=vs.length∧∀ d ∈ ds,d.cells.length=sz:=by
 induction h with
 | nil=>exact ⟨rfl,by simp⟩
 | cons h hl k ih=>exact ⟨by simp [ih.1],fun d hd=>by rcases List.mem_cons.1 hd with rfl | hd; exact hl; exact ih.2 d hd⟩
theorem bB {n el sz:Nat} {ag:Bool} {ps:Array (Nat × Operand)} {zd:D} {vs:List AV} {ds:List D} (hr:C.rowT t=false) (he:aV C.P t=some el) (ha:dJ C.P el=some ag) (hz:zeroOf C.P el=some zd) (hs:ax C.P el=sz) (hzl:zd.cells.length=sz) (hb:n * sz ≤ 16777216∧0 < n * sz)
  (hv:ow sz vs ds) (hn:vs.length=n) (hg:∀ d ∈ ds,if ag=true then d.isAgg=true else d.isAgg=false) (hev:jg ρ ps=some (nD 0 vs)):oper C ρ S (.buildSlice t n ps)=some (.val (.d (.sl ds true)) S):=by
 obtain ⟨k1,k2⟩:=hv.len
 subst hs
 have f1:=zQ hv [] ((List.replicate n zd.cells).flatten) (by simp) (by
  rw [List.length_flatten,List.map_replicate,List.sum_replicate_nat,hzl,hn])
 simp only [List.map_nil,List.flatten_nil,List.nil_append,List.length_nil] at f1
 have f2:=sF ds k2
 rw [k1,hn] at f2
 simp only [oper,jF,hr,Bool.false_and,cond_false,he,hev]
 rw [if_pos hb.1,if_neg (by omega)]
 simp only [hz,hzl,if_true,f1,ha,f2,uA ds hg,Option.map_some]
end
end Go.Ev
namespace Go.Ev
end Go.Ev
namespace Go.Ev
variable {B:St}
end Go.Ev
namespace Go.Ev
end Go.Ev

namespace Go.Ev
set_option linter.unusedVariables false
set_option linter.unusedSimpArgs false
variable {B:St}
variable {R:aR} {C:bQ} {nt:Nat}
section rules
variable {T:List Fact} {ops:Array Oper} {rest:List (Nat × Oper)} {I K:List Nat} {e:Env} {S S':St} {Q:Env→St→Prop} {l l':List bD} {t ty i:Nat} {p:String} {af:Array Edge} {g:Option (Nat × Bool)} {v:AV} {x y:Operand}
end rules
end Go.Ev
namespace Go.Ev
end Go.Ev
namespace Go.Ev
end Go.Ev

namespace Go.Ev
set_option linter.unusedVariables false
set_option linter.unusedSimpArgs false
variable {R:aR} {C:bQ} {P:Program} {nt:Nat} {B:St}
theorem bS.rel {ys xs:List AV} (h:bS ys xs) {cx:Cx} {S:St} {w:World} {us:List Value} (hr:∀ (i:Nat) (x:AV) (u:Value),xs[i]? = some x→us[i]? = some u→ay cx S w x u) :
  ∀ (i:Nat) (y:AV) (u:Value),ys[i]? = some y→us[i]? = some u→ay cx S w y u:=fun i y u hy hu=>by
 have hlt:i < xs.length:=by rw [← h.len]; exact (List.getElem?_eq_some_iff.1 hy).1
 have hx:=List.getElem?_eq_getElem hlt
 exact h.get hy hx _ _ _ _ (hr i _ u hx hu)
theorem bT.yS {f:Nat} {args args':List AV} {S:St} {Q:Out→Prop} (h:bT R P f args' S Q) (hl:bS args' args):bT R P f args S Q :=
 ⟨h.1,fun cx w us h1 h2 h3=>h.2 cx w us h1 (by rw [h2,hl.len]) (hl.rel h3)⟩
theorem SpecS.of_wp {f:Nat} {fn:Func} {c:Code} (hf:C.P.funcs[f]? = some fn) (hc:fn.body=some c) (hn:(fn.name == "runtime.NumGoroutine")=false) {args:List AV} (hle:Nat.ble args.length fn.ntmps=true) {S:St} {v:AV}
  (h:S.Wf→az R C.P fn.ntmps c (jN 0 args) S (DL C fn (fun r=>r.1=none∧dU S r.2.2∧∃ v',lG r.2.1=some v'∧xV v v'))):bT R C.P f args S (fun r=>r=(none,v,S)):=by
 refine ⟨⟨fn,hf,by simp [hc],by simpa using hn⟩,fun cx w us hS hl hr=>?_⟩
 have hs:=bT.of_wp hf hc hn (args:=args) (Nat.le_of_ble_eq_true hle) (h hS.wf)
 refine (hs.2 cx w us hS hl hr).mono (fun e w' he=>?_)
 obtain ⟨⟨p,v1,S1⟩,⟨hp,hk,v',hv,ha⟩,cx1,k1,k2,k3⟩:=he
 simp only at hp hv hk
 subst hp
 obtain ⟨d1,d2⟩:=BM hS.wf k1 k2 (hk.sub hS)
 obtain ⟨u,rfl,k3⟩:=k3
 exact ⟨_,rfl,cx1,d1,d2,u,rfl,ha.rel (lu hv k3 (fun _ _ q=>q))⟩
theorem sG {ρ:Operand→Option AV} {S:St} {x:Operand} {g:Nat} {caps:List AV} {as_:Array Operand} {ts:Array Nat} {args:List AV} (hx:ρ x=some (.fn g caps)) (ha:dQ ρ as_.toList=some args):oper C ρ S (.call { callee:=.value x,args:=as_,argTypes:=ts })=some (.call g (args ++ caps)):=by
 simp only [oper,hx,ha]
theorem nI {ρ:Operand→Option AV} {S:St} {g:Nat} {caps:Array Operand} {cs:List AV} (h:dQ ρ caps.toList=some cs):oper C ρ S (.makeFunc (.func g) #[] caps)=some (.val (.fn g cs) S):=by
 simp only [oper,h,Option.map_some]
theorem rT {ρ:Operand→Option AV} {S:St} {l:List bD} {x:Operand} {t id off:Nat} {cs:List AV} {v:AV} (H:Has B S l) (hb:B.H.get id=some (.cells 0 cs)) (h:ρ x=some (.ptr id 0 off)) (hp:part C.P t cs off=some v):oper C ρ S (.load t x)=some (.val v S):=by
 have hb:=H.keeps.H _ _ hb
 simp only [oper,h,jJ,St.look,hb,Nat.beq_refl,cond_true,hp,Option.map_some]
end Go.Ev
namespace Go.Ev
theorem eQ {pl:Nat→Option (Nat × Nat)} {cells:List AV} {i off size:Nat} {v:AV} {rest:List (Nat × AV)} {cs' r:List AV} (hp:pl i=some (off,size)) (hc:jd v=some cs') (hl:cs'.length=size) (hb:Nat.ble (off + cs'.length) cells.length=true) (k:fI jd pl (setAt cells off cs') rest=some r):fI jd pl cells ((i,v) :: rest)=some r:=by
 simp only [fI,hp,hc]
 rw [if_pos ⟨hl,Nat.le_of_ble_eq_true hb⟩]; exact k
theorem xH {d:D} {cs:List AV} (h:(AV.d d).cells=cs):jd (.d d)=some cs:=by subst h; rfl
theorem map_nil {α β:Type} {f:α→β} {l:List α} (h:l.map f=[]):l=[]:=List.map_eq_nil_iff.1 h
theorem CO {α:Type} {enc:α→D} {C:bQ} {t el:Nat} {l r:List α} {b:Bool} {lo hi:Option D} {x y:Int} (he:aV C.P t=some el) (hu:(C.P.underlying el).isSome=true) (hlen:∀ z,(enc z).cells.length=ax C.P el)
  (hlo:gu lo 0=some x.toNat∧0 ≤ x) (hhi:gu hi (l.map enc).length=some y.toNat∧0 ≤ y) (h:cut l x y=some r):∃ b',o6 C t (l.map enc) b lo hi none=some (.sl (r.map enc) b')∧(b=false→b'=false):=by
 obtain ⟨⟨h1,h2,h3⟩,rfl⟩:=yj h
 have hh:uz (ax C.P el) (l.map enc)=true:=by
  cases l with
  | nil=>rfl
  | cons z l=>simp [uz,hlen]
 refine ⟨b && Nat.beq y.toNat (l.map enc).length,?_,fun h=>by rw [h]; rfl⟩
 have e1:decide (x.toNat ≤ y.toNat)=true:=decide_eq_true (by omega)
 have e2:decide (y.toNat ≤ (l.map enc).length)=true:=decide_eq_true (by simp; omega)
 simp only [o6,he,hh,hu,Bool.and_self,if_true,hlo.1,hhi.1,e1,e2]
 simp [List.map_take,List.map_drop]
section
variable {α:Type} {enc:α→D} {C:bQ} {ρ:Operand→Option AV} {S:St} {t el:Nat} {x lo hi:Operand} {l r:List α} {k k':IntKind} {a c:Int}
theorem BI {k:IntKind} {a:Int} (h:0 ≤ a):asNat (.int k a)=some a.toNat:=by simp only [asNat,if_pos h]
theorem zH (hx:ρ x=some (.d (.sl (l.map enc) false))) (hh:ρ hi=some (.d (.int k' c))) (he:aV C.P t=some el) (hu:(C.P.underlying el).isSome=true) (hlen:∀ z,(enc z).cells.length=ax C.P el) (h:cut l 0 c=some r) :
  oper C ρ S (.slice t x none (some hi) none)=some (.val (.d (.sl (r.map enc) false)) S):=by
 have hb:=(yj h).1
 obtain ⟨b',h1,h2⟩:=CO (C:=C) (b:=false) (lo:=none) (hi:=some (.int k' c)) he hu hlen ⟨rfl,by omega⟩ ⟨BI (k:=k') (by omega),by omega⟩ h
 rw [h2 rfl] at h1
 simp only [oper,hx,nL,hh,rJ,h1,Option.map_some]
end
section
variable {C:bQ} {ρ:Operand→Option AV} {S:St} {t:Nat} {x lo hi:Operand} {s r:Str} {k k':IntKind} {a c:Int}
end
end Go.Ev

namespace Go.Ev
noncomputable section
set_option linter.unusedVariables false
set_option linter.unusedSimpArgs false
section
variable {R:aR} {C:bQ} {nt:Nat} {ops:Array Oper} {rest:List Oper} {e:Env} {B S S':St} {Q:Stp→Prop} {l l':List bD} {t ty:Nat} {p:String} {af:Array Edge} {g:Option (Nat × Bool)} {v:AV} {x y:Operand}
end
def oH (n:Nat) (s c:Str):Option Str:=if s.length ≤ bound∧c.length ≤ 1000∧(c.all fun b=>decide (b.toNat < 128))=true then some (Lib.trimS s c) else none
def strings_IndexByte (n:Nat) (s:Str) (c:Int):Option Int:=some (Lib.indexByte s c.toNat.toUInt8)
def zF (c:UInt8):List UInt8→List (List UInt8)
 | []=>[[]]
 | b :: l=>if b == c then [] :: zF c l else match zF c l with
  | []=>[[b]]
  | x :: r=>(b :: x) :: r
def strings_Split (n:Nat) (s sep:Str):Option (List Str):=match sep with
 | [c]=>if s.length ≤ 1000000 then some (zF c s) else none
 | _=>none
def strings_Join (n:Nat) (l:List Str) (sep:Str):Option Str:=if (Lib.join l sep).length ≤ bound∧l.length ≤ bound then some (Lib.join l sep) else none
end
end Go.Ev

namespace Go.Ev
noncomputable section
set_option linter.unusedVariables false
set_option linter.unusedSimpArgs false
set_option linter.unusedSectionVars false
section
variable {κ ν:Type} [BEq κ] [LawfulBEq κ]
def BZ (ek:κ→D) (ev:ν→D):Nat→List (κ × ν)→List (D × AV × Nat)
 | _,[]=>[]
 | i,(k,v) :: l=>(ek k,.d (ev v),i) :: BZ ek ev (i + 1) l
def mD (ek:κ→D) (ev:ν→D) (m:List (κ × ν)):p8:={ es:=BZ ek ev 0 m,clk:=m.length }
def ji (k:κ):List (κ × ν)→Nat→Option (Nat × ν)
 | [],_=>none
 | (a,b) :: l,i=>if k == a then some (i,b) else ji k l (i + 1)
def zh (m:List (κ × ν)) (k:κ):Option ν:=(ji k m 0).map (·.2)
def gq (m:List (κ × ν)) (k:κ) (z:ν):ν:=(zh m k).getD z
def pO (m:List (κ × ν)) (k:κ) (v:ν):List (κ × ν):=match ji k m 0 with
 | some (i,_)=>m.set i (k,v)
 | none=>m ++ [(k,v)]
structure vI (P:Program) (t:Nat) (ek:κ→D):Prop where
 eq:∀ a b,l8 P 20 t (ek a) (ek b)=some (a == b)
 same:∀ a,D.same (ek a) (ek a)=true
 ok:∀ a,j5 P t (ek a)=true
theorem uG {P:Program} {t:Nat} {ek:κ→D} {ev:ν→D} (K:vI P t ek) (k:κ):∀ (m:List (κ × ν)) (i j:Nat),gZ P t (ek k) (BZ ek ev i m) j=some ((ji k m j).map fun r=>(r.1,.d (ev r.2)))
 | [],i,j=>rfl
 | (a,b) :: l,i,j=>by
  simp only [BZ,gZ,K.eq,ji]
  cases hb:k == a with
  | true =>
   have:=eq_of_beq hb
   subst this
   simp [K.same]
  | false=>simp only [uG K k l (i + 1) (j + 1)]; rfl
theorem CF {C:bQ} {t kt et id:Nat} {S:St} {ek:κ→D} {ev:ν→D} {m:List (κ × ν)} {k:κ} {z:ν} (hk:nz C t=some (kt,et)) (K:vI C.P kt ek) (hz:zeroOf C.P et=some (ev z)) (hm:S.H.get id=some (.map (mD ek ev m))) :
  iX C t S (.map id) (ek k) false=some (.d (ev (gq m k z))):=by
 simp only [iX,hk,mapOf,hm,K.ok,if_true,mD,uG K]
 unfold gq zh
 cases ji k m 0 with
 | none=>simp [hz]
 | some r=>simp
theorem um (ek:κ→D) (ev:ν→D) (k:κ) (v:ν):∀ (m:List (κ × ν)) (i:Nat),BZ ek ev i m ++ [(ek k,.d (ev v),i + m.length)]=BZ ek ev i (m ++ [(k,v)])
 | [],i=>rfl
 | (a,b) :: l,i=>by
  have:=um ek ev k v l (i + 1)
  simp only [BZ,List.cons_append,List.length_cons]
  rw [show i + (l.length + 1)=i + 1 + l.length by omega,this]
theorem AQ (ek:κ→D) (ev:ν→D) (k:κ) (v:ν):∀ (m:List (κ × ν)) (i j:Nat),(BZ ek ev i m).modify j (fun p=>(ek k,.d (ev v),p.2.2))=BZ ek ev i (m.set j (k,v))
 | [],i,j=>by simp [BZ]
 | (a,b) :: l,i,0=>by simp [BZ]
 | (a,b) :: l,i,j + 1=>by
  have:=AQ ek ev k v l (i + 1) j
  simp only [BZ,List.set_cons_succ,List.modify_succ_cons,this]
theorem Db {C:bQ} {t kt et id:Nat} {S:St} {ek:κ→D} {ev:ν→D} {m:List (κ × ν)} {k:κ} {v:ν} (hk:nz C t=some (kt,et)) (K:vI C.P kt ek) (hm:S.H.get id=some (.map (mD ek ev m))) :
  mE C t S (.map id) (ek k) (.d (ev v))=some { S with H:=S.H.set id (.map (mD ek ev (pO m k v))) }:=by
 simp only [mE,hk,hm,K.ok,AV.plain,Bool.and_self,if_true,mD,uG K]
 unfold pO
 cases hf:ji k m 0 with
 | none =>
  have:=um ek ev k v m 0
  rw [Nat.zero_add] at this
  simp [this]
 | some r=>simp [AQ]
theorem Has.map {B S:St} {l:List bD} (h:Has B S l) (m:p8):Has B (aS S (.map m)) (.map S.nx m :: l) :=
 h.new _ rfl (by simp [bD.ok,aS,AL.aG])
omit [BEq κ] [LawfulBEq κ] in
theorem Has.Ez {B S:St} {l:List bD} (h:Has B S l) {i id:Nat} {m m':p8} (hi:l[i]? = some (.map id m)):Has B { S with H:=S.H.set id (.map m') } (l.set i (.map id m')):=by
 have hid:=h.at hi
 refine h.set hi rfl (by simp [bD.ok,AL.aG]) (fun j hl=>?_) (fun j hj=>?_) (fun j hj=>rfl) rfl
 ·
  refine h.wf j ?_
  unfold live cur at hl ⊢
  simp only [AL.aG] at hl
  by_cases hij:id=j
  ·
   subst hij; rw [show S.H.get id=_ from hid]; simp
  ·
   rw [if_neg hij] at hl; exact hl
 ·
  simp only [bD.fp,List.mem_singleton] at hj
  simp only [AL.aG]
  rw [if_neg (fun q=>hj q.symm)]
end
theorem zM {P:Program} {t:Nat} (h:P.underlying t=some .string):vI P t D.str where
 eq:=fun a b=>by simp only [l8,h]
 same:=fun a=>by simp [D.same]
 ok:=fun a=>by simp only [j5,jo,iN,h,Bool.and_self]
section
variable {κ ν:Type} [BEq κ] [LawfulBEq κ] {R:aR} {C:bQ} {nt:Nat} {ops:Array Oper} {rest:List Oper} {e:Env} {B S S':St} {Q:Stp→Prop} {l l':List bD} {t ty:Nat} {p:String} {af:Array Edge} {g:Option (Nat × Bool)} {x y w:Operand} {ρ:Operand→Option AV} {ek:κ→D} {ev:ν→D} {m:List (κ × ν)} {k:κ} {v z:ν}
theorem ah.makeMap {t1 kt et:Nat} (ek:κ→D) (ev:ν→D) (H:Has B S l) (hw:bg ops e { dst:=some t,op:=.makeMap t1 none,type:=ty,pos:=p,after:=af,guard:=g }=some true) (hk:nz C t1=some (kt,et)) (ht:Nat.blt t nt=true)
  (k:∀ b S',Has B S' (.map b (mD ek ev []) :: l)→ah R C nt ops rest ((t,.map b) :: e) S' Q) :
  ah R C nt ops ({ dst:=some t,op:=.makeMap t1 none,type:=ty,pos:=p,after:=af,guard:=g } :: rest) e S Q :=
 ah.val hw (v:=.map S.nx) (S':=aS S (.map (mD ek ev []))) (by simp only [oper,hk,H.wV,cond_false]; rfl) ht (k _ _ (H.map _))
theorem oW {t1 kt et id i:Nat} (H:Has B S l) (hi:l[i]? = some (.map id (mD ek ev m))) (hm:ρ x=some (.map id)) (hky:ρ y=some (.d (ek k))) (hk:nz C t1=some (kt,et)) (K:vI C.P kt ek) (hz:zeroOf C.P et=some (ev z)) :
  oper C ρ S (.lookup t1 x y false)=some (.val (.d (ev (gq m k z))) S):=by
 simp only [oper,hm,hky,CF hk K hz (H.at hi),Option.map_some]
theorem ah.mapUpdate {t1 kt et id i:Nat} (H:Has B S l) (hw:bg ops e { dst:=none,op:=.mapUpdate t1 x y w,type:=ty,pos:=p,after:=af,guard:=g }=some true) (hi:l[i]? = some (.map id (mD ek ev m))) (hm:bA e x=some (.map id)) (hky:bA e y=some (.d (ek k))) (hv:bA e w=some (.d (ev v))) (hk:nz C t1=some (kt,et)) (K:vI C.P kt ek)
  (kk:∀ S',Has B S' (l.set i (.map id (mD ek ev (pO m k v))))→ah R C nt ops rest e S' Q) :
  ah R C nt ops ({ dst:=none,op:=.mapUpdate t1 x y w,type:=ty,pos:=p,after:=af,guard:=g } :: rest) e S Q :=
 ah.skip hw (by simp only [oper,hm,hky,hv,Db hk K (H.at hi),Option.map_some]) (kk _ (H.Ez hi))
end
end
end Go.Ev

namespace Go.Ev
noncomputable section
set_option linter.unusedVariables false
set_option linter.unusedSimpArgs false
theorem D5 {L l1 l2:List Nat} {listed:Array Bool} {i:Nat} (hlt':i < listed.size) (hsp:(L.filter fun i=>!listed.getD i false)=l1 ++ i :: l2) (hne1:∀ k ∈ l1,k ≠ i) (hne2:∀ k ∈ l2,k ≠ i) :
  L.filter (fun j=>!(listed.setIfInBounds i true).getD j false)=l1 ++ l2:=by
 have:(fun j=>!(listed.setIfInBounds i true).getD j false)=(fun j=>(!listed.getD j false) && decide (j ≠ i)):=by
  funext j
  by_cases hj:i=j
  ·
   subst hj; simp [hlt']
  ·
   rw [getD_set_ne false hj]; simp [Ne.symm hj]
 rw [this,← List.filter_filter]
 have hcomm:∀ (l:List Nat) (p q:Nat→Bool),(l.filter p).filter q=(l.filter q).filter p:=fun l p q=>by
  rw [List.filter_filter,List.filter_filter]; congr 1; funext a; exact Bool.and_comm _ _
 rw [hcomm,hsp,List.filter_append,List.filter_cons]
 simp only [ne_eq,not_true_eq_false,decide_false,Bool.false_eq_true,if_false]
 congr 1
 ·
  rw [List.filter_eq_self]; intro k hk; simpa using hne1 k hk
 ·
  rw [List.filter_eq_self]; intro k hk; simpa using hne2 k hk
theorem Et {ops:Array Oper} (hr:mh ops=true) {listed:Array Bool} (hcl:Closed ops listed) {i:Nat} {o:Oper} (h2:ops[i]? = some o) (h3:∀ e ∈ o.after,Region.binds .any e=true→listed.getD e.on false=true) :
  ∀ k,k < i→((Region.before ops).getD i 0).testBit k=true→listed.getD k false=true:=by
 intro k hk hb
 obtain ⟨r1,r2,_⟩:=fT hr h2
 have hlt:i < ops.size:=(Array.getElem?_eq_some_iff.1 h2).1
 have hkx:∃ x,ops[k]? = some x:=⟨ops[k],by simp [show k < ops.size by omega]⟩
 obtain ⟨x,hx⟩:=hkx
 have:=r2 k x hk hx
 rw [if_pos hb] at this
 obtain ⟨ed,he,hbnd,hor⟩:=this
 rcases hor with q | q
 ·
  rw [← q]; exact h3 ed he hbnd
 ·
  by_cases hke:k < ed.on
  ·
   exact hcl ed.on (h3 ed he hbnd) k hke q
  ·
   rcases Nat.lt_or_ge ed.on k with q1 | q1
   ·
    exfalso
    have hel:ed.on < ops.size:=by have:=r1 ed he hbnd; omega
    have:=(fT hr (show ops[ed.on]? = some ops[ed.on] by simp [hel])).2.2 k (by omega)
    rw [this] at q; cases q
   ·
    have:k=ed.on:=by omega
    rw [this]; exact h3 ed he hbnd
theorem zl {ops:Array Oper} {listed:Array Bool} (hcl:Closed ops listed) {i:Nat} (hclo:∀ k,k < i→((Region.before ops).getD i 0).testBit k=true→listed.getD k false=true):Closed ops (listed.setIfInBounds i true):=by
 intro j hj k hkj hb
 by_cases hij:i=j
 ·
  subst hij
  exact getD_set_true (hclo k hkj hb)
 ·
  rw [getD_set_ne false hij] at hj
  exact getD_set_true (hcl j hj k hkj hb)
theorem zw {ops:Array Oper} (hr:mh ops=true) {listed:Array Bool} (hsz:listed.size=ops.size) {m:Nat} (m1:m < ops.size) (m2:listed.getD m false=false):Region.ready .any ops listed ≠ []:=by
 have hex:∃ m,m < ops.size∧listed.getD m false=false∧∀ k,k < m→listed.getD k false=true:=by
  induction m using Nat.strongRecOn with
  | _ m ihm =>
   by_cases hall:∀ k,k < m→listed.getD k false=true
   ·
    exact ⟨m,m1,m2,hall⟩
   ·
    have:∃ k,k < m∧listed.getD k false=false:=by
     refine Classical.byContradiction fun hc=>hall fun k hk=>?_
     cases hv:listed.getD k false with
     | true=>rfl
     | false=>exact absurd ⟨k,hk,hv⟩ hc
    obtain ⟨k,hk,hv⟩:=this
    exact ihm k hk (by omega) hv
 obtain ⟨m,hmlt,hm2,hmin⟩:=hex
 have hmo:ops[m]? = some ops[m]:=by simp [hmlt]
 have hready:m ∈ Region.ready .any ops listed:=by
  rw [mem_ready]
  refine ⟨by have:m < listed.size:=(by omega); simp [this] at hm2 ⊢; exact hm2,ops[m],hmo,fun ed he hb=>?_⟩
  have hon:=(fT hr hmo).1 ed he hb
  exact hmin ed.on hon
 intro hnone
 rw [hnone] at hready
 cases hready
end
end Go.Ev

namespace Go.Ev
noncomputable section
set_option linter.unusedVariables false
set_option linter.unusedSimpArgs false
variable {R:aR} {C:bQ} {nt:Nat}
section
variable {B:St} {T:List Fact} {ops:Array Oper} {rest:List (Nat × Oper)} {I K:List Nat} {e:Env} {S S':St} {Q:Env→St→Prop} {l l':List bD} {t ty i:Nat} {p:String} {af:Array Edge} {g:Option (Nat × Bool)} {v:AV} {x y:Operand}
end
end
end Go.Ev

namespace Go.Ev
noncomputable section
set_option linter.unusedVariables false
set_option linter.unusedSimpArgs false
variable {R:aR} {C:bQ} {P:Program} {nt:Nat} {B:St}
inductive DY (v:AV) (d:D):AV→AV→Prop
 | same (x:AV):DY v d x x
 | it:DY v d v (.d d)
inductive ou (v:AV) (d:D):List AV→List AV→Prop
 | nil:ou v d [] []
 | cons {x y:AV} {xs ys:List AV} (h:DY v d x y) (k:ou v d xs ys):ou v d (x :: xs) (y :: ys)
theorem ou.len {v:AV} {d:D} {xs ys:List AV} (h:ou v d xs ys):ys.length=xs.length:=by
 induction h with
 | nil=>rfl
 | cons _ _ ih=>simp [ih]
theorem ou.get {v:AV} {d:D} {xs ys:List AV} (h:ou v d xs ys):∀ {i:Nat} {y:AV},ys[i]? = some y→∃ x,xs[i]? = some x∧DY v d x y:=by
 induction h with
 | nil=>intro i y h; simp at h
 | cons h k ih =>
  intro i y hy
  cases i with
  | zero=>simp at hy; subst hy; exact ⟨_,rfl,h⟩
  | succ i=>simpa using ih (by simpa using hy)
theorem ou.refl (v:AV) (d:D):∀ (l:List AV),ou v d l l
 | []=>.nil
 | x :: l=>.cons (.same x) (.refl v d l)
def Fa (v:AV) (d:D) (b b':jI):Prop:=b'=b∨∃ g cs cs',b=.cells g cs∧b'=.cells g cs'∧ou v d cs cs'
theorem kC {v:Value} (h:v.oneCell'=true):v.cells.toList=[v]∧oL v=false:=by
 cases v <;> simp_all [Value.oneCell',Value.cells,oL]
theorem dB.of_cells {w:World} {fr:Nat→Nat→Prop} {x:D} {vs:List Value} (hf:fw x.cells=true) (hl:vs.length=x.cells.length) (ho:∀ v ∈ vs,v.oneCell'=true)
  (h:∀ (i:Nat) (c:D) (v:Value),x.cells[i]? = some c→vs[i]? = some v→dB w fr c [v]):dB w fr x vs:=by
 have one:∀ (x:D),x.cells=[x]→(vs.length=x.cells.length)→(∀ (i:Nat) (c:D) (v:Value),x.cells[i]? = some c→vs[i]? = some v→dB w fr c [v])→dB w fr x vs:=fun x hx hl h=>by
  rw [hx] at hl h
  match vs,hl with
  | [v],_=>exact h 0 x v rfl rfl
 cases x with
 | agg ys =>
  simp only [D.cells] at hl h hf
  refine .agg ys vs hl ho (fun y hy=>?_) h
  clear hl h
  induction ys with
  | nil=>cases hy
  | cons z ys ih =>
   simp only [fw,Bool.and_eq_true,Bool.not_eq_true'] at hf
   rcases List.mem_cons.1 hy with rfl | hy
   ·
    exact hf.1
   ·
    exact ih hf.2 hy
 | _=>exact one _ rfl hl h
theorem flat_get {xs:List D} {sz:Nat} (hsz:∀ x ∈ xs,x.cells.length=sz):∀ {i j:Nat} {x c:D},xs[i]? = some x→x.cells[j]? = some c→((xs.map D.cells).flatten)[i * sz + j]? = some c:=by
 induction xs with
 | nil=>intro i j x c hx; simp at hx
 | cons y xs ih =>
  intro i j x c hx hc
  have hy:=hsz y List.mem_cons_self
  rw [List.map_cons,List.flatten_cons]
  cases i with
  | zero =>
   simp at hx; subst hx
   rw [Nat.zero_mul,Nat.zero_add,List.getElem?_append_left (List.getElem?_eq_some_iff.1 hc).1]; exact hc
  | succ i =>
   have:=ih (fun x hx=>hsz x (List.mem_cons_of_mem _ hx)) (i:=i) (by simpa using hx) hc
   rw [Nat.add_mul,Nat.one_mul,List.getElem?_append_right (by omega)]
   rw [show i * sz + sz + j - y.cells.length=i * sz + j by omega]; exact this
theorem yV {xs:List D} {sz:Nat} (hsz:∀ x ∈ xs,x.cells.length=sz):((xs.map D.cells).flatten).length=xs.length * sz:=by
 induction xs with
 | nil=>simp
 | cons y xs ih =>
  rw [List.map_cons,List.flatten_cons,List.length_append,ih (fun x hx=>hsz x (List.mem_cons_of_mem _ hx)),hsz y List.mem_cons_self,List.length_cons,Nat.add_mul,Nat.one_mul]; omega
theorem CS {cx:Cx} {S:St} {w:World} (h:aD R cx S w) {id g sz:Nat} {xs:List D} {cs0:List AV} (hcs0:bS ((xs.map D.cells).flatten.map .d) cs0) (hid:S.H.get id=some (.cells g cs0)) (hpos:0 < sz) (hsz:∀ x ∈ xs,x.cells.length=sz∧fw x.cells=true)
  {fr':Nat→Nat→Prop} (hp:∀ (b o:Nat) (v:Value),¬ cx.fr b o→w.cell? ⟨b,o,none⟩=some v→w.cell? ⟨b,o,none⟩=some v∧¬ fr' b o) (hfr:∀ o,¬ fr' (cx.bm id) o) {u:Value} (hu:ay cx S w (.msl id g 0 xs.length xs.length sz) u):aQ w fr' (.sl xs false) u:=by
 cases hu with
 | msl _ _ _ _ _ _ b cap hn hl hcap h63 hq =>
  obtain ⟨hb,_,_⟩:=hq (by unfold cur; rw [hid])
  subst hb
  obtain ⟨c1,c2,arr,el,c3,⟨c4,c5,c6⟩,c7⟩:=h.cells id g _ hid
  refine ⟨?_,rfl⟩
  by_cases hne:xs=[]
  ·
   subst hne; exact .sl0 _ cap false (fun q=>by cases q)
  have hflat:=yV (fun x hx=>(hsz x hx).1)
  let vs:Nat→List Value:=fun i=>(List.range sz).map fun j=>(arr[i * sz + j]?).getD default
  have hcell:∀ (i j:Nat) (x:D),xs[i]? = some x→j < sz→∃ c v,x.cells[j]? = some c∧arr[i * sz + j]? = some v∧ay cx S w (.d c) v∧v.oneCell'=true:=fun i j x hx hj=>by
   have hxl:=(hsz x (List.mem_of_getElem? hx)).1
   have hc:x.cells[j]? = some x.cells[j]:=List.getElem?_eq_getElem (by omega)
   have hfg:=flat_get (fun x hx=>(hsz x hx).1) hx hc
   have hlt:i * sz + j < cs0.length:=by
    have:=(List.getElem?_eq_some_iff.1 hfg).1
    have h2:=hcs0.len
    rw [List.length_map] at h2; omega
   obtain ⟨v,v1,v2,v3⟩:=c7 (i * sz + j) _ (List.getElem?_eq_getElem hlt)
   exact ⟨_,v,hc,v1,hcs0.get (by rw [List.getElem?_map,hfg]; rfl) (List.getElem?_eq_getElem hlt) _ _ _ _ v2,v3⟩
  have hvs:∀ (i j:Nat) (v:Value),(vs i)[j]? = some v→j < sz∧(arr[i * sz + j]?).getD default=v:=fun i j v hv=>by
   simp only [vs,List.getElem?_map,Option.map_eq_some_iff] at hv
   obtain ⟨k,hk,rfl⟩:=hv
   rw [List.getElem?_eq_some_iff] at hk
   obtain ⟨hlt,hk⟩:=hk
   simp at hlt hk
   subst hk
   exact ⟨hlt,rfl⟩
  refine .sl xs false (cx.bm id) 0 cap sz vs hne hcap (fun q=>by cases q) (fun i x hx=>(hsz x (List.mem_of_getElem? hx)).1) (fun i hi=>by simp [vs]) (fun i x hx=>?_) (fun i j v hi hv=>?_)
  ·
   have hm:=hsz x (List.mem_of_getElem? hx)
   refine dB.of_cells hm.2 (by simp [vs,hm.1]) (fun v hv=>?_) (fun j c v hc hv=>?_)
   ·
    obtain ⟨j,hj,rfl⟩:=List.getElem_of_mem hv
    have hj':=List.getElem?_eq_getElem hj
    obtain ⟨k1,k2⟩:=hvs i j _ hj'
    obtain ⟨c,v,_,v1,_,v3⟩:=hcell i j x hx k1
    rw [v1] at k2
    rw [← k2]; exact v3
   ·
    obtain ⟨k1,k2⟩:=hvs i j v hv
    obtain ⟨c',v',h1,v1,v2,v3⟩:=hcell i j x hx k1
    rw [v1] at k2
    simp at k2
    subst k2
    rw [hc] at h1; cases h1
    have:=(v2.dd.mono hp).1
    rw [(kC v3).1] at this
    exact this
  ·
   obtain ⟨k1,k2⟩:=hvs i j v hv
   obtain ⟨c',v',h1,v1,v2,v3⟩:=hcell i j xs[i] (List.getElem?_eq_getElem hi) k1
   rw [v1] at k2
   simp at k2
   subst k2
   refine ⟨?_,hfr _⟩
   simp only [World.cell?,c3,Nat.zero_add]
   simp [v1]
theorem wO (hR:ObjOk R) {cx:Cx} {S S':St} {w:World} (h:aD R cx S w) {id g sz:Nat} {xs:List D} {cs0:List AV} (hcs0:bS ((xs.map D.cells).flatten.map .d) cs0) (hid:S.H.get id=some (.cells g cs0)) (hpos:0 < sz) (hsz:∀ x ∈ xs,x.cells.length=sz∧fw x.cells=true)
  (nx:S'.nx=S.nx) (hT:S'.T=S.T) (hH:∀ k b',S'.H.get k=some b'→k ≠ id∧∃ b,S.H.get k=some b∧Fa (.msl id g 0 xs.length xs.length sz) (.sl xs false) b b') :
  ∃ cx',aD R cx' S' w∧Ext cx S w cx' S' w∧∀ u,ay cx S w (.msl id g 0 xs.length xs.length sz) u→ay cx' S' w (.d (.sl xs false)) u:=by
 have hl:live S id:=jH hid
 have ownId:∀ k b,live S k→cx.fp k b→b=cx.bm id→k=id:=fun k b hk hf hb=>by
  subst hb
  exact h.sep k id _ hk hl hf ((h.cells id g _ hid).fp _ |>.2 rfl)
 have hcur:∀ k g',cur S' k=some g'→cur S k=some g':=fun k g' hc=>by
  unfold cur at hc ⊢
  cases hk:S'.H.get k with
  | none =>
   rw [hk] at hc
   simp only [hT] at hc
   cases hS:S.H.get k with
   | none=>exact hc
   | some b=>rw [h.lU k b hS] at hc; cases hc
  | some b' =>
   rw [hk] at hc
   obtain ⟨_,b,hb,hz⟩:=hH k b' hk
   rw [hb]
   rcases hz with rfl | ⟨g1,cs,cs',rfl,rfl,_⟩
   ·
    cases b' <;> exact hc
   ·
    exact hc
 have hlive:∀ k,live S' k→live S k:=fun k hk=>by
  cases hc:cur S' k with
  | none=>exact absurd hc hk
  | some g'=>unfold live; rw [hcur k g' hc]; simp
 have hno:¬ live S' id:=fun q=>by
  cases hc:S'.H.get id with
  | some b'=>exact (hH id b' hc).1 rfl
  | none =>
   unfold live cur at q
   rw [hc,hT,h.lU id _ hid] at q
   exact q rfl
 have hit:∀ k g',isIt S' k g'→isIt S k g':=fun k g' q=>by
  obtain ⟨_,b,hb,hz⟩:=hH k _ q
  rcases hz with hz | ⟨g1,cs,cs',_,hz,_⟩
  ·
   rw [← hz] at hb; exact hb
  ·
   cases hz
 let cx':Cx:={ cx with fr:=fun b o=>cx.fr b o∧b ≠ cx.bm id }
 have prot:∀ (b o:Nat) (v:Value),¬ cx.fr b o→w.cell? ⟨b,o,none⟩=some v→w.cell? ⟨b,o,none⟩=some v∧¬ cx'.fr b o:=fun b o v h1 h2=>⟨h2,fun q=>h1 q.1⟩
 have ext:Ext cx S w cx' S' w:=by
  refine ⟨Nat.le_refl _,rfl,rfl,rfl,by rw [nx]; exact Nat.le_refl _,prot,fun b hb hn=>⟨rfl,fun o=>⟨fun q=>q.1,fun q=>⟨q,fun hq=>?_⟩⟩⟩,fun k b hk hf=>⟨fun _=>⟨hlive k hk,.inl hf⟩,fun hge=>?_⟩,fun k g' _ q=>⟨g',hit k g' q⟩,fun k g' b _ _ _ hf=>hf,fun k g' _ hc=>⟨g',hcur k g' hc,Nat.le_refl _,fun _=>⟨rfl,rfl,rfl⟩⟩⟩
  ·
   subst hq
   exact yT hid (by intro x; simp) (hn id hl ((h.cells id g _ hid).fp _ |>.2 rfl))
  ·
   exact absurd (h.wf k (hlive k hk)) (by omega)
 have key:∀ u,ay cx S w (.msl id g 0 xs.length xs.length sz) u→ay cx' S' w (.d (.sl xs false)) u:=fun u hu =>
  .d _ _ (CS h hcs0 hid hpos hsz prot (fun o q=>q.2 rfl) hu)
 refine ⟨cx',⟨fun k hk=>by rw [nx]; exact h.wf k (hlive k hk),fun k b' hk=>?_,fun k g' cs' hk=>?_,fun k es hk=>?_,fun k q x hk=>?_,fun k en hk=>?_,fun k k' b a1 a2=>h.sep k k' b (hlive k a1) (hlive k' a2),fun b o q=>h.lt b o q.1,hR.stat _ _ _ _ h.stat prot⟩,ext,key⟩
 ·
  obtain ⟨_,b,hb,_⟩:=hH k b' hk
  rw [hT]; exact h.lU k b hb
 ·
  obtain ⟨hne',b,hb,hz⟩:=hH k _ hk
  have hex:∃ cs,b=.cells g' cs∧ou (.msl id g 0 xs.length xs.length sz) (.sl xs false) cs cs':=by
   rcases hz with hz | ⟨g1,cs,cs2,h1,h2,h3⟩
   ·
    exact ⟨cs',hz.symm,.refl _ _ _⟩
   ·
    cases h2; exact ⟨cs,h1,h3⟩
  obtain ⟨cs,rfl,hfz⟩:=hex
  obtain ⟨c1,c2,arr,el,c3,⟨c4,c5,c6⟩,c7⟩:=h.cells k g' cs hb
  have hlk:live S k:=jH hb
  refine ⟨c1,fun o=>⟨c2 o,fun hq=>hne' (ownId k _ hlk ((c1 _).2 rfl) hq)⟩,arr,el,c3,⟨c4,by rw [hfz.len]; exact c5,by rw [hfz.len]; exact c6⟩,fun i x hx=>?_⟩
  obtain ⟨y,hy,hfa⟩:=hfz.get hx
  obtain ⟨v,v1,v2,v3⟩:=c7 i y hy
  refine ⟨v,v1,?_,v3⟩
  cases hfa with
  | same=>exact v2.mono ext
  | it=>exact key v v2
 ·
  obtain ⟨hne',b,hb,hz⟩:=hH k _ hk
  have hb':b=.map es:=by
   rcases hz with hz | ⟨g1,cs,cs2,h1,h2,h3⟩
   ·
    exact hz.symm
   ·
    cases h2
  subst hb'
  obtain ⟨c1,c2,ms,clk,c3,c4,c5⟩:=h.maps k es hb
  refine ⟨c1,fun o=>⟨c2 o,fun hq=>hne' (ownId k _ (jH hb) ((c1 _).2 rfl) hq)⟩,ms,clk,c3,c4,fun i p m hp hm=>?_⟩
  obtain ⟨v1,v2⟩:=c5 i p m hp hm
  exact ⟨v1.mono prot,v2.mono ext⟩
 ·
  obtain ⟨hne',b,hb,hz⟩:=hH k _ hk
  have hb':b=.obj q x:=by
   rcases hz with hz | ⟨g1,cs,cs2,h1,h2,h3⟩
   ·
    exact hz.symm
   ·
    cases h2
  subst hb'
  obtain ⟨c1,c2⟩:=h.objs k q x hb
  exact ⟨c1,fun b o hf=>⟨c2 b o hf,fun hq=>hne' (ownId k b (jH hb) hf hq)⟩⟩
 ·
  rw [hT] at hk
  obtain ⟨c1,c2,c3⟩:=h.toks k en hk
  have hkid:k ≠ id:=fun q=>by subst q; rw [h.lU _ _ hid] at hk; cases hk
  exact ⟨c1,fun o ho=>⟨c2 o ho,fun hq=>hkid (ownId k _ (si hk) ((c1 _).2 rfl) hq)⟩,c3⟩
inductive pW (v:AV) (d:D):List bD→List bD→Prop
 | nil:pW v d [] []
 | same {a:bD} {l l':List bD} (k:pW v d l l'):pW v d (a :: l) (a :: l')
 | box {id:Nat} {cs cs':List AV} {l l':List bD} (h:ou v d cs cs') (k:pW v d l l'):pW v d (.box id cs :: l) (.box id cs' :: l')
theorem pW.EB {v:AV} {d:D} {l l':List bD} (h:pW v d l l'):l'.map bD.fp=l.map bD.fp:=by
 induction h with
 | nil=>rfl
 | same _ ih=>simp [ih]
 | box _ _ ih=>simp [ih,bD.fp]
theorem pW.mem {v:AV} {d:D} {l l':List bD} (h:pW v d l l') {a':bD} (ha:a' ∈ l'):a' ∈ l∨∃ id cs cs',a'=.box id cs'∧.box id cs ∈ l∧ou v d cs cs':=by
 induction h with
 | nil=>cases ha
 | same _ ih =>
  rcases List.mem_cons.1 ha with rfl | ha
  ·
   exact .inl List.mem_cons_self
  ·
   rcases ih ha with h | ⟨id,cs,cs',h1,h2,h3⟩
   ·
    exact .inl (List.mem_cons_of_mem _ h)
   ·
    exact .inr ⟨id,cs,cs',h1,List.mem_cons_of_mem _ h2,h3⟩
 | box hz _ ih =>
  rcases List.mem_cons.1 ha with rfl | ha
  ·
   exact .inr ⟨_,_,_,rfl,List.mem_cons_self,hz⟩
  ·
   rcases ih ha with h | ⟨id,cs,cs',h1,h2,h3⟩
   ·
    exact .inl (List.mem_cons_of_mem _ h)
   ·
    exact .inr ⟨id,cs,cs',h1,List.mem_cons_of_mem _ h2,h3⟩
theorem pW.zn {v:AV} {d:D} {l l':List bD} (h:pW v d l l') {id:Nat} {cs':List AV} (ha:bD.box id cs' ∈ l'):∃ cs,.box id cs ∈ l∧ou v d cs cs':=by
 rcases h.mem ha with h | ⟨id2,cs,cs2,h1,h2,h3⟩
 ·
  exact ⟨cs',h,.refl _ _ _⟩
 ·
  cases h1; exact ⟨cs,h2,h3⟩
open Classical in
def wC (l:List bD) (k:Nat) (b:jI):jI:=if h:∃ cs,bD.box k cs ∈ l then .cells 0 (Classical.choose h) else b
def AL.zI {α:Type} (f:Nat→α→α):AL α→AL α
 | []=>[]
 | (k,v) :: l=>(k,f k v) :: AL.zI f l
theorem AL.sU {α:Type} (f:Nat→α→α):∀ (l:AL α) (k:Nat),AL.get (AL.zI f l) k=(AL.get l k).map (f k)
 | [],k=>by simp [AL.zI,AL.get]
 | (a,v) :: l,k=>by
  simp only [AL.zI,AL.bJ,AL.sU f l k]
  by_cases h:a=k
  ·
   subst h; simp
  ·
   simp [h]
theorem Ak {l:List bD} (hn:(l.map bD.fp).flatten.Nodup) {a b:bD} (ha:a ∈ l) (hb:b ∈ l) {id:Nat} (h1:id ∈ a.fp) (h2:id ∈ b.fp):a=b:=by
 obtain ⟨i,hi,rfl⟩:=List.getElem_of_mem ha
 obtain ⟨j,hj,rfl⟩:=List.getElem_of_mem hb
 by_cases hij:i=j
 ·
  subst hij; rfl
 ·
  exact (uE hn (List.getElem?_eq_getElem hi) (List.getElem?_eq_getElem hj) hij h1 h2).elim
theorem tC {l:List bD} (hn:(l.map bD.fp).flatten.Nodup) {k:Nat} {cs:List AV} (h:bD.box k cs ∈ l) (b:jI):wC l k b=.cells 0 cs:=by
 have hex:∃ cs,bD.box k cs ∈ l:=⟨cs,h⟩
 unfold wC
 rw [dif_pos hex]
 have:=Ak hn (Classical.choose_spec hex) h (id:=k) (by simp [bD.fp]) (by simp [bD.fp])
 simp only [bD.box.injEq,true_and] at this
 rw [this]
theorem oP {l:List bD} {k:Nat} (h:∀ cs,bD.box k cs ∉ l) (b:jI):wC l k b=b:=by
 unfold wC
 rw [dif_neg (fun ⟨cs,q⟩=>h cs q)]
def uS (v:AV) (d:D) (e2 e:Env):Prop:=∀ t x,AL.get e2 t=some x→∃ y,AL.get e t=some y∧(Less x y∨(y=v∧x=.d d))
theorem uS.nil {v:AV} {d:D} {e:Env}:uS v d [] e:=fun _ _ h=>by simp [AL.get] at h
theorem uS.cons {v:AV} {d:D} {t:Nat} {x y:AV} {e2 e:Env} (h:AL.get e t=some y) (hl:Less x y) (k:uS v d e2 e):uS v d ((t,x) :: e2) e:=fun u z hz=>by
 rw [AL.bJ] at hz
 by_cases hu:t=u
 ·
  subst hu; rw [if_pos rfl] at hz; cases hz; exact ⟨y,h,.inl hl⟩
 ·
  rw [if_neg hu] at hz; exact k u z hz
theorem uS.it {v:AV} {d:D} {t:Nat} {e2 e:Env} (h:AL.get e t=some v) (k:uS v d e2 e):uS v d ((t,.d d) :: e2) e:=fun u z hz=>by
 rw [AL.bJ] at hz
 by_cases hu:t=u
 ·
  subst hu; rw [if_pos rfl] at hz; cases hz; exact ⟨v,h,.inr ⟨rfl,rfl⟩⟩
 ·
  rw [if_neg hu] at hz; exact k u z hz
theorem bD.Cz {S S':St} {v:AV} {d:D} {l l':List bD} (hz:pW v d l l') (nd':(l'.map bD.fp).flatten.Nodup) (hok:∀ a ∈ l,a.ok S)
  (hH:∀ a ∈ l',∀ k ∈ a.fp,S'.H.get k=(S.H.get k).map (wC l' k)) (hT:S'.T=S.T):∀ a ∈ l',a.ok S':=by
 intro a' ha'
 cases a' with
 | box k cs' =>
  obtain ⟨cs,h1,h2⟩:=hz.zn ha'
  have:=hok _ h1
  simp only [bD.ok] at this ⊢
  rw [hH _ ha' k (by simp [bD.fp]),this,Option.map_some,tC nd' ha']
 | _ =>
  have hm:_ ∈ l:=(hz.mem ha').resolve_right (fun ⟨_,_,_,q,_⟩=>by cases q)
  refine bD.keep (hok _ hm) (fun k hk=>?_) (fun k hk=>by rw [hT])
  rw [hH _ ha' k hk]
  cases hb:S.H.get k with
  | none=>rfl
  | some b =>
   rw [Option.map_some,oP (fun cs q=>?_)]
   have:=Ak nd' ha' q (id:=k) hk (by simp [bD.fp])
   cases this
theorem Has.freeze (hR:ObjOk R) {S:St} {l l':List bD} (H:Has B S l) {i sz:Nat} {v:AV} {xs:List D} (hi:l[i]? = some (.row sz v xs)) (hz:pW v (.sl xs false) (l.eraseIdx i) l') :
  ∃ S',Has B S' l'∧∀ nt e e2,uS v (.sl xs false) e2 e→jh R nt e S e2 S':=by
 have hg:=H.at hi
 have hil:i < l.length:=(List.getElem?_eq_some_iff.1 hi).1
 have hsub:(l.eraseIdx i).Sublist l:=List.eraseIdx_sublist ..
 have nd':(l'.map bD.fp).flatten.Nodup:=by rw [hz.EB]; exact H.nd.sublist (Ct bD.fp hsub)
 have hfp':∀ a' ∈ l',∃ a ∈ l.eraseIdx i,a.fp=a'.fp:=fun a' ha'=>by
  rcases hz.mem ha' with h | ⟨id,cs,cs',rfl,h2,_⟩
  ·
   exact ⟨a',h,rfl⟩
  ·
   exact ⟨_,h2,rfl⟩
 have hfpl:∀ a' ∈ l',∃ a ∈ l,a.fp=a'.fp:=fun a' ha'=>let ⟨a,h1,h2⟩:=hfp' a' ha'; ⟨a,hsub.subset h1,h2⟩
 have hout:∀ a ∈ l',∀ id ∈ a.fp,B.H.get id=none∧B.T.get id=none:=fun a' ha' id hid=>by
  obtain ⟨a,h1,h2⟩:=hfpl a' ha'
  exact H.out a h1 id (by rw [h2]; exact hid)
 simp only [bD.ok] at hg
 have plain:xs=[]→(∃ b,(v=.d .cB∧b=true)∨(v=.d (.sl [] true)∧b=true))→∃ S',Has B S' l'∧∀ nt e e2,uS v (.sl xs false) e2 e→jh R nt e S e2 S':=fun hx hv=>by
  subst hx
  have hless:Less (.d (.sl [] false)) v:=by
   obtain ⟨b,⟨rfl,_⟩ | ⟨rfl,_⟩⟩:=hv
   ·
    exact FX
   ·
    exact Fs
  have hF:∀ {cs cs':List AV},ou v (.sl [] false) cs cs'→bS cs' cs:=fun h=>by
   induction h with
   | nil=>exact .nil
   | cons h k ih =>
    refine .cons ?_ ih
    cases h with
    | same=>exact .refl _
    | it=>exact hless
  let S':St:={ S with H:=AL.zI (wC l') S.H }
  have hget:∀ k,S'.H.get k=(S.H.get k).map (wC l' k):=fun k=>AL.sU _ _ _
  have ws:gy S' S:=by
   refine ⟨rfl,fun _=>rfl,fun k=>?_⟩
   rw [hget]
   cases hb:S.H.get k with
   | none=>exact jk.refl _
   | some b =>
    rw [Option.map_some]
    by_cases hk:∃ cs',bD.box k cs' ∈ l'
    ·
     obtain ⟨cs',hk⟩:=hk
     obtain ⟨cs,h1,h2⟩:=hz.zn hk
     have:=H.ok _ (hsub.subset h1)
     simp only [bD.ok] at this
     rw [hb] at this; cases this
     rw [tC nd' hk]
     exact ⟨rfl,hF h2⟩
    ·
     rw [oP (fun cs q=>hk ⟨cs,q⟩)]; exact jk.refl _
  refine ⟨S',⟨fun k hk=>H.wf k (ws.live.1 hk),bD.Cz hz nd' (fun a ha=>H.ok a (hsub.subset ha)) (fun a ha k hk=>hget k) rfl,nd',H.bwf,⟨H.keeps.nx,fun k b hb=>?_,H.keeps.T⟩,hout⟩,fun nt e e2 he cx w a h1 h2=>?_⟩
  ·
   rw [hget,H.keeps.H k b hb,Option.map_some,oP (fun cs q=>?_)]
   have:=(hout _ q k (by simp [bD.fp])).1
   rw [this] at hb; cases hb
  ·
   refine ⟨cx,h1.dL ws,Ext.dL ws (Ext.refl w (h1.dL ws).wf),⟨h2.size,fun t x hx=>?_⟩⟩
   obtain ⟨y,hy,hq⟩:=he t x hx
   obtain ⟨u,u1,u2⟩:=h2.rel t y hy
   refine ⟨u,u1,ay.dL ws ?_⟩
   rcases hq with hq | ⟨rfl,rfl⟩
   ·
    exact hq _ _ _ _ u2
   ·
    exact hless _ _ _ _ u2
 split at hg
 ·
  exact plain hg ⟨true,.inl ⟨rfl,rfl⟩⟩
 ·
  exact plain hg ⟨true,.inr ⟨rfl,rfl⟩⟩
 ·
  rename_i id g off len lim sz'
  obtain ⟨rfl,rfl,rfl,hszz,hpos,hsz,cs0,hcs0,hid⟩:=hg
  subst hszz
  let S':St:={ S with H:=AL.zI (wC l') (AL.del S.H id) }
  have hget:∀ k,S'.H.get k=if id=k then none else (S.H.get k).map (wC l' k):=fun k=>by
   show AL.get (AL.zI _ _) k=_
   rw [AL.sU,AL.lh]
   by_cases hk:id=k <;> simp [hk]
  have hnot:∀ a ∈ l',∀ k ∈ a.fp,id ≠ k:=fun a' ha' k hk hq=>by
   subst hq
   obtain ⟨a,h1,h2⟩:=hfp' a' ha'
   rw [← h2] at hk
   obtain ⟨j,hj,hja⟩:=List.mem_eraseIdx_iff_getElem?.1 h1
   exact uE H.nd hi hja (fun q=>hj q.symm) (id:=id) (by simp [bD.fp]) hk
  have hB:B.H.get id=none:=(H.out _ (List.mem_of_getElem? hi) id (by simp [bD.fp])).1
  have hlive:∀ k,live S' k→live S k:=fun k hk=>by
   unfold live cur at hk ⊢
   rw [hget] at hk
   by_cases hq:id=k
   ·
    subst hq; rw [hid]; simp
   ·
    rw [if_neg hq] at hk
    cases hb:S.H.get k with
    | none=>rw [hb] at hk; exact hk
    | some b=>cases b <;> simp
  refine ⟨S',⟨fun k hk=>H.wf k (hlive k hk),bD.Cz hz nd' (fun a ha=>H.ok a (hsub.subset ha)) (fun a ha k hk=>by rw [hget,if_neg (hnot a ha k hk)]) rfl,nd',H.bwf,⟨H.keeps.nx,fun k b hb=>?_,H.keeps.T⟩,hout⟩,fun nt e e2 he cx w a h1 h2=>?_⟩
  ·
   rw [hget,if_neg (fun q=>by subst q; rw [hB] at hb; cases hb),H.keeps.H k b hb,Option.map_some,oP (fun cs q=>?_)]
   have:=(hout _ q k (by simp [bD.fp])).1
   rw [this] at hb; cases hb
  ·
   have hA:∀ k b',S'.H.get k=some b'→k ≠ id∧∃ b,S.H.get k=some b∧Fa (.msl id g 0 xs.length xs.length sz') (.sl xs false) b b':=fun k b' hb'=>by
    rw [hget] at hb'
    by_cases hq:id=k
    ·
     rw [if_pos hq] at hb'; cases hb'
    ·
     rw [if_neg hq] at hb'
     obtain ⟨b,hb,rfl⟩:=Option.map_eq_some_iff.1 hb'
     refine ⟨fun q=>hq q.symm,b,hb,?_⟩
     by_cases hk:∃ cs',bD.box k cs' ∈ l'
     ·
      obtain ⟨cs',hk⟩:=hk
      obtain ⟨cs,h3,h4⟩:=hz.zn hk
      have:=H.ok _ (hsub.subset h3)
      simp only [bD.ok] at this
      rw [hb] at this; cases this
      rw [tC nd' hk]
      exact .inr ⟨0,cs,cs',rfl,rfl,h4⟩
     ·
      rw [oP (fun cs q=>hk ⟨cs,q⟩)]; exact .inl rfl
   obtain ⟨cx',k1,k2,k3⟩:=wO hR h1 hcs0 hid hpos hsz (S':=S') rfl rfl hA
   refine ⟨cx',k1,k2,⟨h2.size,fun t x hx=>?_⟩⟩
   obtain ⟨y,hy,hq⟩:=he t x hx
   obtain ⟨u,u1,u2⟩:=h2.rel t y hy
   refine ⟨u,u1,?_⟩
   rcases hq with hq | ⟨rfl,rfl⟩
   ·
    exact (hq _ _ _ _ u2).mono k2
   ·
    exact k3 u u2
 ·
  exact hg.elim
end
end Go.Ev

namespace Go.Ev
noncomputable section
set_option linter.unusedVariables false
set_option linter.unusedSimpArgs false
variable {R:aR} {P:Program} {B:St}
theorem bS.drop {ys xs:List AV} (h:bS ys xs):∀ n,bS (ys.drop n) (xs.drop n):=by
 induction h with
 | nil=>intro n; rw [List.drop_nil]; exact .nil
 | cons h k ih=>intro n; cases n with
  | zero=>exact .cons h k
  | succ n=>exact ih n
theorem bS.take {ys xs:List AV} (h:bS ys xs):∀ n,bS (ys.take n) (xs.take n):=by
 induction h with
 | nil=>intro n; rw [List.take_nil]; exact .nil
 | cons h k ih=>intro n; cases n with
  | zero=>exact .nil
  | succ n=>exact .cons h (ih n)
theorem bS.append {a b c d:List AV} (h:bS a b) (k:bS c d):bS (a ++ c) (b ++ d):=by
 induction h with
 | nil=>exact k
 | cons h _ ih=>exact .cons h ih
theorem bS.set {ys xs:List AV} (h:bS ys xs) {y x:AV} (hl:Less y x):∀ n,bS (ys.set n y) (xs.set n x):=by
 induction h with
 | nil=>intro n; exact .nil
 | cons h k ih=>intro n; cases n with
  | zero=>exact .cons hl k
  | succ n=>exact .cons h (ih n)
theorem bS.setAt {cy cx:List AV} (hc:bS cy cx):∀ {ys xs:List AV} (h:bS ys xs) (n:Nat),bS (setAt ys n cy) (setAt xs n cx):=by
 induction hc with
 | nil=>intro ys xs h n; exact h
 | cons h k ih=>intro ys xs hh n; exact ih (hh.set h n) (n + 1)
theorem uZ {α β:Type} (f:α→β):∀ (l cs:List α) (n:Nat),(setAt cs n l).map f=setAt (cs.map f) n (l.map f)
 | [],cs,n=>rfl
 | x :: l,cs,n=>by rw [setAt,uZ f l,List.map_set]; rfl
theorem wD {cx:Cx} {S:St} {w:World} {d:D} {v:Value} (h:ay cx S w (.d d) v) (hd:d.isAgg=false):v.oneCell'=true∧v.cells.toList=[v]:=by
 have h2:=h.dd.2
 have h1:=h.dd.1
 rw [hd] at h2
 cases v with
 | agg _=>cases h2
 | tuple vs =>
  generalize hcs:(Value.tuple vs).cells.toList=cs at h1
  cases h1 <;> first | (simp [Value.cells] at hcs; done) | (cases hd; done)
 | _=>exact ⟨rfl,rfl⟩
theorem Less.EG {ws:List AV} {ds:List D} (h:bS (ds.map .d) ws) (hf:fw ds=true):Less (.d (.agg ds)) (Ev.gz ws):=by
 intro cx S w v hr
 have hall:∀ d ∈ ds,d.isAgg=false:=by
  clear h
  induction ds with
  | nil=>intro d hd; cases hd
  | cons z ys ih =>
   simp only [fw,Bool.and_eq_true,Bool.not_eq_true'] at hf
   intro d hd
   rcases List.mem_cons.1 hd with rfl | hd
   ·
    exact hf.1
   ·
    exact ih hf.2 d hd
 have hlen:ws.length=ds.length:=by have:=h.len; rw [List.length_map] at this; exact this.symm
 have core:∀ (vs:List Value),vs.length=ws.length→(∀ u ∈ vs,u.oneCell'=true)→(∀ (i:Nat) (x:AV) (u:Value),ws[i]? = some x→vs[i]? = some u→ay cx S w x u)→dB w cx.fr (.agg ds) vs:=fun vs hl ho hh=>by
  refine .agg ds vs (by rw [hl,hlen]) ho hall (fun i d u hd hu=>?_)
  have hlt:i < ws.length:=by rw [hlen]; exact (List.getElem?_eq_some_iff.1 hd).1
  have hx:=List.getElem?_eq_getElem hlt
  have hd':=h.get (i:=i) (by rw [List.getElem?_map,hd]; rfl) hx _ _ _ _ (hh i _ u hx hu)
  have:=hd'.dd.1
  rwa [(wD hd' (hall d (List.mem_of_getElem? hd))).2] at this
 unfold Ev.gz at hr
 split at hr
 ·
  rename_i xs hxs
  have hws:ws=xs.map .d:=by
   clear hr core hlen h
   induction ws generalizing xs with
   | nil=>simp [rq] at hxs; subst hxs; rfl
   | cons x l ih =>
    cases x <;> simp only [rq] at hxs <;> try (cases hxs)
    obtain ⟨ys,h1,rfl⟩:=Option.map_eq_some_iff.1 hxs
    rw [ih ys h1]; rfl
  have hd:=hr.dd
  refine .d _ _ ⟨?_,hd.2⟩
  have h1:=hd.1
  generalize hcs:v.cells.toList=cs at h1 ⊢
  cases h1 with
  | agg _ _ hl ho hn hh =>
   refine core cs (by rw [hws,List.length_map]; exact hl) ho (fun i x u hx hu=>?_)
   rw [hws,List.getElem?_map,Option.map_eq_some_iff] at hx
   obtain ⟨y,hy,rfl⟩:=hx
   have:=hh i y u hy hu
   have ho':=ho u (List.mem_of_getElem? hu)
   exact .d _ _ ⟨by rw [(kC ho').1]; exact this,by rw [(kC ho').2]; exact hn y (List.mem_of_getElem? hy)⟩
 ·
  cases hr with
  | agg _ vs hl ho hh =>
   refine .d _ _ ⟨?_,rfl⟩
   simp only [Value.cells]
   exact core vs hl ho hh
def jX (v p:AV) (n off:Nat):Prop:=∃ id g len lim sz,v=.msl id g 0 len lim sz∧p=.ptr id g (n * sz + off)
theorem rA {S:St} {sz:Nat} {v:AV} {xs:List D} (h:(bD.row sz v xs).ok S) {n:Nat} {d:D} (hn:xs[n]? = some d) :
  ∃ id g cs,v=.msl id g 0 xs.length xs.length sz∧0 < sz∧(∀ x ∈ xs,x.cells.length=sz∧fw x.cells=true)∧bS ((xs.map D.cells).flatten.map .d) cs∧S.H.get id=some (.cells g cs):=by
 simp only [bD.ok] at h
 split at h
 ·
  subst h; simp at hn
 ·
  subst h; simp at hn
 ·
  rename_i id g off len lim sz'
  obtain ⟨rfl,rfl,rfl,rfl,h1,h2,cs,h3,h4⟩:=h
  exact ⟨id,g,cs,rfl,h1,h2,h3,h4⟩
 ·
  exact h.elim
section
variable {C:bQ} {ρ:Operand→Option AV} {S:St} {l:List bD} {x y:Operand} {t:Nat} {v:AV}
theorem xG {α:Type} {enc:α→D} {xs:List α} {i sz:Nat} (H:Has B S l) (hi:l[i]? = some (.row sz v (xs.map enc))) {n:Int} {k:IntKind} {z:α} {el:Nat} (hx:ρ x=some v) (hy:ρ y=some (.d (.int k n)))
  (h:idx xs n=some z) (he:aV C.P t=some el) (ha:(dJ C.P el).isSome=true) (hz:(enc z).cells.length=ax C.P el) :
  ∃ p,oper C ρ S (.indexAddr t x y)=some (.val p S)∧jX v p n.toNat 0:=by
 obtain ⟨h0,h1⟩:=gW h
 have hm:(xs.map enc)[n.toNat]? = some (enc z):=by rw [List.getElem?_map,h1]; rfl
 obtain ⟨id,g,cs,rfl,hpos,hsz,hcs,hid⟩:=rA (H.at hi) hm
 have hszel:sz=ax C.P el:=by rw [← hz]; exact ((hsz _ (List.mem_of_getElem? hm)).1).symm
 have hlt:n.toNat < (xs.map enc).length:=(List.getElem?_eq_some_iff.1 hm).1
 refine ⟨_,dA hx hy (r:=.ptr id g (0 + n.toNat * ax C.P el)) ?_,id,g,_,_,sz,rfl,by rw [hszel]; simp⟩
 simp only [dM,he,h0,ha,decide_true,Bool.and_self,if_true]
 rw [if_pos ⟨hlt,hszel⟩]
theorem uP {s fld fo ft o' n off:Nat} {p:AV} (hp:jX v p n off) (h:ρ x=some p) (hf:bW C.P s fld=some (fo,ft)) (hz:Nat.beq (ax C.P ft) 0=false) (ho:off + fo=o') :
  ∃ p',oper C ρ S (.fieldAddr s x fld)=some (.val p' S)∧jX v p' n o':=by
 obtain ⟨id,g,len,lim,sz,rfl,rfl⟩:=hp
 subst ho
 exact ⟨_,aA h hf hz rfl,id,g,len,lim,sz,rfl,by rw [Nat.add_assoc]⟩
theorem xN {xs:List D} {sz:Nat} (hsz:∀ x ∈ xs,x.cells.length=sz):∀ {n:Nat} {d:D},xs[n]? = some d→∃ a b,(xs.map D.cells).flatten=a ++ d.cells ++ b∧a.length=n * sz∧∀ d',((xs.set n d').map D.cells).flatten=a ++ d'.cells ++ b:=by
 induction xs with
 | nil=>intro n d h; simp at h
 | cons y xs ih =>
  intro n d h
  cases n with
  | zero =>
   simp at h; subst h
   exact ⟨[],(xs.map D.cells).flatten,by simp,by simp,fun d'=>by simp⟩
  | succ n =>
   obtain ⟨a,b,h1,h2,h3⟩:=ih (fun x hx=>hsz x (List.mem_cons_of_mem _ hx)) (n:=n) (by simpa using h)
   refine ⟨y.cells ++ a,b,by rw [List.map_cons,List.flatten_cons,h1]; simp,?_,fun d'=>by rw [List.set_cons_succ,List.map_cons,List.flatten_cons,h3]; simp⟩
   rw [List.length_append,h2,hsz y List.mem_cons_self,Nat.add_mul,Nat.one_mul]; omega
theorem Bg {l:List D} (h:fw l=true):∀ {i:Nat} {d:D},l[i]? = some d→d.isAgg=false:=by
 induction l with
 | nil=>intro i d hd; simp at hd
 | cons y l ih =>
  simp only [fw,Bool.and_eq_true,Bool.not_eq_true'] at h
  intro i d hd
  cases i with
  | zero=>simp at hd; subst hd; exact h.1
  | succ i=>exact ih h.2 (by simpa using hd)
theorem Cc {l:List D} (h:∀ d ∈ l,d.isAgg=false):fw l=true:=by
 induction l with
 | nil=>rfl
 | cons y l ih=>simp only [fw,h y List.mem_cons_self,ih (fun d hd=>h d (List.mem_cons_of_mem _ hd)),Bool.not_false,Bool.and_self]
theorem Bp {l:List D} (h:fw l=true):∀ d ∈ l,d.isAgg=false:=fun d hd=>by
 obtain ⟨i,hi,rfl⟩:=List.getElem_of_mem hd
 exact Bg h (List.getElem?_eq_getElem hi)
theorem wZ {xs:List D} {i n off sz:Nat} {d r:D} {p:AV} (H:Has B S l) (hi:l[i]? = some (.row sz v xs)) (hp:jX v p n off) (hd:xs[n]? = some d) (h:ρ x=some p) (hr:gG C.P t d.cells off=some r) :
  ∃ w,oper C ρ S (.load t x)=some (.val w S)∧Less (.d r) w:=by
 obtain ⟨id,g,cs,rfl,hpos,hsz,hcs,hid⟩:=rA (H.at hi) hd
 obtain ⟨id',g',len,lim,sz',he,rfl⟩:=hp
 cases he
 have hdl:=hsz d (List.mem_of_getElem? hd)
 obtain ⟨a,b,h1,h2,h3⟩:=xN (fun x hx=>(hsz x hx).1) hd
 have hlen:cs.length=((xs.map D.cells).flatten).length:=by have:=hcs.len; rw [List.length_map] at this; exact this.symm
 rw [h1] at hcs hlen
 simp only [List.length_append,h2,hdl.1] at hlen
 have key:∃ w,part C.P t cs (n * sz + off)=some w∧Less (.d r) w:=by
  unfold gG at hr
  unfold part
  split at hr
  ·
   rename_i hag
   split at hr
   ·
    rename_i hb
    cases hr
    rw [hdl.1] at hb
    refine ⟨_,?_,Less.EG (ws:=(cs.drop (n * sz + off)).take (ax C.P t)) ?_ ?_⟩
    ·
     rw [if_pos (by omega)]
    ·
     have:=(hcs.drop (n * sz + off)).take (ax C.P t)
     rw [← List.map_drop,← List.map_take] at this
     have e:((a ++ d.cells ++ b).drop (n * sz + off)).take (ax C.P t)=(d.cells.drop off).take (ax C.P t):=by
      rw [List.append_assoc,← h2,List.drop_append,List.drop_of_length_le (by omega),List.nil_append,show a.length + off - a.length=off by omega,List.drop_append,List.take_append]
      rw [show ax C.P t - (d.cells.drop off).length=0 by rw [List.length_drop,hdl.1]; omega,List.take_zero,List.append_nil]
     rw [e] at this; exact this
    ·
     refine Cc (fun c hc=>Bp hdl.2 c ?_)
     exact List.mem_of_mem_drop (List.mem_of_mem_take hc)
   ·
    cases hr
  ·
   rename_i hag
   have hlt:off < d.cells.length:=(List.getElem?_eq_some_iff.1 hr).1
   rw [hdl.1] at hlt
   have hx:=List.getElem?_eq_getElem (l:=cs) (i:=n * sz + off) (by omega)
   refine ⟨_,hx,hcs.get (i:=n * sz + off) ?_ hx⟩
   rw [List.getElem?_map,List.append_assoc,List.getElem?_append_right (by omega),h2,show n * sz + off - n * sz=off by omega,List.getElem?_append_left (by rw [hdl.1]; exact hlt),hr]; rfl
  ·
   cases hr
 obtain ⟨w,k1,k2⟩:=key
 exact ⟨w,by simp only [oper,h,jJ,St.look,hid,Nat.beq_refl,cond_true,k1,Option.map_some],k2⟩
theorem CJ {α:Type} {a b cs cv:List α} {off:Nat} (h:off + cv.length ≤ cs.length):setAt (a ++ cs ++ b) (a.length + off) cv=a ++ setAt cs off cv ++ b:=by
 induction cv generalizing cs off with
 | nil=>rfl
 | cons c cv ih =>
  simp only [List.length_cons] at h
  rw [setAt,setAt]
  have e:(a ++ cs ++ b).set (a.length + off) c=a ++ cs.set off c ++ b:=by
   rw [List.append_assoc,List.set_append_right _ _ (by omega),show a.length + off - a.length=off by omega,List.set_append_left _ _ (by omega),← List.append_assoc]
  rw [e,Nat.add_assoc]
  exact ih (by rw [List.length_set]; omega)
theorem uR {xs:List D} {i n off sz:Nat} {d d':D} {p vy:AV} {cv:List D} (H:Has B S l) (hi:l[i]? = some (.row sz v xs)) (hp:jX v p n off) (hd:xs[n]? = some d) (h:ρ x=some p) (hy:ρ y=some vy)
  (hcv:bS (cv.map .d) vy.cells) (hn:cv.length=ax C.P t) (hpl:vy.plain=true) (hag:(dJ C.P t).isSome=true) (hb:Nat.ble (off + cv.length) d.cells.length=true) (hs:setAt d.cells off cv=d'.cells) (hf:fw d'.cells=true) :
  ∃ S',oper C ρ S (.store t x y)=some (.skip S')∧Has B S' (l.set i (.row sz v (xs.set n d'))):=by
 obtain ⟨id,g,cs,rfl,hpos,hsz,hcs,hid⟩:=rA (H.at hi) hd
 obtain ⟨id',g',len,lim,sz',he,rfl⟩:=hp
 cases he
 have hdl:=hsz d (List.mem_of_getElem? hd)
 obtain ⟨a,b,h1,h2,h3⟩:=xN (fun x hx=>(hsz x hx).1) hd
 have hlen:cs.length=((xs.map D.cells).flatten).length:=by have:=hcs.len; rw [List.length_map] at this; exact this.symm
 have hb:=Nat.le_of_ble_eq_true hb
 have hvl:vy.cells.length=cv.length:=by have:=hcv.len; rw [List.length_map] at this; exact this.symm
 rw [h1] at hlen
 simp only [List.length_append,h2,hdl.1] at hlen
 rw [hdl.1] at hb
 refine ⟨{ S with H:=S.H.set id (.cells g (setAt cs (n * sz + off) vy.cells)) },?_,?_⟩
 ·
  simp only [oper,h,hy,oN,hid]
  rw [if_pos ⟨hvl.trans hn,hpl,hag⟩,if_pos trivial,if_pos (by omega)]
  rfl
 ·
  refine H.set hi rfl ?_ (fun j hl=>?_) (fun j hj=>?_) (fun j hj=>rfl) rfl
  ·
   refine ⟨rfl,by simp,by simp,rfl,hpos,fun z hz=>?_,_,?_,by simp [AL.aG]; rfl⟩
   ·
    rcases List.mem_or_eq_of_mem_set hz with hz | rfl
    ·
     exact hsz z hz
    ·
     exact ⟨by rw [← hs,vK]; exact hdl.1,hf⟩
   ·
    rw [h3,← hs,← CJ (by rw [hdl.1]; exact hb),h2,uZ,← h1]
    exact bS.setAt hcv hcs _
  ·
   refine H.wf j ?_
   unfold live cur at hl ⊢
   simp only [AL.aG] at hl
   by_cases hij:id=j
   ·
    subst hij; rw [hid]; simp
   ·
    rw [if_neg hij] at hl; exact hl
  ·
   simp only [bD.fp,List.mem_singleton] at hj
   simp only [AL.aG]
   rw [if_neg (fun q=>hj q.symm)]
theorem Ba {xs:List D} {i tt sz:Nat} (H:Has B S l) (hi:l[i]? = some (.row sz v xs)) (h:(aV C.P tt).isSome=true):jU C tt v=true∧gT v S=some xs.length:=by
 have hg:=H.at hi
 have hu:∃ e,C.P.underlying tt=some (.slice e):=by
  unfold aV at h
  split at h
  ·
   rename_i hu; exact ⟨_,hu⟩
  ·
   cases h
 obtain ⟨e,hu⟩:=hu
 simp only [bD.ok] at hg
 split at hg
 ·
  subst hg; exact ⟨by simp [jU,hu],rfl⟩
 ·
  subst hg; exact ⟨by simp [jU,hu],rfl⟩
 ·
  obtain ⟨rfl,rfl,rfl,_⟩:=hg; exact ⟨by simp [jU,hu],rfl⟩
 ·
  exact hg.elim
theorem mP {α:Type} {enc:α→D} {xs:List α} {tt i sz:Nat} (H:Has B S l) (hi:l[i]? = some (.row sz v (xs.map enc))) (h:ρ x=some v) (ht:(aV C.P tt).isSome=true):oper C ρ S (.call { callee:=.builtin .len,args:=#[x],argTypes:=#[tt] })=some (.val (.d (.int .i64 (xs.length:Int))) S):=by
 obtain ⟨h1,h2⟩:=Ba (C:=C) H hi ht
 exact oQ h h1 (by rw [h2]; simp)
end
end
end Go.Ev

namespace Go.Ev
noncomputable section
set_option linter.unusedVariables false
set_option linter.unusedSimpArgs false
variable {R:aR} {P:Program} {B:St}
theorem zU {C:bQ} {S:St} {y:AV} {ys:List D} {sz:Nat} (h:fM y=some ys) (hs:sizes sz ys=true):iY S sz y=some ((ys.map D.cells).flatten.map .d,ys.length):=by
 cases y with
 | d x=>cases x <;> simp only [fM] at h <;> first | (cases h; done) | (cases h; simp [iY,mO,fM,hs,sizes]; try simpa [sizes] using hs)
 | tsl zs tok=>simp only [fM] at h; cases h; simp [iY,mO,fM,hs]
 | _=>simp only [fM] at h; cases h
section
variable {C:bQ} {ρ:Operand→Option AV} {S:St} {l:List bD} {x y:Operand} {t:Nat} {v:AV}
theorem tq {i u:Nat} {vy:AV} {xs ys:List D} {el nb:Nat} (H:Has B S l) (hx:ρ x=some v) (hy:ρ y=some vy) (hi:l[i]? = some (.row (ax C.P el) v xs)) (hd:fM vy=some ys) (hnr:C.rowT t=true) (hu:eu C u=true) (he:aV C.P t=some el)
  (hb:(xs.length + ys.length) * nb ≤ bound) (hnb:bytesOf C.P el=nb) (h0:(Nat.blt 0 nb && Nat.ble nb 65536)=true) (hsy:sizes (ax C.P el) ys=true) (hfy:∀ z ∈ ys,fw z.cells=true) (hpos:Nat.blt 0 (ax C.P el)=true) (hz:dE C el=true) :
  ∃ v' S',oper C ρ S (.call { callee:=.builtin .append,args:=#[x,y],argTypes:=#[t,u] })=some (.val v' S')∧Has B S' (l.set i (.row (ax C.P el) v' (xs ++ ys))):=by
 subst hnb
 have hm:dQ ρ [x,y]=some [v,vy]:=by simp only [dQ,hx,hy,Option.map_some]
 have hpos:0 < ax C.P el:=Nat.le_of_ble_eq_true hpos
 have hinfo:(C.P.info? el).isSome=true:=by
  unfold dE at hz
  cases hq:C.P.info? el with
  | none=>rw [hq] at hz; cases hz
  | some x=>rfl
 have hgrow:∀ n,n=xs.length + ys.length→pQ C el n=true:=fun n hn=>by
  simp only [Bool.and_eq_true] at h0
  simp only [pQ,hz,Bool.and_true,Bool.and_eq_true]
  exact ⟨⟨Nat.ble_eq_true_of_le (by rw [hn]; exact hb),h0.1⟩,h0.2⟩
 have hsrc:=zU (C:=C) (S:=S) hd hsy
 have hil:i < l.length:=(List.getElem?_eq_some_iff.1 hi).1
 have hsame:∀ w,l[i]? = some (.row (ax C.P el) w xs)→l.set i (.row (ax C.P el) w xs)=l:=fun w hw=>by
  apply List.ext_getElem?
  intro j
  rw [List.getElem?_set]
  by_cases hij:i=j
  ·
   subst hij; simp [hil]; exact (List.getElem?_eq_some_iff.1 hw).2.symm
  ·
   simp [hij]
 have fresh:S.H.get S.nx=none:=H.wf.fresh (Nat.le_refl _)
 have hysz:=jC hsy
 have first:∀ w,(w=.d .cB∨w=.d (.sl [] true))→l[i]? = some (.row (ax C.P el) w xs)→xs=[]→∃ v' S',fH C el S w [] vy=some (v',S')∧Has B S' (l.set i (.row (ax C.P el) v' (xs ++ ys))):=fun w hw hiw hxs=>by
  subst hxs
  by_cases hn:ys.length=0
  ·
   have:ys=[]:=List.eq_nil_of_length_eq_zero hn
   subst this
   refine ⟨w,S,?_,?_⟩
   ·
    simp only [fH,hsrc,List.length_nil,if_true,hinfo]
   ·
    rw [List.append_nil,hsame w hiw]; exact H
  ·
   refine ⟨.msl S.nx 0 0 ys.length ys.length (ax C.P el),{ S with H:=S.H.set S.nx (.cells 0 ((ys.map D.cells).flatten.map .d)),nx:=S.nx + 1 },?_,?_⟩
   ·
    simp only [fH,hsrc]
    rw [if_neg hn,if_pos ⟨hn,hpos,rfl,by rw [List.length_nil]; exact hgrow _ (by simp)⟩]
    simp
   ·
    have hfp:(bD.row (ax C.P el) w []).fp=[]:=by rcases hw with rfl | rfl <;> rfl
    refine H.Cf hiw hfp rfl ⟨rfl,rfl,rfl,rfl,hpos,fun z hz=>⟨hysz z hz,hfy z hz⟩,_,.refl _,by simp [AL.aG]⟩ (fun id hl=>?_) (fun id hid=>by simp only [AL.aG]; rw [if_neg (by omega)]) (fun id hid=>rfl) (Nat.le_succ _)
    show id < S.nx + 1
    unfold live cur at hl
    simp only [AL.aG] at hl
    by_cases hq:S.nx=id
    ·
     omega
    ·
     rw [if_neg hq] at hl
     have:=H.wf id hl
     omega
 have hg:=H.at hi
 simp only [oper,hm,dZ,List.getElem?_toArray,List.getElem?_cons_zero,List.getElem?_cons_succ,hu,if_true,he]
 simp only [bD.ok] at hg
 split at hg
 ·
  subst hg
  obtain ⟨v',S',h1,h2⟩:=first _ (.inl rfl) hi rfl
  exact ⟨v',S',by simp only [hnr,cond_true,h1,Option.map_some],h2⟩
 ·
  subst hg
  obtain ⟨v',S',h1,h2⟩:=first _ (.inr rfl) hi rfl
  exact ⟨v',S',by simp only [hnr,cond_true,h1,Option.map_some],h2⟩
 ·
  rename_i id g off len lim sz'
  obtain ⟨rfl,rfl,rfl,rfl,_,hsz,cs,hcs,hid⟩:=hg
  have hlen:cs.length=xs.length * ax C.P el:=by
   have:=hcs.len
   rw [List.length_map,yV (fun x hx=>(hsz x hx).1)] at this; exact this.symm
  by_cases hn:ys.length=0
  ·
   have:ys=[]:=List.eq_nil_of_length_eq_zero hn
   subst this
   refine ⟨.msl id g 0 xs.length xs.length (ax C.P el),S,?_,?_⟩
   rotate_left 1
   ·
    rw [List.append_nil,hsame _ hi]; exact H
   ·
    simp only [kK,hsrc,St.look,hid,Nat.beq_refl,cond_true]
    rw [if_pos ⟨trivial,hpos,by omega⟩]
    simp
  ·
   refine ⟨.msl id (g + 1) 0 (xs.length + ys.length) (xs.length + ys.length) (ax C.P el),{ S with H:=S.H.set id (.cells (g + 1) (cs.take (xs.length * ax C.P el) ++ (ys.map D.cells).flatten.map .d)) },?_,?_⟩
   ·
    have hm':0 < ys.length * ax C.P el:=Nat.mul_pos (by omega) hpos
    simp only [kK,hsrc,St.look,hid,Nat.beq_refl,cond_true]
    rw [if_pos ⟨trivial,hpos,by omega⟩,if_neg hn,if_neg (by omega),if_pos ⟨trivial,hgrow _ rfl⟩]
    rfl
   ·
    refine H.set hi rfl ⟨rfl,by simp,by simp,rfl,hpos,fun z hz=>?_,cs.take (xs.length * ax C.P el) ++ (ys.map D.cells).flatten.map .d,?_,by simp only [AL.aG,if_true]⟩ (fun j hl=>?_) (fun j hj=>?_) (fun j hj=>rfl) rfl
    ·
     rcases List.mem_append.1 hz with hz | hz
     ·
      exact hsz z hz
     ·
      exact ⟨hysz z hz,hfy z hz⟩
    ·
     rw [List.map_append,List.flatten_append,List.map_append,← hlen,List.take_of_length_le (Nat.le_refl _)]
     exact hcs.append (.refl _)
    ·
     refine H.wf j ?_
     unfold live cur at hl ⊢
     simp only [AL.aG] at hl
     by_cases hij:id=j
     ·
      subst hij; rw [hid]; simp
     ·
      rw [if_neg hij] at hl; exact hl
    ·
     simp only [bD.fp,List.mem_singleton] at hj
     simp only [AL.aG]
     rw [if_neg (fun q=>hj q.symm)]
 ·
  exact hg.elim
theorem Has.Gj {B S:St} {l:List bD} (H:Has B S l) (sz:Nat):Has B S (.row sz (.d .cB) [] :: l):=H.Ay rfl rfl
theorem Has.EK {B S:St} {l:List bD} (H:Has B S l) (sz:Nat):Has B S (.row sz (.d (.sl [] true)) [] :: l):=H.Ay rfl rfl
end
theorem bT.lU {f:Nat} {args:List AV} {S:St} {Q:Out→Prop} (h:bT R P f args S Q):bT R P f args S (fun o=>Q o∧∀ id b,o.2.2.H.get id=some b→o.2.2.T.get id=none) :=
 ⟨h.1,fun cx w us h1 h2 h3=>(h.2 cx w us h1 h2 h3).mono fun e w' ⟨r,q,cx',k,k2⟩=>⟨r,⟨q,k.lU⟩,cx',k,k2⟩⟩
theorem aC.Eb:∀ {args:List AV} {ds:List D},aC args ds→bS (ds.map .d) args
 | [],ds,⟨ds',h1,h2⟩=>by simp [fO] at h1; subst h1; cases h2; exact .nil
 | x :: xs,ds,⟨ds',h1,h2⟩=>by
  simp only [fO] at h1
  split at h1
  ·
   rename_i d hd
   obtain ⟨ds2,h3,rfl⟩:=Option.map_eq_some_iff.1 h1
   cases h2 with
   | cons h k=>exact .cons (fun cx S w v hr=>.d _ _ (h _ _ _ (dW hd hr))) (aC.Eb ⟨ds2,h3,k⟩)
  ·
   cases h1
section
variable {C:bQ} {nt:Nat}
section steps
variable {ops:Array Oper} {rest:List Oper} {e:Env} {S S':St} {Q:Stp→Prop} {l l':List bD} {t ty:Nat} {p:String} {af:Array Edge} {g:Option (Nat × Bool)} {x y:Operand} {v:AV}
theorem ah.Em {α:Type} {enc:α→D} {xs:List α} {i sz tt:Nat} {n:Int} {k:IntKind} {z:α} {el:Nat} (H:Has B S l) (hw:bg ops e { dst:=some t,op:=.indexAddr tt x y,type:=ty,pos:=p,after:=af,guard:=g }=some true) (hi:l[i]? = some (.row sz v (xs.map enc))) (hx:bA e x=some v) (hy:bA e y=some (.d (.int k n)))
  (h:idx xs n=some z) (he:aV C.P tt=some el) (ha:(dJ C.P el).isSome=true) (hz:(enc z).cells.length=ax C.P el) (ht:Nat.blt t nt=true)
  (k:∀ p,jX v p n.toNat 0→ah R C nt ops rest ((t,p) :: e) S Q) :
  ah R C nt ops ({ dst:=some t,op:=.indexAddr tt x y,type:=ty,pos:=p,after:=af,guard:=g } :: rest) e S Q:=by
 obtain ⟨p,h1,h2⟩:=xG (C:=C) (ρ:=bA e) H hi hx hy h he ha hz
 exact ah.val hw h1 ht (k p h2)
theorem ah.Dr {s fld fo ft o' n off:Nat} {q:AV} (hp:jX v q n off) (hw:bg ops e { dst:=some t,op:=.fieldAddr s x fld,type:=ty,pos:=p,after:=af,guard:=g }=some true) (h:bA e x=some q) (hf:bW C.P s fld=some (fo,ft)) (hz:Nat.beq (ax C.P ft) 0=false) (ho:off + fo=o') (ht:Nat.blt t nt=true)
  (k:∀ p,jX v p n o'→ah R C nt ops rest ((t,p) :: e) S Q) :
  ah R C nt ops ({ dst:=some t,op:=.fieldAddr s x fld,type:=ty,pos:=p,after:=af,guard:=g } :: rest) e S Q:=by
 obtain ⟨p,h1,h2⟩:=uP (C:=C) (S:=S) (ρ:=bA e) hp h hf hz ho
 exact ah.val hw h1 ht (k p h2)
theorem ah.DJ {xs:List D} {i n off sz tt:Nat} {d r:D} {q:AV} (H:Has B S l) (hw:bg ops e { dst:=some t,op:=.load tt x,type:=ty,pos:=p,after:=af,guard:=g }=some true) (hi:l[i]? = some (.row sz v xs)) (hp:jX v q n off) (hd:xs[n]? = some d) (h:bA e x=some q) (hr:gG C.P tt d.cells off=some r) (ht:Nat.blt t nt=true)
  (k:ah R C nt ops rest ((t,.d r) :: e) S Q) :
  ah R C nt ops ({ dst:=some t,op:=.load tt x,type:=ty,pos:=p,after:=af,guard:=g } :: rest) e S Q:=by
 obtain ⟨w,h1,h2⟩:=wZ (C:=C) (ρ:=bA e) H hi hp hd h hr
 exact ah.val hw h1 ht (ah.less h2 k)
theorem ah.Cn {xs:List D} {i n off sz tt:Nat} {d d':D} {q vy:AV} {cv:List D} (H:Has B S l) (hw:bg ops e { dst:=none,op:=.store tt x y,type:=ty,pos:=p,after:=af,guard:=g }=some true) (hi:l[i]? = some (.row sz v xs)) (hp:jX v q n off) (hd:xs[n]? = some d) (h:bA e x=some q) (hy:bA e y=some vy)
  (hcv:bS (cv.map .d) vy.cells) (hn:cv.length=ax C.P tt) (hpl:vy.plain=true) (hag:(dJ C.P tt).isSome=true) (hb:Nat.ble (off + cv.length) d.cells.length=true) (hs:setAt d.cells off cv=d'.cells) (hf:fw d'.cells=true)
  (hl:l.set i (.row sz v (xs.set n d'))=l') (k:∀ S',Has B S' l'→ah R C nt ops rest e S' Q) :
  ah R C nt ops ({ dst:=none,op:=.store tt x y,type:=ty,pos:=p,after:=af,guard:=g } :: rest) e S Q:=by
 subst hl
 obtain ⟨S',h1,h2⟩:=uR (C:=C) (ρ:=bA e) H hi hp hd h hy hcv hn hpl hag hb hs hf
 exact ah.skip hw h1 (k S' h2)
theorem ah.mV {i u t1:Nat} {vy:AV} {xs ys zs:List D} {el nb sz:Nat} (H:Has B S l) (hw:bg ops e { dst:=some t,op:=.call { callee:=.builtin .append,args:=#[x,y],argTypes:=#[t1,u] },type:=ty,pos:=p,after:=af,guard:=g }=some true)
  (hx:bA e x=some v) (hy:bA e y=some vy) (hi:l[i]? = some (.row sz v xs)) (hsz:ax C.P el=sz) (hd:fM vy=some ys) (hnr:C.rowT t1=true) (hu:eu C u=true) (he:aV C.P t1=some el)
  (hb:(xs.length + ys.length) * nb ≤ bound) (hnb:bytesOf C.P el=nb) (h0:(Nat.blt 0 nb && Nat.ble nb 65536)=true) (hsy:sizes (ax C.P el) ys=true) (hfy:∀ z ∈ ys,fw z.cells=true) (hpos:Nat.blt 0 sz=true) (hz:dE C el=true) (ht:Nat.blt t nt=true) (hzs:xs ++ ys=zs)
  (k:∀ v' S',Has B S' (l.set i (.row sz v' zs))→ah R C nt ops rest ((t,v') :: e) S' Q) :
  ah R C nt ops ({ dst:=some t,op:=.call { callee:=.builtin .append,args:=#[x,y],argTypes:=#[t1,u] },type:=ty,pos:=p,after:=af,guard:=g } :: rest) e S Q:=by
 subst hzs
 subst hsz
 obtain ⟨v',S',h1,h2⟩:=tq (C:=C) (ρ:=bA e) H hx hy hi hd hnr hu he hb hnb h0 hsy hfy hpos hz
 exact ah.val hw h1 ht (k v' S' h2)
end steps
end
end
end Go.Ev

namespace Go.Ev
noncomputable section
set_option linter.unusedVariables false
set_option linter.unusedSimpArgs false
variable {R:aR} {P:Program} {B:St}
def gV {α:Type} (l:List α) (n:Int) (z:α):List α:=l.set n.toNat z
theorem oU {α:Type} {enc:α→D} (h:∀ x,fw (enc x).cells=true) (l:List α):∀ z ∈ l.map enc,fw z.cells=true:=fun z hz=>by
 obtain ⟨x,_,rfl⟩:=List.mem_map.1 hz
 exact h x
inductive ma (sz:Nat):List AV→List (List AV)→Prop
 | nil:ma sz [] []
 | cons {v:AV} {c:List AV} {vs:List AV} {cs:List (List AV)} (h:jd v=some c) (hl:c.length=sz) (k:ma sz vs cs):ma sz (v :: vs) (c :: cs)
theorem yN {sz:Nat} {vs:List AV} {cs:List (List AV)} (h:ma sz vs cs):∀ (done:List (List AV)) (todo:List AV),(∀ d ∈ done,d.length=sz)→todo.length=vs.length * sz →
  fI jd (fun i=>some (i * sz,sz)) (done.flatten ++ todo) (nD done.length vs)=some ((done ++ cs).flatten):=by
 induction h with
 | nil =>
  intro done todo _ ht
  have:todo=[]:=List.eq_nil_of_length_eq_zero (by simpa using ht)
  subst this
  simp [nD,fI]
 | @cons v d vs ds h hl k ih =>
  intro done todo hd ht
  have hlen:(done.flatten).length=done.length * sz:=by
   clear ih ht
   induction done with
   | nil=>simp
   | cons x l ihl =>
    simp only [List.flatten_cons,List.length_append,hd x List.mem_cons_self,List.length_cons,ihl (fun d h=>hd d (List.mem_cons_of_mem _ h))]
    rw [Nat.add_mul]; omega
  simp only [List.length_cons] at ht
  rw [Nat.add_mul,Nat.one_mul] at ht
  simp only [nD,fI,h]
  rw [if_pos ⟨hl,by rw [List.length_append,hlen,hl]; omega⟩]
  have e1:todo=todo.take sz ++ todo.drop sz:=(List.take_append_drop sz todo).symm
  have e2:setAt (done.flatten ++ todo) (done.length * sz) d=((done ++ [d])).flatten ++ todo.drop sz:=by
   rw [e1,← List.append_assoc,← hlen,qj _ _ _ _ (by rw [hl,List.length_take]; omega)]
   simp
  rw [e2]
  have:=ih (done ++ [d]) (todo.drop sz) (fun x hx=>by
   rcases List.mem_append.1 hx with hx | hx
   ·
    exact hd x hx
   ·
    rw [List.mem_singleton.1 hx]; exact hl) (by rw [List.length_drop]; omega)
  rw [show (done ++ [d]).length=done.length + 1 by simp] at this
  rw [this]
  simp
inductive uq {α:Type} (enc:α→D):List α→List (List AV)→Prop
 | nil:uq enc [] []
 | cons {x:α} {c:List AV} {xs:List α} {cs:List (List AV)} (h:bS ((enc x).cells.map .d) c) (k:uq enc xs cs):uq enc (x :: xs) (c :: cs)
theorem uq.flat {α:Type} {enc:α→D} {xs:List α} {cs:List (List AV)} (h:uq enc xs cs):bS (((xs.map enc).map D.cells).flatten.map .d) cs.flatten∧xs.length=cs.length:=by
 induction h with
 | nil=>exact ⟨.nil,rfl⟩
 | cons h k ih=>exact ⟨by simp only [List.map_cons,List.flatten_cons,List.map_append]; exact h.append ih.1,by simp [ih.2]⟩
theorem ma.len {sz:Nat} {vs:List AV} {cs:List (List AV)} (h:ma sz vs cs):vs.length=cs.length∧∀ c ∈ cs,c.length=sz:=by
 induction h with
 | nil=>exact ⟨rfl,by simp⟩
 | cons h hl k ih=>exact ⟨by simp [ih.1],fun d hd=>by rcases List.mem_cons.1 hd with rfl | hd; exact hl; exact ih.2 d hd⟩
theorem uQ {α:Type} {enc:α→D} {C:bQ} {ρ:Operand→Option AV} {S:St} {l:List bD} {t n el sz:Nat} {ps:Array (Nat × Operand)} {zd:D} {vs:List AV} {cs:List (List AV)} {xs:List α} (H:Has B S l) (hr:C.rowT t=true) (he:aV C.P t=some el) (ha:(dJ C.P el).isSome=true) (hz:zeroOf C.P el=some zd) (hs:ax C.P el=sz) (hzl:zd.cells.length=sz) (hb:n * sz ≤ 16777216∧0 < n * sz)
  (hv:ma sz vs cs) (hn:vs.length=n) (hl:uq enc xs cs) (hsz:∀ x,(enc x).cells.length=sz) (hf:∀ x,fw (enc x).cells=true) (hev:jg ρ ps=some (nD 0 vs)):∃ v S',oper C ρ S (.buildSlice t n ps)=some (.val v S')∧Has B S' (.row sz v (xs.map enc) :: l):=by
 obtain ⟨k1,k2⟩:=hv.len
 obtain ⟨l1,l2⟩:=hl.flat
 subst hs
 have hn0:n ≠ 0:=fun q=>by subst q; simp at hb
 have hpos:0 < ax C.P el:=Nat.pos_of_ne_zero (fun q=>by rw [q] at hb; simp at hb)
 have f1:=yN hv [] ((List.replicate n zd.cells).flatten.map .d) (by simp) (by
  rw [List.length_map,List.length_flatten,List.map_replicate,List.sum_replicate_nat,hzl,hn])
 simp only [List.flatten_nil,List.nil_append,List.length_nil] at f1
 have hrow:jF C t n=true:=by
  simp only [jF,hr,Bool.true_and]
  cases hq:Nat.beq n 0
  ·
   rfl
  ·
   exact absurd (Nat.eq_of_beq_eq_true hq) hn0
 refine ⟨.msl S.nx 0 0 n n (ax C.P el),aS S (.cells 0 cs.flatten),?_,H.new (.cells 0 cs.flatten) (a:=.row (ax C.P el) (.msl S.nx 0 0 n n (ax C.P el)) (xs.map enc)) rfl ⟨rfl,by simp; omega,by simp; omega,rfl,hpos,fun w hw=>?_,cs.flatten,l1,by simp only [aS,AL.aG,if_true]⟩⟩
 ·
  simp only [oper,hrow,cond_true,hev,iG,he,hz]
  rw [if_pos ⟨hzl,hb.2,hb.1,ha⟩]
  simp only [H.wV,cond_false,f1,Option.map_some]
  rfl
 ·
  obtain ⟨x,_,rfl⟩:=List.mem_map.1 hw
  exact ⟨hsz x,hf x⟩
section
variable {C:bQ} {nt:Nat} {ops:Array Oper} {rest:List Oper} {e:Env} {S S':St} {Q:Stp→Prop} {l l':List bD} {t ty:Nat} {p:String} {af:Array Edge} {g:Option (Nat × Bool)} {x y:Operand} {v:AV}
theorem ah.BR {α:Type} {enc:α→D} {xs:List α} {i off sz tt:Nat} {n:Int} {z z':α} {q vy:AV} {cv:List D} {cw:List AV} (H:Has B S l) (hw:bg ops e { dst:=none,op:=.store tt x y,type:=ty,pos:=p,after:=af,guard:=g }=some true) (hi:l[i]? = some (.row sz v (xs.map enc))) (hp:jX v q n.toNat off) (hz:idx xs n=some z) (h:bA e x=some q) (hy:bA e y=some vy)
  (hcw:vy.cells=cw) (hcv:bS (cv.map .d) cw) (hn:ax C.P tt=cv.length) (hpl:vy.plain=true) (hag:(dJ C.P tt).isSome=true) (hb:Nat.ble (off + cv.length) (enc z).cells.length=true) (hs:setAt (enc z).cells off cv=(enc z').cells) (hf:fw (enc z').cells=true)
  (k:∀ S',Has B S' (l.set i (.row sz v ((gV xs n z').map enc)))→ah R C nt ops rest e S' Q) :
  ah R C nt ops ({ dst:=none,op:=.store tt x y,type:=ty,pos:=p,after:=af,guard:=g } :: rest) e S Q:=by
 subst hcw
 have hd:(xs.map enc)[n.toNat]? = some (enc z):=by rw [List.getElem?_map,(gW hz).2]; rfl
 refine ah.Cn H hw hi hp hd h hy hcv hn.symm hpl hag hb hs hf rfl (fun S' hS=>k S' ?_)
 rw [gV,List.map_set]; exact hS
theorem ah.tT {α:Type} {enc:α→D} {tt n el sz:Nat} {ps:Array (Nat × Operand)} {zd:D} {vs:List AV} {cs:List (List AV)} {xs:List α} (H:Has B S l) (hw:bg ops e { dst:=some t,op:=.buildSlice tt n ps,type:=ty,pos:=p,after:=af,guard:=g }=some true) (hr:C.rowT tt=true) (he:aV C.P tt=some el) (ha:(dJ C.P el).isSome=true) (hz:zeroOf C.P el=some zd) (hs:ax C.P el=sz) (hzl:zd.cells.length=sz) (hb:n * sz ≤ 16777216∧0 < n * sz)
  (hv:ma sz vs cs) (hn:vs.length=n) (hl:uq enc xs cs) (hsz:∀ x,(enc x).cells.length=sz) (hf:∀ x,fw (enc x).cells=true) (hev:jg (bA e) ps=some (nD 0 vs)) (ht:Nat.blt t nt=true)
  (k:∀ v S',Has B S' (.row sz v (xs.map enc) :: l)→ah R C nt ops rest ((t,v) :: e) S' Q) :
  ah R C nt ops ({ dst:=some t,op:=.buildSlice tt n ps,type:=ty,pos:=p,after:=af,guard:=g } :: rest) e S Q:=by
 obtain ⟨v',S',h1,h2⟩:=uQ (C:=C) (ρ:=bA e) H hr he ha hz hs hzl hb hv hn hl hsz hf hev
 exact ah.val hw h1 ht (k v' S' h2)
end
end
end Go.Ev
namespace Go.Ev
theorem pq {C:bQ} {ρ:Operand→Option AV} {S:St} {t el:Nat} {ag:Bool} (hr:jF C t 0=false) (he:aV C.P t=some el) (ha:dJ C.P el=some ag):oper C ρ S (.buildSlice t 0 #[])=some (.val (.d (.sl [] true)) S):=by
 simp [oper,hr,he,ha,jg,dQ,fI,chunk]
end Go.Ev
namespace Go.Ev
noncomputable section
set_option linter.unusedVariables false
def iF (v:AV) (n off:Nat):AV:=match v with
 | .msl id g _ _ _ sz=>.ptr id g (n * sz + off)
 | _=>.any
theorem p9 {S:St} {B:St} {l:List bD} (H:Has B S l) {i sz:Nat} {v:AV} {xs:List D} (hi:l[i]? = some (.row sz v xs)) {n:Nat} {d:D} (hd:xs[n]? = some d) (off:Nat):jX v (iF v n off) n off:=by
 obtain ⟨id,g,cs,rfl,_⟩:=rA (H.at hi) hd
 exact ⟨id,g,_,_,sz,rfl,rfl⟩
theorem jX.eq {v p:AV} {n off:Nat} (h:jX v p n off):p=iF v n off:=by
 obtain ⟨id,g,len,lim,sz,rfl,rfl⟩:=h
 rfl
section
variable {R:aR} {C:bQ} {nt:Nat} {B:St} {ops:Array Oper} {rest:List Oper} {e:Env} {S S':St} {Q:Stp→Prop} {l l':List bD} {t ty:Nat} {p:String} {af:Array Edge} {g:Option (Nat × Bool)} {x y:Operand} {v:AV}
theorem ah.jl {α:Type} {enc:α→D} {xs:List α} {i sz tt:Nat} {n:Int} {k:IntKind} {z:α} {el:Nat} (H:Has B S l) (hw:bg ops e { dst:=some t,op:=.indexAddr tt x y,type:=ty,pos:=p,after:=af,guard:=g }=some true) (hi:l[i]? = some (.row sz v (xs.map enc))) (hx:bA e x=some v) (hy:bA e y=some (.d (.int k n)))
  (h:idx xs n=some z) (he:aV C.P tt=some el) (ha:(dJ C.P el).isSome=true) (hz:(enc z).cells.length=ax C.P el) (ht:Nat.blt t nt=true)
  (k:ah R C nt ops rest ((t,iF v n.toNat 0) :: e) S Q) :
  ah R C nt ops ({ dst:=some t,op:=.indexAddr tt x y,type:=ty,pos:=p,after:=af,guard:=g } :: rest) e S Q :=
 ah.Em H hw hi hx hy h he ha hz ht (fun p hp=>by rw [hp.eq]; exact k)
theorem ah.kY {α:Type} {enc:α→D} {xs:List α} {i sz s fld fo ft o' off:Nat} {n:Int} {z:α} (H:Has B S l) (hi:l[i]? = some (.row sz v (xs.map enc))) (hz:idx xs n=some z) (hw:bg ops e { dst:=some t,op:=.fieldAddr s x fld,type:=ty,pos:=p,after:=af,guard:=g }=some true) (h:bA e x=some (iF v n.toNat off)) (hf:bW C.P s fld=some (fo,ft)) (hb:Nat.beq (ax C.P ft) 0=false) (ho:off + fo=o') (ht:Nat.blt t nt=true)
  (k:ah R C nt ops rest ((t,iF v n.toNat o') :: e) S Q) :
  ah R C nt ops ({ dst:=some t,op:=.fieldAddr s x fld,type:=ty,pos:=p,after:=af,guard:=g } :: rest) e S Q:=by
 have hd:(xs.map enc)[n.toNat]? = some (enc z):=by rw [List.getElem?_map,(gW hz).2]; rfl
 exact ah.Dr (p9 H hi hd off) hw h hf hb ho ht (fun p hp=>by rw [hp.eq]; exact k)
theorem ah.rX {α:Type} {enc:α→D} {xs:List α} {i off sz tt:Nat} {n:Int} {z:α} {r:D} (H:Has B S l) (hw:bg ops e { dst:=some t,op:=.load tt x,type:=ty,pos:=p,after:=af,guard:=g }=some true) (hi:l[i]? = some (.row sz v (xs.map enc))) (hz:idx xs n=some z) (h:bA e x=some (iF v n.toNat off)) (hr:gG C.P tt (enc z).cells off=some r) (ht:Nat.blt t nt=true)
  (k:ah R C nt ops rest ((t,.d r) :: e) S Q) :
  ah R C nt ops ({ dst:=some t,op:=.load tt x,type:=ty,pos:=p,after:=af,guard:=g } :: rest) e S Q:=by
 have hd:(xs.map enc)[n.toNat]? = some (enc z):=by rw [List.getElem?_map,(gW hz).2]; rfl
 exact ah.DJ H hw hi (p9 H hi hd off) hd h hr ht k
theorem ah.jA {α:Type} {enc:α→D} {xs:List α} {i off sz tt:Nat} {n:Int} {z z':α} {vy:AV} {cv:List D} {cw:List AV} (H:Has B S l) (hw:bg ops e { dst:=none,op:=.store tt x y,type:=ty,pos:=p,after:=af,guard:=g }=some true) (hi:l[i]? = some (.row sz v (xs.map enc))) (hz:idx xs n=some z) (h:bA e x=some (iF v n.toNat off)) (hy:bA e y=some vy)
  (hcw:vy.cells=cw) (hcv:bS (cv.map .d) cw) (hn:ax C.P tt=cv.length) (hpl:vy.plain=true) (hag:(dJ C.P tt).isSome=true) (hb:Nat.ble (off + cv.length) (enc z).cells.length=true) (hs:setAt (enc z).cells off cv=(enc z').cells) (hf:fw (enc z').cells=true)
  (k:∀ S',Has B S' (l.set i (.row sz v ((gV xs n z').map enc)))→ah R C nt ops rest e S' Q) :
  ah R C nt ops ({ dst:=none,op:=.store tt x y,type:=ty,pos:=p,after:=af,guard:=g } :: rest) e S Q:=by
 have hd:(xs.map enc)[n.toNat]? = some (enc z):=by rw [List.getElem?_map,(gW hz).2]; rfl
 exact ah.BR H hw hi (p9 H hi hd off) hz h hy hcw hcv hn hpl hag hb hs hf k
end
end
end Go.Ev

namespace Go.Ev
noncomputable section
set_option linter.unusedVariables false
set_option linter.unusedSimpArgs false
variable {R:aR} {C:bQ} {nt:Nat} {B:St}
theorem D6 {ops:Array Oper} (hr:mh ops=true) {Q:Exit→Act→World→Prop} (Inv:Array Bool→Act→World→Prop)
  (hstep:∀ listed a w i o (K:Act→World→Prop),listed.size=ops.size→Closed ops listed→listed.getD i false=false→ops[i]? = some o→(∀ k,k < i→((Region.before ops).getD i 0).testBit k=true→listed.getD k false=true)→Inv listed a w →
   (∀ a' w',Inv (listed.setIfInBounds i true) a' w'→K a' w')→wpOp C.P ops Q i K a w)
  (hend:∀ listed a w,(∀ i,i < ops.size→listed.getD i false=true)→Inv listed a w→Q .normal a w) :
  ∀ (fuel:Nat) (listed:Array Bool) {w:World} {a:Act},listed.size=ops.size→Closed ops listed→((List.range ops.size).filter fun i=>!listed.getD i false).length=fuel→Inv listed a w→wpAny C.P .any ops Q fuel listed a w:=by
 intro fuel
 induction fuel with
 | zero =>
  intro listed w a hsz hcl hlen hI
  have hnil:=List.eq_nil_of_length_eq_zero hlen
  have hall:∀ i,i < ops.size→listed.getD i false=true:=fun i hi=>by
   cases hc:listed.getD i false with
   | true=>rfl
   | false =>
    have:i ∈ (List.range ops.size).filter fun i=>!listed.getD i false:=by
     rw [List.mem_filter]; exact ⟨List.mem_range.2 hi,by rw [hc]; rfl⟩
    rw [hnil] at this; cases this
  refine ⟨?_,hend listed a w hall hI⟩
  cases hq:Region.ready .any ops listed with
  | nil=>rfl
  | cons i l =>
   have hi:i ∈ Region.ready .any ops listed:=by rw [hq]; simp
   obtain ⟨h1,o,h2,_⟩:=mem_ready.1 hi
   have hlt:i < ops.size:=(Array.getElem?_eq_some_iff.1 h2).1
   have:=hall i hlt
   have hlt':i < listed.size:=by omega
   simp [hlt'] at h1 this
   rw [h1] at this; cases this
 | succ fuel ih =>
  intro listed w a hsz hcl hlen hI
  refine ⟨fun hnone=>?_,fun i hi=>?_⟩
  ·
   exfalso
   cases hq:(List.range ops.size).filter fun i=>!listed.getD i false with
   | nil=>rw [hq] at hlen; simp at hlen
   | cons m l =>
    have hm:m ∈ (List.range ops.size).filter fun i=>!listed.getD i false:=by rw [hq]; simp
    obtain ⟨hm1,hm2⟩:=List.mem_filter.1 hm
    exact zw hr hsz (List.mem_range.1 hm1) (by simpa using hm2) hnone
  ·
   obtain ⟨h1,o,h2,h3⟩:=mem_ready.1 hi
   have hlt:i < ops.size:=(Array.getElem?_eq_some_iff.1 h2).1
   have hlt':i < listed.size:=by omega
   have h1':listed.getD i false=false:=by simp [hlt'] at h1 ⊢; exact h1
   have hclo:=Et hr hcl h2 h3
   refine hstep listed a w i o _ hsz hcl h1' h2 hclo hI (fun a' w' hI'=>ih _ (by simpa using hsz) (zl hcl hclo) ?_ hI')
   have hsp:=hlen
   have hmem:i ∈ (List.range ops.size).filter fun i=>!listed.getD i false:=by
    rw [List.mem_filter]; exact ⟨List.mem_range.2 hlt,by rw [h1']; rfl⟩
   obtain ⟨l1,l2,hq⟩:=List.append_of_mem hmem
   have hnd:((List.range ops.size).filter fun i=>!listed.getD i false).Nodup:=List.Pairwise.filter _ List.nodup_range
   rw [hq] at hnd
   have hn2:=(List.nodup_append.1 hnd)
   have hne1:∀ k ∈ l1,k ≠ i:=fun k hk=>hn2.2.2 k hk i (by simp)
   have hne2:∀ k ∈ l2,k ≠ i:=fun k hk q=>by
    subst q
    exact (List.nodup_cons.1 hn2.2.1).1 hk
   rw [D5 hlt' hq hne1 hne2]
   rw [hq] at hsp
   simp at hsp ⊢; omega
def D8 (cx:Cx) (S:St) (w:World) (a:Act) (t:Nat) (x:AV):Prop:=∃ v,a.tmps[t]? = some v∧ay cx S w x v
structure pG (nt:Nat) (ops:Array Oper) (e0:Env) (listed:Array Bool) (ws:List (Option AV)) (cx:Cx) (S:St) (w:World) (a:Act):Prop where
 size:nt ≤ a.tmps.size
 new:∀ k o t,ops[k]? = some o→o.dst=some t→listed.getD k false=true→(∀ j o',j ≠ k→ops[j]? = some o'→o'.dst=some t→listed.getD j false=true→j < k)→∃ x,ws[k]? = some (some x)∧D8 cx S w a t x
 old:∀ t x,AL.get e0 t=some x→(∀ j o',ops[j]? = some o'→o'.dst=some t→listed.getD j false=false)→D8 cx S w a t x
abbrev Src:=List (Nat × Option Nat)
def kU (ws:List (Option AV)) (e0:Env):Src→Option Env
 | []=>some []
 | (t,some k) :: l=>match ws[k]? with
  | some (some x)=>(kU ws e0 l).map ((t,x) :: ·)
  | _=>none
 | (t,none) :: l=>match AL.get e0 t with
  | some x=>(kU ws e0 l).map ((t,x) :: ·)
  | none=>none
def qG (ops:Array Oper) (k t:Nat):Bool:=match ops[k]? with
 | some o=>(match o.dst with | some d=>Nat.beq d t | none=>false)
 | none=>false
theorem jy {ops:Array Oper} {k t:Nat}:qG ops k t=true↔∃ o,ops[k]? = some o∧o.dst=some t:=by
 unfold qG
 cases h:ops[k]? with
 | none=>simp
 | some o =>
  cases hd:o.dst with
  | none=>simp [hd]
  | some d=>simp [hd]
def zA (ops:Array Oper) (Bi:Nat) (i:Nat):Src→Bool
 | []=>true
 | (t,some k) :: l=>qG ops k t && Nat.testBit Bi k && ((List.range ops.size).all fun j=>!(qG ops j t) || Nat.beq j k || Nat.blt j k || Nat.beq j i || Nat.testBit ((Region.before ops).getD j 0) i) && zA ops Bi i l
 | (t,none) :: l=>((List.range ops.size).all fun j=>!(qG ops j t) || Nat.beq j i || Nat.testBit ((Region.before ops).getD j 0) i) && zA ops Bi i l
def Bl (ops:Array Oper):Src→Bool
 | []=>true
 | (t,some k) :: l=>qG ops k t && ((List.range ops.size).all fun j=>!(qG ops j t) || Nat.beq j k || Nat.blt j k) && Bl ops l
 | (t,none) :: l=>((List.range ops.size).all fun j=>!(qG ops j t)) && Bl ops l
theorem mK {ops:Array Oper} {e0:Env} {listed:Array Bool} {ws:List (Option AV)} {cx:Cx} {S:St} {w:World} {a:Act} (h:pG nt ops e0 listed ws cx S w a):∀ {L:Src} {e:Env},kU ws e0 L=some e →
  (∀ t k,(t,some k) ∈ L→∃ o,ops[k]? = some o∧o.dst=some t∧listed.getD k false=true∧∀ j o',j ≠ k→ops[j]? = some o'→o'.dst=some t→listed.getD j false=true→j < k) →
  (∀ t,(t,none) ∈ L→∀ j o',ops[j]? = some o'→o'.dst=some t→listed.getD j false=false)→cK cx S w nt e a
 | [],e,he,_,_=>by
  simp only [kU,Option.some.injEq] at he
  subst he
  exact ⟨h.size,fun t x hx=>by simp [AL.get] at hx⟩
 | (t,some k) :: L,e,he,hA,hB=>by
  simp only [kU] at he
  split at he
  ·
   rename_i x hx
   obtain ⟨e',he',rfl⟩:=Option.map_eq_some_iff.1 he
   have ih:=mK h he' (fun t k hm=>hA t k (List.mem_cons_of_mem _ hm)) (fun t hm=>hB t (List.mem_cons_of_mem _ hm))
   refine ⟨h.size,fun u y hy=>?_⟩
   rw [AL.bJ] at hy
   by_cases hu:t=u
   ·
    subst hu
    rw [if_pos rfl] at hy; cases hy
    obtain ⟨o,h1,h2,h3,h4⟩:=hA t k List.mem_cons_self
    obtain ⟨x',hx',hs⟩:=h.new k o t h1 h2 h3 h4
    rw [hx] at hx'; cases hx'
    exact hs
   ·
    rw [if_neg hu] at hy; exact ih.rel u y hy
  ·
   cases he
 | (t,none) :: L,e,he,hA,hB=>by
  simp only [kU] at he
  split at he
  ·
   rename_i x hx
   obtain ⟨e',he',rfl⟩:=Option.map_eq_some_iff.1 he
   have ih:=mK h he' (fun t k hm=>hA t k (List.mem_cons_of_mem _ hm)) (fun t hm=>hB t (List.mem_cons_of_mem _ hm))
   refine ⟨h.size,fun u y hy=>?_⟩
   rw [AL.bJ] at hy
   by_cases hu:t=u
   ·
    subst hu
    rw [if_pos rfl] at hy; cases hy
    exact h.old t x hx (hB t List.mem_cons_self)
   ·
    rw [if_neg hu] at hy; exact ih.rel u y hy
  ·
   cases he
theorem mR {ops:Array Oper} (hr:mh ops=true) {i k:Nat} (hi:i < ops.size) (h:((Region.before ops).getD i 0).testBit k=true):k < i:=by
 rcases Nat.lt_or_ge k i with q | q
 ·
  exact q
 ·
  have:=(fT hr (show ops[i]? = some ops[i] by simp [hi])).2.2 k q
  rw [this] at h; cases h
theorem yz {ops:Array Oper} (hr:mh ops=true) {e0:Env} {listed:Array Bool} (hcl:Closed ops listed) {ws:List (Option AV)} {cx:Cx} {S:St} {w:World} {a:Act} (h:pG nt ops e0 listed ws cx S w a) {i:Nat} (hi:i < ops.size) (hun:listed.getD i false=false)
  (hclo:∀ k,k < i→((Region.before ops).getD i 0).testBit k=true→listed.getD k false=true) {L:Src} {e:Env} (he:kU ws e0 L=some e) (hb:zA ops ((Region.before ops).getD i 0) i L=true):cK cx S w nt e a:=by
 have late:∀ j,j < ops.size→((Region.before ops).getD j 0).testBit i=true→listed.getD j false=true→False:=fun j hj hb hl=>by
  have:=hcl j hl i (mR hr hj hb) hb
  rw [this] at hun; cases hun
 have key:(∀ t k,(t,some k) ∈ L→∃ o,ops[k]? = some o∧o.dst=some t∧listed.getD k false=true∧∀ j o',j ≠ k→ops[j]? = some o'→o'.dst=some t→listed.getD j false=true→j < k) ∧
   (∀ t,(t,none) ∈ L→∀ j o',ops[j]? = some o'→o'.dst=some t→listed.getD j false=false):=by
  clear he
  induction L with
  | nil=>exact ⟨fun t k hm=>(by cases hm),fun t hm=>(by cases hm)⟩
  | cons p L ih =>
   obtain ⟨t,s⟩:=p
   cases s with
   | some k =>
    simp only [zA,Bool.and_eq_true] at hb
    obtain ⟨⟨⟨b1,b2⟩,b3⟩,b4⟩:=hb
    obtain ⟨ih1,ih2⟩:=ih b4
    refine ⟨fun u q hm=>?_,fun u hm=>?_⟩
    ·
     rcases List.mem_cons.1 hm with hm | hm
     ·
      cases hm
      obtain ⟨o,h1,h2⟩:=jy.1 b1
      refine ⟨o,h1,h2,hclo k (mR hr hi b2) b2,fun j o' hjk hj hd hl=>?_⟩
      have hjl:j < ops.size:=(Array.getElem?_eq_some_iff.1 hj).1
      have:=List.all_eq_true.1 b3 j (List.mem_range.2 hjl)
      simp only [jy.2 ⟨o',hj,hd⟩,Bool.not_true,Bool.false_or,Bool.or_eq_true] at this
      rcases this with ((q | q) | q) | q
      ·
       exact absurd (Nat.eq_of_beq_eq_true q) hjk
      ·
       exact Nat.le_of_ble_eq_true q
      ·
       rw [Nat.eq_of_beq_eq_true q,hun] at hl; cases hl
      ·
       exact (late j hjl q hl).elim
     ·
      exact ih1 u q hm
    ·
     rcases List.mem_cons.1 hm with hm | hm
     ·
      cases hm
     ·
      exact ih2 u hm
   | none =>
    simp only [zA,Bool.and_eq_true] at hb
    obtain ⟨b3,b4⟩:=hb
    obtain ⟨ih1,ih2⟩:=ih b4
    refine ⟨fun u q hm=>?_,fun u hm=>?_⟩
    ·
     rcases List.mem_cons.1 hm with hm | hm
     ·
      cases hm
     ·
      exact ih1 u q hm
    ·
     rcases List.mem_cons.1 hm with hm | hm
     ·
      cases hm
      intro j o' hj hd
      have hjl:j < ops.size:=(Array.getElem?_eq_some_iff.1 hj).1
      have:=List.all_eq_true.1 b3 j (List.mem_range.2 hjl)
      simp only [jy.2 ⟨o',hj,hd⟩,Bool.not_true,Bool.false_or,Bool.or_eq_true] at this
      rcases this with q | q
      ·
       rw [Nat.eq_of_beq_eq_true q]; exact hun
      ·
       cases hl:listed.getD j false with
       | false=>rfl
       | true=>exact (late j hjl q hl).elim
     ·
      exact ih2 u hm
 exact mK h he key.1 key.2
theorem CQ {ops:Array Oper} {e0:Env} {listed:Array Bool} (hall:∀ i,i < ops.size→listed.getD i false=true) {ws:List (Option AV)} {cx:Cx} {S:St} {w:World} {a:Act} (h:pG nt ops e0 listed ws cx S w a) {L:Src} {e:Env} (he:kU ws e0 L=some e) (hb:Bl ops L=true):cK cx S w nt e a:=by
 have key:(∀ t k,(t,some k) ∈ L→∃ o,ops[k]? = some o∧o.dst=some t∧listed.getD k false=true∧∀ j o',j ≠ k→ops[j]? = some o'→o'.dst=some t→listed.getD j false=true→j < k) ∧
   (∀ t,(t,none) ∈ L→∀ j o',ops[j]? = some o'→o'.dst=some t→listed.getD j false=false):=by
  clear he
  induction L with
  | nil=>exact ⟨fun t k hm=>(by cases hm),fun t hm=>(by cases hm)⟩
  | cons p L ih =>
   obtain ⟨t,s⟩:=p
   cases s with
   | some k =>
    simp only [Bl,Bool.and_eq_true] at hb
    obtain ⟨⟨b1,b3⟩,b4⟩:=hb
    obtain ⟨ih1,ih2⟩:=ih b4
    refine ⟨fun u q hm=>?_,fun u hm=>?_⟩
    ·
     rcases List.mem_cons.1 hm with hm | hm
     ·
      cases hm
      obtain ⟨o,h1,h2⟩:=jy.1 b1
      refine ⟨o,h1,h2,hall k (Array.getElem?_eq_some_iff.1 h1).1,fun j o' hjk hj hd hl=>?_⟩
      have hjl:j < ops.size:=(Array.getElem?_eq_some_iff.1 hj).1
      have:=List.all_eq_true.1 b3 j (List.mem_range.2 hjl)
      simp only [jy.2 ⟨o',hj,hd⟩,Bool.not_true,Bool.false_or,Bool.or_eq_true] at this
      rcases this with q | q
      ·
       exact absurd (Nat.eq_of_beq_eq_true q) hjk
      ·
       exact Nat.le_of_ble_eq_true q
     ·
      exact ih1 u q hm
    ·
     rcases List.mem_cons.1 hm with hm | hm
     ·
      cases hm
     ·
      exact ih2 u hm
   | none =>
    simp only [Bl,Bool.and_eq_true] at hb
    obtain ⟨b3,b4⟩:=hb
    obtain ⟨ih1,ih2⟩:=ih b4
    refine ⟨fun u q hm=>?_,fun u hm=>?_⟩
    ·
     rcases List.mem_cons.1 hm with hm | hm
     ·
      cases hm
     ·
      exact ih1 u q hm
    ·
     rcases List.mem_cons.1 hm with hm | hm
     ·
      cases hm
      intro j o' hj hd
      have hjl:j < ops.size:=(Array.getElem?_eq_some_iff.1 hj).1
      have:=List.all_eq_true.1 b3 j (List.mem_range.2 hjl)
      simp only [jy.2 ⟨o',hj,hd⟩,Bool.not_true,Bool.or_self] at this
      cases this
     ·
      exact ih2 u hm
 exact mK h he key.1 key.2
inductive Gd (R:aR) (C:bQ) (nt:Nat) (ops:Array Oper) (S:St) (e:Env) (o:Oper) (x:AV):Prop
 | val {v:AV} (hw:bg ops e o=some true) (ho:oper C (bA e) S o.op=some (.val v S)) (hl:Less x v)
 | call {f:Nat} {args:List AV} {v:AV} (hw:bg ops e o=some true) (ho:oper C (bA e) S o.op=some (.call f args)) (hs:bT R C.P f args S (fun r=>r=(none,v,S))) (hl:Less x v)
 | no (hw:bg ops e o=some false) (hl:Less x (.tup []))
 | step (h:ah R C nt ops [o] e S (fun r=>∃ e' v,r=.go e' S∧(∀ t,o.dst=some t→AL.get e' t=some v∧Less x v)))
inductive GL (R:aR) (C:bQ) (nt:Nat) (ops:Array Oper) (S:St) (e:Env) (o:Oper) (Q:AV→St→Prop):Prop
 | val {v:AV} {S':St} (hw:bg ops e o=some true) (ho:oper C (bA e) S o.op=some (.val v S')) (hq:Q v S')
 | skip {S':St} (hw:bg ops e o=some true) (ho:oper C (bA e) S o.op=some (.skip S')) (hd:o.dst=none) (hq:Q .any S')
 | call {f:Nat} {args:List AV} (hw:bg ops e o=some true) (ho:oper C (bA e) S o.op=some (.call f args)) (hs:bT R C.P f args S (fun r=>r.1=none∧Q r.2.1 r.2.2))
 | no (hw:bg ops e o=some false) (hq:Q (.tup []) S)
 | step (h:ah R C nt ops [o] e S (fun r=>∃ e' v S',r=.go e' S'∧(∀ t,o.dst=some t→AL.get e' t=some v)∧Q v S'))
theorem uD (hR:fe R C) {ops:Array Oper} {o:Oper} {e:Env} {S:St} {Q:Stp→Prop} (h:qm R C nt ops o e S Q) (hno:∀ r,Q r→∃ e' S',r=.go e' S') {cx:Cx} {w:World} {a:Act} (hS:aD R cx S w) (he:cK cx S w nt e a)
  {K:Act→World→Prop} {Kx:Exit→Act→World→Prop} (hk:∀ e' S' cx' w' u,Q (.go e' S')→aD R cx' S' w'→Ext cx S w cx' S' w'→cK cx' S' w' nt e' (a.put o.dst u)→K (a.put o.dst u) w') (hnx:∀ t,o.op ≠ .next (.tmp t) false) {i:Nat} (hi:ops[i]? = some o):wpOp C.P ops Kx i K a w:=by
 have hrefl:=Ext.refl (cx:=cx) w hS.wf
 rcases h with ⟨t,rs,h1,h2,h3⟩ | ⟨e2,hw,h1,h2⟩ | ⟨e2,e',hw,h1,h2,h3⟩
 ·
  exact absurd h1 (hnx t)
 ·
  have he2:=he.weak hw
  unfold wpOp
  rw [hi]
  simp only
  rw [if_pos (bP he h1)]
  left
  rcases h2 with ⟨v,S',e',h1,h2,h3⟩ | ⟨S',h1,h2,h3⟩ | ⟨f,args,h1,h2⟩ | ⟨t,x,y,ty,xs,b,el,hop,hx,hy,hu,hq⟩
  rotate_left 3
  ·
   have rx:=he2.eval x _ hx
   have ry:=he2.eval y _ hy
   obtain ⟨a0,n,c,ex,hnil⟩:=xY rx.dd
   have ey:a.eval y=.slice none 0 0:=by
    have:=ry.dd.val rfl
    generalize a.eval y=z at this
    cases this
    rfl
   have hrun:(execOp a.eval o).run C.P w=.ok (.value (.bool a0.isNone)) w:=by
    obtain ⟨dst,op,ty',pos,after,guard⟩:=o
    simp only at hop
    subst hop
    exact mI (by
     rw [ex,ey]
     have hg:(eqGuard .eql t x y (.slice a0 n c) (.slice none 0 0)).run C.P w=.ok () w:=dz rfl
     simp only [Sem.run_bind,hg,Result.andThen_ok]
     exact Lib.run_eql_slice_nil w t el a0 n c 0 0 hu)
   obtain ⟨e',hp,hk'⟩:=hq a0.isNone (fun h=>hnil (by cases a0 with | none=>rfl | some a=>cases h))
   unfold Oper.wp
   rw [hrun]
   exact hk _ _ cx w _ hk' hS hrefl (he2.put hp (.of_bool _))
  ·
   obtain ⟨cx',w',u,k1,k2,k3,k4⟩:=cu hR hS he2.eval o h1
   unfold Oper.wp
   rw [k1]
   exact hk _ _ cx' w' u h3 k2 k3 ((he2.mono k3).put h2 k4)
  ·
   obtain ⟨cx',w',k1,k2,k3⟩:=cu hR hS he2.eval o h1
   unfold Oper.wp
   rw [k1]
   refine hk _ _ cx' w' undef h3 k2 k3 ?_
   rw [h2]
   exact he2.mono k3
  ·
   obtain ⟨us,k1,k2,k3⟩:=cu hR hS he2.eval o h1
   obtain ⟨⟨fn,f1,f2,f3⟩,hcalls⟩:=h2
   unfold Oper.wp
   rw [k3 fn f1 f2 f3]
   refine (hcalls cx w us hS k1 k2).mono (fun en w' hen=>?_)
   obtain ⟨⟨p,v,S'⟩,hq,cx',m1,m2,m3⟩:=hen
   cases p with
   | none =>
    obtain ⟨u,rfl,m3⟩:=m3
    obtain ⟨e',hp,hq⟩:=hq
    exact hk _ _ cx' _ _ hq m1 m2 ((he2.mono m2).put hp m3)
   | some p =>
    obtain ⟨_,_,hc⟩:=hno _ hq
    cases hc
 ·
  have he2:=he.weak hw
  unfold wpOp
  rw [hi]
  simp only
  rw [if_neg (by rw [bP he h1]; simp)]
  split at h2
  ·
   rename_i hd
   subst h2
   refine hk _ _ cx w _ h3 hS hrefl ?_
   rw [hd]
   exact he2
  ·
   rename_i t hd
   refine hk _ _ cx w _ h3 hS hrefl ?_
   rw [hd]
   exact he2.put h2 (.tup [] [] rfl (fun i x v hx=>by simp at hx))
theorem yA {cx:Cx} {S:St} {w:World} {a:Act} {e:Env} {t:Nat} {u:Value} {v:AV} (he:cK cx S w nt e (a.put (some t) u)) (hv:AL.get e t=some v):ay cx S w v u:=by
 obtain ⟨u',h1,h2⟩:=he.rel t v hv
 simp only [Act.put] at h1
 have hlt:t < a.tmps.size:=by
  have:=(Array.getElem?_eq_some_iff.1 h1).1
  simpa using this
 rw [Array.getElem?_setIfInBounds_self_of_lt hlt] at h1
 cases h1
 exact h2
theorem BX (hR:fe R C) {ops:Array Oper} {o:Oper} {e:Env} {S:St} {x:AV} (h:Gd R C nt ops S e o x) {cx:Cx} {w:World} {a:Act} (hS:aD R cx S w) (he:cK cx S w nt e a)
  {K:Act→World→Prop} {Kx:Exit→Act→World→Prop} (hk:∀ cx' w' u,aD R cx' S w'→Ext cx S w cx' S w'→(∀ t,o.dst=some t→ay cx' S w' x u)→K (a.put o.dst u) w') (hnx:∀ t,o.op ≠ .next (.tmp t) false) {i:Nat} (hi:ops[i]? = some o):wpOp C.P ops Kx i K a w:=by
 have hrefl:=Ext.refl (cx:=cx) w hS.wf
 unfold wpOp
 rw [hi]
 simp only
 cases h with
 | val hw ho hl =>
  rw [if_pos (bP he hw)]
  left
  obtain ⟨cx',w',u,k1,k2,k3,k4⟩:=cu hR hS he.eval o ho
  unfold Oper.wp
  rw [k1]
  exact hk cx' w' u k2 k3 (fun _ _=>hl _ _ _ _ k4)
 | call hw ho hs hl =>
  rw [if_pos (bP he hw)]
  left
  obtain ⟨us,k1,k2,k3⟩:=cu hR hS he.eval o ho
  obtain ⟨⟨fn,f1,f2,f3⟩,hcalls⟩:=hs
  unfold Oper.wp
  rw [k3 fn f1 f2 f3]
  refine (hcalls cx w us hS k1 k2).mono (fun en w' hen=>?_)
  obtain ⟨r,rfl,cx',m1,m2,m3⟩:=hen
  obtain ⟨u,rfl,m3⟩:=m3
  exact hk cx' w' u m1 m2 (fun _ _=>hl _ _ _ _ m3)
 | no hw hl =>
  rw [if_neg (by rw [bP he hw]; simp)]
  have hv:ay cx S w x (.tuple #[]):=hl _ _ _ _ (.tup [] [] rfl (fun i x v hx=>by simp at hx))
  exact hk cx w _ hS hrefl (fun _ _=>hv)
 | step h =>
  obtain ⟨e2,S2,hw,h⟩:=h
  obtain ⟨cx2,gS,gx,ge⟩:=hw cx w a hS he
  have:=uD hR h (fun r hr=>by
   cases r with
   | go e' S'=>exact ⟨_,_,rfl⟩
   | stop v S'=>obtain ⟨_,_,hc,_⟩:=hr; cases hc) gS ge (K:=K) (Kx:=Kx) (fun e' S' cx' w' u hq q1 q2 q3=>?_) hnx hi
  ·
   unfold wpOp at this
   rw [hi] at this
   exact this
  ·
   obtain ⟨e3,hw3,e4,v,hq1,hq2⟩:=hq
   cases hq1
   refine hk cx' w' u q1 (gx.trans q2) (fun t ht=>?_)
   obtain ⟨g1,g2⟩:=hq2 t ht
   rw [ht] at q3
   exact g2 _ _ _ _ (yA (q3.weak hw3) g1)
theorem BH (hR:fe R C) {ops:Array Oper} {o:Oper} {e:Env} {S:St} {Q:AV→St→Prop} (h:GL R C nt ops S e o Q) {cx:Cx} {w:World} {a:Act} (hS:aD R cx S w) (he:cK cx S w nt e a)
  {K:Act→World→Prop} {Kx:Exit→Act→World→Prop} (hk:∀ v S' cx' w' u,Q v S'→aD R cx' S' w'→Ext cx S w cx' S' w'→(∀ t,o.dst=some t→ay cx' S' w' v u)→K (a.put o.dst u) w') (hnx:∀ t,o.op ≠ .next (.tmp t) false) {i:Nat} (hi:ops[i]? = some o):wpOp C.P ops Kx i K a w:=by
 have hrefl:=Ext.refl (cx:=cx) w hS.wf
 unfold wpOp
 rw [hi]
 simp only
 cases h with
 | val hw ho hq =>
  rw [if_pos (bP he hw)]
  left
  obtain ⟨cx',w',u,k1,k2,k3,k4⟩:=cu hR hS he.eval o ho
  unfold Oper.wp
  rw [k1]
  exact hk _ _ cx' w' u hq k2 k3 (fun _ _=>k4)
 | skip hw ho hd hq =>
  rw [if_pos (bP he hw)]
  left
  obtain ⟨cx',w',k1,k2,k3⟩:=cu hR hS he.eval o ho
  unfold Oper.wp
  rw [k1]
  exact hk _ _ cx' w' undef hq k2 k3 (fun _ _=>.any _)
 | call hw ho hs =>
  rw [if_pos (bP he hw)]
  left
  obtain ⟨us,k1,k2,k3⟩:=cu hR hS he.eval o ho
  obtain ⟨⟨fn,f1,f2,f3⟩,hcalls⟩:=hs
  unfold Oper.wp
  rw [k3 fn f1 f2 f3]
  refine (hcalls cx w us hS k1 k2).mono (fun en w' hen=>?_)
  obtain ⟨⟨p,v,S'⟩,⟨hp,hq⟩,cx',m1,m2,m3⟩:=hen
  simp only at hp
  subst hp
  obtain ⟨u,rfl,m3⟩:=m3
  exact hk _ _ cx' w' u hq m1 m2 (fun _ _=>m3)
 | no hw hq =>
  rw [if_neg (by rw [bP he hw]; simp)]
  exact hk _ _ cx w _ hq hS hrefl (fun _ _=>.tup [] [] rfl (fun i x v hx=>by simp at hx))
 | step h =>
  obtain ⟨e2,S2,hw,h⟩:=h
  obtain ⟨cx2,gS,gx,ge⟩:=hw cx w a hS he
  have:=uD hR h (fun r hr=>by
   cases r with
   | go e' S'=>exact ⟨_,_,rfl⟩
   | stop v S'=>obtain ⟨_,_,_,hc,_⟩:=hr; cases hc) gS ge (K:=K) (Kx:=Kx) (fun e' S' cx' w' u hq q1 q2 q3=>?_) hnx hi
  ·
   unfold wpOp at this
   rw [hi] at this
   exact this
  ·
   obtain ⟨e3,hw3,e4,v,S4,hq1,hq2,hq3⟩:=hq
   cases hq1
   refine hk v S' cx' w' u hq3 q1 (gx.trans q2) (fun t ht=>?_)
   have g1:=hq2 t ht
   rw [ht] at q3
   exact yA (q3.weak hw3) g1
inductive lg:List (Option AV)→List (Option AV)→Prop
 | nil:lg [] []
 | new {x:Option AV} {a b:List (Option AV)} (k:lg a b):lg (x :: a) (none :: b)
 | old {x y:AV} {a b:List (Option AV)} (h:Less y x) (k:lg a b):lg (some y :: a) (some x :: b)
theorem lg.get {a b:List (Option AV)} (h:lg a b):∀ {k:Nat} {x:AV},b[k]? = some (some x)→∃ y,a[k]? = some (some y)∧Less y x:=by
 induction h with
 | nil=>intro k x h; simp at h
 | new k ih =>
  intro k x h
  cases k with
  | zero=>simp at h
  | succ k=>simpa using ih (by simpa using h)
 | old h k ih =>
  intro k x hx
  cases k with
  | zero=>simp at hx; subst hx; exact ⟨_,rfl,h⟩
  | succ k=>simpa using ih (by simpa using hx)
theorem pG.step {ops:Array Oper} (hr:mh ops=true) (hnt:∀ (k:Nat) (o:Oper) (t:Nat),ops[k]? = some o→o.dst=some t→t < nt) {e0:Env} {listed:Array Bool} (hsz:listed.size=ops.size) (hcl:Closed ops listed) {ws ws':List (Option AV)} {i:Nat} (hle:∀ k x,k ≠ i→ws[k]? = some (some x)→∃ y,ws'[k]? = some (some y)∧Less y x) {cx cx':Cx} {S S':St} {w w':World} {a:Act} (h:pG nt ops e0 listed ws cx S w a)
  {o:Oper} (hi:ops[i]? = some o) (hun:listed.getD i false=false) (ex:Ext cx S w cx' S' w') {u:Value} (hu:∀ t,o.dst=some t→∃ x,ws'[i]? = some (some x)∧ay cx' S' w' x u):pG nt ops e0 (listed.setIfInBounds i true) ws' cx' S' w' (a.put o.dst u):=by
 have hlt:i < ops.size:=(Array.getElem?_eq_some_iff.1 hi).1
 have size:nt ≤ (a.put o.dst u).tmps.size:=by
  cases hd:o.dst with
  | none=>exact h.size
  | some t=>simp only [Act.put,Array.size_setIfInBounds]; exact h.size
 have keep:∀ t,o.dst ≠ some t→(a.put o.dst u).tmps[t]? = a.tmps[t]?:=fun t ht=>by
  cases hd:o.dst with
  | none=>rfl
  | some d =>
   have:d ≠ t:=fun q=>ht (by rw [hd,q])
   simp only [Act.put]
   rw [Array.getElem?_setIfInBounds_ne this]
 refine ⟨size,fun k ok t hk hd hlk hlast=>?_,fun t x hx hno=>?_⟩
 ·
  by_cases hki:k=i
  ·
   subst hki
   rw [hi] at hk; cases hk
   obtain ⟨x,hx,hr⟩:=hu t hd
   refine ⟨x,hx,u,?_,hr⟩
   have htn:=hnt k o t hi hd
   have:=h.size
   rw [hd]
   simp only [Act.put]
   rw [Array.getElem?_setIfInBounds_self_of_lt (by omega)]
  ·
   have hlk':listed.getD k false=true:=by rwa [getD_set_ne false (fun q=>hki q.symm)] at hlk
   have hklt:k < ops.size:=(Array.getElem?_eq_some_iff.1 hk).1
   have hdi:o.dst ≠ some t:=fun hdi=>by
    have hik:=hlast i o (fun q=>hki q.symm) hi hdi (by have hlt':i < listed.size:=(by omega); simp [hlt'])
    obtain ⟨r1,r2,_⟩:=fT hr hk
    have:=r2 i o hik hi
    split at this
    ·
     rename_i hb
     have:=hcl k hlk' i hik hb
     rw [hun] at this; cases this
    ·
     simp only [Oper.apart,hdi,hd,Bool.and_eq_true] at this
     simp at this
   obtain ⟨x,hx,v,v1,v2⟩:=h.new k ok t hk hd hlk' (fun j o' hjk hj hdj hlj=>hlast j o' hjk hj hdj (by
    by_cases hji:i=j
    ·
     subst hji; rw [hun] at hlj; cases hlj
    ·
     rw [getD_set_ne false hji]; exact hlj))
   obtain ⟨y,hy,hyx⟩:=hle k x hki hx
   exact ⟨y,hy,v,by rw [keep t hdi]; exact v1,hyx _ _ _ _ (v2.mono ex)⟩
 ·
  have hdi:o.dst ≠ some t:=fun hdi=>by
   have:=hno i o hi hdi
   have hlt':i < listed.size:=by omega
   simp [hlt'] at this
  obtain ⟨v,v1,v2⟩:=h.old t x hx (fun j o' hj hdj=>by
   have:=hno j o' hj hdj
   by_cases hji:i=j
   ·
    subst hji; exact hun
   ·
    rwa [getD_set_ne false hji] at this)
  exact ⟨v,by rw [keep t hdi]; exact v1,v2.mono ex⟩
inductive RL (R:aR) (C:bQ) (nt:Nat) (ops:Array Oper) (srcs:List Src) (e0:Env) (ws:List (Option AV)) (S:St):List Nat→Prop
 | nil:RL R C nt ops srcs e0 ws S []
 | cons {i:Nat} {o:Oper} {x:AV} {e:Env} {os:List Nat} (ho:ops[i]? = some o) (hx:ws[i]? = some (some x)) (he:kU ws e0 (srcs.getD i [])=some e) (h:Gd R C nt ops S e o x) (k:RL R C nt ops srcs e0 ws S os):RL R C nt ops srcs e0 ws S (i :: os)
theorem RL.get {ops:Array Oper} {srcs:List Src} {e0:Env} {ws:List (Option AV)} {S:St} {os:List Nat} (h:RL R C nt ops srcs e0 ws S os):∀ {i:Nat},i ∈ os→∃ o x e,ops[i]? = some o∧ws[i]? = some (some x)∧kU ws e0 (srcs.getD i [])=some e∧Gd R C nt ops S e o x:=by
 induction h with
 | nil=>intro i h; cases h
 | cons ho hx he h k ih =>
  intro i hi
  rcases List.mem_cons.1 hi with rfl | hi
  ·
   exact ⟨_,_,_,ho,hx,he,h⟩
  ·
   exact ih hi
def Ce (i:Nat) (l:List Nat):Bool:=l.any fun j=>Nat.beq j i
theorem sS {i:Nat} {l:List Nat}:Ce i l=true↔i ∈ l:=by
 simp only [Ce,List.any_eq_true]
 constructor
 ·
  rintro ⟨j,hj,hb⟩; rw [← Nat.eq_of_beq_eq_true hb]; exact hj
 ·
  intro h; exact ⟨i,h,Nat.beq_refl i⟩
def xD (ops:Array Oper) (os done:List Nat) (w:Option Nat) (W:List Nat):Bool :=
 (os.all fun j=>!Ce j W) &&   (List.range ops.size).all fun i=>Ce i os || Ce i done || (done.any fun d=>Nat.testBit ((Region.before ops).getD d 0) i) || (match w with | some w=>Nat.beq i w || Nat.testBit ((Region.before ops).getD i 0) w | none=>false)
def Ch (R:aR) (C:bQ) (nt:Nat) (ops:Array Oper) (srcs:List Src) (fin:Src) (e0:Env) (Q:Env→St→Prop):List Nat→List Nat→List (Option AV)→St→Prop
 | [],done,ws,S=>∃ os,xD ops os done none []=true∧RL R C nt ops srcs e0 ws S os∧∃ E,kU ws e0 fin=some E∧Q E S
 | i :: W,done,ws,S=>∃ os,xD ops os done (some i) (i :: W)=true∧RL R C nt ops srcs e0 ws S os∧∃ o e,ops[i]? = some o∧kU ws e0 (srcs.getD i [])=some e ∧
   GL R C nt ops S e o (fun v S'=>∃ ws',lg ws' ws∧(∀ t,o.dst=some t→∃ x,ws'[i]? = some (some x)∧Less x v)∧Ch R C nt ops srcs fin e0 Q W (i :: done) ws' S')
def Ea (ops:Array Oper) (nt:Nat) (srcs:List Src) (fin:Src):Bool :=
 mh ops && Bl ops fin && (List.range ops.size).all fun i=>zA ops ((Region.before ops).getD i 0) i (srcs.getD i []) && (match ops[i]? with | some o=>(match o.dst with | some t=>Nat.blt t nt | none=>true) && (match o.op with | .next _ _=>false | _=>true) | none=>true)
theorem az.Dl (hR:fe R C) (hm:C.P.follows .mixedOrders=true) {id:Nat} {ops:Array Oper} (srcs:List Src) (fin:Src) (ht:Ea ops nt srcs fin=true) (W:List Nat) (hWn:W.Nodup) {e0:Env} {S:St} (ws:List (Option AV)) {Q:kW→Prop}
  (h:Ch R C nt ops srcs fin e0 (fun e' S'=>Q (.normal,e',S')) W [] ws S):az R C.P nt (.region id ops true) e0 S Q:=by
 simp only [Ea,Bool.and_eq_true] at ht
 obtain ⟨⟨hr,hfin⟩,hall⟩:=ht
 have hsrc:∀ i,i < ops.size→zA ops ((Region.before ops).getD i 0) i (srcs.getD i [])=true:=fun i hi=>by
  have:=List.all_eq_true.1 hall i (List.mem_range.2 hi)
  simp only [Bool.and_eq_true] at this
  exact this.1
 have hnt:∀ (k:Nat) (o:Oper) (t:Nat),ops[k]? = some o→o.dst=some t→t < nt:=fun k o t hk hd=>by
  have:=List.all_eq_true.1 hall k (List.mem_range.2 (Array.getElem?_eq_some_iff.1 hk).1)
  simp only [Bool.and_eq_true,hk,hd] at this
  exact Nat.le_of_ble_eq_true this.2.1
 have hnx:∀ (k:Nat) (o:Oper),ops[k]? = some o→∀ t,o.op ≠ .next (.tmp t) false:=fun k o hk t ho=>by
  have:=List.all_eq_true.1 hall k (List.mem_range.2 (Array.getElem?_eq_some_iff.1 hk).1)
  simp only [Bool.and_eq_true,hk,ho] at this
  cases this.2.2
 intro cx w a Kx hS he hk
 refine wp_region_any hm ?_
 obtain ⟨d1,d2⟩:=iB hR.toObjOk hS
 let Inv:Array Bool→Act→World→Prop:=fun listed a' w'=>a'.defers=a.defers∧∃ W' done ws' S' cx',Ch R C nt ops srcs fin e0 (fun e' S'=>Q (.normal,e',S')) W' done ws' S'∧(∀ i ∈ done,listed.getD i false=true)∧(∀ i ∈ W',listed.getD i false=false)∧W'.Nodup ∧
  aD R cx' S' w'∧Ext cx S w cx' S' w'∧pG nt ops e0 listed ws' cx' S' w' a'
 have repf:∀ i,(Array.replicate ops.size false).getD i false=false:=fun i=>qi _ _
 refine D6 hr Inv ?_ ?_ ops.size (Array.replicate ops.size false) (by simp) (fun j hj=>by rw [repf] at hj; cases hj) ?_ ?_
 ·
  intro listed a' w' i o K hsz hcl hun hi hclo ⟨hd,W',done,ws',S',cx',hD,hdone,hW',hnd,s1,x1,env⟩ hK
  have hlt:i < ops.size:=(Array.getElem?_eq_some_iff.1 hi).1
  have rstep:∀ os,RL R C nt ops srcs e0 ws' S' os→i ∈ os→i ∉ W'→wpOp C.P ops Kx i K a' w':=fun os hrl hio hiw=>by
   obtain ⟨o2,x,e,h1,h2,h3,h4⟩:=hrl.get hio
   rw [hi] at h1; cases h1
   have hrel:=yz hr hcl env hlt hun hclo h3 (hsrc i hlt)
   refine BX hR h4 s1 hrel (fun cx2 w2 u q1 q2 q3=>hK _ _ ⟨by rw [put_defers]; exact hd,W',done,ws',S',cx2,hD,fun j hj=>?_,fun j hj=>?_,hnd,q1,x1.trans q2,?_⟩) (hnx i o hi) hi
   ·
    by_cases hij:i=j
    ·
     subst hij; exact getD_set_true (hdone i hj)
    ·
     rw [getD_set_ne false hij]; exact hdone j hj
   ·
    have hij:i ≠ j:=fun q=>hiw (q ▸ hj)
    rw [getD_set_ne false hij]; exact hW' j hj
   ·
    exact pG.step hr hnt hsz hcl (fun k y _ hy=>⟨y,hy,.refl y⟩) env hi hun q2 (fun t ht=>⟨x,h2,q3 t ht⟩)
  have cov:∀ os w0,xD ops os done w0 W'=true→(i ∈ os∧i ∉ W')∨∃ w1,w0=some w1∧(i=w1∨listed.getD w1 false=true):=fun os w0 hc=>by
   simp only [xD,Bool.and_eq_true] at hc
   obtain ⟨c1,c2⟩:=hc
   have:=List.all_eq_true.1 c2 i (List.mem_range.2 hlt)
   simp only [Bool.or_eq_true] at this
   rcases this with ((q | q) | q) | q
   ·
    left
    have hio:=sS.1 q
    refine ⟨hio,fun hiw=>?_⟩
    have:=List.all_eq_true.1 c1 i hio
    rw [sS.2 hiw] at this; cases this
   ·
    have:=hdone i (sS.1 q)
    rw [hun] at this; cases this
   ·
    obtain ⟨d,hd1,hd2⟩:=List.any_eq_true.1 q
    have hl:=hdone d hd1
    have hdlt:d < ops.size:=by
     rcases Nat.lt_or_ge d ops.size with q | q
     ·
      exact q
     ·
      have:listed.getD d false=false:=by simp [show listed.size ≤ d by omega]
      rw [hl] at this; cases this
    have:=hcl d hl i (mR hr hdlt hd2) hd2
    rw [hun] at this; cases this
   ·
    right
    cases w0 with
    | none=>cases q
    | some w1 =>
     simp only [Bool.or_eq_true] at q
     refine ⟨w1,rfl,q.imp Nat.eq_of_beq_eq_true (fun q=>hclo w1 (mR hr hlt q) q)⟩
  cases W' with
  | nil =>
   obtain ⟨os,hc,hrl,_⟩:=_root_.id hD
   rcases cov os none hc with h | ⟨w1,h,_⟩
   ·
    exact rstep os hrl h.1 h.2
   ·
    cases h
  | cons w0 W2 =>
   obtain ⟨os,hc,hrl,o2,e,h1,h2,h3⟩:=_root_.id hD
   rcases cov os (some w0) hc with h | ⟨w1,h,hq⟩
   ·
    exact rstep os hrl h.1 h.2
   ·
    cases h
    rcases hq with rfl | hq
    ·
     rw [hi] at h1; cases h1
     have hrel:=yz hr hcl env hlt hun hclo h2 (hsrc i hlt)
     refine BH hR h3 s1 hrel (fun v S2 cx2 w2 u hqv q1 q2 q3=>?_) (hnx i o hi) hi
     obtain ⟨ws2,l1,l2,l3⟩:=hqv
     refine hK _ _ ⟨by rw [put_defers]; exact hd,W2,i :: done,ws2,S2,cx2,l3,fun j hj=>?_,fun j hj=>?_,(List.nodup_cons.1 hnd).2,q1,x1.trans q2,?_⟩
     ·
      by_cases hij:i=j
      ·
       subst hij
       have hlt':i < listed.size:=by omega
       simp [hlt']
      ·
       rw [getD_set_ne false hij]
       rcases List.mem_cons.1 hj with q | q
       ·
        exact absurd q.symm hij
       ·
        exact hdone j q
     ·
      have hij:i ≠ j:=fun q=>(List.nodup_cons.1 hnd).1 (q ▸ hj)
      rw [getD_set_ne false hij]; exact hW' j (List.mem_cons_of_mem _ hj)
     ·
      exact pG.step hr hnt hsz hcl (fun k y _ hy=>l1.get hy) env hi hun q2 (fun t ht=>by
       obtain ⟨x,k1,k2⟩:=l2 t ht
       exact ⟨x,k1,k2 _ _ _ _ (q3 t ht)⟩)
    ·
     have:=hW' w0 List.mem_cons_self
     rw [hq] at this; cases this
 ·
  intro listed a' w' hall' ⟨hd,W',done,ws',S',cx',hD,hdone,hW',hnd,s1,x1,env⟩
  cases W' with
  | nil =>
   obtain ⟨os,hc,hrl,E,hE,hQ⟩:=hD
   exact hk (.normal,E,S') hQ cx' a' w' s1 x1 (CQ hall' env hE hfin) hd
  | cons w0 W2 =>
   obtain ⟨os,hc,hrl,o2,e,h1,h2,h3⟩:=hD
   have:=hall' w0 (Array.getElem?_eq_some_iff.1 h1).1
   rw [hW' w0 List.mem_cons_self] at this; cases this
 ·
  have:((List.range ops.size).filter fun i=>!(Array.replicate ops.size false).getD i false)=List.range ops.size:=by
   rw [List.filter_eq_self]; intro i hi; rw [repf]; rfl
  rw [this]; simp
 ·
  refine ⟨rfl,W,[],ws,S,cx,h,fun i hi=>(by cases hi),fun i hi=>repf i,hWn,d1,d2,he.size,fun k o t _ _ hl _=>?_,fun t x hx _=>?_⟩
  ·
   rw [repf] at hl; cases hl
  ·
   obtain ⟨v,v1,v2⟩:=he.rel t x hx
   exact ⟨v,v1,v2.mono d2⟩
end
end Go.Ev
namespace Go.Ev
end Go.Ev

namespace Go.Ev
noncomputable section
open Go.Shelf Go.RowKit Go.Proofs
set_option linter.unusedVariables false
set_option linter.unusedSimpArgs false
end
end Go.Ev

namespace Go.Ev
noncomputable section
open Go.Shelf Go.RowKit Go.Proofs
set_option linter.unusedVariables false
set_option linter.unusedSimpArgs false
def jm (P:Program):bQ:={ P:=P,good:=fun _=>false,rowT:=fun _=>false,prim:=fun _ _ _=>none,objT:=fun _=>none,hasPrim:=fun _=>false }
theorem Dy {P:Program} {w:World} {t t2 e ty:Nat} {ie:TypeInfo} (hu:P.underlying t=some (.slice e)) (hi:P.info? e=some ie) (hz0:ie.zero=some (.int .u8 0)) (hz1:ie.size=1) (hz2:ie.bytes=1)
  (h2:eu (jm P) t2=true) {v u:Value} {n m:Nat} {xs news:List Value} (hown:w.ownsRow 0 e 1 v n xs)
  (hn:(Builtin.lenOf u).run P w=.ok m w) (hnew:∀ w',w'.heap=w.heap→(Builtin.firstCells 1 m u).run P w'=.ok news.toArray w') (hl:news.length=m) (h1:∀ x ∈ news,x.oneCell'=true) (hb:n + m ≤ bound) :
  ∃ v' w',(Builtin.append_ #[t,t2] ty #[v,u]).run P w=.ok v' w'∧w'.ownsRow 0 e 1 v' (n + m) (xs ++ news)∧w.grownBy w' v.ownBlock∧(v'.ownBlock=v.ownBlock∨v'.ownBlock=some w.heap.size):=by
 have hxl:xs.length=n:=by have:=hown.1; omega
 have hlen:(xs ++ news).length=(n + m) * 1:=by rw [List.length_append,hxl,hl]; omega
 have hmax:maxLen=9223372036854775807:=by decide
 have grows:∀ (base:Option Addr) (cap:Nat) (row:Option Nat),n ≤ cap→¬ n + m ≤ cap→(∀ w',w'.heap=w.heap→(Builtin.firstCells ie.size n (.slice base n cap)).run P w'=.ok xs.toArray w') →
   ∃ v' w',(Builtin.append_ #[t,t2] ty #[.slice base n cap,u]).run P w=.ok v' w'∧w'.ownsRow 0 e 1 v' (n + m) (xs ++ news)∧w.grownBy w' row∧(v'.ownBlock=some w.heap.size):=by
  intro base cap row hnc hroom hold
  obtain ⟨nc,n1,n63,n2⟩:=eT (C:=jm P) (w:=w) (ty:=ty) (sLen:=n) (sCap:=cap) (n:=m) (base:=base) (u:=u) hu hi h2 hn hroom (by omega) (by omega) (by rw [hz2,Nat.mul_one]; exact hb) hz0 (hold _ rfl) (by rw [hz1]; exact hnew w.drew rfl)
  refine ⟨_,_,n2,⟨hlen,.inr ⟨w.heap.size,nc,_,rfl,Nat.zero_le _,heap_alloc_new w.drew _,n1,by omega,?_,?_⟩⟩,⟨rfl,rfl,rfl,by rw [size_alloc]; exact Nat.le_succ _,fun k hk _=>heap_alloc_old w.drew _ hk⟩,rfl⟩
  ·
   simp [fF,Value.cells,hxl,hl]; omega
  ·
   have:(n + m) * 1=(xs ++ news).length:=hlen.symm
   rw [this]
   simp only [Array.toList_append,List.append_assoc]
   rw [← List.append_assoc]
   exact List.take_left
 rcases hown.2 with ⟨rfl,rfl⟩ | ⟨g,cap,cur,rfl,_,hg,hnc,hcm,hcs,htake⟩
 ·
  have hxe:xs=[]:=List.eq_nil_of_length_eq_zero hxl
  subst hxe
  by_cases hm:m=0
  ·
   subst hm
   have hne:news=[]:=List.eq_nil_of_length_eq_zero hl
   subst hne
   refine ⟨.slice none 0 0,w,?_,World.ownsRow_nil w 0 e 1,⟨rfl,rfl,rfl,Nat.le_refl _,fun _ _ _=>rfl⟩,.inl rfl⟩
   exact run_append_fits (C:=jm P) (ty:=ty) (sLen:=0) (sCap:=0) (n:=0) (base:=none) hu hi h2 hn (Nat.le_refl _) (by rw [hz1]; exact hnew w rfl)
  ·
   obtain ⟨v',w',a1,a2,a3,a4⟩:=grows none 0 (Value.ownBlock (.slice none 0 0)) (Nat.le_refl _) (by omega) (fun w' _=>by simp [Builtin.firstCells,loadCells,loadCellsFrom])
   exact ⟨v',w',a1,a2,a3,.inr a4⟩
 ·
  rw [Nat.mul_one] at hcs htake
  by_cases hroom:n + m ≤ cap
  ·
   obtain ⟨w',r1,r2,r3,r4,r5,r6,r7,r8⟩:=eF (P:=P) news w g (n * ie.size) 0 cur e (0,0) hg h1 (by rw [hz1]; omega) (.inl rfl)
   refine ⟨.slice (some ⟨g,0,none⟩) (n + m) cap,w',?_,⟨hlen,.inr ⟨g,cap,_,rfl,Nat.zero_le _,r8,hroom,hcm,?_,?_⟩⟩,⟨r4,r5,r6,by rw [r2]; exact Nat.le_refl _,fun k _ hk=>r3 k (fun q=>hk (by rw [q]; rfl))⟩,.inl rfl⟩
   ·
    refine (run_append_fits (C:=jm P) (ty:=ty) (sLen:=n) (sCap:=cap) (n:=m) (base:=some ⟨g,0,none⟩) hu hi h2 hn hroom (by rw [hz1]; exact hnew w rfl)).trans ?_
    simp only [eP,Nat.zero_add]
    show ((storeCells ⟨g,n * ie.size,none⟩ news 0).run P w).andThen _=_
    rw [r1]; rfl
   ·
    simp [bO,hcs]
   ·
    rw [hz1,Nat.mul_one,Nat.mul_one,Nat.add_zero]
    apply List.ext_getElem?
    intro j
    rw [List.getElem?_take,List.getElem?_append,hxl]
    by_cases hj:j < n + m
    ·
     rw [if_pos hj,dm _ _ _ _ (by simp; omega)]
     by_cases hj2:j < n
     ·
      rw [if_neg (by omega),if_pos hj2,← htake,List.getElem?_take,if_pos hj2]
     ·
      rw [if_pos (by omega),if_neg hj2]
    ·
     rw [if_neg hj,if_neg (by omega),List.getElem?_eq_none (by omega)]
  ·
   obtain ⟨v',w',a1,a2,a3,a4⟩:=grows (some ⟨g,0,none⟩) cap (some g) hnc hroom (fun w' hh=>by
    have hg':w'.heap[g]? = some (.cells cur e (0,0)):=by rw [hh]; exact hg
    have:=jR (P:=P) (w:=w') (b:=g) (o:=0) (n:=n * ie.size) hg' (by rw [hz1]; omega)
    rw [hz1,Nat.mul_one,List.drop_zero,htake] at this
    rw [hz1]
    simpa [Builtin.firstCells] using this)
   exact ⟨v',w',a1,a2,a3,.inr a4⟩
theorem mF {P:Program} {w:World} {ops:Array Oper} {rest:List Oper} {o:Oper} {a:Act} {Q:Exit→Act→World→Prop} (hgd:o.guard=none) (s x:Operand) (t t2:TypeId)
  (ho:o.op=.call { callee:=.builtin .append,args:=#[s,x],argTypes:=#[t,t2] })
  (e:TypeId) (ie:TypeInfo) (hu:P.underlying t=some (.slice e)) (hi:P.info? e=some ie) (hz0:ie.zero=some (.int .u8 0)) (hz1:ie.size=1) (hz2:ie.bytes=1) (h2:eu (jm P) t2=true)
  (v:Value) (n:Nat) (xs:List Value) (hs:a.eval s=v) (hown:w.ownsRow 0 e 1 v n xs) (u:Value) (m:Nat) (news:List Value) (hx:a.eval x=u)
  (hn:(Builtin.lenOf u).run P w=.ok m w) (hnew:∀ w',w'.heap=w.heap→(Builtin.firstCells 1 m u).run P w'=.ok news.toArray w') (hl:news.length=m) (h1:∀ y ∈ news,y.oneCell'=true) (hb:n + m ≤ bound)
  (h:∀ v' w',w'.ownsRow 0 e 1 v' (n + m) (xs ++ news)→w.grownBy w' v.ownBlock→(v'.ownBlock=v.ownBlock∨v'.ownBlock=some w.heap.size)→wpList P ops Q rest (a.put o.dst v') w'):wpList P ops Q (o :: rest) a w :=
 wpList_plain hgd fun _ hK=>by
  obtain ⟨v',w',hr,a1,a2,a3⟩:=Dy (ty:=o.type) hu hi hz0 hz1 hz2 h2 hown hn hnew hl h1 hb
  unfold Oper.wp execOp
  simp only [ho,resolve,invoke,builtin,Sem.run_bind,Sem.run_pure,Result.andThen_ok,List.map_toArray,List.map_cons,List.map_nil,hs,hx,hr]
  exact hK _ _ (h v' w' a1 a2 a3)
def rD (w w':World) (b:Nat) (v:Value) (xs:List Value) (T e:Nat):Prop :=
 (w'.os=w.os∧w'.tape=w.tape∧w'.output=w.output∧w.heap.size ≤ w'.heap.size) ∧
 ∃ v',w'.heap[b]? = some (.cells #[.pointer (some ⟨b,0,none⟩),v'] T (0,0))∧w'.ownsRow 0 e 1 v' xs.length xs∧v'.ownBlock ≠ some b ∧
  (∀ k,k < w.heap.size→k ≠ b→some k ≠ v.ownBlock→w'.heap[k]? = w.heap[k]?)∧(∀ g,v'.ownBlock=some g→v.ownBlock=some g∨w.heap.size ≤ g)
structure oF (T e:Nat) (b:Nat) (p v:Value) (xs:List Value) (w:World):Prop where
 hp:p=.pointer none∨p=.pointer (some ⟨b,0,none⟩)
 blk:w.heap[b]? = some (.cells #[p,v] T (0,0))
 own:w.ownsRow 0 e 1 v xs.length xs
 ne:v.ownBlock ≠ some b
theorem vw {P:Program} {ρ:Ren} (L:Lays.n240 P ρ) (X:Builder.X72 P ρ) {b:Nat} {p v:Value} {xs:List Value} {w:World} (h:oF (ρ.t 72) (ρ.t 5) b p v xs w) :
  Calls P (ρ.f 240) #[.pointer (some ⟨b,0,none⟩)] w fun e w'=>e=.returned (.tuple #[])∧oF (ρ.t 72) (ρ.t 5) b (.pointer (some ⟨b,0,none⟩)) v xs w' ∧
   w'.os=w.os∧w'.tape=w.tape∧w'.output=w.output∧w'.heap.size=w.heap.size∧∀ k,k ≠ b→w'.heap[k]? = w.heap[k]?:=by
 obtain ⟨hp,hb,hown,hne⟩:=h
 have hlt:b < w.heap.size:=by
  rcases Nat.lt_or_ge b w.heap.size with h' | h'
  ·
   exact h'
  ·
   simp [Array.getElem?_eq_none h'] at hb
 rcases hp with rfl | rfl
 ·
  refine (Any.Builder_copyCheck_fresh L X b w (by rw [Lib.cell_of_heap hb]; rfl) (by simp [World.shape?,hb]) (by simp [World.frozen?,hb])).mono ?_
  rintro e w' ⟨rfl,rfl⟩
  have hoth:∀ k,k ≠ b→(w.setCell ⟨b,0,none⟩ (.pointer (some ⟨b,0,none⟩))).heap[k]? = w.heap[k]?:=fun k hk=>by simp [World.setCell,Array.getElem?_modify,Ne.symm hk]
  refine ⟨rfl,⟨.inr rfl,by simp [World.setCell,Array.getElem?_modify,hb],hown.kept (row:=some b) ⟨rfl,rfl,rfl,by simp [World.setCell],fun k _ hk=>hoth k (fun q=>hk (by rw [q]))⟩ (.inr hne),hne⟩,rfl,rfl,rfl,by simp [World.setCell],hoth⟩
 ·
  refine (Any.Builder_copyCheck_used L X b w (by rw [Lib.cell_of_heap hb]; rfl)).mono ?_
  rintro e w' ⟨rfl,rfl⟩
  exact ⟨rfl,⟨.inr rfl,hb,hown,hne⟩,rfl,rfl,rfl,rfl,fun _ _=>rfl⟩
theorem Ap {T e:Nat} {b:Nat} {v v':Value} {xs xs':List Value} {w w1 w2:World} (h1:oF T e b (.pointer (some ⟨b,0,none⟩)) v xs w1)
  (q1:w1.os=w.os) (q2:w1.tape=w.tape) (q3:w1.output=w.output) (q4:w1.heap.size=w.heap.size) (q5:∀ k,k ≠ b→w1.heap[k]? = w.heap[k]?)
  (hown':w2.ownsRow 0 e 1 v' xs'.length xs') (hgrow:w1.grownBy w2 v.ownBlock) (hblk:∀ g,v'.ownBlock=some g→v.ownBlock=some g∨w1.heap.size ≤ g) (hTe:T ≠ e):rD w (w2.setCell ⟨b,1,none⟩ v') b v xs' T e:=by
 obtain ⟨hp,hb,hown,hne⟩:=h1
 have hlt:b < w1.heap.size:=by
  rcases Nat.lt_or_ge b w1.heap.size with h' | h'
  ·
   exact h'
  ·
   simp [Array.getElem?_eq_none h'] at hb
 have hb2:w2.heap[b]? = some (.cells #[.pointer (some ⟨b,0,none⟩),v] T (0,0)):=by
  rw [hgrow.block b hlt (fun e=>hne e.symm)]; exact hb
 have hne':v'.ownBlock ≠ some b:=fun q=>by
  rcases hown'.2 with ⟨rfl,_⟩ | ⟨g,cap,cur,rfl,_,hg,_⟩
  ·
   simp [Value.ownBlock] at q
  ·
   simp [Value.ownBlock] at q
   subst q
   rw [hb2] at hg
   simp at hg
   exact hTe hg.2
 have hoth:∀ k,k ≠ b→(w2.setCell ⟨b,1,none⟩ v').heap[k]? = w2.heap[k]?:=fun k hk=>by simp [World.setCell,Array.getElem?_modify,Ne.symm hk]
 refine ⟨⟨hgrow.os.trans q1,hgrow.tape.trans q2,hgrow.output.trans q3,by have:=hgrow.size; simp [World.setCell]; omega⟩,v',by simp [World.setCell,Array.getElem?_modify,hb2],
  hown'.kept (row:=some b) ⟨rfl,rfl,rfl,by simp [World.setCell],fun k _ hk=>hoth k (fun q=>hk (by rw [q]))⟩ (.inr hne'),hne',fun k hk hkb hkv=>?_,fun g hg=>by rw [← q4]; exact hblk g hg⟩
 rw [hoth k hkb,hgrow.block k (by omega) hkv]
 exact q5 k hkb
set_option maxHeartbeats 2000000 in
set_option maxRecDepth 100000 in
theorem uM {P:Program} {ρ:Ren} (L:Lays.n167 P ρ) (X:Builder.Extra P ρ) {b:Nat} {p v:Value} {xs:List Value} {w:World} (h:oF (ρ.t 72) (ρ.t 5) b p v xs w) (c:Int) (hlen:xs.length + 1 ≤ bound) :
  Calls P (ρ.f 167) #[.pointer (some ⟨b,0,none⟩),.int .u8 c] w fun e w'=>e=.returned .nilIface∧rD w w' b v (xs ++ [.int .u8 c]) (ρ.t 72) (ρ.t 5):=by
 obtain ⟨i0,hi,hz0,hz1,hz2⟩:=info_parts X.infoByte
 have mixed:=L.mixed
 have t72:=L.t72; have a72:=L.a72; have z72:=L.z72; have v72:=L.v72; have u72:=run_underlying L.t72
 have t70:=L.t70; have a70:=L.a70; have z70:=L.z70; have v70:=L.v70; have u70:=run_underlying L.t70
 have t5:=L.t5; have a5:=L.a5; have z5:=L.z5; have v5:=L.v5; have u5:=run_underlying L.t5
 have t37:=L.t37; have a37:=L.a37; have z37:=L.z37; have v37:=L.v37; have u37:=run_underlying L.t37
 have t9:=L.t9; have a9:=L.a9; have z9:=L.z9; have v9:=L.v9; have u9:=run_underlying L.t9
 have t4:=L.t4; have a4:=L.a4; have z4:=L.z4; have v4:=L.v4; have u4:=run_underlying L.t4
 have t164:=L.t164; have a164:=L.a164; have z164:=L.z164; have v164:=L.v164; have u164:=run_underlying L.t164
 have e240:∀ args w,(callFunc (ρ.f 240) args).run P w=.ok (.enter (ρ.f 240) args) w:=enters_of L.f240 (by kernel_rfl) rfl
 go_enter L.f167,Body.n167_ntmps ρ
 go_wp2_with (go_at_fn (ρ.f 240); refine (vw { L with } X.toX72 h).mono ?_)
 rintro e w1 ⟨rfl,h1,q1,q2,q3,q4,q5⟩
 have hb1:=h1.blk
 have c0:w1.cell? ⟨b,0,none⟩=some (.pointer (some ⟨b,0,none⟩)):=by rw [Lib.cell_of_heap hb1]; rfl
 have c1:w1.cell? ⟨b,1,none⟩=some v:=by rw [Lib.cell_of_heap hb1]; rfl
 have hlt:b < w1.heap.size:=by
  rcases Nat.lt_or_ge b w1.heap.size with h' | h'
  ·
   exact h'
  ·
   simp [Array.getElem?_eq_none h'] at hb1
 have hsrc:eu (jm P) (ρ.t 37)=true:=by simp [eu,jm,L.t37]
 go_wp2_with (at_builtin; refine mF rfl _ _ (ρ.t 37) (ρ.t 37) rfl (ρ.t 5) i0 L.t37 hi hz0 hz1 hz2 hsrc _ _ _ rfl (h1.own.alloc _) _ 1 [.int .u8 c] rfl rfl ?c1 rfl ?c2 hlen ?_)
 case c1 =>
  intro w' hw'
  show (Builtin.firstCells 1 1 (.slice (some ⟨w.heap.size,0,none⟩) 1 1)).run P w'=_
  rw [← q4]
  have:=jR (P:=P) (w:=w') (b:=w1.heap.size) (o:=0) (n:=1) (arr:=#[.int .u8 c]) (el:=ρ.t 5) (fz:=(0,0)) (by rw [hw']; exact heap_alloc_new w1 _) (by simp)
  simpa [Builtin.firstCells] using this
 case c2=>intro u hu; simp at hu; subst hu; rfl
 intro v' w2 hown' hgrow hblk
 have hb2:w2.heap[b]? = some (.cells #[.pointer (some ⟨b,0,none⟩),v] (ρ.t 72) (0,0)):=by
  rw [hgrow.block b (by simp; omega) (fun e=>h1.ne e.symm),Lib.alloc_old w1 _ b hlt]
  exact hb1
 have d0:w2.cell? ⟨b,0,none⟩=some (.pointer (some ⟨b,0,none⟩)):=by rw [Lib.cell_of_heap hb2]; rfl
 have d1:w2.cell? ⟨b,1,none⟩=some v:=by rw [Lib.cell_of_heap hb2]; rfl
 have f1:w2.frozen? ⟨b,1,none⟩=false:=Lib.frozen_of_heap hb2 1
 obtain ⟨g,cap,rfl⟩:∃ g cap,v'=.slice (some ⟨g,0,none⟩) (xs.length + 1) cap:=by
  rcases hown'.2 with ⟨_,h0⟩ | ⟨g,cap,cur,hv,_⟩
  ·
   omega
  ·
   exact ⟨g,cap,hv⟩
 go_wp2
 go_ret
 refine ⟨rfl,Ap h1 q1 q2 q3 q4 q5 (by simpa using hown') ⟨hgrow.os,hgrow.tape,hgrow.output,by have:=hgrow.size; simp at this; omega,fun k hk hkv=>by rw [hgrow.block k (by simp; omega) hkv]; exact Lib.alloc_old w1 _ k hk⟩ (fun g hg=>?_) X.neB5⟩
 rcases hblk with hq | hq
 ·
  exact .inl (hq.symm.trans hg)
 ·
  rw [hq] at hg
  simp at hg
  exact .inr (by omega)
set_option maxHeartbeats 2000000 in
set_option maxRecDepth 100000 in
theorem qW {P:Program} {ρ:Ren} (L:Lays.n166 P ρ) (X:Builder.Extra P ρ) {b:Nat} {p v:Value} {xs:List Value} {w:World} (h:oF (ρ.t 72) (ρ.t 5) b p v xs w) (s:ByteArray) (hlen:xs.length + s.size ≤ bound) :
  Calls P (ρ.f 166) #[.pointer (some ⟨b,0,none⟩),.string s] w fun e w'=>e=.returned (.tuple #[.int .i64 s.size,.nilIface])∧rD w w' b v (xs ++ Lib.strCells s) (ρ.t 72) (ρ.t 5):=by
 obtain ⟨i0,hi,hz0,hz1,hz2⟩:=info_parts X.infoByte
 have mixed:=L.mixed
 have t72:=L.t72; have a72:=L.a72; have z72:=L.z72; have v72:=L.v72; have u72:=run_underlying L.t72
 have t70:=L.t70; have a70:=L.a70; have z70:=L.z70; have v70:=L.v70; have u70:=run_underlying L.t70
 have t37:=L.t37; have a37:=L.a37; have z37:=L.z37; have v37:=L.v37; have u37:=run_underlying L.t37
 have t3:=L.t3; have a3:=L.a3; have z3:=L.z3; have v3:=L.v3; have u3:=run_underlying L.t3
 have t9:=L.t9; have a9:=L.a9; have z9:=L.z9; have v9:=L.v9; have u9:=run_underlying L.t9
 have t4:=L.t4; have a4:=L.a4; have z4:=L.z4; have v4:=L.v4; have u4:=run_underlying L.t4
 have t164:=L.t164; have a164:=L.a164; have z164:=L.z164; have v164:=L.v164; have u164:=run_underlying L.t164
 have t5:=X.t5; have a5:=X.a5; have z5:=X.z5; have v5:=X.v5; have u5:=run_underlying X.t5
 have e240:∀ args w,(callFunc (ρ.f 240) args).run P w=.ok (.enter (ρ.f 240) args) w:=enters_of L.f240 (by kernel_rfl) rfl
 go_enter L.f166,Body.n166_ntmps ρ
 go_wp2_with (go_at_fn (ρ.f 240); refine (vw { L with } X.toX72 h).mono ?_)
 rintro e w1 ⟨rfl,h1,q1,q2,q3,q4,q5⟩
 have hb1:=h1.blk
 have c0:w1.cell? ⟨b,0,none⟩=some (.pointer (some ⟨b,0,none⟩)):=by rw [Lib.cell_of_heap hb1]; rfl
 have c1:w1.cell? ⟨b,1,none⟩=some v:=by rw [Lib.cell_of_heap hb1]; rfl
 have hlt:b < w1.heap.size:=by
  rcases Nat.lt_or_ge b w1.heap.size with h' | h'
  ·
   exact h'
  ·
   simp [Array.getElem?_eq_none h'] at hb1
 have hsrc:eu (jm P) (ρ.t 9)=true:=by simp [eu,jm,L.t9]
 have hsl:(Lib.strCells s).length=s.size:=Lib.strCells_length s
 go_wp2_with (at_builtin; refine mF rfl _ _ (ρ.t 37) (ρ.t 9) rfl (ρ.t 5) i0 L.t37 hi hz0 hz1 hz2 hsrc _ _ _ rfl h1.own _ s.size (Lib.strCells s) rfl rfl ?c1 hsl ?c2 hlen ?_)
 case c1 =>
  intro w' hw'
  show (Builtin.firstCells 1 s.size (.string s)).run P w'=_
  simp only [Builtin.firstCells,Sem.run_pure]
  congr 1
  apply Array.ext'
  simp [Lib.strCells]
 case c2=>intro u hu; simp [Lib.strCells] at hu; obtain ⟨_,_,rfl⟩:=hu; rfl
 intro v' w2 hown' hgrow hblk
 have hb2:w2.heap[b]? = some (.cells #[.pointer (some ⟨b,0,none⟩),v] (ρ.t 72) (0,0)):=by
  rw [hgrow.block b hlt (fun e=>h1.ne e.symm)]
  exact hb1
 have d0:w2.cell? ⟨b,0,none⟩=some (.pointer (some ⟨b,0,none⟩)):=by rw [Lib.cell_of_heap hb2]; rfl
 have d1:w2.cell? ⟨b,1,none⟩=some v:=by rw [Lib.cell_of_heap hb2]; rfl
 have f1:w2.frozen? ⟨b,1,none⟩=false:=Lib.frozen_of_heap hb2 1
 obtain ⟨ao,n',cap,rfl⟩:∃ ao n' cap,v'=.slice ao n' cap:=by
  rcases hown'.2 with ⟨hv,_⟩ | ⟨g,cap,cur,hv,_⟩
  ·
   exact ⟨_,_,_,hv⟩
  ·
   exact ⟨_,_,_,hv⟩
 go_wp2
 go_ret2
 refine ⟨rfl,Ap h1 q1 q2 q3 q4 q5 (by simpa [hsl] using hown') hgrow (fun g hg=>?_) X.neB5⟩
 rcases hblk with hq | hq
 ·
  exact .inl (hq.symm.trans hg)
 ·
  rw [hq] at hg
  simp at hg
  exact .inr (by omega)
def Kept (w w':World) (b:Nat) (v:Value):Prop :=
 w'.os=w.os∧w'.tape=w.tape∧w'.output=w.output∧w.heap.size ≤ w'.heap.size∧∀ k,k < w.heap.size→k ≠ b→some k ≠ v.ownBlock→w'.heap[k]? = w.heap[k]?
theorem Kept.same {w w':World} (b:Nat) (v:Value) (h1:w'.os=w.os) (h2:w'.tape=w.tape) (h3:w'.output=w.output) (h4:w'.heap=w.heap):Kept w w' b v :=
 ⟨h1,h2,h3,by rw [h4]; exact Nat.le_refl _,fun k _ _ _=>by rw [h4]⟩
set_option maxHeartbeats 2000000 in
set_option maxRecDepth 100000 in
theorem ru {P:Program} {ρ:Ren} (L:Lays.n169 P ρ) (X:Builder.Extra P ρ) {b:Nat} {p v:Value} {l:List UInt8} {w:World} (h:oF (ρ.t 72) (ρ.t 5) b p v (Lib.byteCells l) w) (h0:l ≠ []) :
  Calls P (ρ.f 169) #[.pointer (some ⟨b,0,none⟩)] w fun e w'=>e=.returned (.string ⟨l.toArray⟩)∧Kept w w' b v:=by
 obtain ⟨hp,hbk,hown,hne⟩:=h
 have hl0:l.length ≠ 0:=by simpa using h0
 rw [Lib.byteCells_length] at hown
 obtain ⟨g,cap,cur,rfl,hg,hnc,hcm,hcs,htake⟩:∃ g cap cur,v=.slice (some ⟨g,0,none⟩) l.length cap∧w.heap[g]? = some (.cells cur (ρ.t 5) (0,0))∧l.length ≤ cap∧cap ≤ maxLen∧cur.size=cap * 1∧cur.toList.take (l.length * 1)=Lib.byteCells l:=by
  rcases hown.2 with ⟨_,hz⟩ | ⟨g,cap,cur,hv,_,r⟩
  ·
   exact absurd hz hl0
  ·
   exact ⟨g,cap,cur,hv,r⟩
 have c1:w.drew.cell? ⟨b,1,none⟩=some (.slice (some ⟨g,0,none⟩) l.length cap):=by
  have:w.drew.heap[b]? = some (.cells #[p,.slice (some ⟨g,0,none⟩) l.length cap] (ρ.t 72) (0,0)):=hbk
  rw [Lib.cell_of_heap this]; rfl
 have hSD:(Builtin.unsafeSliceData_ #[(ρ.t 37)] (ρ.t 127) #[.slice (some ⟨g,0,none⟩) l.length cap]).run P w.drew=.ok (.pointer (some ⟨g,0,none⟩)) w.drew :=
  Lib.run_unsafeSliceData_row _ _ _ _ _ _ (by omega)
 have hUS:(Builtin.unsafeString_ #[(ρ.t 127),(ρ.t 3)] (ρ.t 9) #[.pointer (some ⟨g,0,none⟩),.int .i64 l.length]).run P w.drew=.ok (.string ⟨l.toArray⟩) (w.drew.freeze ⟨g,0,none⟩ l.length):=by
  refine Lib.run_unsafeString_row w.drew (ρ.t 127) (ρ.t 3) (ρ.t 9) (ρ.t 5) L.t127 X.cellsByte g cur.size (by have hg':w.drew.heap[g]? = some (.cells cur (ρ.t 5) (0,0)):=hg; simp [World.shape?,hg']) l h0 (by omega) (by unfold maxLen at hcm; omega) ?_
  intro j x hx
  have:=hown.cells (g:=g) rfl j (.int .u8 x.toNat) (by simp [Lib.byteCells,hx])
  exact this
 have hfin:Kept w (w.drew.freeze ⟨g,0,none⟩ l.length) b (.slice (some ⟨g,0,none⟩) l.length cap):=by
  unfold World.freeze
  rw [if_neg hl0]
  refine ⟨rfl,rfl,rfl,by simp,fun k _ _ hk=>?_⟩
  have hk':g ≠ k:=fun q=>hk (by simp [Value.ownBlock,q])
  simp [Array.getElem?_modify,hk']
  rfl
 have mixed:=L.mixed
 have t72:=L.t72; have a72:=L.a72; have z72:=L.z72; have v72:=L.v72; have u72:=run_underlying L.t72
 have t70:=L.t70; have a70:=L.a70; have z70:=L.z70; have v70:=L.v70; have u70:=run_underlying L.t70
 have t37:=L.t37; have a37:=L.a37; have z37:=L.z37; have v37:=L.v37; have u37:=run_underlying L.t37
 have t127:=L.t127; have a127:=L.a127; have z127:=L.z127; have v127:=L.v127; have u127:=run_underlying L.t127
 have t3:=L.t3; have a3:=L.a3; have z3:=L.z3; have v3:=L.v3; have u3:=run_underlying L.t3
 have t9:=L.t9; have a9:=L.a9; have z9:=L.z9; have v9:=L.v9; have u9:=run_underlying L.t9
 have t5:=X.t5; have a5:=X.a5; have z5:=X.z5; have v5:=X.v5; have u5:=run_underlying X.t5
 go_enter L.f169,Body.n169_ntmps ρ
 go_wp2
 go_region_o
 all_goals (go_wp2; go_ret; exact ⟨rfl,hfin⟩)
set_option maxHeartbeats 2000000 in
set_option maxRecDepth 100000 in
theorem sN {P:Program} {ρ:Ren} (L:Lays.n169 P ρ) (X:Builder.Extra P ρ) {b:Nat} {p:Value} {w:World} (hbk:w.heap[b]? = some (.cells #[p,.slice none 0 0] (ρ.t 72) (0,0))) :
  Calls P (ρ.f 169) #[.pointer (some ⟨b,0,none⟩)] w fun e w'=>e=.returned (.string ⟨#[]⟩)∧Kept w w' b (.slice none 0 0):=by
 have hUS:=Any.unsafeString_none L X
 have c1:w.drew.cell? ⟨b,1,none⟩=some (.slice none 0 0):=by
  have:w.drew.heap[b]? = some (.cells #[p,.slice none 0 0] (ρ.t 72) (0,0)):=hbk
  rw [Lib.cell_of_heap this]; rfl
 have hSD:(Builtin.unsafeSliceData_ #[(ρ.t 37)] (ρ.t 127) #[.slice none 0 0]).run P w.drew=.ok (.pointer none) w.drew:=rfl
 have mixed:=L.mixed
 have t72:=L.t72; have a72:=L.a72; have z72:=L.z72; have v72:=L.v72; have u72:=run_underlying L.t72
 have t70:=L.t70; have a70:=L.a70; have z70:=L.z70; have v70:=L.v70; have u70:=run_underlying L.t70
 have t37:=L.t37; have a37:=L.a37; have z37:=L.z37; have v37:=L.v37; have u37:=run_underlying L.t37
 have t127:=L.t127; have a127:=L.a127; have z127:=L.z127; have v127:=L.v127; have u127:=run_underlying L.t127
 have t3:=L.t3; have a3:=L.a3; have z3:=L.z3; have v3:=L.v3; have u3:=run_underlying L.t3
 have t9:=L.t9; have a9:=L.a9; have z9:=L.z9; have v9:=L.v9; have u9:=run_underlying L.t9
 have t5:=X.t5; have a5:=X.a5; have z5:=X.z5; have v5:=X.v5; have u5:=run_underlying X.t5
 go_enter L.f169,Body.n169_ntmps ρ
 go_wp2
 go_region_o
 all_goals (go_wp2; go_ret; exact ⟨rfl,Kept.same _ _ rfl rfl rfl rfl⟩)
set_option maxHeartbeats 2000000 in
set_option maxRecDepth 100000 in
theorem pg {P:Program} {ρ:Ren} (L:Lays.n169 P ρ) (X:Builder.Extra P ρ) {b g:Nat} {p:Value} {cur:Array Value} {w:World} (hbk:w.heap[b]? = some (.cells #[p,.slice (some ⟨g,0,none⟩) 0 0] (ρ.t 72) (0,0))) (hg:w.heap[g]? = some (.cells cur (ρ.t 5) (0,0))) :
  Calls P (ρ.f 169) #[.pointer (some ⟨b,0,none⟩)] w fun e w'=>e=.returned (.string ⟨#[]⟩)∧Kept w w' b (.slice (some ⟨g,0,none⟩) 0 0):=by
 have hUS:=Any.unsafeString_none L X
 have hlt:b < w.heap.size:=by
  rcases Nat.lt_or_ge b w.heap.size with h' | h'
  ·
   exact h'
  ·
   simp [Array.getElem?_eq_none h'] at hbk
 have c1:w.drew.cell? ⟨b,1,none⟩=some (.slice (some ⟨g,0,none⟩) 0 0):=by
  have:w.drew.heap[b]? = some (.cells #[p,.slice (some ⟨g,0,none⟩) 0 0] (ρ.t 72) (0,0)):=hbk
  rw [Lib.cell_of_heap this]; rfl
 have hSD:(Builtin.unsafeSliceData_ #[(ρ.t 37)] (ρ.t 127) #[.slice (some ⟨g,0,none⟩) 0 0]).run P w.drew=.ok (.pointer (some ⟨w.drew.heap.size,0,none⟩)) (w.drew.alloc (.view ⟨g,0,none⟩ (ρ.t 5))) :=
  Lib.run_unsafeSliceData_zero w.drew _ _ (ρ.t 5) L.t127 ⟨g,0,none⟩ 0 ((ρ.t 5),cur.size) (by have hg':w.drew.heap[g]? = some (.cells cur (ρ.t 5) (0,0)):=hg; simp [World.shape?,hg'])
 have c2:(w.drew.alloc (.view ⟨g,0,none⟩ (ρ.t 5))).cell? ⟨b,1,none⟩=some (.slice (some ⟨g,0,none⟩) 0 0):=by
  have:(w.drew.alloc (.view ⟨g,0,none⟩ (ρ.t 5))).heap[b]? = _:=(Lib.alloc_old w.drew _ b hlt).trans hbk
  rw [Lib.cell_of_heap this]; rfl
 have c3:(w.alloc (.view ⟨g,0,none⟩ (ρ.t 5))).drew.cell? ⟨b,1,none⟩=some (.slice (some ⟨g,0,none⟩) 0 0):=c2
 have c0:w.cell? ⟨b,1,none⟩=some (.slice (some ⟨g,0,none⟩) 0 0):=c1
 have hfin:Kept w (w.drew.alloc (.view ⟨g,0,none⟩ (ρ.t 5))) b (.slice (some ⟨g,0,none⟩) 0 0) :=
  ⟨rfl,rfl,rfl,by rw [size_alloc]; exact Nat.le_succ _,fun k hk _ _=>heap_alloc_old w.drew _ hk⟩
 have mixed:=L.mixed
 have t72:=L.t72; have a72:=L.a72; have z72:=L.z72; have v72:=L.v72; have u72:=run_underlying L.t72
 have t70:=L.t70; have a70:=L.a70; have z70:=L.z70; have v70:=L.v70; have u70:=run_underlying L.t70
 have t37:=L.t37; have a37:=L.a37; have z37:=L.z37; have v37:=L.v37; have u37:=run_underlying L.t37
 have t127:=L.t127; have a127:=L.a127; have z127:=L.z127; have v127:=L.v127; have u127:=run_underlying L.t127
 have t3:=L.t3; have a3:=L.a3; have z3:=L.z3; have v3:=L.v3; have u3:=run_underlying L.t3
 have t9:=L.t9; have a9:=L.a9; have z9:=L.z9; have v9:=L.v9; have u9:=run_underlying L.t9
 have t5:=X.t5; have a5:=X.a5; have z5:=X.z5; have v5:=X.v5; have u5:=run_underlying X.t5
 go_enter L.f169,Body.n169_ntmps ρ
 go_wp2
 go_region_o
 all_goals (go_wp2; go_ret; exact ⟨rfl,hfin⟩)
set_option maxHeartbeats 2000000 in
set_option maxRecDepth 100000 in
theorem qU {P:Program} {ρ:Ren} (L:Lays.n169 P ρ) (X:Builder.Extra P ρ) {b g cap:Nat} {p:Value} {w:World} (hc0:cap ≠ 0) (hbk:w.heap[b]? = some (.cells #[p,.slice (some ⟨g,0,none⟩) 0 cap] (ρ.t 72) (0,0))) :
  Calls P (ρ.f 169) #[.pointer (some ⟨b,0,none⟩)] w fun e w'=>e=.returned (.string ⟨#[]⟩)∧Kept w w' b (.slice (some ⟨g,0,none⟩) 0 cap):=by
 have hUS:=Any.unsafeString_none L X
 have c1:w.drew.cell? ⟨b,1,none⟩=some (.slice (some ⟨g,0,none⟩) 0 cap):=by
  have:w.drew.heap[b]? = some (.cells #[p,.slice (some ⟨g,0,none⟩) 0 cap] (ρ.t 72) (0,0)):=hbk
  rw [Lib.cell_of_heap this]; rfl
 have hSD:(Builtin.unsafeSliceData_ #[(ρ.t 37)] (ρ.t 127) #[.slice (some ⟨g,0,none⟩) 0 cap]).run P w.drew=.ok (.pointer (some ⟨g,0,none⟩)) w.drew :=
  Lib.run_unsafeSliceData_row _ _ _ _ _ _ hc0
 clear hc0
 have mixed:=L.mixed
 have t72:=L.t72; have a72:=L.a72; have z72:=L.z72; have v72:=L.v72; have u72:=run_underlying L.t72
 have t70:=L.t70; have a70:=L.a70; have z70:=L.z70; have v70:=L.v70; have u70:=run_underlying L.t70
 have t37:=L.t37; have a37:=L.a37; have z37:=L.z37; have v37:=L.v37; have u37:=run_underlying L.t37
 have t127:=L.t127; have a127:=L.a127; have z127:=L.z127; have v127:=L.v127; have u127:=run_underlying L.t127
 have t3:=L.t3; have a3:=L.a3; have z3:=L.z3; have v3:=L.v3; have u3:=run_underlying L.t3
 have t9:=L.t9; have a9:=L.a9; have z9:=L.z9; have v9:=L.v9; have u9:=run_underlying L.t9
 have t5:=X.t5; have a5:=X.a5; have z5:=X.z5; have v5:=X.v5; have u5:=run_underlying X.t5
 go_enter L.f169,Body.n169_ntmps ρ
 go_wp2
 go_region_o
 all_goals (go_wp2; go_ret; exact ⟨rfl,Kept.same _ _ rfl rfl rfl rfl⟩)
theorem zC {P:Program} {ρ:Ren} (L:Lays.n169 P ρ) (X:Builder.Extra P ρ) {b:Nat} {p v:Value} {l:List UInt8} {w:World} (h:oF (ρ.t 72) (ρ.t 5) b p v (Lib.byteCells l) w) :
  Calls P (ρ.f 169) #[.pointer (some ⟨b,0,none⟩)] w fun e w'=>e=.returned (.string ⟨l.toArray⟩)∧Kept w w' b v:=by
 by_cases h0:l=[]
 ·
  subst h0
  obtain ⟨hp,hbk,hown,hne⟩:=h
  rcases hown.2 with ⟨rfl,_⟩ | ⟨g,cap,cur,rfl,_,hg,_⟩
  ·
   exact sN L X hbk
  ·
   by_cases hc0:cap=0
   ·
    subst hc0
    exact pg L X hbk hg
   ·
    exact qU L X hc0 hbk
 ·
  exact ru L X h h0
end
end Go.Ev

namespace Go.Ev
noncomputable section
open Go.Shelf Go.RowKit Go.Proofs
set_option linter.unusedVariables false
set_option linter.unusedSimpArgs false
def Eg (T e:Nat) (k:Nat) (x:D) (w:World) (b:Nat) (F:Nat→Prop):Prop :=
 k=1∧∃ l p v,x=.str l∧oF T e b p v (Lib.byteCells l) w∧∀ c,F c↔(c=b∨v.ownBlock=some c)
def Fp (k:Nat) (w:World) (b:Nat) (F:Nat→Prop):Prop:=k=3∧b < w.heap.size∧∀ c,F c↔c=b
def rZ (T e:Nat) (G:World→(Nat→Nat→Prop)→Prop):aR:={ rel:=fun k x w b F=>Eg T e k x w b F∨Fp k w b F,G:=G }
def l6 (G:World→(Nat→Nat→Prop)→Prop):Prop :=
 ∀ (w w':World) (fr fr':Nat→Nat→Prop),G w fr→(∀ (b o:Nat) (v:Value),¬ fr b o→w.cell? ⟨b,o,none⟩=some v→w'.cell? ⟨b,o,none⟩=some v∧¬ fr' b o)→G w' fr'
theorem Bu {e:Nat} {v:Value} {n:Nat} {xs:List Value} {w w':World} (h:w.ownsRow 0 e 1 v n xs) (hk:∀ c,v.ownBlock=some c→w'.heap[c]? = w.heap[c]?):w'.ownsRow 0 e 1 v n xs:=by
 refine ⟨h.1,?_⟩
 rcases h.2 with q | ⟨g,cap,cur,rfl,q1,q2,q3⟩
 ·
  exact .inl q
 ·
  exact .inr ⟨g,cap,cur,rfl,q1,by rw [hk g rfl]; exact q2,q3⟩
theorem wy {T e:Nat} {G:World→(Nat→Nat→Prop)→Prop} (hG:l6 G):ObjOk (rZ T e G) where
 frame:=fun k x w w' b F h hF=>by
  rcases h with h | ⟨h1,h2,h3⟩
  ·
   obtain ⟨hk,l,p,v,hx,⟨h1,h2,h3,h4⟩,hf⟩:=h
   exact .inl ⟨hk,l,p,v,hx,⟨h1,by rw [hF b ((hf b).2 (.inl rfl))]; exact h2,Bu h3 (fun c hc=>hF c ((hf c).2 (.inr hc))),h4⟩,hf⟩
  ·
   refine .inr ⟨h1,?_,h3⟩
   have:=hF b ((h3 b).2 rfl)
   rcases Nat.lt_or_ge b w'.heap.size with q | q
   ·
    exact q
   ·
    rw [Array.getElem?_eq_none q,Array.getElem?_eq_getElem h2] at this; cases this
 lt:=fun k x w b F h=>by
  rcases h with h | ⟨h1,h2,h3⟩
  ·
   obtain ⟨hk,l,p,v,hx,⟨h1,h2,h3,h4⟩,hf⟩:=h
   refine ⟨fun c hc=>?_,(hf b).2 (.inl rfl)⟩
   rcases (hf c).1 hc with rfl | hc
   ·
    rcases Nat.lt_or_ge c w.heap.size with q | q
    ·
     exact q
    ·
     rw [Array.getElem?_eq_none q] at h2; cases h2
   ·
    exact (h3.lt c hc).2
  ·
   exact ⟨fun c hc=>by rw [(h3 c).1 hc]; exact h2,(h3 b).2 rfl⟩
 it:=fun x w b F=>by
  constructor
  ·
   rintro (⟨h,_⟩ | ⟨_,h1,h2⟩)
   ·
    cases h
   ·
    exact ⟨h1,h2⟩
  ·
   rintro ⟨h1,h2⟩
   exact .inr ⟨rfl,h1,h2⟩
 stat:=hG
theorem ve {T e:Nat} {G:World→(Nat→Nat→Prop)→Prop} (hG:l6 G) {cx:Cx} {S:St} {w w':World} (hS:aD (rZ T e G) cx S w) {id:Nat} {l l':List UInt8} (hk:S.H.get id=some (.obj 1 (.str l)))
  {v:Value} (hfv:∀ c,cx.fp id c↔(c=cx.bm id∨v.ownBlock=some c)) (hp:rD w w' (cx.bm id) v (Lib.byteCells l') T e) :
  ∃ cx',aD (rZ T e G) cx' { S with H:=S.H.set id (.obj 1 (.str l')) } w'∧Ext cx S w cx' { S with H:=S.H.set id (.obj 1 (.str l')) } w':=by
 obtain ⟨⟨p1,p2,p3,p4⟩,v',b1,b2,b3,b4,b5⟩:=hp
 obtain ⟨o1,o2⟩:=hS.objs id _ _ hk
 let cx':Cx:={ cx with fp:=fun i c=>if i=id then (c=cx.bm id∨v'.ownBlock=some c) else cx.fp i c,fr:=fun b o=>(b=cx.bm id∨v'.ownBlock=some b)∨cx.fr b o }
 have hlt:∀ c,(c=cx.bm id∨v'.ownBlock=some c)→c < w'.heap.size:=fun c hc=>by
  rcases hc with rfl | hc
  ·
   rcases Nat.lt_or_ge (cx.bm id) w'.heap.size with q | q
   ·
    exact q
   ·
    rw [Array.getElem?_eq_none q] at b1; cases b1
  ·
   exact (b2.lt c hc).2
 have hold:∀ c,(c=cx.bm id∨v'.ownBlock=some c)→cx.fp id c∨w.heap.size ≤ c:=fun c hc=>by
  rcases hc with rfl | hc
  ·
   exact .inl ((hfv _).2 (.inl rfl))
  ·
   rcases b5 c hc with q | q
   ·
    exact .inl ((hfv _).2 (.inr q))
   ·
    exact .inr q
 refine ⟨cx',qc (wy hG) hS hk (fun k x hx=>by simp [qy]) (fun g hg=>by simp [isIt,AL.aG] at hg) (fun g hg=>by simp [isIt,hk] at hg) rfl rfl (fun i hi=>by simp [AL.aG,Ne.symm hi]) (.inr ⟨1,.str l',by simp [AL.aG],.inl ⟨rfl,l',.pointer (some ⟨cx.bm id,0,none⟩),v',rfl,⟨.inr rfl,b1,b2,b3⟩,fun c=>by simp [cx']⟩⟩)
  p4 p1 p2 p3 (fun b hb hn=>b4 b hb (fun q=>hn ((hfv b).2 (.inl q))) (fun q=>hn ((hfv b).2 (.inr q.symm)))) (fun _=>rfl) (fun i hi b=>by simp [cx',hi]) (fun _=>rfl) (fun _=>rfl)
  (fun b hb=>?_) (fun b o hb=>?_) (fun b o hf hb q=>?_) (fun b o hf=>.inr hf) (fun b o hf=>?_)⟩
 ·
  simp only [cx',if_true] at hb
  rcases hold b hb with q | q
  ·
   exact .inl q
  ·
   exact .inr ⟨q,hlt b hb⟩
 ·
  simp only [cx',if_true] at hb
  exact .inl hb
 ·
  rcases q with q | q
  ·
   rcases hold b q with z | z
   ·
    exact hf (o2 b o z)
   ·
    omega
  ·
   exact hf q
 ·
  rcases hf with q | q
  ·
   exact hlt b q
  ·
   exact Nat.lt_of_lt_of_le (hS.lt b o q) p4
theorem CZ {T e:Nat} {G:World→(Nat→Nat→Prop)→Prop} (hG:l6 G) {cx:Cx} {S:St} {w w':World} (hS:aD (rZ T e G) cx S w) {id:Nat} {l:List UInt8} (hk:S.H.get id=some (.obj 1 (.str l)))
  {v:Value} (hfv:∀ c,cx.fp id c↔(c=cx.bm id∨v.ownBlock=some c)) (hp:Kept w w' (cx.bm id) v) :
  aD (rZ T e G) cx { S with H:=S.H.del id } w'∧Ext cx S w cx { S with H:=S.H.del id } w':=by
 obtain ⟨p1,p2,p3,p4,p5⟩:=hp
 obtain ⟨o1,o2⟩:=hS.objs id _ _ hk
 exact qc (wy hG) hS hk (fun k x hx=>by simp [qy]) (fun g hg=>by simp [isIt,AL.lh] at hg) (fun g hg=>by simp [isIt,hk] at hg) rfl rfl (fun i hi=>by simp [AL.lh,Ne.symm hi]) (.inl (by simp [AL.lh]))
  p4 p1 p2 p3 (fun b hb hn=>p5 b hb (fun q=>hn ((hfv b).2 (.inl q))) (fun q=>hn ((hfv b).2 (.inr q.symm)))) (fun _=>rfl) (fun i hi b=>Iff.rfl) (fun _=>rfl) (fun _=>rfl)
  (fun b hb=>.inl hb) (fun b o hb=>o2 b o hb) (fun b o hf hb q=>hf q) (fun b o hf=>hf) (fun b o hf=>Nat.lt_of_lt_of_le (hS.lt b o hf) p4)
end
end Go.Ev

namespace Go.Ev
noncomputable section
open Go.Shelf Go.RowKit Go.Proofs
set_option linter.unusedVariables false
set_option linter.unusedSimpArgs false
abbrev Prim:=List AV→St→Option (AV × St)
structure jc (R:aR) (P:Program) (f:Nat) (p:Prim):Prop where
 pure:∀ args S v S',p args S=some (v,S')→(fO args).isSome=true→(lG v).isSome=true→∀ S2,p args S2=some (v,S2)
 calls:∀ args S v S',p args S=some (v,S')→(∃ fn,P.funcs[f]? = some fn∧fn.body.isSome=true∧fn.name ≠ "runtime.NumGoroutine") ∧
  ∀ cx w (us:List Value),aD R cx S w→us.length=args.length→(∀ (i:Nat) (x:AV) (u:Value),args[i]? = some x→us[i]? = some u→ay cx S w x u) →
  Calls P f us.toArray w (fun e w'=>∃ cx',aD R cx' S' w'∧Ext cx S w cx' S' w'∧∃ u,e=.returned u∧ay cx' S' w' v u)
def wQ (R:aR) (P:Program):AL Prim→Prop
 | []=>True
 | (f,p) :: l=>jc R P f p∧wQ R P l
theorem lZ {R:aR} {P:Program}:∀ {l:AL Prim} {f:Nat} {p:Prim},wQ R P l→AL.get l f=some p→jc R P f p
 | [],f,p,_,h=>by cases h
 | (k,q) :: l,f,p,hl,h=>by
  rw [AL.bJ] at h
  split at h
  ·
   rename_i he
   cases h; subst he; exact hl.1
  ·
   exact lZ hl.2 h
def za (args:List AV) (S:St):Option (AV × St) :=
 match args with
 | [.ptr id 0 0,.d (.int .u8 c)]=>match S.H.get id with
  | some (.obj 1 (.str bs))=>if 0 ≤ c∧c < 256∧bs.length + 1 ≤ bound then some (.d .nili,{ S with H:=S.H.set id (.obj 1 (.str (bs ++ [UInt8.ofNat c.toNat]))) }) else none
  | _=>none
 | _=>none
def Ac (args:List AV) (S:St):Option (AV × St) :=
 match args with
 | [.ptr id 0 0,.d (.str s)]=>match S.H.get id with
  | some (.obj 1 (.str bs))=>if bs.length + s.length ≤ bound then some (.tup [.d (.int .i64 (s.length:Nat)),.d .nili],{ S with H:=S.H.set id (.obj 1 (.str (bs ++ s))) }) else none
  | _=>none
 | _=>none
def zR (args:List AV) (S:St):Option (AV × St) :=
 match args with
 | [.ptr id 0 0]=>match S.H.get id with
  | some (.obj 1 (.str bs))=>some (.d (.str bs),{ S with H:=S.H.del id })
  | _=>none
 | _=>none
theorem xE {T e:Nat} {G:World→(Nat→Nat→Prop)→Prop} {cx:Cx} {S:St} {w:World} (hS:aD (rZ T e G) cx S w) {id:Nat} {l:List UInt8} (hk:S.H.get id=some (.obj 1 (.str l))) {u:Value} (hu:ay cx S w (.ptr id 0 0) u) :
  u=.pointer (some ⟨cx.bm id,0,none⟩)∧∃ p v,oF T e (cx.bm id) p v (Lib.byteCells l) w∧∀ c,cx.fp id c↔(c=cx.bm id∨v.ownBlock=some c):=by
 obtain ⟨⟨_,l',p,v,hx,h1,h2⟩ | ⟨h3,_⟩,_⟩:=hS.objs id _ _ hk
 rotate_left
 ·
  cases h3
 cases hx
 cases hu with
 | ptr _ _ _ b hn hp =>
  have:=hp (by simp [cur,hk,qy])
  subst this
  exact ⟨rfl,p,v,h1,h2⟩
theorem EY {G:World→(Nat→Nat→Prop)→Prop} (hG:l6 G) {P:Program} {ρ:Ren} (L:Lays.n167 P ρ) (X:Builder.Extra P ρ):jc (rZ (ρ.t 72) (ρ.t 5) G) P (ρ.f 167) za where
 pure:=fun args S v S' h h1=>by
  exfalso
  unfold za at h
  split at h
  ·
   simp [fO,sP] at h1
  ·
   cases h
 calls:=fun args S v S' h=>⟨⟨_,L.f167,rfl,by show ¬ ("(*strings.Builder).WriteByte" = "runtime.NumGoroutine"); decide⟩,fun cx w us hS hl hr=>by
  unfold za at h
  split at h
  ·
   rename_i id c
   split at h
   ·
    rename_i bs hk
    split at h
    ·
     rename_i hc
     simp only [Option.some.injEq,Prod.mk.injEq] at h
     obtain ⟨rfl,rfl⟩:=h
     match us,hl with
     | [u0,u1],_ =>
     obtain ⟨rfl,p,v,h1,h2⟩:=xE hS hk (hr 0 _ _ rfl rfl)
     have r1:=hr 1 _ _ rfl rfl
     cases r1 with
     | d _ _ r1 =>
     have a1:=r1.val rfl; cases a1
     refine (uM L X h1 c (by rw [Lib.byteCells_length]; exact hc.2.2)).mono (fun e w' hp=>?_)
     obtain ⟨rfl,hp⟩:=hp
     have hb:Lib.byteCells bs ++ [.int .u8 c]=Lib.byteCells (bs ++ [UInt8.ofNat c.toNat]):=by
      have:((UInt8.ofNat c.toNat).toNat:Int)=c:=by
       rw [UInt8.toNat_ofNat']
       have h0:=hc.1; have h1:=hc.2.1
       omega
      simp only [Lib.byteCells,List.map_append,List.map_cons,List.map_nil,this]
     rw [hb] at hp
     obtain ⟨cx',k1,k2⟩:=ve hG hS hk h2 hp
     exact ⟨cx',k1,k2,_,rfl,.d _ _ (aQ.of_cell .nili rfl)⟩
    ·
     cases h
   ·
    cases h
  ·
   cases h⟩
theorem ES {G:World→(Nat→Nat→Prop)→Prop} (hG:l6 G) {P:Program} {ρ:Ren} (L:Lays.n166 P ρ) (X:Builder.Extra P ρ):jc (rZ (ρ.t 72) (ρ.t 5) G) P (ρ.f 166) Ac where
 pure:=fun args S v S' h h1=>by
  exfalso
  unfold Ac at h
  split at h
  ·
   simp [fO,sP] at h1
  ·
   cases h
 calls:=fun args S v S' h=>⟨⟨_,L.f166,rfl,by show ¬ ("(*strings.Builder).WriteString" = "runtime.NumGoroutine"); decide⟩,fun cx w us hS hl hr=>by
  unfold Ac at h
  split at h
  ·
   rename_i id s
   split at h
   ·
    rename_i bs hk
    split at h
    ·
     rename_i hc
     simp only [Option.some.injEq,Prod.mk.injEq] at h
     obtain ⟨rfl,rfl⟩:=h
     match us,hl with
     | [u0,u1],_ =>
     obtain ⟨rfl,p,v,h1,h2⟩:=xE hS hk (hr 0 _ _ rfl rfl)
     have r1:=hr 1 _ _ rfl rfl
     cases r1 with
     | d _ _ r1 =>
     have a1:=r1.val rfl; cases a1
     rename_i s xx
     refine (qW L X h1 s (by rw [Lib.byteCells_length]; simpa using hc)).mono (fun e w' hp=>?_)
     obtain ⟨rfl,hp⟩:=hp
     have hb:Lib.byteCells bs ++ Lib.strCells s=Lib.byteCells (bs ++ s.data.toList):=by
      simp [Lib.byteCells,Lib.strCells]
     rw [hb] at hp
     obtain ⟨cx',k1,k2⟩:=ve hG hS hk h2 hp
     refine ⟨cx',k1,k2,_,rfl,.tup _ [.int .i64 (s.size:Nat),.nilIface] rfl (fun i x v hx hv=>?_)⟩
     match i,hx,hv with
     | 0,hx,hv =>
      simp at hx hv; subst hx; subst hv
      exact .d _ _ (aQ.of_cell (.int _ _) rfl)
     | 1,hx,hv =>
      simp at hx hv; subst hx; subst hv
      exact .d _ _ (aQ.of_cell .nili rfl)
    ·
     cases h
   ·
    cases h
  ·
   cases h⟩
theorem ET {G:World→(Nat→Nat→Prop)→Prop} (hG:l6 G) {P:Program} {ρ:Ren} (L:Lays.n169 P ρ) (X:Builder.Extra P ρ):jc (rZ (ρ.t 72) (ρ.t 5) G) P (ρ.f 169) zR where
 pure:=fun args S v S' h h1=>by
  exfalso
  unfold zR at h
  split at h
  ·
   simp [fO,sP] at h1
  ·
   cases h
 calls:=fun args S v S' h=>⟨⟨_,L.f169,rfl,by show ¬ ("(*strings.Builder).String" = "runtime.NumGoroutine"); decide⟩,fun cx w us hS hl hr=>by
  unfold zR at h
  split at h
  ·
   rename_i id
   split at h
   ·
    rename_i bs hk
    simp only [Option.some.injEq,Prod.mk.injEq] at h
    obtain ⟨rfl,rfl⟩:=h
    match us,hl with
    | [u0],_ =>
    obtain ⟨rfl,p,v,h1,h2⟩:=xE hS hk (hr 0 _ _ rfl rfl)
    refine (zC L X h1).mono (fun e w' hp=>?_)
    obtain ⟨rfl,hp⟩:=hp
    obtain ⟨k1,k2⟩:=CZ hG hS hk h2 hp
    refine ⟨cx,k1,k2,_,rfl,.d _ _ (aQ.of_cell ?_ rfl)⟩
    have:=dB.str (w:=w') (fr:=cx.fr) ⟨bs.toArray⟩
    simpa using this
   ·
    cases h
  ·
   cases h⟩
end
end Go.Ev

namespace Go.Ev
noncomputable section
open Go.Shelf Go.RowKit Go.Proofs
set_option linter.unusedVariables false
set_option linter.unusedSimpArgs false
def Leaves (w:World) (fr:Nat→Nat→Prop) (v:AV) (e:Ending) (w':World):Prop :=
 Below w.heap.size w w'∧∃ u,e=.returned u∧∀ cx S,cx.fr=fr→ay cx S w' v u
def gF (spec:List D→Option AV):Prim:=fun args S=>match fO args with
 | some ds=>(spec ds).map fun v=>(v,S)
 | none=>none
theorem j6 {R:aR} (hR:ObjOk R) {P:Program} {f:Nat} {spec:List D→Option AV} (hd:∀ ds v,spec ds=some v→(lG v).isSome=true)
  (hb:∃ fn,P.funcs[f]? = some fn∧fn.body.isSome=true∧fn.name ≠ "runtime.NumGoroutine")
  (hc:∀ ds v,spec ds=some v→∀ (w:World) (fr:Nat→Nat→Prop) (us:List Value),R.G w fr→(∀ b o,fr b o→b < w.heap.size)→us.length=ds.length→(∀ (i:Nat) (y:D) (u:Value),ds[i]? = some y→us[i]? = some u→aQ w fr y u) →
   Calls P f us.toArray w (Leaves w fr v)):jc R P f (gF spec) where
 pure:=fun args S v S' h _ _ S2=>by
  unfold gF at h ⊢
  split at h
  ·
   rename_i ds hds
   simp only [Option.map_eq_some_iff,Prod.mk.injEq] at h
   obtain ⟨a,h1,rfl,_⟩:=h
   simp [hds,h1]
  ·
   cases h
 calls:=fun args S v S' h=>⟨hb,fun cx w us hS hl hr=>by
  unfold gF at h
  split at h
  ·
   rename_i ds hds
   simp only [Option.map_eq_some_iff,Prod.mk.injEq] at h
   obtain ⟨a,h1,rfl,rfl⟩:=h
   obtain ⟨d1,d2⟩:=jB hds
   refine (hc ds a h1 w cx.fr us hS.stat hS.lt (by rw [hl,d1]) (fun i y u hy hu=>?_)).mono (fun e w' hp=>?_)
   ·
    have hlt:i < args.length:=by rw [← d1]; exact (List.getElem?_eq_some_iff.1 hy).1
    have ha:=List.getElem?_eq_getElem hlt
    exact dW (d2 i _ y ha hy) (hr i _ u ha hu)
   ·
    obtain ⟨hbl,u,rfl,hv⟩:=hp
    have e:Ext cx S w cx S w':=Ext.old hS hbl.size (fun b hb=>hbl.block b hb) hbl.os hbl.tape hbl.output
    exact ⟨cx,aD.old hR hS hbl.size (fun b hb=>hbl.block b hb) e,e,u,rfl,hv cx S rfl⟩
  ·
   cases h⟩
theorem rz (w:World) (fr:Nat→Nat→Prop) (l:List UInt8):aQ w fr (.str l) (.string ⟨l.toArray⟩):=by
 have:=dB.str (w:=w) (fr:=fr) ⟨l.toArray⟩
 exact aQ.of_cell (by simpa using this) rfl
theorem jY {w:World} {fr:Nat→Nat→Prop} {l:List UInt8} {u:Value} (h:aQ w fr (.str l) u):u=.string ⟨l.toArray⟩:=by
 have a:=h.val rfl
 cases a
 simp
def tH:List D→Option AV
 | [.str s,.str c]=>if s.length ≤ bound∧c.length ≤ 1000∧(c.all fun b=>decide (b.toNat < 128))=true then some (.d (.str (Lib.trimS s c))) else none
 | _=>none
theorem Ec {R:aR} (hR:ObjOk R) {P:Program} {ρ:Ren} (L:Lays.n160 P ρ) (h116:(P.info? (ρ.t 116)).map (fun i=>(i.zero,i.size))=some (some (.agg (Array.replicate 256 (.bool false))),256)) :
  jc R P (ρ.f 160) (gF tH):=by
 refine j6 hR (fun ds v h=>?_) ⟨_,L.f160,rfl,by show ¬ ("strings.Trim" = "runtime.NumGoroutine"); decide⟩ (fun ds v h w fr us hG hfr hl hr=>?_)
 ·
  unfold tH at h
  split at h
  ·
   split at h
   ·
    simp only [Option.some.injEq] at h; subst h; rfl
   ·
    cases h
  ·
   cases h
 ·
  unfold tH at h
  split at h
  ·
   rename_i s c
   split at h
   ·
    rename_i hc
    obtain ⟨h1,h2,h3⟩:=hc
    simp only [Option.some.injEq] at h; subst h
    match us,hl with
    | [u0,u1],_ =>
    obtain rfl:=jY (hr 0 _ _ rfl rfl)
    obtain rfl:=jY (hr 1 _ _ rfl rfl)
    refine (Any.strings_Trim_laid L h116 ⟨s.toArray⟩ ⟨c.toArray⟩ w (by simp [ByteArray.size]; unfold bound at h1; omega) (by simp [ByteArray.size]; omega) (by simpa using ascii_of_all h3)).mono (fun e w' hp=>?_)
    obtain ⟨rfl,hb⟩:=hp
    exact ⟨hb,_,rfl,fun cx S _=>.d _ _ (by simpa using rz w' cx.fr (Lib.trimS s c))⟩
   ·
    cases h
  ·
   cases h
def wU:List D→Option AV
 | [.str s,.int .u8 c]=>some (.d (.int .i64 (Lib.indexByte s c.toNat.toUInt8)))
 | _=>none
theorem EF {R:aR} (hR:ObjOk R) {P:Program} {ρ:Ren} (L:Lays.n137 P ρ):jc R P (ρ.f 137) (gF wU):=by
 refine j6 hR (fun ds v h=>?_) ⟨_,L.f137,rfl,by show ¬ ("strings.IndexByte" = "runtime.NumGoroutine"); decide⟩ (fun ds v h w fr us hG hfr hl hr=>?_)
 ·
  unfold wU at h
  split at h
  ·
   simp only [Option.some.injEq] at h; subst h; rfl
  ·
   cases h
 ·
  unfold wU at h
  split at h
  ·
   rename_i s c
   simp only [Option.some.injEq] at h; subst h
   match us,hl with
   | [u0,u1],_ =>
   obtain rfl:=jY (hr 0 _ _ rfl rfl)
   have a1:=(hr 1 _ _ rfl rfl).val rfl
   cases a1
   refine (Any.strings_IndexByte L ⟨s.toArray⟩ c w).mono (fun e w' hp=>?_)
   obtain ⟨rfl,rfl⟩:=hp
   exact ⟨Below.refl _ _,_,rfl,fun cx S _=>.d _ _ (aQ.of_cell (by simpa using dB.int (w:=w') (fr:=cx.fr) .i64 (Lib.indexByte s c.toNat.toUInt8)) rfl)⟩
  ·
   cases h
def gM (c:UInt8):List UInt8→List (List UInt8)
 | []=>[[]]
 | b :: l=>if b == c then [] :: gM c l else match gM c l with
  | []=>[[b]]
  | x :: r=>(b :: x) :: r
theorem qA (c:UInt8):∀ (s:List UInt8),c ∉ s→gM c s=[s]
 | [],_=>rfl
 | b :: l,h=>by
  have h1:¬ (b == c)=true:=fun q=>h (by rw [eq_of_beq q]; exact List.mem_cons_self)
  rw [gM,if_neg h1,qA c l (fun q=>h (List.mem_cons_of_mem _ q))]
theorem qD (c:UInt8) (t:List UInt8):∀ (s:List UInt8),c ∉ s→gM c (s ++ c :: t)=s :: gM c t
 | [],_=>by simp [gM]
 | b :: l,h=>by
  have h1:¬ (b == c)=true:=fun q=>h (by rw [eq_of_beq q]; exact List.mem_cons_self)
  rw [List.cons_append,gM,if_neg h1,qD c t l (fun q=>h (List.mem_cons_of_mem _ q))]
theorem occ_one (s:List UInt8) (c:UInt8) (i:Nat):Lib.occAt s [c] i=(s[i]? == some c):=by
 unfold Lib.occAt
 cases h:s.drop i with
 | nil =>
  have:s[i]? = none:=by rw [List.getElem?_eq_none]; have:=congrArg List.length h; simp at this; omega
  rw [this]; rfl
 | cons b l =>
  have:s[i]? = some b:=by have:=congrArg (·[0]?) h; simpa using this
  rw [this]
  simp only [List.isPrefixOf_cons_cons,List.isPrefixOf_nil_left,Bool.and_true]
  by_cases hb:c=b
  ·
   subst hb; simp
  ·
   have h1:(c == b)=false:=by simpa using hb
   have h2:(some b == some c)=false:=by simpa using Ne.symm hb
   rw [h1,h2]
theorem zP (c:UInt8):∀ (n:Nat) (s:List UInt8),s.length ≤ n→Lib.splitK [c] 0 (Lib.count s [c]) s=gM c s:=by
 intro n
 induction n with
 | zero =>
  intro s hs
  have:s=[]:=List.eq_nil_of_length_eq_zero (by omega)
  subst this
  rfl
 | succ n ih =>
  intro s hs
  rcases Lib.index_spec s [c] with ⟨h1,h2⟩ | ⟨i,h1,h2,h3,h4⟩
  ·
   rw [Lib.count_miss h1,Lib.splitK]
   refine (qA c s (fun hm=>?_)).symm
   obtain ⟨j,hj,hjs⟩:=List.getElem_of_mem hm
   have:=h2 j (by omega)
   rw [occ_one,List.getElem?_eq_getElem hj,hjs] at this
   simp at this
  ·
   rw [Lib.count_hit (by simp) h1]
   have hne:¬ (Lib.index s [c] == -1)=true:=fun q=>by have:=beq_iff_eq.1 q; omega
   rw [Nat.add_comm,Lib.splitK,if_neg hne,h1]
   have e1:((i:Int)).toNat=i:=by omega
   rw [e1]
   rw [occ_one] at h3
   have hi:s[i]? = some c:=by simpa using h3
   have hlt:=(List.getElem?_eq_some_iff.1 hi).1
   have hs2:s=s.take i ++ c :: s.drop (i + 1):=by
    have:=List.getElem_cons_drop hlt
    rw [(List.getElem?_eq_some_iff.1 hi).2] at this
    rw [this,List.take_append_drop]
   have hnm:c ∉ s.take i:=fun hm=>by
    obtain ⟨j,hj,hjs⟩:=List.getElem_of_mem hm
    simp at hj
    have:=h4 j (by omega)
    rw [occ_one,List.getElem?_eq_getElem (by omega)] at this
    simp at hjs
    simp [hjs] at this
   conv=>rhs; rw [hs2]
   rw [qD c _ _ hnm]
   simp only [Nat.add_zero,List.length_singleton]
   rw [ih _ (by simp; omega)]
def qa:List D→Option AV
 | [.str s,.str [c]]=>if s.length ≤ 1000000 then some (.d (.sl ((gM c s).map .str) false)) else none
 | _=>none
def DX (g:Nat) (w:World) (fr:Nat→Nat→Prop):Prop:=(∃ m,w.cell? ⟨g,0,none⟩=some (.int .i64 m))∧¬ fr g 0
theorem EP (g:Nat):l6 (DX g):=fun w w' fr fr' h hp=>by
 obtain ⟨⟨m,h1⟩,h2⟩:=h
 obtain ⟨a,b⟩:=hp g 0 _ h2 h1
 exact ⟨⟨m,a⟩,b⟩
theorem Cu {w:World} {fr:Nat→Nat→Prop} {xs:List (List UInt8)} {b el:Nat} {arr:Array Value} {fz:Nat × Nat} (hb:w.heap[b]? = some (.cells arr el fz)) (hfr:∀ o,¬ fr b o)
  (ha:arr.toList=xs.map fun l=>Value.string ⟨l.toArray⟩) (hne:xs ≠ []):aQ w fr (.sl (xs.map .str) false) (.slice (some ⟨b,0,none⟩) xs.length xs.length):=by
 refine aQ.of_cell ?_ rfl
 have:=dB.sl (w:=w) (fr:=fr) (xs.map .str) false b 0 xs.length 1 (fun i=>[(arr.toList[i]?).getD .nilIface]) (by simpa using hne) (by simp) (fun q=>by cases q) (fun i x hx=>by
  simp only [List.getElem?_map,Option.map_eq_some_iff] at hx
  obtain ⟨a,_,rfl⟩:=hx; rfl) (fun i _=>rfl) (fun i x hx=>by
  simp only [List.getElem?_map,Option.map_eq_some_iff] at hx
  obtain ⟨a,h1,rfl⟩:=hx
  rw [ha,List.getElem?_map,h1]
  exact (rz w fr a).val rfl) (fun i j v hi hv=>by
  cases j with
  | zero =>
   simp only [List.getElem?_cons_zero,Option.some.injEq] at hv
   refine ⟨?_,hfr _⟩
   rw [cell_of hb,Nat.mul_one,Nat.zero_add,Nat.add_zero,← hv]
   have hi':i < arr.toList.length:=by rw [ha]; simpa using hi
   rw [List.getElem?_eq_getElem hi',Option.getD_some,← Array.getElem?_toList,List.getElem?_eq_getElem hi']
  | succ j=>simp at hv)
 simpa using this
theorem Bq (c:UInt8) (s:List UInt8):gM c s ≠ []:=by
 cases s with
 | nil=>simp [gM]
 | cons b l =>
  unfold gM
  split
  ·
   simp
  ·
   split <;> simp
theorem DI {R:aR} (hR:ObjOk R) {P:Program} {ρ:Ren} (L:Lays.n146 P ρ) (hi9:(P.info? (ρ.t 9)).map (fun i=>(i.zero,i.size,i.bytes))=some (some (.string ByteArray.empty),1,16))
  (hG:∀ w fr,R.G w fr→∃ m,w.cell? ⟨(ρ.g 1),0,none⟩=some (.int .i64 m)):jc R P (ρ.f 146) (gF qa):=by
 refine j6 hR (fun ds v h=>?_) ⟨_,L.f146,rfl,by show ¬ ("strings.Split" = "runtime.NumGoroutine"); decide⟩ (fun ds v h w fr us hGw hfr hl hr=>?_)
 ·
  unfold qa at h
  split at h
  ·
   split at h
   ·
    simp only [Option.some.injEq] at h; subst h; rfl
   ·
    cases h
  ·
   cases h
 ·
  unfold qa at h
  split at h
  ·
   rename_i s c
   split at h
   ·
    rename_i hc
    simp only [Option.some.injEq] at h; subst h
    match us,hl with
    | [u0,u1],_ =>
    obtain rfl:=jY (hr 0 _ _ rfl rfl)
    obtain rfl:=jY (hr 1 _ _ rfl rfl)
    obtain ⟨m,hm⟩:=hG w fr hGw
    refine (Any.strings_Split L hi9 ⟨s.toArray⟩ ⟨#[c]⟩ m w (by simp [ByteArray.size]; omega) hm (by simp [ByteArray.size])).mono (fun e w' hp=>?_)
    obtain ⟨rfl,rfl⟩:=hp
    have hq:(Lib.splitB ⟨#[c]⟩ 0 (Lib.countB ⟨s.toArray⟩ ⟨#[c]⟩) ⟨s.toArray⟩).map (·.data.toList)=gM c s:=by
     rw [Lib.splitB_data]
     have:=zP c s.length s (Nat.le_refl _)
     simpa [Lib.countB] using this
    have hlen:Lib.countB ⟨s.toArray⟩ ⟨#[c]⟩ + 1=(gM c s).length:=by
     rw [← hq,List.length_map,Lib.splitB_all _ (by simp [ByteArray.size]) 0 _ _ rfl]
    refine ⟨(Below.refl _ _).alloc (Nat.le_refl _) _,_,rfl,fun cx S hcx=>.d _ _ ?_⟩
    rw [hlen]
    refine Cu (arr:=((Lib.splitB ⟨#[c]⟩ 0 (Lib.countB ⟨s.toArray⟩ ⟨#[c]⟩) ⟨s.toArray⟩).map Value.string).toArray) (heap_alloc_new w _) (fun o q=>?_) ?_ (Bq c s)
    ·
     rw [hcx] at q; have:=hfr _ _ q; omega
    ·
     rw [← hq]
     simp
   ·
    cases h
  ·
   cases h
def strsOf:List D→Option (List (List UInt8))
 | []=>some []
 | .str s :: l=>(strsOf l).map (s :: ·)
 | _ :: _=>none
theorem qE:∀ {l:List D} {xs:List (List UInt8)},strsOf l=some xs→l=xs.map .str
 | [],xs,h=>by simp [strsOf] at h; subst h; rfl
 | x :: l,xs,h=>by
  cases x <;> try (cases h; done)
  simp only [strsOf,Option.map_eq_some_iff] at h
  obtain ⟨ys,h1,rfl⟩:=h
  rw [qE h1]; rfl
def ug:List D→Option AV
 | [.cB,.str _]=>some (.d (.str []))
 | [.sl l _,.str sep]=>match strsOf l with
  | some xs=>if (Lib.join xs sep).length ≤ bound∧xs.length ≤ bound then some (.d (.str (Lib.join xs sep))) else none
  | none=>none
 | _=>none
theorem Ee {R:aR} (hR:ObjOk R) {P:Program} {ρ:Ren} (L:Lays.n156 P ρ) (X:Builder.Extra P ρ):jc R P (ρ.f 156) (gF ug):=by
 refine j6 hR (fun ds v h=>?_) ⟨_,L.f156,rfl,by show ¬ ("strings.Join" = "runtime.NumGoroutine"); decide⟩ (fun ds v h w fr us hG hfr hl hr=>?_)
 ·
  unfold ug at h
  split at h
  ·
   simp only [Option.some.injEq] at h; subst h; rfl
  ·
   split at h
   ·
    split at h
    ·
     simp only [Option.some.injEq] at h; subst h; rfl
    ·
     cases h
   ·
    cases h
  ·
   cases h
 ·
  unfold ug at h
  split at h
  ·
   simp only [Option.some.injEq] at h; subst h
   match us,hl with
   | [u0,u1],_ =>
   have a0:=(hr 0 _ _ rfl rfl).val rfl
   cases a0
   obtain rfl:=jY (hr 1 _ _ rfl rfl)
   refine (Any.strings_Join_none L X none 0 _ w).mono (fun e w' hp=>?_)
   obtain ⟨rfl,rfl⟩:=hp
   exact ⟨Below.refl _ _,_,rfl,fun cx S _=>.d _ _ (rz w' cx.fr [])⟩
  ·
   rename_i l t sep
   split at h
   ·
    rename_i xs hxs
    split at h
    ·
     rename_i hc
     simp only [Option.some.injEq] at h; subst h
     have:=qE hxs
     subst this
     match us,hl with
     | [u0,u1],_ =>
     obtain rfl:=jY (hr 1 _ _ rfl rfl)
     have a0:=(hr 0 _ _ rfl rfl).val rfl
     have key:∀ (q:List UInt8) (e:Ending) (w':World),e=.returned (.string ⟨q.toArray⟩)→Below w.heap.size w w'→Leaves w fr (.d (.str q)) e w':=fun q e w' h1 h2 =>
      ⟨h2,_,h1,fun cx S _=>.d _ _ (rz w' cx.fr q)⟩
     generalize hys:xs.map D.str=ys at a0
     cases a0 with
     | sl0 a cap tt ht =>
      have:xs=[]:=by simpa using hys
      subst this
      refine (Any.strings_Join_none L X a cap _ w).mono (fun e w' hp=>?_)
      obtain ⟨rfl,rfl⟩:=hp
      exact key [] _ _ rfl (Below.refl _ _)
     | sl ys tt b off cap sz vs hne hcap htt hsz hlen hx hcell =>
      subst hys
      have hne':xs ≠ []:=by simpa using hne
      have hpos:0 < xs.length:=List.length_pos_iff.2 hne'
      have h0:(xs.map D.str)[0]? = some (.str (xs[0])):=by simp [hpos]
      have hsz1:sz=1:=(hsz 0 _ h0).symm
      subst hsz1
      have hcells:∀ (j:Nat) (x:ByteArray),(xs.map fun l=>(⟨l.toArray⟩:ByteArray))[j]? = some x→w.cell? ⟨b,off + j,none⟩=some (.string x):=fun j x hj=>by
       simp only [List.getElem?_map,Option.map_eq_some_iff] at hj
       obtain ⟨s,hs,rfl⟩:=hj
       have hjl:j < (xs.map D.str).length:=by simpa using (List.getElem?_eq_some_iff.1 hs).1
       have hr1:=hx j (.str s) (by simp [hs])
       have hl1:=hlen j hjl
       obtain ⟨v,hv⟩:∃ v,vs j=[v]:=by
        match hh:vs j,hl1 with
        | [v],_=>exact ⟨v,rfl⟩
       rw [hv] at hr1
       obtain rfl:=jY (aQ.of_cell hr1 rfl)
       have:=(hcell j 0 (.string ⟨s.toArray⟩) hjl (by rw [hv]; rfl)).1
       simpa using this
      have hbk:b < w.heap.size:=kr (hcells 0 ⟨(xs[0]).toArray⟩ (by simp [hpos]))
      have hjn:(xs.map fun l=>(⟨l.toArray⟩:ByteArray)).map (·.data.toList)=xs:=by rw [List.map_map]; exact List.map_id'' (fun _=>rfl) xs
      have hb2:bound ≤ 140737488355328:=by decide
      refine (Any.strings_Join L X b off cap (xs.map fun l=>(⟨l.toArray⟩:ByteArray)) ⟨sep.toArray⟩ w hcells hbk (by rw [List.length_map]; omega) (by simpa using hcap) (by rw [hjn]; simp only []; omega)).mono (fun e w' hp=>?_) |> fun z=>by simpa using z
      obtain ⟨rfl,hb3⟩:=hp
      rw [hjn]
      exact key _ _ _ rfl hb3
    ·
     cases h
   ·
    cases h
  ·
   cases h
end
end Go.Ev

namespace Go.Ev
noncomputable section
set_option linter.unusedVariables false
def Fz (P:Program) (f:Nat):Bool:=match P.funcs[f]? with
 | some fn=>(match fn.body with | some c=>codeOk c | none=>true) && !(fn.name == "runtime.NumGoroutine")
 | none=>true
def Ci:List Nat→Nat→Bool
 | [],_=>false
 | x :: l,n=>bif Nat.beq x n then true else Ci l n
theorem yQ:∀ {l:List Nat} {n:Nat},Ci l n=true→n ∈ l
 | [],n,h=>by cases h
 | x :: l,n,h=>by
  unfold Ci at h
  cases hb:Nat.beq x n
  ·
   rw [hb] at h; exact List.mem_cons_of_mem _ (yQ h)
  ·
   have:=Nat.eq_of_beq_eq_true hb; subst this; exact List.mem_cons_self
def wX (P:Program) (good rows:List Nat) (ps:AL Prim) (hasB:Bool) (bt:Nat):bQ :=
 { P:=P,good:=Ci good,rowT:=Ci rows,prim:=fun f args S=>match AL.get ps f with | some p=>p args S | none=>none,objT:=fun t=>bif hasB && Nat.beq t bt then some (1,.str []) else none,hasPrim:=AL.has ps }
theorem EW {G:World→(Nat→Nat→Prop)→Prop} (hG:l6 G) {P:Program} {good rows:List Nat} {ps:AL Prim} {hasB:Bool} {bt e:Nat} (hg:good.all (Fz P)=true) (hm:P.follows .mixedOrders=true)
  (hz:hasB=true→∀ w,(zeroValue bt).run P w=.ok (.agg #[.pointer none,.slice none 0 0]) w) (hp:wQ (rZ bt e G) P ps):vL (rZ bt e G) (wX P good rows ps hasB bt) where
 obj:={ wy hG with
  new:=fun t k x h=>by
   simp only [wX] at h
   cases hb:hasB && Nat.beq t bt with
   | false=>rw [hb] at h; cases h
   | true =>
    rw [hb] at h
    simp only [cond_true,Option.some.injEq,Prod.mk.injEq] at h
    obtain ⟨rfl,rfl⟩:=h
    simp only [Bool.and_eq_true] at hb
    have ht:=Nat.eq_of_beq_eq_true hb.2
    subst ht
    exact ⟨_,hz hb.1,fun w=>.inl ⟨rfl,[],.pointer none,.slice none 0 0,rfl,⟨.inl rfl,heap_alloc_new w _,World.ownsRow_nil _ 0 e 1,by simp [Value.ownBlock]⟩,fun c=>by simp [Value.ownBlock]⟩,rfl⟩ }
 mixed:=hm
 code:=fun f fn c h hf hc=>by
  have:=List.all_eq_true.1 hg f (yQ h)
  unfold Fz at this
  have hf':P.funcs[f]? = some fn:=hf
  simp only [hf',hc,Bool.and_eq_true,Bool.not_eq_true'] at this
  exact ⟨this.1,fun q=>by rw [q] at this; simp at this⟩
 primPure:=fun f args S v S' _ h h1 h2 S2=>by
  simp only [wX] at h ⊢
  split at h
  ·
   rename_i p hq; exact (lZ hp hq).pure args S v S' h h1 h2 S2
  ·
   cases h
 prim:=fun f args S v S' _ h=>by
  simp only [wX] at h
  split at h
  ·
   rename_i p hq; exact (lZ hp hq).calls args S v S' h
  ·
   cases h
end
end Go.Ev

namespace Go.Ev
noncomputable section
set_option linter.unusedVariables false
set_option linter.unusedSimpArgs false
def Bc:Nat→Nat→Prop:=fun _ _=>False
structure jT (w:World) (ds:List D) (cs:List Value):Prop where
 len:cs.length=ds.length
 one:∀ v ∈ cs,v.oneCell'=true
 flat:∀ d ∈ ds,d.isAgg=false
 rel:∀ (i:Nat) (d:D) (v:Value),ds[i]? = some d→cs[i]? = some v→dB w Bc d [v]
theorem jT.nil {w:World}:jT w [] []:=⟨rfl,by simp,by simp,by simp⟩
theorem jT.append {w:World} {a b:List D} {x y:List Value} (h:jT w a x) (k:jT w b y):jT w (a ++ b) (x ++ y) where
 len:=by simp [h.len,k.len]
 one:=fun v hv=>by rcases List.mem_append.1 hv with q | q; exact h.one v q; exact k.one v q
 flat:=fun v hv=>by rcases List.mem_append.1 hv with q | q; exact h.flat v q; exact k.flat v q
 rel:=fun i d v hd hv=>by
  by_cases hi:i < a.length
  ·
   rw [List.getElem?_append_left hi] at hd
   rw [List.getElem?_append_left (by rw [h.len]; exact hi)] at hv
   exact h.rel i d v hd hv
  ·
   rw [List.getElem?_append_right (by omega)] at hd
   rw [List.getElem?_append_right (by rw [h.len]; omega),h.len] at hv
   exact k.rel _ d v hd hv
theorem jT.single {w:World} {d:D} {v:Value} (h:dB w Bc d [v]) (ho:v.oneCell'=true) (hd:d.isAgg=false):jT w [d] [v] where
 len:=rfl
 one:=by simpa using ho
 flat:=by simpa using hd
 rel:=fun i d' v' h1 h2=>by
  cases i with
  | zero=>simp at h1 h2; subst h1; subst h2; exact h
  | succ i=>simp at h1
theorem jT.Ew {w:World} {x:D} {cs:List Value} (h:jT w x.cells cs):dB w Bc x cs:=by
 cases hx:x.isAgg with
 | true =>
  cases x <;> simp [D.isAgg] at hx
  rename_i xs
  exact .agg xs cs h.len h.one h.flat h.rel
 | false =>
  have hc:x.cells=[x]:=by cases x <;> simp_all [D.isAgg,D.cells]
  rw [hc] at h
  have hl:=h.len
  match cs,hl with
  | [v],_=>exact h.rel 0 x v rfl rfl
def nA (P:Program) (t:Nat) {α:Type} (enc:α→D) (wf:α→Prop):Prop :=
 ∀ {H:Type} (en:TypeId × Value→H) (w:World) (base:Nat) (sp:Nat→Bool) (held:Bool) (fuel:Nat) (cs:List Value) (d:DataW H) (p:List MemPlace),
  DataW.trod en P w base sp held fuel t cs=some (d,p)→∃ x,wf x∧jT w (enc x).cells cs
theorem nA.int {P:Program} {t:Nat} {k:IntKind} (hu:P.underlying t=some (.int k)):nA P t (D.int k) (fun n=>(Lit.int k n).wf=true):=by
 intro H en w base sp held fuel cs d p h
 cases fuel with
 | zero=>cases h
 | succ fuel =>
  simp only [DataW.trod,hu] at h
  split at h <;> first | (simp_all; done) | skip
  rename_i k' k2 n heq
  simp only [Option.some.injEq,TypeDesc.int.injEq] at heq
  subst heq
  split at h
  ·
   rename_i hc
   obtain ⟨rfl,hw⟩:=hc
   exact ⟨n,hw,.single (.int _ _) rfl rfl⟩
  ·
   cases h
theorem pU {w:World} {base:Nat} {a:Addr} {n:Nat} {cs:List Value} (h:w.cells? base a n=some cs):cs.length=n∧∀ j v,cs[j]? = some v→w.cell? (a.add j)=some v:=by
 unfold World.cells? at h
 split at h
 ·
  have hl:=mapM_some_length h
  refine ⟨by simpa using hl,fun j v hj=>?_⟩
  have hlt:j < n:=by have:=(List.getElem?_eq_some_iff.1 hj).1; rw [hl] at this; simpa using this
  have:=mapM_some_get h j j (by simp [hlt])
  rw [this,hj]
 ·
  cases h
theorem nA.slice {P:Program} {t e:Nat} {α:Type} {enc:α→D} {wf:α→Prop} (hu:P.underlying t=some (.slice e)) (he:nA P e enc wf) (hsz:∀ x,(enc x).cells.length=P.cellsOf e) (h0:0 < P.cellsOf e) :
  nA P t (yF enc) (fun l=>l.length ≤ maxLen∧∀ x ∈ l,wf x):=by
 intro H en w base sp held fuel cs d p h
 cases fuel with
 | zero=>cases h
 | succ fuel =>
  simp only [DataW.trod,hu] at h
  split at h <;> first | (simp_all; done) | skip
  ·
   exact ⟨[],⟨by simp,by simp⟩,.single (.sl0 none 0 false (fun h=>by cases h)) rfl rfl⟩
  ·
   rename_i e' a len cap heq
   simp only [Option.some.injEq,TypeDesc.slice.injEq] at heq
   subst heq
   split at h
   ·
    rename_i hc
    simp only [Option.bind_eq_some_iff] at h
    obtain ⟨els,hels,h⟩:=h
    have hl:=mapM_some_length hels
    have each:∀ i,i < len→∃ x ci,wf x∧w.cells? base (a.add (i * P.cellsOf e)) (P.cellsOf e)=some ci∧jT w (enc x).cells ci:=fun i hi=>by
     have hg:=mapM_some_get hels i i (by simp [hi])
     have hlt:i < els.length:=by rw [hl]; simpa using hi
     rw [List.getElem?_eq_getElem hlt,Option.bind_eq_some_iff] at hg
     obtain ⟨ci,h1,h2⟩:=hg
     obtain ⟨x,hx,hr⟩:=he en w base sp held fuel ci _ _ h2
     exact ⟨x,ci,hx,h1,hr⟩
    by_cases hz:len=0
    ·
     subst hz
     exact ⟨[],⟨by simp,by simp⟩,.single (.sl0 (some a) cap false (fun h=>by cases h)) rfl rfl⟩
    ·
     have hpos:0 < len:=by omega
     have hspot:a.spot=none:=by
      obtain ⟨x,ci,_,h1,_⟩:=each 0 hpos
      obtain ⟨l1,l2⟩:=pU h1
      have hne:0 < ci.length:=by omega
      have:=l2 0 ci[0] (List.getElem?_eq_getElem hne)
      unfold World.cell? at this
      split at this
      ·
       split at this
       ·
        cases this
       ·
        rename_i hs; cases hsp:a.spot with
        | none=>rfl
        | some q=>simp [Addr.add,hsp] at hs
      ·
       cases this
     have:Inhabited α:=⟨(each 0 hpos).choose⟩
     let f:Nat→α:=fun i=>if hi:i < len then (each i hi).choose else default
     let g:Nat→List Value:=fun i=>if hi:i < len then (each i hi).choose_spec.choose else []
     have hfg:∀ i,i < len→wf (f i)∧w.cells? base (a.add (i * P.cellsOf e)) (P.cellsOf e)=some (g i)∧jT w (enc (f i)).cells (g i):=fun i hi=>by
      have:=(each i hi).choose_spec.choose_spec
      simp only [f,g,hi,dif_pos]
      exact this
     let l:=(List.range len).map f
     have hll:l.length=len:=by simp [l]
     have hli:∀ i x,l[i]? = some x→i < len∧x=f i:=fun i x hx=>by
      simp only [l,List.getElem?_map,Option.map_eq_some_iff] at hx
      obtain ⟨j,hj,rfl⟩:=hx
      have:=List.getElem?_eq_some_iff.1 hj
      obtain ⟨h1,h2⟩:=this
      simp at h1 h2
      subst h2
      exact ⟨h1,rfl⟩
     refine ⟨l,⟨by rw [hll]; omega,fun x hx=>?_⟩,?_⟩
     ·
      obtain ⟨i,hi,rfl⟩:=List.getElem_of_mem hx
      obtain ⟨h1,h2⟩:=hli i _ (List.getElem?_eq_getElem hi)
      rw [h2]; exact (hfg i h1).1
     ·
      have ha:a=⟨a.block,a.off,none⟩:=by rw [← hspot]
      refine .single ?_ rfl rfl
      rw [ha]
      have hlm:(l.map enc).length=len:=by simp [hll]
      have key:dB w Bc (.sl (l.map enc) false) [.slice (some ⟨a.block,a.off,none⟩) (l.map enc).length cap]:=by
       refine .sl (l.map enc) false a.block a.off cap (P.cellsOf e) g ?_ (by rw [hlm]; exact hc.2.1) (fun h=>by cases h) (fun i x hi=>?_) (fun i hi=>?_) (fun i x hi=>?_) (fun i j v hi hv=>?_)
       ·
        intro q; rw [q] at hlm; simp at hlm; omega
       ·
        rw [List.getElem?_map,Option.map_eq_some_iff] at hi
        obtain ⟨y,_,rfl⟩:=hi
        exact hsz y
       ·
        exact (pU (hfg i (by rw [hlm] at hi; exact hi)).2.1).1
       ·
        rw [List.getElem?_map,Option.map_eq_some_iff] at hi
        obtain ⟨y,hy,rfl⟩:=hi
        obtain ⟨h1,rfl⟩:=hli i y hy
        exact (hfg i h1).2.2.Ew
       ·
        rw [hlm] at hi
        have:=(pU (hfg i hi).2.1).2 j v hv
        refine ⟨?_,fun q=>q⟩
        rw [← this]
        congr 1
        have hz:∀ (b:Addr) (m:Nat),b.spot=none→b.add m=⟨b.block,b.off + m,none⟩:=fun b m hb=>by
         obtain ⟨b1,b2,b3⟩:=b
         cases hb
         cases m <;> simp [Addr.add]
        rw [hz a _ hspot,hz _ j rfl]
      rw [hlm] at key
      exact key
   ·
    cases h
def vH (P:Program) (fs:List Field) (off tot:Nat) {β:Type} (enc:β→List D) (wf:β→Prop):Prop :=
 ∀ {H:Type} (en:TypeId × Value→H) (w:World) (base:Nat) (sp:Nat→Bool) (held:Bool) (fuel:Nat) (cs:List Value) (xs:List (DataW H × List MemPlace)),
  (fs.mapM fun f=>DataW.trod en P w base sp held fuel f.type ((cs.drop f.offset).take (P.cellsOf f.type)))=some xs→∃ y,wf y∧jT w (enc y) ((cs.drop off).take tot)
theorem vH.nil {P:Program} {off:Nat}:vH P [] off 0 (fun _:Unit=>[]) (fun _=>True) :=
 fun en w base sp held fuel cs xs h=>⟨(),trivial,by simpa using jT.nil⟩
theorem vH.cons {P:Program} {f:Field} {fs:List Field} {off sz tot:Nat} {α β:Type} {enc:α→D} {wf:α→Prop} {enc2:β→List D} {wf2:β→Prop}
  (ho:f.offset=off) (hz:P.cellsOf f.type=sz) (h:nA P f.type enc wf) (k:vH P fs (off + sz) tot enc2 wf2) :
  vH P (f :: fs) off (sz + tot) (fun p:α × β=>(enc p.1).cells ++ enc2 p.2) (fun p=>wf p.1∧wf2 p.2):=by
 intro H en w base sp held fuel cs xs hx
 simp only [List.mapM_cons,Option.pure_def,Option.bind_eq_bind,Option.bind_eq_some_iff] at hx
 obtain ⟨x,hx,ys,hys,_⟩:=hx
 rw [ho,hz] at hx
 obtain ⟨a,a1,a2⟩:=h en w base sp held fuel _ x.1 x.2 hx
 obtain ⟨b,b1,b2⟩:=k en w base sp held fuel cs ys hys
 refine ⟨(a,b),⟨a1,b1⟩,?_⟩
 rw [List.take_add,List.drop_drop]
 exact a2.append b2
theorem nA.struct {P:Program} {t tot:Nat} {fs:Array Field} {α β:Type} {enc:α→D} {wf:α→Prop} {enc2:β→List D} {wf2:β→Prop} (hu:P.underlying t=some (.struct fs)) (hz:P.cellsOf t=tot)
  (h:vH P fs.toList 0 tot enc2 wf2) (g:β→α) (hg:∀ y,(enc (g y)).cells=enc2 y) (hw:∀ y,wf2 y→wf (g y)):nA P t enc wf:=by
 intro H en w base sp held fuel cs d p hd
 cases fuel with
 | zero=>cases hd
 | succ fuel =>
  simp only [DataW.trod,hu] at hd
  split at hd
  ·
   rename_i hc
   simp only [Option.map_eq_some_iff] at hd
   obtain ⟨xs,hxs,_⟩:=hd
   obtain ⟨y,y1,y2⟩:=h en w base sp held fuel cs xs hxs
   refine ⟨g y,hw y y1,?_⟩
   rw [hg y]
   rw [hz] at hc
   simpa [← hc] using y2
  ·
   cases hd
theorem Ei {P:Program} {t:Nat} {fs:Array Field} {α:Type} {enc:α→D} {wf:α→Prop} (hu:P.underlying t=some (.struct fs)) (O:nA P t enc wf) (ha:∀ x,(enc x).isAgg=true)
  {H:Type} {en:TypeId × Value→H} {w:World} {base b0:Nat} {sp:Nat→Bool} {held:Bool} {v:Value} {d:DataW H} {p:List MemPlace} {r:Reach} (hval:Value.okWide P w r b0 t v) (hd:DataW.Trod en P w base sp held t v d p) :
  ∃ x,wf x∧aQ w Bc (enc x) v:=by
 unfold Value.okWide at hval
 rw [hu] at hval
 obtain ⟨cs,rfl,_,_⟩:=hval
 obtain ⟨fuel,hf⟩:=hd
 obtain ⟨x,x1,x2⟩:=O en w base sp held fuel _ d p hf
 exact ⟨x,x1,x2.Ew,ha x⟩
theorem FE {P:Program} {t:Nat} {α:Type} {enc:α→D} {wf:α→Prop} (O:nA P t enc wf) (ha:∀ x,(enc x).isAgg=false)
  {H:Type} {en:TypeId × Value→H} {w:World} {base b0:Nat} {sp:Nat→Bool} {held:Bool} {v:Value} {d:DataW H} {p:List MemPlace} (hval:oL v=false) (hd:DataW.Trod en P w base sp held t v d p) :
  ∃ x,wf x∧aQ w Bc (enc x) v:=by
 obtain ⟨fuel,hf⟩:=hd
 obtain ⟨x,x1,x2⟩:=O en w base sp held fuel _ d p hf
 exact ⟨x,x1,x2.Ew,by rw [hval]; exact ha x⟩
end
end Go.Ev

namespace Go.Ev
noncomputable section
set_option linter.unusedVariables false
set_option linter.unusedSimpArgs false
variable {R:aR} {C:bQ} {P:Program}
theorem bT.Dz {f:Nat} {p:Prim} (h:jc R P f p) {args:List AV} {S S':St} {v:AV} (hp:p args S=some (v,S')):bT R P f args S (fun r=>r=(none,v,S')):=by
 obtain ⟨h1,h2⟩:=h.calls args S v S' hp
 refine ⟨h1,fun cx w us q1 q2 q3=>(h2 cx w us q1 q2 q3).mono (fun e w' ⟨cx',k1,k2,u,k3,k4⟩=>⟨_,rfl,cx',k1,k2,u,k3,k4⟩)⟩
theorem dx.FH {f:Nat} {spec:List D→Option AV} (h:jc R P f (gF spec)) {ds:List D} {v:AV} (hv:spec ds=some v):dx R P f ds v:=fun args S ha=>by
 have hp:gF spec (ds.map .d) S=some (v,S):=by
  unfold gF
  rw [y8]
  simp [hv]
 exact (bT.Dz h hp).yS ha.Eb
theorem dx.D9 (ok:vL R C) {n f:Nat} {x:D} (h:BP C n f [] aH=some [(none,.d x,aH)]):dx R C.P f [] (.d x):=fun args S ha=>by
 obtain ⟨ds',h1,h2⟩:=ha
 cases h2
 have ha:args=[]:=by
  cases args with
  | nil=>rfl
  | cons y l =>
   simp only [fO] at h1
   split at h1
   ·
    cases hq:fO l <;> rw [hq] at h1 <;> cases h1
   ·
    cases h1
 subst ha
 refine CW.of ok.obj.toObjOk (ds:=[]) (v:=.d x) rfl ?_ S
 refine (bT.D9 ok h).mono (fun r hr=>?_)
 simp only [List.mem_singleton] at hr
 subst hr
 exact ⟨rfl,rfl⟩
theorem Dt (hR:ObjOk R) {f:Nat} {ds:List D} {x:D} (h:dx R P f ds (.d x)) (w:World) (hG:R.G w (fun _ _=>False)) (us:List Value) (hl:us.length=ds.length)
  (hr:∀ (i:Nat) (y:D) (u:Value),ds[i]? = some y→us[i]? = some u→aQ w (fun _ _=>False) y u) :
  Calls P f us.toArray w (fun e w'=>∃ u,e=.returned u∧aQ w' (fun _ _=>False) x u∧RowKit.Below w.heap.size w w'):=by
 let cx:Cx:={ bm:=fun _=>0,fp:=fun _ _=>False,tsz:=fun _=>0,tot:=fun _=>0,fr:=fun _ _=>False }
 have hS:aD R cx aH w:=⟨fun id hl=>absurd rfl hl,fun id b hb=>by simp [aH,AL.get] at hb,fun id g cs hb=>by simp [aH,AL.get] at hb,fun id es hb=>by simp [aH,AL.get] at hb,
  fun id k x hb=>by simp [aH,AL.get] at hb,fun id en hb=>by simp [aH,AL.get] at hb,fun id id' b hl=>absurd rfl hl,fun b o q=>q.elim,hG⟩
 have h2:=(h (ds.map .d) aH ⟨ds,y8 ds,.refl ds⟩).2
 refine (h2 cx w us hS (by simp [hl]) (fun i y u hy hu=>?_)).mono (fun e w' he=>?_)
 ·
  simp only [List.getElem?_map,Option.map_eq_some_iff] at hy
  obtain ⟨z,hz,rfl⟩:=hy
  exact .d z u (hr i z u hz hu)
 ·
  obtain ⟨r,rfl,cx',k1,k2,k3⟩:=he
  obtain ⟨u,rfl,k3⟩:=k3
  obtain ⟨m1,m2,m3⟩:=ni hR hS k2
  exact ⟨u,rfl,m3 _ _ k3.dd,⟨m2.os,m2.tape,m2.output,m2.size,fun b hb=>(k2.other b hb (fun id hl=>absurd rfl hl)).1⟩⟩
end
end Go.Ev

namespace Go.Ev
noncomputable section
set_option linter.unusedVariables false
set_option linter.unusedSimpArgs false
variable {R:aR} {P:Program} {B:St}
theorem yf {S:St} {id:Nat}:live S id↔S.H.get id ≠ none∨S.T.get id ≠ none:=by
 unfold live cur
 cases hH:S.H.get id with
 | none=>simp
 | some b=>cases b <;> simp
def without (S:St) (ids:List Nat):St:=ids.foldl (fun S id=>{ S with H:=S.H.del id,T:=S.T.del id }) S
theorem lD:∀ (ids:List Nat) (S:St),(without S ids).nx=S.nx
 | [],S=>rfl
 | id :: l,S=>lD l { S with H:=S.H.del id,T:=S.T.del id }
theorem iK:∀ (ids:List Nat) (S:St) (k:Nat),(without S ids).H.get k=if k ∈ ids then none else S.H.get k
 | [],S,k=>by simp [without]
 | id :: l,S,k=>by
  show (without { S with H:=S.H.del id,T:=S.T.del id } l).H.get k=_
  rw [iK l]
  simp only [AL.lh]
  by_cases h1:k ∈ l
  ·
   simp [h1]
  ·
   by_cases h2:id=k
   ·
    subst h2; simp
   ·
    simp [h1,h2,Ne.symm h2]
theorem iH:∀ (ids:List Nat) (S:St) (k:Nat),(without S ids).T.get k=if k ∈ ids then none else S.T.get k
 | [],S,k=>by simp [without]
 | id :: l,S,k=>by
  show (without { S with H:=S.H.del id,T:=S.T.del id } l).T.get k=_
  rw [iH l]
  simp only [AL.lh]
  by_cases h1:k ∈ l
  ·
   simp [h1]
  ·
   by_cases h2:id=k
   ·
    subst h2; simp
   ·
    simp [h1,h2,Ne.symm h2]
theorem bD.there {S:St} {a:bD} (h:a.ok S):∀ id ∈ a.fp,S.H.get id ≠ none∨S.T.get id ≠ none:=fun id hid=>by
 cases a with
 | box i cs=>simp only [bD.fp,List.mem_singleton] at hid; subst hid; left; rw [show S.H.get id=_ from h]; simp
 | obj i k x=>simp only [bD.fp,List.mem_singleton] at hid; subst hid; left; rw [show S.H.get id=_ from h]; simp
 | map i m=>simp only [bD.fp,List.mem_singleton] at hid; subst hid; left; rw [show S.H.get id=_ from h]; simp
 | grow v xs =>
  cases v <;> simp only [bD.fp,List.not_mem_nil,List.mem_singleton] at hid
  subst hid
  right; rw [h.2.2.1]; simp
 | row sz v xs =>
  cases v <;> simp only [bD.fp,List.not_mem_nil,List.mem_singleton] at hid
  subst hid
  obtain ⟨cs,_,h8⟩:=h.2.2.2.2.2.2
  left; rw [h8]; simp
 | abs ids p=>obtain ⟨b,hb⟩:=h.1 id hid; left; rw [hb]; simp
theorem Has.frame {S:St} {l1 l2:List bD} (H:Has B S (l1 ++ l2)):∃ B',Has B' S l1∧∀ S' l1',Has B' S' l1'→(∀ id b,S'.H.get id=some b→S'.T.get id=none)→Has B S' (l1' ++ l2):=by
 let ids:=(l1.map bD.fp).flatten
 let B':=without S ids
 have hmem:∀ a ∈ l1,∀ id ∈ a.fp,id ∈ ids:=fun a ha id hid=>List.mem_flatten.2 ⟨_,List.mem_map.2 ⟨a,ha,rfl⟩,hid⟩
 have hnd:=H.nd
 rw [List.map_append,List.flatten_append,List.nodup_append] at hnd
 have hnot:∀ a ∈ l2,∀ id ∈ a.fp,id ∉ ids:=fun a ha id hid hq =>
  hnd.2.2 id hq id (List.mem_flatten.2 ⟨_,List.mem_map.2 ⟨a,ha,rfl⟩,hid⟩) rfl
 have hBids:∀ id ∈ ids,B.H.get id=none∧B.T.get id=none:=fun id hid=>by
  obtain ⟨EB,h1,h2⟩:=List.mem_flatten.1 hid
  obtain ⟨a,ha,rfl⟩:=List.mem_map.1 h1
  exact H.out a (List.mem_append_left _ ha) id h2
 have hwf:B'.Wf:=fun id hl=>by
  show id < B'.nx
  rw [lD]
  refine H.wf id (yf.2 ?_)
  rcases yf.1 hl with h | h
  ·
   rw [iK] at h
   split at h
   ·
    exact absurd rfl h
   ·
    exact .inl h
  ·
   rw [iH] at h
   split at h
   ·
    exact absurd rfl h
   ·
    exact .inr h
 refine ⟨B',⟨H.wf,fun a ha=>H.ok a (List.mem_append_left _ ha),hnd.1,hwf,⟨by rw [lD]; exact Nat.le_refl _,fun id b hb=>?_,fun id n hn=>?_⟩,fun a ha id hid=>?_⟩,fun S' l1' K hdis=>?_⟩
 ·
  rw [iK] at hb
  split at hb
  ·
   cases hb
  ·
   exact hb
 ·
  rw [iH] at hn
  split at hn
  ·
   cases hn
  ·
   exact hn
 ·
  have:=hmem a ha id hid
  rw [iK,iH,if_pos this,if_pos this]; exact ⟨rfl,rfl⟩
 ·
  have keepH:∀ id b,id ∉ ids→S.H.get id=some b→S'.H.get id=some b:=fun id b hn hb=>K.keeps.H id b (by rw [iK,if_neg hn]; exact hb)
  have keepT:∀ id n,id ∉ ids→S.T.get id=some n→S'.T.get id=some n:=fun id b hn hb=>K.keeps.T id b (by rw [iH,if_neg hn]; exact hb)
  have hok2:∀ a ∈ l2,a.ok S':=fun a ha=>by
   have hok:=H.ok a (List.mem_append_right _ ha)
   have hn:=hnot a ha
   cases a with
   | box id cs=>exact keepH _ _ (hn _ (by simp [bD.fp])) hok
   | obj id k x=>exact keepH _ _ (hn _ (by simp [bD.fp])) hok
   | map id m=>exact keepH _ _ (hn _ (by simp [bD.fp])) hok
   | grow v xs =>
    cases v with
    | tsl ys tok =>
     obtain ⟨h1,h2,h3,h4⟩:=hok
     have h3':=keepT _ _ (hn tok (by simp [bD.fp])) h3
     refine ⟨h1,h2,h3',?_⟩
     cases hb:S'.H.get tok with
     | none=>rfl
     | some b=>have:=hdis _ _ hb; rw [h3'] at this; cases this
    | d x=>cases x with
     | sl ys t=>cases t <;> exact hok
     | _=>exact hok
    | _=>exact hok
   | row sz v xs =>
    cases v with
    | msl id g off len lim sz' =>
     obtain ⟨h1,h2,h3,h4,h5,h6,cs,h7,h8⟩:=hok
     exact ⟨h1,h2,h3,h4,h5,h6,cs,h7,keepH _ _ (hn id (by simp [bD.fp])) h8⟩
    | d x=>cases x with
     | sl ys t=>cases ys <;> cases t <;> exact hok
     | _=>exact hok
    | _=>exact hok
   | abs ids' p=>exact bD.FY hok (fun id b hid hb=>keepH _ _ (hn id hid) hb)
  refine ⟨K.wf,fun a ha=>?_,?_,H.bwf,⟨?_,fun id b hb=>?_,fun id n hn=>?_⟩,fun a ha id hid=>?_⟩
  ·
   rcases List.mem_append.1 ha with ha | ha
   ·
    exact K.ok a ha
   ·
    exact hok2 a ha
  ·
   rw [List.map_append,List.flatten_append,List.nodup_append]
   refine ⟨K.nd,hnd.2.1,fun a ha b hb hab=>?_⟩
   subst hab
   obtain ⟨EB,h1,h2⟩:=List.mem_flatten.1 ha
   obtain ⟨x,hx,rfl⟩:=List.mem_map.1 h1
   obtain ⟨EB,h3,h4⟩:=List.mem_flatten.1 hb
   obtain ⟨y,hy,rfl⟩:=List.mem_map.1 h3
   obtain ⟨o1,o2⟩:=K.out x hx a h2
   have hn:=hnot y hy a h4
   rw [iK,if_neg hn] at o1
   rw [iH,if_neg hn] at o2
   rcases bD.there (H.ok y (List.mem_append_right _ hy)) a h4 with q | q
   ·
    exact q o1
   ·
    exact q o2
  ·
   have:=K.keeps.nx
   rw [lD] at this
   exact Nat.le_trans H.keeps.nx this
  ·
   exact keepH id b (fun q=>by rw [(hBids id q).1] at hb; cases hb) (H.keeps.H id b hb)
  ·
   exact keepT id n (fun q=>by rw [(hBids id q).2] at hn; cases hn) (H.keeps.T id n hn)
  ·
   rcases List.mem_append.1 ha with ha | ha
   ·
    obtain ⟨o1,o2⟩:=K.out a ha id hid
    by_cases hq:id ∈ ids
    ·
     exact hBids id hq
    ·
     rw [iK,if_neg hq] at o1
     rw [iH,if_neg hq] at o2
     refine ⟨?_,?_⟩
     ·
      cases hb:B.H.get id with
      | none=>rfl
      | some b=>have:=H.keeps.H _ _ hb; rw [o1] at this; cases this
     ·
      cases hb:B.T.get id with
      | none=>rfl
      | some b=>have:=H.keeps.T _ _ hb; rw [o2] at this; cases this
   ·
    exact H.out a (List.mem_append_right _ ha) id hid
theorem o7.dL {cx:Cx} {S2 S:St} {w:World} {p:Option AV} {v:AV} {e:Ending} (k:gy S2 S) (h:o7 cx S w p v e):o7 cx S2 w p v e:=by
 cases p with
 | none=>obtain ⟨u,h1,h2⟩:=h; exact ⟨u,h1,h2.dL k⟩
 | some p=>obtain ⟨u,h1,h2⟩:=h; exact ⟨u,h1,h2.dL k⟩
theorem Ext.xn {cx cx':Cx} {S S' S2:St} {w w':World} (k:gy S2 S') (e:Ext cx S w cx' S' w'):Ext cx S w cx' S2 w' where
 size:=e.size
 os:=e.os
 tape:=e.tape
 output:=e.output
 nx:=by rw [k.nx]; exact e.nx
 prot:=e.prot
 other:=fun b hb hn=>e.other b hb (fun id hl hf=>by
  obtain ⟨h1,g,h2,h3⟩:=hn id hl hf
  exact ⟨h1,g,h2,k.isIt.1 h3⟩)
 own:=fun id b hl hf=>e.own id b (k.live.1 hl) hf
 back:=fun id g hid h=>e.back id g hid (k.isIt.1 h)
 keep:=fun id g b hid h0 h hf=>e.keep id g b hid h0 (k.isIt.1 h) hf
 curs:=fun id g hid hc=>e.curs id g hid (by rw [← k.cur]; exact hc)
theorem bT.xn {f:Nat} {args:List AV} {S:St} {Q:Out→Prop} (h:bT R P f args S (fun o=>∃ S2,gy S2 o.2.2∧Q (o.1,o.2.1,S2))):bT R P f args S Q :=
 ⟨h.1,fun cx w us h1 h2 h3=>(h.2 cx w us h1 h2 h3).mono fun e w' ⟨r,⟨S2,k,q⟩,cx',m1,m2,m3⟩=>⟨_,q,cx',m1.dL k,m2.xn k,m3.dL k⟩⟩
def xZ (R:aR) (P:Program) (f:Nat) (args:List AV) (ins:List bD) (res:AV→List bD→Prop):Prop :=
 ∀ B S,Has B S ins→bT R P f args S (fun o=>o.1=none∧∃ v l,Less v o.2.1∧res v l∧Has B o.2.2 l)
section
variable {C:bQ} {nt:Nat}
theorem xZ.of_wp {f:Nat} {fn:Func} {c:Code} (hf:C.P.funcs[f]? = some fn) (hc:fn.body=some c) (hn:(fn.name == "runtime.NumGoroutine")=false) {args:List AV} (hle:Nat.ble args.length fn.ntmps=true) {ins:List bD} {res:AV→List bD→Prop}
  (h:∀ B S,Has B S ins→az R C.P fn.ntmps c (jN 0 args) S (DL C fn (fun o=>o.1=none∧∃ v l S2,gy S2 o.2.2∧Less v o.2.1∧res v l∧Has B S2 l))):xZ R C.P f args ins res:=fun B S hB=>by
 refine bT.xn ((bT.of_wp hf hc hn (Nat.le_of_ble_eq_true hle) (h B S hB)).mono fun o ho=>?_)
 obtain ⟨h1,v,l,S2,h2,h3,h4,h5⟩:=ho
 exact ⟨S2,h2,h1,v,l,h3,h4,h5⟩
section steps
variable {ops:Array Oper} {rest:List Oper} {e:Env} {S S':St} {Q:Stp→Prop} {l l':List bD} {t ty:Nat} {p:String} {af:Array Edge} {g:Option (Nat × Bool)} {x y:Operand} {v:AV}
theorem ah.Gv {op:Op} {f:Nat} {args args':List AV} {ins more:List bD} {res:AV→List bD→Prop} (H:Has B S (ins ++ more)) (hw:bg ops e { dst:=some t,op:=op,type:=ty,pos:=p,after:=af,guard:=g }=some true) (ho:oper C (bA e) S op=some (.call f args)) (hs:xZ R C.P f args' ins res) (ha:bS args' args) (ht:Nat.blt t nt=true)
  (k:∀ v S' l',res v l'→Has B S' (l' ++ more)→ah R C nt ops rest ((t,v) :: e) S' Q) :
  ah R C nt ops ({ dst:=some t,op:=op,type:=ty,pos:=p,after:=af,guard:=g } :: rest) e S Q:=by
 obtain ⟨B',h1,h2⟩:=H.frame
 refine ah.one hw (.inr (.inr (.inl ⟨f,args,ho,((hs B' S h1).yS ha).lU.mono fun r hr=>?_⟩)))
 obtain ⟨p,w,S'⟩:=r
 obtain ⟨⟨q1,v,l',q2,q3,q4⟩,hd⟩:=hr
 simp only at q1 q2 q3 q4 hd
 subst q1
 exact ⟨_,by simp only [Env.put,ht,cond_true],ah.weak (aa.top q2) (k v S' l' q3 (h2 S' l' q4 hd))⟩
end steps
end
end
end Go.Ev

namespace Go.Ev
namespace Pr
set_option linter.unusedVariables false
set_option linter.unusedSimpArgs false
structure Seg where
 Kind:Int
 Text:Str
 deriving DecidableEq
def aO (x:Seg):D:=.agg [(.int .i64 x.Kind),(.str x.Text)]
theorem Seg.eq (x:Seg):aO x=.agg [(.int .i64 x.Kind),(.str x.Text)]:=rfl
theorem Seg.cells (x:Seg):(aO x).cells=[(.int .i64 x.Kind),(.str x.Text)]:=by rw [Seg.eq]; rfl
theorem Seg.gP (x:Seg):(AV.d (aO x)).cells=[.d (.int .i64 x.Kind),.d (.str x.Text)]:=by rw [Seg.eq]; rfl
theorem Seg.agg (x:Seg):(aO x).isAgg=true:=by rw [Seg.eq]; rfl
theorem Seg.len (x:Seg):(aO x).cells.length=2:=by rw [Seg.cells]; rfl
theorem Seg.yc {P:Program} {t:Nat} {x:Seg} (ha:dJ P t=some true) (hz:ax P t=2):gG P t (aO x).cells 0=some (aO x):=by
 rw [Seg.cells,vM ha hz rfl,Seg.eq]; rfl
def Seg.beq (x y:Seg):Bool:=((x.Kind == y.Kind) && ((x.Text == y.Text) && true))
structure aN where
 Kind:Int
 Flag:Int
 To:Str
 deriving DecidableEq
def rE (x:aN):D:=.agg [(.int .i64 x.Kind),(.int .i64 x.Flag),(.str x.To)]
theorem aN.eq (x:aN):rE x=.agg [(.int .i64 x.Kind),(.int .i64 x.Flag),(.str x.To)]:=rfl
theorem aN.gP (x:aN):(AV.d (rE x)).cells=[.d (.int .i64 x.Kind),.d (.int .i64 x.Flag),.d (.str x.To)]:=by rw [aN.eq]; rfl
structure ai where
 Name:Str
 Parent:Int
 dN:(List Seg)
 Comp:Int
 fQ:Bool
 aN:aN
def ak (x:ai):D:=.agg [(.str x.Name),(.int .i64 x.Parent),(.sl ((x.dN).map aO) false),(.int .i64 x.Comp),(.bool x.fQ),(.int .i64 x.aN.Kind),(.int .i64 x.aN.Flag),(.str x.aN.To)]
theorem ai.eq (x:ai):ak x=.agg [(.str x.Name),(.int .i64 x.Parent),(.sl ((x.dN).map aO) false),(.int .i64 x.Comp),(.bool x.fQ),(.int .i64 x.aN.Kind),(.int .i64 x.aN.Flag),(.str x.aN.To)]:=rfl
theorem ai.cells (x:ai):(ak x).cells=[(.str x.Name),(.int .i64 x.Parent),(.sl ((x.dN).map aO) false),(.int .i64 x.Comp),(.bool x.fQ),(.int .i64 x.aN.Kind),(.int .i64 x.aN.Flag),(.str x.aN.To)]:=by rw [ai.eq]; rfl
theorem ai.gP (x:ai):(AV.d (ak x)).cells=[.d (.str x.Name),.d (.int .i64 x.Parent),.d (.sl ((x.dN).map aO) false),.d (.int .i64 x.Comp),.d (.bool x.fQ),.d (.int .i64 x.aN.Kind),.d (.int .i64 x.aN.Flag),.d (.str x.aN.To)]:=by rw [ai.eq]; rfl
theorem ai.agg (x:ai):(ak x).isAgg=true:=by rw [ai.eq]; rfl
theorem ai.flat (x:ai):fw (ak x).cells=true:=by rw [ai.cells]; rfl
theorem ai.len (x:ai):(ak x).cells.length=8:=by rw [ai.cells]; rfl
theorem ai.yc {P:Program} {t:Nat} {x:ai} (ha:dJ P t=some true) (hz:ax P t=8):gG P t (ak x).cells 0=some (ak x):=by
 rw [ai.cells,vM ha hz rfl,ai.eq]; rfl
structure cz where
 Parents:(List Int)
 Kinds:(List Int)
 Texts:(List Int)
 Rules:(List Int)
 Flags:(List Int)
 dU:(List Int)
 Comps:(List Int)
def fG (x:cz):D:=.agg [(.sl ((x.Parents).map (D.int .i64)) false),(.sl ((x.Kinds).map (D.int .i64)) false),(.sl ((x.Texts).map (D.int .i64)) false),(.sl ((x.Rules).map (D.int .i64)) false),(.sl ((x.Flags).map (D.int .i64)) false),(.sl ((x.dU).map (D.int .i64)) false),(.sl ((x.Comps).map (D.int .i64)) false)]
theorem cz.eq (x:cz):fG x=.agg [(.sl ((x.Parents).map (D.int .i64)) false),(.sl ((x.Kinds).map (D.int .i64)) false),(.sl ((x.Texts).map (D.int .i64)) false),(.sl ((x.Rules).map (D.int .i64)) false),(.sl ((x.Flags).map (D.int .i64)) false),(.sl ((x.dU).map (D.int .i64)) false),(.sl ((x.Comps).map (D.int .i64)) false)]:=rfl
theorem cz.gP (x:cz):(AV.d (fG x)).cells=[.d (.sl ((x.Parents).map (D.int .i64)) false),.d (.sl ((x.Kinds).map (D.int .i64)) false),.d (.sl ((x.Texts).map (D.int .i64)) false),.d (.sl ((x.Rules).map (D.int .i64)) false),.d (.sl ((x.Flags).map (D.int .i64)) false),.d (.sl ((x.dU).map (D.int .i64)) false),.d (.sl ((x.Comps).map (D.int .i64)) false)]:=by rw [cz.eq]; rfl
theorem cz.agg (x:cz):(fG x).isAgg=true:=by rw [cz.eq]; rfl
structure BL where
 Name:Str
 Value:Str
 deriving DecidableEq
def wY (x:BL):D:=.agg [(.str x.Name),(.str x.Value)]
def fD (n:Nat):Option Bool:=some true
def bX (a2:Int) (x7:Int):Option Int :=
 (some (IntKind.wrap .i64 (a2 + x7)))
def aY (n:Nat) (a1:Int) (a2:Int) (a3:Int):Option Int :=
 ((BU .i64 a1 (IntKind.wrap .i64 ((IntKind.wrap .i64 (a3 - a2)) + 1))).bind fun z4=>(if (decide (z4 < 0))=true then (bX a2 ((IntKind.wrap .i64 ((IntKind.wrap .i64 ((IntKind.wrap .i64 (z4 + a3)) - a2)) + 1)))) else (bX a2 (z4))))
def dO (n:Nat) (a1:(List Seg)):Option Bool :=
 ((if (decide (0 < ((a1).length:Int)))=true then ((idx a1 (IntKind.wrap .i64 (((a1).length:Int) - 1))).bind fun z2=>(some (decide (2 ≤ z2.Kind)))) else some false).bind fun z3=>(some z3))
def bI (n:Nat) (a1:(List Int)) (a2:Int):Option Int :=
 (if (((a1).length:Int) == 0)=true then (some 0) else ((BU .i64 a2 ((a1).length:Int)).bind fun z4=>((idx a1 z4).bind fun z5=>(some z5))))
def aX (x16:(List ai)) (x18:(List Int)) (x20:Int) (again21:(List ai)→(List Int)→Int→Option (List ai)) (x28:Int) (x32:Int) (x44:Int) (x45:Str) (z47:Str) (z48:Int) (z50:Int) (x63:Int) (x64:Int) (x65:Str):Option (List ai) :=
 ((app 96 x16 [(ai.mk ((ai.mk z47 x28 [(Seg.mk x44 x45)] z50 ((dH .i64 z48 1) == 1) (aN.mk 0 0 [])).Name) ((ai.mk z47 x28 [(Seg.mk x44 x45)] z50 ((dH .i64 z48 1) == 1) (aN.mk 0 0 [])).Parent) ((ai.mk z47 x28 [(Seg.mk x44 x45)] z50 ((dH .i64 z48 1) == 1) (aN.mk 0 0 [])).dN) ((ai.mk z47 x28 [(Seg.mk x44 x45)] z50 ((dH .i64 z48 1) == 1) (aN.mk 0 0 [])).Comp) ((ai.mk z47 x28 [(Seg.mk x44 x45)] z50 ((dH .i64 z48 1) == 1) (aN.mk 0 0 [])).fQ) (aN.mk x63 x64 x65))]).bind fun z67=>((app 8 x18 [x32]).bind fun z71=>(again21 (z67) (z71) ((IntKind.wrap .i64 (x20 + 1))))))
def bz (n:Nat) (a1:cz) (x16:(List ai)) (x18:(List Int)) (x20:Int) (again21:(List ai)→(List Int)→Int→Option (List ai)) (x28:Int) (x32:Int) (x44:Int) (x45:Str):Option (List ai) :=
 ((cat [114] (([(IntKind.wrap .u8 (IntKind.wrap .i64 (97 + x20)))]).map fun (n:Int)=>UInt8.ofNat n.toNat)).bind fun z47=>((bI n a1.dU x20).bind fun z48=>((bI n a1.Comps x20).bind fun z49=>((aY n z49 0 3).bind fun z50=>((bI n a1.Rules x20).bind fun z75=>(if ((dH .i64 z75 3) == 3)=true then ((bI n a1.Rules x20).bind fun z77=>((CV .i64 z77 4).bind fun z78=>((aY n z78 0 4).bind fun z79=>((bI n a1.Flags x20).bind fun z80=>((aY n z80 0 3).bind fun z81=>(if ((((aN.mk z79 z81 []).Kind) == 3) || (((aN.mk z79 z81 []).Kind) == 4))=true then ((bI n a1.Flags (IntKind.wrap .i64 (x20 + 1))).bind fun z88=>((aY n z88 0 (IntKind.wrap .i64 (((x16).length:Int) - 1))).bind fun z89=>((idx x16 z89).bind fun z90=>(aX x16 x18 x20 again21 x28 x32 x44 x45 z47 z48 z50 ((aN.mk z79 z81 []).Kind) ((aN.mk z79 z81 []).Flag) (z90.Name))))) else (aX x16 x18 x20 again21 x28 x32 x44 x45 z47 z48 z50 ((aN.mk z79 z81 []).Kind) ((aN.mk z79 z81 []).Flag) ((aN.mk z79 z81 []).To)))))))) else (aX x16 x18 x20 again21 x28 x32 x44 x45 z47 z48 z50 ((ai.mk z47 x28 [(Seg.mk x44 x45)] z50 ((dH .i64 z48 1) == 1) (aN.mk 0 0 [])).aN.Kind) ((ai.mk z47 x28 [(Seg.mk x44 x45)] z50 ((dH .i64 z48 1) == 1) (aN.mk 0 0 [])).aN.Flag) ((ai.mk z47 x28 [(Seg.mk x44 x45)] z50 ((dH .i64 z48 1) == 1) (aN.mk 0 0 [])).aN.To))))))))
def bq (n:Nat) (a1:cz) (x16:(List ai)) (x18:(List Int)) (x20:Int) (again21:(List ai)→(List Int)→Int→Option (List ai)) (x28:Int) (x32:Int):Option (List ai) :=
 ((bI n a1.Kinds x20).bind fun z34=>((aY n z34 0 4).bind fun z35=>((cat [112] (([(IntKind.wrap .u8 (IntKind.wrap .i64 (97 + x20)))]).map fun (n:Int)=>UInt8.ofNat n.toNat)).bind fun z36=>(if (decide (((Seg.mk (IntKind.wrap .i64 (z35 - 1)) z36).Kind) ≤ 0))=true then ((bI n a1.Texts x20).bind fun z94=>((aY n z94 0 (IntKind.wrap .i64 ((([[97],[98],[105,116,101,109],[122],[49],[108,105,115,116]]).length:Int) - 1))).bind fun z95=>((idx [[97],[98],[105,116,101,109],[122],[49],[108,105,115,116]] z95).bind fun z96=>(bz n a1 x16 x18 x20 again21 x28 x32 ((Seg.mk 0 z96).Kind) ((Seg.mk 0 z96).Text))))) else (bz n a1 x16 x18 x20 again21 x28 x32 ((Seg.mk (IntKind.wrap .i64 (z35 - 1)) z36).Kind) ((Seg.mk (IntKind.wrap .i64 (z35 - 1)) z36).Text))))))
def aW (n:Nat) (a1:cz) (x16:(List ai)) (x18:(List Int)) (x20:Int) (again21:(List ai)→(List Int)→Int→Option (List ai)) (x28:Int):Option (List ai) :=
 (if (decide (0 ≤ x28))=true then ((idx x18 x28).bind fun z100=>(bq n a1 x16 x18 x20 again21 x28 ((IntKind.wrap .i64 (z100 + 1))))) else (bq n a1 x16 x18 x20 again21 x28 (1)))
def au (n:Nat) (a1:cz):Nat→(List ai)→(List Int)→Int→Option (List ai)
 | 0,_,_,_=>none
 | k21 + 1,x16,x18,x20 =>
  (if ((decide (x20 < ((a1.Parents).length:Int))) && (decide (x20 < 7)))=true then ((idx a1.Parents x20).bind fun z24=>((aY n z24 (-1) (IntKind.wrap .i64 (((x16).length:Int) - 1))).bind fun z25=>((if (decide (0 ≤ z25))=true then ((idx x18 z25).bind fun z101=>((if (decide (3 < z101))=true then some true else ((idx x16 z25).bind fun z102=>((dO n z102.dN).bind fun z103=>(some z103)))).bind fun z103=>(some z103))) else some false).bind fun z102=>(if z102=true then (aW n a1 x16 x18 x20 (au n a1 k21) ((-1))) else (aW n a1 x16 x18 x20 (au n a1 k21) (z25)))))) else (some x16))
def bU (n:Nat) (a1:cz):Option (List ai) :=
 (au n a1 n ([(ai.mk [104,111,109,101] (-1) [] 0 false (aN.mk 0 0 []))]) ([0]) (0))
def aP  : Nat→(List Int)→Int→Int→Option (List Int)
 | 0,_,_,_=>none
 | k15 + 1,x12,x13,x14 =>
  (if (decide (x13 < x14))=true then ((idx x12 x14).bind fun z17=>((idx x12 x13).bind fun z18=>((idx (gV x12 x13 z17) x14).bind fun z21=>((aP k15) ((gV (gV x12 x13 z17) x14 z18)) ((IntKind.wrap .i64 (x13 + 1))) ((IntKind.wrap .i64 (x14 - 1))))))) else (some x12))
def bZ (n:Nat) (a1:(List Int)):Option (List Int) :=
 (aP n (a1) (0) ((IntKind.wrap .i64 (((a1).length:Int) - 1))))
def dS (n:Nat) (x5:(List Int)):Option (List Int) :=
 ((bZ n x5).bind fun z8=>(some z8))
def bR (n:Nat) (a1:(List ai)):Nat→Int→(List Int)→Option (List Int)
 | 0,_,_=>none
 | k23 + 1,x20,x21 =>
  (if ((decide (0 ≤ x20)) && (decide (x20 < ((a1).length:Int))))=true then ((app 8 x21 [x20]).bind fun z29=>((idx a1 x20).bind fun z33=>(if (decide (x20 ≤ z33.Parent))=true then (dS n (z29)) else ((bR n a1 k23) (z33.Parent) (z29))))) else (dS n (x21)))
def iT (n:Nat) (a1:(List ai)) (a2:Int):Option (List Int) :=
 (bR n a1 n (a2) ([]))
def cO (a1:(List ai)) (z3:(List Int)):Nat→(List Seg)→Int→Option (List Seg)
 | 0,_,_=>none
 | k16 + 1,x13,x15 =>
  (if (decide (x15 < ((z3).length:Int)))=true then ((idx z3 x15).bind fun z18=>((idx a1 z18).bind fun z19=>((app 24 x13 z19.dN).bind fun z20=>((cO a1 z3 k16) (z20) ((IntKind.wrap .i64 (x15 + 1))))))) else (some x13))
def eZ (n:Nat) (a1:(List ai)) (a2:Int):Option (List Seg) :=
 ((iT n a1 a2).bind fun z3=>(cO a1 z3 n ([]) (0)))
def ja (a1:(List Seg)) (a2:(List Seg)):Nat→Int→Option Bool
 | 0,_=>none
 | k12 + 1,x11 =>
  (if (decide (x11 < ((a1).length:Int)))=true then ((idx a1 x11).bind fun z14=>((idx a2 x11).bind fun z15=>(if (!(Seg.beq z14 z15))=true then (some false) else ((ja a1 a2 k12) ((IntKind.wrap .i64 (x11 + 1))))))) else (some true))
def bK (n:Nat) (a1:Str):Option Bool :=
 ((if ((!(a1 == [])) && (decide (((a1).length:Int) ≤ 16)))=true then ((oH n a1 [97,98,99,100,101,102,103,104,105,106,107,108,109,110,111,112,113,114,115,116,117,118,119,120,121,122,48,49,50,51,52,53,54,55,56,57]).bind fun z3=>(some (z3 == []))) else some false).bind fun z4=>(some z4))
def dY (n:Nat) (a1:Seg) (a2:Seg):Option Bool :=
 (some ((a1.Kind != 0) && (a1.Text == a2.Text)))
def aI (a1:(List Seg)) (p2:Seg→Option Bool):Nat→Int→Option Int
 | 0,_=>none
 | k13 + 1,x12 =>
  (if (decide (x12 < ((a1).length:Int)))=true then ((idx a1 x12).bind fun z15=>((p2 z15).bind fun z16=>(if z16=true then (some x12) else ((aI a1 p2 k13) ((IntKind.wrap .i64 (x12 + 1))))))) else (some (-1)))
def bM (n:Nat) (a1:(List Seg)) (p2:Seg→Option Bool):Option Int :=
 (aI a1 p2 n (0))
def aU (n:Nat) (a1:(List Seg)) (p2:Seg→Option Bool):Option Bool :=
 ((bM n a1 p2).bind fun z6=>(some (decide (0 ≤ z6))))
def bC (n:Nat) (a1:(List Seg)):Nat→Int→Option Bool
 | 0,_=>none
 | k11 + 1,x10 =>
  (if (decide (x10 < ((a1).length:Int)))=true then ((idx a1 x10).bind fun z13=>((bK n z13.Text).bind fun z19=>(if (((!z19) || (decide (z13.Kind < 0))) || (decide (3 < z13.Kind)))=true then (some false) else (if ((decide (2 ≤ z13.Kind)) && (!(x10 == (IntKind.wrap .i64 (((a1).length:Int) - 1)))))=true then (some false) else ((if (z13.Kind != 0)=true then ((cut a1 0 x10).bind fun z25=>((aU n z25 (fun y26=>dY n y26 z13)).bind fun z27=>(some z27))) else some false).bind fun z26=>(if z26=true then (some false) else ((bC n a1 k11) ((IntKind.wrap .i64 (x10 + 1)))))))))) else (some true))
def bF (n:Nat) (a1:(List Seg)):Option Bool :=
 (if (decide (8 < ((a1).length:Int)))=true then (some false) else (bC n a1 n (0)))
def bN (n:Nat) (a1:(List ai)):Nat→(List (Str × Int))→Int→Option Bool
 | 0,_,_=>none
 | k17 + 1,x15,x16 =>
  (if (decide (x16 < ((a1).length:Int)))=true then ((idx a1 x16).bind fun z19=>((bF n [(Seg.mk 0 z19.Name)]).bind fun z25=>((if ((((!z25) || (decide (0 < (gq x15 z19.Name 0)))) || (decide (z19.Parent < (-1)))) || (decide (x16 ≤ z19.Parent)))=true then some true else ((eZ n a1 x16).bind fun z29=>((bF n z29).bind fun z30=>(some (!z30))))).bind fun z30=>(if z30=true then (some false) else ((bN n a1 k17) ((pO x15 z19.Name (IntKind.wrap .i64 ((gq x15 z19.Name 0) + 1)))) ((IntKind.wrap .i64 (x16 + 1)))))))) else (some true))
def dh (n:Nat) (a1:(List ai)):Option Bool :=
 (if ((decide (((a1).length:Int) < 1)) || (decide (16 < ((a1).length:Int))))=true then (some false) else (bN n a1 n ([]) (0)))
def aB (a1:(List ai)) (p2:ai→Option Bool):Nat→Int→Option Int
 | 0,_=>none
 | k13 + 1,x12 =>
  (if (decide (x12 < ((a1).length:Int)))=true then ((idx a1 x12).bind fun z15=>((p2 z15).bind fun z16=>(if z16=true then (some x12) else ((aB a1 p2 k13) ((IntKind.wrap .i64 (x12 + 1))))))) else (some (-1)))
def bE (n:Nat) (a1:(List ai)) (p2:ai→Option Bool):Option Int :=
 (aB a1 p2 n (0))
def fC (n:Nat) (a1:ai) (a2:Str):Option Bool :=
 (some (a1.Name == a2))
def iZ (n:Nat) (a1:(List ai)) (a2:Str):Option Int :=
 ((bE n a1 (fun y6=>fC n y6 a2)).bind fun z7=>(some z7))
def dC (n:Nat) (a1:(List ai)):Nat→(List (List Seg))→Int→Option (Int × (List BL) × Bool)
 | 0,_,_=>none
 | k17 + 1,x14,x16 =>
  (if (decide (x16 < ((a1).length:Int)))=true then ((eZ n a1 x16).bind fun z19=>((app 24 x14 [z19]).bind fun z20=>((dC n a1 k17) (z20) ((IntKind.wrap .i64 (x16 + 1)))))) else none)
def gH (n:Nat) (a1:(List ai)) (a2:(List Str)):Option (Int × (List BL) × Bool) :=
 ((dh n a1).bind fun z3=>(if (!z3)=true then (some ((-1),[],false)) else (dC n a1 n ([]) (0))))
def gB (n:Nat) (a1:(List ai)) (a2:Str) (a3:(List BL)):Option ((List Str) × Bool) :=
 ((iZ n a1 a2).bind fun z4=>((if (decide (z4 < 0))=true then some true else ((dh n a1).bind fun z5=>(some (!z5)))).bind fun z6=>(if z6=true then (some ([],false)) else none)))
def aM (n:Nat) (z8:(List ai)) (x20:(List ai)):Option Bool :=
 ((gH n x20 [[97]]).bind fun z23=>((idx z8 0).bind fun z24=>((gB n x20 z24.Name []).bind fun z25=>((dh n x20).bind fun z26=>((if (((((!z26) && (z23.1 == (-1))) && (((z23.2.1).length:Int) == 0)) && (!z23.2.2)) && (!z25.2))=true then ((fD n).bind fun z31=>(some z31)) else some false).bind fun z32=>(some z32))))))
def aT (n:Nat) (z8:(List ai)):Nat→(List ai)→Option Bool
 | 0,_=>none
 | k70 + 1,x68 =>
  (if (decide (((x68).length:Int) ≤ 16))=true then ((cat [110] (([(IntKind.wrap .u8 (IntKind.wrap .i64 (97 + ((x68).length:Int))))]).map fun (n:Int)=>UInt8.ofNat n.toNat)).bind fun z72=>((app 96 x68 [(ai.mk z72 (-1) [(Seg.mk 0 [113])] 0 false (aN.mk 0 0 []))]).bind fun z76=>((aT n z8 k70) (z76)))) else (aM n z8 (x68)))
def dD (n:Nat) (a1:cz) (a2:Int) (a3:Int) (a4:Int):Option Bool :=
 ((bU n a1).bind fun z8=>((dh n z8).bind fun z9=>(if (!z9)=true then (some false) else ((app 96 [] z8).bind fun z12=>((aY n a2 0 (IntKind.wrap .i64 (((z12).length:Int) - 1))).bind fun z16=>((aY n a4 0 99).bind fun z17=>((aY n a3 0 5).bind fun z34=>(if (z34 == 0)=true then ((idx z12 z16).bind fun z36=>(aM n z8 ((gV z12 z16 (ai.mk [] z36.Parent z36.dN z36.Comp z36.fQ z36.aN))))) else (if (z34 == 1)=true then ((idx z12 z16).bind fun z40=>(aM n z8 ((gV z12 z16 (ai.mk z40.Name (IntKind.wrap .i64 (z16 + (IntKind.wrap .i64 (1 + z17)))) z40.dN z40.Comp z40.fQ z40.aN))))) else (if (z34 == 2)=true then ((idx z12 z16).bind fun z44=>(aM n z8 ((gV z12 z16 (ai.mk z44.Name (IntKind.wrap .i64 ((-1) - (IntKind.wrap .i64 (1 + z17)))) z44.dN z44.Comp z44.fQ z44.aN))))) else (if (z34 == 3)=true then ((idx z12 z16).bind fun z48=>(aM n z8 ((gV z12 z16 (ai.mk z48.Name z48.Parent [(Seg.mk 3 [114]),(Seg.mk 0 [97])] z48.Comp z48.fQ z48.aN))))) else (if (z34 == 4)=true then ((idx z12 z16).bind fun z52=>((app 96 z12 [(ai.mk z52.Name (-1) [] 0 false (aN.mk 0 0 []))]).bind fun z56=>(aM n z8 (z56)))) else (aT n z8 n (z12))))))))))))))
end Pr
end Go.Ev

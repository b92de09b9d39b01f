import Derived.Test.YtpbfidcmnkmkiaaDoorPartB
import Derived.Recover
import Derived.Test.YtpbfidcmnkmkiaaDoorProg
import Derived.WalkKit
import Derived.ProofKit
namespace Go.Ev
noncomputable section
set_option linter.unusedVariables false
set_option linter.unusedSimpArgs false
variable {R:bA} {P:Program} {B:St}
def qz (note:Str) (n:Int):D:=.agg [.int .i64 6,.str note,.int .i64 n]
def sQ (FT:Nat) (note:Str) (n:Int):D:=.iface FT (qz note n)
def qQ {α β:Type} (z:Option α) (f:α→Option (Option β)):Option (Option β):=match z with | none=>some none | some x=>f x
theorem mF {α β:Type} {f:α→Option (Option β)} {r:Option β} (h:qQ none f=some r):r=none:=(Option.some.inj h).symm
theorem mE {α β:Type} {x:α} {f:α→Option (Option β)} {r:Option β} (h:qQ (some x) f=some r):f x=some r:=h
def FC {α:Type} (FT:Nat) (B:St) (z:Option α) (res:α→AV→List bW→Prop) (o:Out):Prop:=match z with
 | some x=>o.1=none∧∃ v l,Less v o.2.1∧res x v l∧Has B o.2.2 l
 | none=>∃ note n,o.1=some (.d (sQ FT note n))∧Has B o.2.2 []
def Eh {α:Type} (FT:Nat) (B:St) (z:Option α) (res:α→AV→List bW→Prop) (o:Out):Prop:=match z with
 | some x=>o.1=none∧∃ v l S2,iq S2 o.2.2∧Less v o.2.1∧res x v l∧Has B S2 l
 | none=>∃ note n,o.1=some (.d (sQ FT note n))∧Has B o.2.2 []
def gz {α:Type} (R:bA) (P:Program) (FT f:Nat) (args:List AV) (ins:List bW) (z:Option α) (res:α→AV→List bW→Prop):Prop :=
 ∀ B S,Has B S ins→dY R P f args S (FC FT B z res)
section
variable {C:eH} {nt:Nat} {α:Type} {FT:Nat}
theorem gz.of_wp {f:Nat} {fn:Func} {c:Code} (hf:C.P.funcs[f]? = some fn) (hc:fn.body=some c) (hn:(fn.name == "runtime.NumGoroutine")=false) {args:List AV} (hle:Nat.ble args.length fn.ntmps=true) {ins:List bW} {z:Option α} {res:α→AV→List bW→Prop}
  (h:∀ B S,Has B S ins→ay R C.P fn.ntmps c (kU 0 args) S (CG C fn (Eh FT B z res))):gz R C.P FT f args ins z res:=fun B S hB=>by
 refine dY.wP ((dY.of_wp hf hc hn (Nat.le_of_ble_eq_true hle) (h B S hB)).mono fun o ho=>?_)
 cases z with
 | none =>
  obtain ⟨note,n,h1,h2⟩:=ho
  exact ⟨o.2.2,.refl _,note,n,h1,h2⟩
 | some x =>
  obtain ⟨h1,v,l,S2,h2,h3,h4,h5⟩:=ho
  exact ⟨S2,h2,h1,v,l,h3,h4,h5⟩
section steps
variable {ops:Array Oper} {rest:List Oper} {e:Env} {S S':St} {Q:Stp→Prop} {l l':List bW} {t ty:Nat} {p:String} {af:Array Edge} {g:Option (Nat × Bool)} {x y:Operand} {v:AV}
theorem ae.mG {op:Op} {f:Nat} {args args':List AV} {ins more:List bW} {z:α} {res:α→AV→List bW→Prop} (H:Has B S (ins ++ more)) (hw:dh ops e { dst:=some t,op:=op,type:=ty,pos:=p,after:=af,guard:=g }=some true) (ho:oper C (fB e) S op=some (.call f args)) (hs:gz R C.P FT f args' ins (some z) res) (ha:iI args' args) (ht:Nat.blt t nt=true)
  (k:∀ v S' l',res z v l'→Has B S' (l' ++ more)→ae R C nt ops rest ((t,v) :: e) S' Q) :
  ae R C nt ops ({ dst:=some t,op:=op,type:=ty,pos:=p,after:=af,guard:=g } :: rest) e S Q:=by
 obtain ⟨B',h1,h2⟩:=H.frame
 refine ae.one hw (.inr (.inr (.inl ⟨f,args,ho,((hs B' S h1).vo ha).nN.mono fun r hr=>?_⟩)))
 obtain ⟨p,w,S'⟩:=r
 obtain ⟨⟨q1,v,l',q2,q3,q4⟩,hd⟩:=hr
 simp only at q1 q2 q3 q4 hd
 subst q1
 exact ⟨_,by simp only [Env.put,ht,cond_true],ae.weak (aa.top q2) (k v S' l' q3 (h2 S' l' q4 hd))⟩
theorem ae.thrown {dst:Option Nat} {op:Op} {f:Nat} {args args':List AV} {ins more:List bW} {z:Option α} {res:α→AV→List bW→Prop} (hz:z=none) (H:Has B S (ins ++ more)) (hw:dh ops e { dst:=dst,op:=op,type:=ty,pos:=p,after:=af,guard:=g }=some true) (ho:oper C (fB e) S op=some (.call f args)) (hs:gz R C.P FT f args' ins z res) (ha:iI args' args)
  (k:∀ note n S',Has B S' more→Q (.stop (.d (sQ FT note n)) S')) :
  ae R C nt ops ({ dst:=dst,op:=op,type:=ty,pos:=p,after:=af,guard:=g } :: rest) e S Q:=by
 subst hz
 obtain ⟨B',h1,h2⟩:=H.frame
 refine ae.one hw (.inr (.inr (.inl ⟨f,args,ho,((hs B' S h1).vo ha).nN.mono fun r hr=>?_⟩)))
 obtain ⟨p,w,S'⟩:=r
 obtain ⟨⟨note,n,q1,q2⟩,hd⟩:=hr
 simp only at q1 q2 hd
 subst q1
 exact k note n S' (h2 S' [] q2 hd)
end steps
end
def Bh:Nat→Nat→List UInt8
 | 0,_=>[]
 | k + 1,u=>if u < 10 then [UInt8.ofNat (48 + u)] else Bh k (u / 10) ++ [UInt8.ofNat (48 + u % 10)]
def qN (n:Int):List UInt8:=if n < 0 then 45 :: Bh 20 n.natAbs else Bh 20 n.toNat
def strconv_Itoa (n:Nat) (x:Int):Option (List UInt8):=if -9223372036854775808 ≤ x∧x ≤ 9223372036854775807 then some (qN x) else none
end
end Go.Ev

namespace Go.Ev
noncomputable section
set_option linter.unusedVariables false
set_option linter.unusedSimpArgs false
variable {R:bA} {C:eH} {nt:Nat} {B:St}
section steps
variable {ops:Array Oper} {rest:List Oper} {e:Env} {S S':St} {Q:Stp→Prop} {l l':List bW} {t ty:Nat} {p:String} {af:Array Edge} {g:Option (Nat × Bool)} {x y:Operand} {v:AV}
theorem ae.raw {o:Oper} (h:C9 R C nt ops o e S (fun r=>match r with | .go e' S'=>ae R C nt ops rest e' S' Q | .stop v S'=>Q (.stop v S'))):ae R C nt ops (o :: rest) e S Q :=
 ⟨e,S,.refl e S,.inr (.inr (.inr ⟨e,.refl e,h⟩))⟩
theorem ae.DF {op:Op} (hw:dh ops e { dst:=some t,op:=op,type:=ty,pos:=p,after:=af,guard:=g }=some true) {v:AV}
  (h:∀ cx w a,aR R cx S w→eD cx S w nt e a→∃ u,(execOp a.eval { dst:=some t,op:=op,type:=ty,pos:=p,after:=af,guard:=g }).run C.P w=.ok (.value u) w∧aJ cx S w v u) (ht:Nat.blt t nt=true)
  (k:ae R C nt ops rest ((t,v) :: e) S Q):ae R C nt ops ({ dst:=some t,op:=op,type:=ty,pos:=p,after:=af,guard:=g } :: rest) e S Q :=
 ae.raw ⟨hw,fun cx w a hS he=>by
  obtain ⟨u,h1,h2⟩:=h cx w a hS he
  exact .inl ⟨cx,w,u,v,S,_,h1,hS,Ext.refl w hS.wf,h2,by simp only [Env.put,ht,cond_true],k⟩⟩
theorem ae.Al {T:Nat} {d:D} (hw:dh ops e { dst:=some t,op:=.makeInterface T x,type:=ty,pos:=p,after:=af,guard:=g }=some true) (hx:fB e x=some (.d d)) (hm:∀ v w,(Instr.makeInterface T v).run C.P w=.ok (.iface T v) w) (ht:Nat.blt t nt=true)
  (k:ae R C nt ops rest ((t,.d (.iface T d)) :: e) S Q):ae R C nt ops ({ dst:=some t,op:=.makeInterface T x,type:=ty,pos:=p,after:=af,guard:=g } :: rest) e S Q :=
 ae.DF hw (fun cx w a hS he=>by
  have r:=(he.eval x _ hx).dd
  refine ⟨_,mg (hm _ w),.d _ _ ⟨.iface T d _ r.2 r.1,rfl⟩⟩) ht k
theorem vL {cx:Cx} {S:St} {w:World} {T:Nat} {d:D} {u:Value} (h:aJ cx S w (.d (.iface T d)) u):∃ v,u=.iface T v∧aJ cx S w (.d d) v:=by
 obtain ⟨r1,r2⟩:=h.dd
 have:u.cells.toList=[u]:=by cases u <;> first | rfl | (simp [qG,D.isAgg] at r2)
 rw [this] at r1
 clear this r2 h
 cases r1
 rename_i v hs hc
 exact ⟨v,rfl,.d _ _ ⟨hc,hs⟩⟩
theorem ae.panic {dst:Option Nat} {T:Nat} {d:D} (hw:dh ops e { dst:=dst,op:=.panic x,type:=ty,pos:=p,after:=af,guard:=g }=some true) (hx:fB e x=some (.d (.iface T d)))
  (k:Q (.stop (.d (.iface T d)) S)):ae R C nt ops ({ dst:=dst,op:=.panic x,type:=ty,pos:=p,after:=af,guard:=g } :: rest) e S Q :=
 ae.raw ⟨hw,fun cx w a hS he=>by
  have hr:=he.eval x _ hx
  obtain ⟨v,h1,_⟩:=vL hr
  refine .inr ⟨a.eval x,_,?_,hr,k⟩
  show (do pure (Next.value (← Instr.panic (a.eval x))):Sem Next).run C.P w=.halt (.panic (a.eval x)) w
  rw [h1]; rfl⟩
theorem ae.BD {T xT:Nat} {d:D} (hw:dh ops e { dst:=some t,op:=.typeAssert x xT T true,type:=ty,pos:=p,after:=af,guard:=g }=some true) (hx:fB e x=some (.d (.iface T d))) (hm:∀ v w,(Instr.typeAssert (.iface T v) xT T true).run C.P w=.ok (.tuple #[v,.bool true]) w) (ht:Nat.blt t nt=true)
  (k:ae R C nt ops rest ((t,.tup [.d d,.d (.bool true)]) :: e) S Q):ae R C nt ops ({ dst:=some t,op:=.typeAssert x xT T true,type:=ty,pos:=p,after:=af,guard:=g } :: rest) e S Q :=
 ae.DF hw (fun cx w a hS he=>by
  obtain ⟨v,h1,h2⟩:=vL (he.eval x _ hx)
  refine ⟨.tuple #[v,.bool true],mg (by rw [h1]; exact hm v w),.tup _ [v,.bool true] rfl (fun i x y hx hy=>?_)⟩
  match i,hx,hy with
  | 0,hx,hy=>cases hx; cases hy; exact h2
  | 1,hx,hy=>cases hx; cases hy; exact .d _ _ ⟨.bool true,rfl⟩) ht k
theorem ae.Ey {f:Nat} {caps:List AV} {T:Nat} {y:Operand} {ty1:Nat} (hw:dh ops e { dst:=some t,op:=.binOp .eql T x y ty1,type:=ty,pos:=p,after:=af,guard:=g }=some true) (hx:fB e x=some (.fn f caps)) (hy:∀ a:Act,a.eval y=.nilFunc)
  (hm:∀ vs w,(do eqGuard .eql T x y (.func (.func f) #[] vs) .nilFunc; binOp .eql T (.func (.func f) #[] vs) .nilFunc:Sem Value).run C.P w=.ok (.bool false) w) (ht:Nat.blt t nt=true)
  (k:ae R C nt ops rest ((t,.d (.bool false)) :: e) S Q):ae R C nt ops ({ dst:=some t,op:=.binOp .eql T x y ty1,type:=ty,pos:=p,after:=af,guard:=g } :: rest) e S Q :=
 ae.DF hw (fun cx w a hS he=>by
  have h:=he.eval x _ hx
  generalize hu:a.eval x=u at h
  cases h with
  | fn _ _ vs hl h =>
   refine ⟨.bool false,mg ?_,.d _ _ ⟨.bool false,rfl⟩⟩
   rw [hu,hy]
   exact hm _ w) ht k
end steps
theorem qw {cx:Cx} {S:St} {w:World} {args:List AV} {us:List Value} {n:Nat} (hl:us.length=args.length) (hle:args.length ≤ n) (hr:∀ (i:Nat) (x:AV) (u:Value),args[i]? = some x→us[i]? = some u→aJ cx S w x u) :
  eD cx S w n (kU 0 args) { tmps:=us.toArray ++ Array.replicate (n - us.toArray.size) undef,defers:=[] }:=by
 refine ⟨by simp; omega,fun t x hx=>?_⟩
 rw [oQ] at hx
 simp only [Nat.zero_le,if_true,Nat.sub_zero] at hx
 have hlt:t < us.length:=by rw [hl]; exact (List.getElem?_eq_some_iff.1 hx).1
 have hu:=List.getElem?_eq_getElem hlt
 exact ⟨us[t],by rw [Array.getElem?_append_left (by simpa using hlt)]; simp,hr t x _ hx hu⟩
theorem ay.run {P:Program} {c:Code} {e:Env} {S:St} {Q:nY→Prop} (h:ay R P nt c e S Q) {cx:Cx} {w:World} {a:Act} {K:Exit→Act→World→Prop} (hS:aR R cx S w) (he:eD cx S w nt e a) (hk:∀ r,Q r→Fin R cx S w nt a K r):c.wp P K a w:=h cx w a K hS he hk
section raw
variable {P:Program} {ops:Array Oper} {a:Act} {w:World} {o1 o2:Oper}
theorem uQ {Kx:Exit→Act→World→Prop} (h:ops = #[o1,o2]) (g1:o1.guard=none) (g2:o2.guard=none) {u:Value} {w1:World} (e1:(execOp a.eval o1).run P w=.ok (.value u) w1) (k:o2.upon P (a.put o1.dst u) (Kx .normal) Kx ((execOp (a.put o1.dst u).eval o2).run P w1)):wpOps P ops Kx (List.range ops.size) a w:=by
 subst h
 show wpOps P #[o1,o2] Kx [0,1] a w
 simp only [wpOps,List.getElem?_toArray,List.getElem?_cons_zero,List.getElem?_cons_succ,Region.wanted,g1,g2,if_true]
 left
 unfold Oper.wp
 rw [e1]
 left
 exact k
theorem r9 {Q:Exit→Act→List Frame→World→Prop} {cs cs':List Frame} (h:ops = #[o1,o2]) (g1:o1.guard=none) (g2:o2.guard=none) {u u2:Value} (e1:(execOp a.eval o1).run P w=.ok .recover w) (hr:recoverD cs=some (u,cs')) (e2:(execOp (a.put o1.dst u).eval o2).run P w=.ok (.value u2) w)
  (k:Q .normal ((a.put o1.dst u).put o2.dst u2) cs' w):wpOpsS P ops Q (List.range ops.size) a cs w:=by
 subst h
 show wpOpsS P #[o1,o2] Q [0,1] a cs w
 simp only [wpOpsS,List.getElem?_toArray,List.getElem?_cons_zero,List.getElem?_cons_succ,Region.wanted,g1,g2,if_true,e1,hr,e2,Oper.upon]
 exact k
end raw
theorem Has.perm {B S:St} {l l':List bW} (h:Has B S l) (p:l.Perm l'):Has B S l' :=
 ⟨h.wf,fun a ha=>h.ok a (p.symm.subset ha),((p.map bW.fp).flatten.nodup_iff).1 h.nd,h.bwf,h.keeps,fun a ha=>h.out a (p.symm.subset ha)⟩
theorem rq {C:eH} {fn:Func} {e:Env} {S:St} {B:St} {l:List bW} (H:Has B S l) {a t i id a2 t2 i2 id2:Nat} {cs cs2:List AV} {v v2:AV} (hf:fn.results = #[.cell a t,.cell a2 t2]) (ha:AL.get e a=some (.ptr id 0 0)) (hi:l[i]? = some (.box id cs)) (hp:part C.P t cs 0=some v)
  (ha2:AL.get e a2=some (.ptr id2 0 0)) (hi2:l[i2]? = some (.box id2 cs2)) (hp2:part C.P t2 cs2 0=some v2):ik C fn e S=some (.tup [v,v2]):=by
 have hb:S.H.get id=some (.cells 0 cs):=H.at hi
 have hb2:S.H.get id2=some (.cells 0 cs2):=H.at hi2
 simp only [ik,hf,gy,rA,ha,ha2,jU,St.look,hb,hb2,Nat.beq_refl,cond_true,hp,hp2,Option.map_some]
theorem Act.xU {a:Act} {t:Nat} {v:Value} (h:a.tmps[t]? = some v):a.eval (.tmp t)=v:=by
 simp [Act.eval,Array.getD_eq_getD_getElem?,h]
theorem results_none {fn:Func} (h:fn.results = #[]) (tmps:Array Value) (P:Program) (w:World):(results fn tmps).run P w=.ok (.tuple #[]) w:=by
 simp [results,h]
def Dp {α:Type} (z:Option α) (res:α→AV→List bW→Prop) (v:AV) (l:List bW):Prop:=match z with
 | some x=>∃ v',res x v' l∧v=.tup [.d (.agg [.int .i64 0,.str [],.int .i64 0]),.d (.bool true)]
 | none=>l=[]∧∃ note n,v=.tup [.d (qz note n),.d (.bool false)]
end
end Go.Ev

namespace Go.Ev
noncomputable section
set_option linter.unusedVariables false
set_option linter.unusedSimpArgs false
variable {R:bA} {P:Program} {B:St}
def D7 (l:List bW):List Nat:=(l.map bW.fp).flatten
section
variable {α:Type} (enc:α→D) (kid:α→List Int) (sz k:Nat)
end
section
variable {α:Type} {enc:α→D} {kid:α→List Int} {sz k:Nat} {v:AV} {wss:List (List AV)} {xs:List α} {hole:Option Nat} {S S':St}
end
end
end Go.Ev

namespace Go.Ev
noncomputable section
set_option linter.unusedVariables false
set_option linter.unusedSimpArgs false
variable {R:bA} {P:Program} {B:St}
section
variable {α:Type} {enc:α→D} {kid:α→List Int} {sz k:Nat} {v:AV} {wss:List (List AV)} {xs:List α} {hole:Option Nat} {S S':St}
section
variable {C:eH} {ρ:Operand→Option AV} {l:List bW} {x y:Operand} {t:Nat} {n:Int} {z:α}
end
end
end
end Go.Ev

namespace Go.Ev
noncomputable section
set_option linter.unusedVariables false
set_option linter.unusedSimpArgs false
variable {R:bA} {P:Program} {B:St}
section
variable {α:Type} {enc:α→D} {kid:α→List Int} {sz k:Nat} {v:AV} {wss:List (List AV)} {xs:List α} {hole:Option Nat} {S S':St}
section
variable {l:List bW} {n:Nat} {z z':α} {ws ws':List AV} {id g:Nat}
section
variable {C:eH} {ρ:Operand→Option AV} {x y:Operand} {t:Nat} {i:Int}
end
section
variable {C:eH} {nt:Nat} {ops:Array Oper} {rest:List Oper} {e:Env} {Q:Stp→Prop} {t ty:Nat} {p:String} {af:Array Edge} {gg:Option (Nat × Bool)} {x y:Operand} {i:Int}
end
end
end
end
end Go.Ev

namespace Go.Ev
noncomputable section
set_option linter.unusedVariables false
set_option linter.unusedSimpArgs false
variable {R:bA} {P:Program} {B:St}
section
variable {S:St} {l:List bW}
section
variable {C:eH} {ρ:Operand→Option AV} {x y:Operand} {t:Nat}
section
variable {α:Type} {enc:α→D} {kid:α→List Int} {sz k:Nat} {v rv:AV} {wss:List (List AV)} {xs:List α} {z:α} {c:List AV}
end
section
variable {w rv:AV} {ys r:List Int} {n:Int}
end
end
end
end
end Go.Ev

namespace Go.Ev
noncomputable section
set_option linter.unusedVariables false
set_option linter.unusedSimpArgs false
variable {R:bA} {P:Program} {B:St}
section steps
variable {C:eH} {nt:Nat} {ops:Array Oper} {rest:List Oper} {e:Env} {S:St} {Q:Stp→Prop} {l:List bW} {t ty:Nat} {p:String} {af:Array Edge} {g:Option (Nat × Bool)} {x y:Operand}
section
variable {α:Type} {enc:α→D} {kid:α→List Int} {sz k:Nat} {v:AV} {wss:List (List AV)} {xs:List α} {hole:Option Nat} {z:α} {n:Int} {tt:Nat}
end
section
variable {w:AV} {ys r:List Int} {n:Int} {tt:Nat}
end
end steps
section
variable {C:eH} {ρ:Operand→Option AV} {S:St} {l:List bW} {x lo hi mx:Operand} {t el q:Nat} {w:AV} {ys:List Int} {i j:Int} {k1 k2 k3:IntKind}
end
section
variable {C:eH} {nt:Nat} {ops:Array Oper} {rest:List Oper} {e:Env} {S:St} {Q:Stp→Prop} {l:List bW} {t ty:Nat} {p:String} {af:Array Edge} {g:Option (Nat × Bool)} {x y:Operand} {w:AV} {ys r:List Int} {i j:Int}
end
end
end Go.Ev

namespace Go.Ev
noncomputable section
set_option linter.unusedVariables false
set_option linter.unusedSimpArgs false
variable {R:bA} {P:Program} {B:St}
section
variable {α:Type} {enc:α→D} {kid:α→List Int} {sz k:Nat} {v:AV} {wss:List (List AV)} {xs:List α} {hole:Option Nat} {z:α} {n:Int} {S:St}
variable {C:eH} {ρ:Operand→Option AV} {l:List bW} {x y:Operand} {t ty q off:Nat}
end
section
variable {C:eH} {nt:Nat} {ops:Array Oper} {rest:List Oper} {e:Env} {S:St} {Q:Stp→Prop} {l:List bW} {t ty:Nat} {p:String} {af:Array Edge} {g:Option (Nat × Bool)} {x y:Operand} {w:AV} {ys r:List Int}
end
end
end Go.Ev
namespace Go.Ev
end Go.Ev
namespace Go.Ev
theorem qR {B S:St} {C:eH} {fn:Func} {e:Env} {l:List bW} (H:Has B S l) {a t i id u:Nat} {cs:List AV} {v y:AV} (hf:fn.results = #[.cell a t,.tmp u]) (ha:AL.get e a=some (.ptr id 0 0)) (hi:l[i]? = some (.box id cs)) (hp:part C.P t cs 0=some v) (hu:AL.get e u=some y):ik C fn e S=some (.tup [v,y]):=by
 have hb:S.H.get id=some (.cells 0 cs):=H.at hi
 simp only [ik,hf,gy,rA,ha,jU,St.look,hb,Nat.beq_refl,cond_true,hp,hu,Option.map_some]
end Go.Ev
namespace Go.Ev
end Go.Ev

namespace Go.Ev
namespace Pr
set_option linter.unusedVariables false
set_option linter.unusedSimpArgs false
structure Attr where
 Name:Str
 Value:Str
 deriving DecidableEq
def aA (x:Attr):D:=.agg [(.str x.Name),(.str x.Value)]
theorem Attr.eq (x:Attr):aA x=.agg [(.str x.Name),(.str x.Value)]:=rfl
theorem Attr.cells (x:Attr):(aA x).cells=[(.str x.Name),(.str x.Value)]:=by rw [Attr.eq]; rfl
theorem Attr.bJ (x:Attr):(AV.d (aA x)).cells=[.d (.str x.Name),.d (.str x.Value)]:=by rw [Attr.eq]; rfl
theorem Attr.agg (x:Attr):(aA x).isAgg=true:=by rw [Attr.eq]; rfl
theorem Attr.len (x:Attr):(aA x).cells.length=2:=by rw [Attr.cells]; rfl
theorem Attr.cn (x:Attr):(aA x).cn=aA x:=by
 rw [Attr.eq]
 exact yK (by
  intro d hd
  simp only [List.mem_cons,List.not_mem_nil,or_false] at hd
  rcases hd with rfl | rfl
  ·
   exact rfl
  ·
   exact rfl)
theorem Attr.iy {P:Program} {t:Nat} {x:Attr} (ha:dU P t=some true) (hz:aK P t=2):fK P t (aA x).cells 0=some (aA x):=by
 rw [Attr.cells,lI ha hz rfl,Attr.eq]; rfl
def Attr.beq (x y:Attr):Bool:=((x.Name == y.Name) && ((x.Value == y.Value) && true))
structure bu where
 Kind:Int
 N:Int
 Tag:Str
 Text:Str
 aI:(List Attr)
def bU (x:bu):D:=.agg [(.int .i64 x.Kind),(.int .i64 x.N),(.str x.Tag),(.str x.Text),(.sl ((x.aI).map aA) false),.aT]
theorem bu.eq (x:bu):bU x=.agg [(.int .i64 x.Kind),(.int .i64 x.N),(.str x.Tag),(.str x.Text),(.sl ((x.aI).map aA) false),.aT]:=rfl
theorem bu.cells (x:bu):(bU x).cells=[(.int .i64 x.Kind),(.int .i64 x.N),(.str x.Tag),(.str x.Text),(.sl ((x.aI).map aA) false),.aT]:=by rw [bu.eq]; rfl
theorem bu.bJ (x:bu):(AV.d (bU x)).cells=[.d (.int .i64 x.Kind),.d (.int .i64 x.N),.d (.str x.Tag),.d (.str x.Text),.d (.sl ((x.aI).map aA) false),.d .aT]:=by rw [bu.eq]; rfl
theorem bu.agg (x:bu):(bU x).isAgg=true:=by rw [bu.eq]; rfl
theorem bu.len (x:bu):(bU x).cells.length=6:=by rw [bu.cells]; rfl
theorem bu.iy {P:Program} {t:Nat} {x:bu} (ha:dU P t=some true) (hz:aK P t=6):fK P t (bU x).cells 0=some (bU x):=by
 rw [bu.cells,lI ha hz rfl,bu.eq]; rfl
inductive Tree where
 | mk (Tag:Str) (Key:Str) (Text:Str) (aI:(List Attr)) (Kids:(List Tree))
def Tree.Tag:Tree→Str | .mk x _ _ _ _=>x
def Tree.Key:Tree→Str | .mk _ x _ _ _=>x
def Tree.Text:Tree→Str | .mk _ _ x _ _=>x
def Tree.aI:Tree→(List Attr) | .mk _ _ _ x _=>x
def Tree.Kids:Tree→(List Tree) | .mk _ _ _ _ x=>x
mutual
def ax:Tree→D
 | .mk x0 x1 x2 x3 x4=>.agg [(.str x0),(.str x1),(.str x2),(.sl ((x3).map aA) false),.sl (kz x4) false]
def kz:List Tree→List D
 | []=>[]
 | x :: l=>ax x :: kz l
end
theorem qa:∀ (l:List Tree),kz l=l.map ax
 | []=>rfl
 | x :: l=>by rw [kz,qa l]; rfl
theorem Tree.eq (x:Tree):ax x=.agg [(.str x.Tag),(.str x.Key),(.str x.Text),(.sl ((x.aI).map aA) false),(.sl ((x.Kids).map ax) false)]:=by
 cases x
 rw [ax,qa]
 rfl
theorem Tree.cells (x:Tree):(ax x).cells=[(.str x.Tag),(.str x.Key),(.str x.Text),(.sl ((x.aI).map aA) false),(.sl ((x.Kids).map ax) false)]:=by rw [Tree.eq]; rfl
theorem Tree.bJ (x:Tree):(AV.d (ax x)).cells=[.d (.str x.Tag),.d (.str x.Key),.d (.str x.Text),.d (.sl ((x.aI).map aA) false),.d (.sl ((x.Kids).map ax) false)]:=by rw [Tree.eq]; rfl
theorem Tree.agg (x:Tree):(ax x).isAgg=true:=by rw [Tree.eq]; rfl
theorem Tree.len (x:Tree):(ax x).cells.length=5:=by rw [Tree.cells]; rfl
mutual
theorem Tree.cn:∀ (x:Tree),(ax x).cn=ax x
 | .mk x0 x1 x2 x3 x4=>by
  rw [ax]
  exact yK (by
   intro d hd
   simp only [List.mem_cons,List.not_mem_nil,or_false] at hd
   rcases hd with rfl | rfl | rfl | rfl | rfl
   ·
    exact rfl
   ·
    exact rfl
   ·
    exact rfl
   ·
    exact Di Attr.cn _ _
   ·
    exact congrArg (D.sl · false) (Tree.wV x4))
theorem Tree.wV:∀ (l:List Tree),D.wV (kz l)=kz l
 | []=>rfl
 | x :: l=>by rw [kz,D.wV,Tree.cn x,Tree.wV l]
end
theorem Tree.iy {P:Program} {t:Nat} {x:Tree} (ha:dU P t=some true) (hz:aK P t=5):fK P t (ax x).cells 0=some (ax x):=by
 rw [Tree.cells,lI ha hz rfl,Tree.eq]; rfl
structure eu where
 Name:Str
 Value:Str
 deriving DecidableEq
def aH (x:eu):D:=.agg [(.str x.Name),(.str x.Value)]
theorem eu.eq (x:eu):aH x=.agg [(.str x.Name),(.str x.Value)]:=rfl
theorem eu.cells (x:eu):(aH x).cells=[(.str x.Name),(.str x.Value)]:=by rw [eu.eq]; rfl
theorem eu.bJ (x:eu):(AV.d (aH x)).cells=[.d (.str x.Name),.d (.str x.Value)]:=by rw [eu.eq]; rfl
theorem eu.agg (x:eu):(aH x).isAgg=true:=by rw [eu.eq]; rfl
theorem eu.len (x:eu):(aH x).cells.length=2:=by rw [eu.cells]; rfl
theorem eu.iy {P:Program} {t:Nat} {x:eu} (ha:dU P t=some true) (hz:aK P t=2):fK P t (aH x).cells 0=some (aH x):=by
 rw [eu.cells,lI ha hz rfl,eu.eq]; rfl
structure aC where
 state:(List Int)
 params:(List eu)
 steps:Int
def jC (x:aC):D:=.agg [(.sl ((x.state).map (D.int .i64)) false),(.sl ((x.params).map aH) false),(.int .i64 x.steps)]
theorem aC.eq (x:aC):jC x=.agg [(.sl ((x.state).map (D.int .i64)) false),(.sl ((x.params).map aH) false),(.int .i64 x.steps)]:=rfl
theorem aC.cells (x:aC):(jC x).cells=[(.sl ((x.state).map (D.int .i64)) false),(.sl ((x.params).map aH) false),(.int .i64 x.steps)]:=by rw [aC.eq]; rfl
theorem aC.bJ (x:aC):(AV.d (jC x)).cells=[.d (.sl ((x.state).map (D.int .i64)) false),.d (.sl ((x.params).map aH) false),.d (.int .i64 x.steps)]:=by rw [aC.eq]; rfl
theorem aC.agg (x:aC):(jC x).isAgg=true:=by rw [aC.eq]; rfl
inductive aQ where
 | mk (Kind:Int) (N:Int) (Tag:Str) (Text:Str) (aI:(List Attr)) (Kids:(List aQ))
def aQ.Kind:aQ→Int | .mk x _ _ _ _ _=>x
def aQ.N:aQ→Int | .mk _ x _ _ _ _=>x
def aQ.Tag:aQ→Str | .mk _ _ x _ _ _=>x
def aQ.Text:aQ→Str | .mk _ _ _ x _ _=>x
def aQ.aI:aQ→(List Attr) | .mk _ _ _ _ x _=>x
def aQ.Kids:aQ→(List aQ) | .mk _ _ _ _ _ x=>x
mutual
def aD:aQ→D
 | .mk x0 x1 x2 x3 x4 x5=>.agg [(.int .i64 x0),(.int .i64 x1),(.str x2),(.str x3),(.sl ((x4).map aA) false),.sl (lZ x5) false]
def lZ:List aQ→List D
 | []=>[]
 | x :: l=>aD x :: lZ l
end
theorem qX:∀ (l:List aQ),lZ l=l.map aD
 | []=>rfl
 | x :: l=>by rw [lZ,qX l]; rfl
theorem aQ.eq (x:aQ):aD x=.agg [(.int .i64 x.Kind),(.int .i64 x.N),(.str x.Tag),(.str x.Text),(.sl ((x.aI).map aA) false),(.sl ((x.Kids).map aD) false)]:=by
 cases x
 rw [aD,qX]
 rfl
theorem aQ.cells (x:aQ):(aD x).cells=[(.int .i64 x.Kind),(.int .i64 x.N),(.str x.Tag),(.str x.Text),(.sl ((x.aI).map aA) false),(.sl ((x.Kids).map aD) false)]:=by rw [aQ.eq]; rfl
theorem aQ.bJ (x:aQ):(AV.d (aD x)).cells=[.d (.int .i64 x.Kind),.d (.int .i64 x.N),.d (.str x.Tag),.d (.str x.Text),.d (.sl ((x.aI).map aA) false),.d (.sl ((x.Kids).map aD) false)]:=by rw [aQ.eq]; rfl
theorem aQ.agg (x:aQ):(aD x).isAgg=true:=by rw [aQ.eq]; rfl
theorem aQ.len (x:aQ):(aD x).cells.length=6:=by rw [aQ.cells]; rfl
mutual
theorem aQ.cn:∀ (x:aQ),(aD x).cn=aD x
 | .mk x0 x1 x2 x3 x4 x5=>by
  rw [aD]
  exact yK (by
   intro d hd
   simp only [List.mem_cons,List.not_mem_nil,or_false] at hd
   rcases hd with rfl | rfl | rfl | rfl | rfl | rfl
   ·
    exact rfl
   ·
    exact rfl
   ·
    exact rfl
   ·
    exact rfl
   ·
    exact Di Attr.cn _ _
   ·
    exact congrArg (D.sl · false) (aQ.wV x5))
theorem aQ.wV:∀ (l:List aQ),D.wV (lZ l)=lZ l
 | []=>rfl
 | x :: l=>by rw [lZ,D.wV,aQ.cn x,aQ.wV l]
end
theorem aQ.iy {P:Program} {t:Nat} {x:aQ} (ha:dU P t=some true) (hz:aK P t=6):fK P t (aD x).cells 0=some (aD x):=by
 rw [aQ.cells,lI ha hz rfl,aQ.eq]; rfl
structure dC where
 Err:Int
 Note:Str
 At:Int
 deriving DecidableEq
def gB (x:dC):D:=.agg [(.int .i64 x.Err),(.str x.Note),(.int .i64 x.At)]
theorem dC.eq (x:dC):gB x=.agg [(.int .i64 x.Err),(.str x.Note),(.int .i64 x.At)]:=rfl
theorem dC.cells (x:dC):(gB x).cells=[(.int .i64 x.Err),(.str x.Note),(.int .i64 x.At)]:=by rw [dC.eq]; rfl
theorem dC.bJ (x:dC):(AV.d (gB x)).cells=[.d (.int .i64 x.Err),.d (.str x.Note),.d (.int .i64 x.At)]:=by rw [dC.eq]; rfl
theorem dC.agg (x:dC):(gB x).isAgg=true:=by rw [dC.eq]; rfl
structure dI where
 Under:(List Int)
 Kinds:(List Int)
 Ns:(List Int)
 Texts:(List Int)
def iD (x:dI):D:=.agg [(.sl ((x.Under).map (D.int .i64)) false),(.sl ((x.Kinds).map (D.int .i64)) false),(.sl ((x.Ns).map (D.int .i64)) false),(.sl ((x.Texts).map (D.int .i64)) false)]
theorem dI.eq (x:dI):iD x=.agg [(.sl ((x.Under).map (D.int .i64)) false),(.sl ((x.Kinds).map (D.int .i64)) false),(.sl ((x.Ns).map (D.int .i64)) false),(.sl ((x.Texts).map (D.int .i64)) false)]:=rfl
theorem dI.cells (x:dI):(iD x).cells=[(.sl ((x.Under).map (D.int .i64)) false),(.sl ((x.Kinds).map (D.int .i64)) false),(.sl ((x.Ns).map (D.int .i64)) false),(.sl ((x.Texts).map (D.int .i64)) false)]:=by rw [dI.eq]; rfl
theorem dI.bJ (x:dI):(AV.d (iD x)).cells=[.d (.sl ((x.Under).map (D.int .i64)) false),.d (.sl ((x.Kinds).map (D.int .i64)) false),.d (.sl ((x.Ns).map (D.int .i64)) false),.d (.sl ((x.Texts).map (D.int .i64)) false)]:=by rw [dI.eq]; rfl
theorem dI.agg (x:dI):(iD x).isAgg=true:=by rw [dI.eq]; rfl
def fC (n:Nat) (a1:Attr) (a2:Attr):Option Bool :=
 (some (a1.Name == a2.Name))
def aP (a1:(List Attr)) (p2:Attr→Option Bool):Nat→Int→Option Int
 | 0,_=>none
 | k13 + 1,x12 =>
  (if (decide (x12 < ((a1).length:Int)))=true then ((idx a1 x12).bind fun z15=>((p2 z15).bind fun z16=>(if z16=true then (some x12) else ((aP a1 p2 k13) ((IntKind.wrap .i64 (x12 + 1))))))) else (some (-1)))
def bX (n:Nat) (a1:(List Attr)) (p2:Attr→Option Bool):Option Int :=
 (aP a1 p2 n (0))
def bT (n:Nat) (a1:(List Attr)) (p2:Attr→Option Bool):Option Bool :=
 ((bX n a1 p2).bind fun z6=>(some (decide (0 ≤ z6))))
def bV (n:Nat) (a1:Tree):Nat→Int→Option Bool
 | 0,_=>none
 | k20 + 1,x19 =>
  (if (decide (x19 < ((a1.aI).length:Int)))=true then ((idx a1.aI x19).bind fun z22=>((if (((z22.Name == []) || (decide (64 < ((z22.Name).length:Int)))) || (decide (64 < ((z22.Value).length:Int))))=true then some true else ((cut a1.aI 0 x19).bind fun z30=>((bT n z30 (fun y31=>fC n y31 z22)).bind fun z32=>(some z32)))).bind fun z31=>(if z31=true then (some false) else ((bV n a1 k20) ((IntKind.wrap .i64 (x19 + 1))))))) else (some true))
def iA (n:Nat) (a1:Tree):Option Bool :=
 ((if (decide (16 < ((a1.Tag).length:Int)))=true then some true else ((jP n a1.Tag [97,98,99,100,101,102,103,104,105,106,107,108,109,110,111,112,113,114,115,116,117,118,119,120,121,122,48,49,50,51,52,53,54,55,56,57]).bind fun z5=>(some (!(z5 == []))))).bind fun z6=>(if (((z6 || (!(a1.Text == []))) || (decide (24 < ((a1.Kids).length:Int)))) || (decide (64 < ((a1.Key).length:Int))))=true then (some false) else (bV n a1 n (0))))
def dK (self:Tree→Option Bool) (a1:Tree):Nat→Int→Option Bool
 | 0,_=>none
 | k19 + 1,x18 =>
  (if (decide (x18 < ((a1.Kids).length:Int)))=true then ((idx a1.Kids x18).bind fun z21=>((self z21).bind fun z27=>(if (!z27)=true then (some false) else ((dK self a1 k19) ((IntKind.wrap .i64 (x18 + 1))))))) else (some true))
def eZ:Nat→Tree→Option Bool
 | 0,_=>none
 | n + 1,a1 =>
  (if (a1.Tag == [])=true then (some ((((a1.Key == []) && (((a1.aI).length:Int) == 0)) && (((a1.Kids).length:Int) == 0)) && (decide (((a1.Text).length:Int) ≤ 64)))) else ((iA n a1).bind fun z9=>(if (!z9)=true then (some false) else (dK (eZ n) a1 n (0)))))
def dJ (self:Tree→Option Int) (a1:Tree):Nat→Int→Int→Option Int
 | 0,_,_=>none
 | k15 + 1,x13,x14 =>
  (if (decide (x14 < ((a1.Kids).length:Int)))=true then ((idx a1.Kids x14).bind fun z17=>((self z17).bind fun z23=>((dJ self a1 k15) ((IntKind.wrap .i64 (x13 + z23))) ((IntKind.wrap .i64 (x14 + 1)))))) else (some x13))
def eG:Nat→Tree→Option Int
 | 0,_=>none
 | n + 1,a1 =>
  (dJ (eG n) a1 n (1) (0))
def dR (self:Tree→Option Int) (a1:Tree):Nat→Int→Int→Option Int
 | 0,_,_=>none
 | k15 + 1,x13,x14 =>
  (if (decide (x14 < ((a1.Kids).length:Int)))=true then ((idx a1.Kids x14).bind fun z17=>((self z17).bind fun z23=>((dR self a1 k15) ((mO x13 z23)) ((IntKind.wrap .i64 (x14 + 1)))))) else (some (IntKind.wrap .i64 (x13 + 1))))
def fu:Nat→Tree→Option Int
 | 0,_=>none
 | n + 1,a1 =>
  (dR (fu n) a1 n (0) (0))
def gM (n:Nat) (a1:Tree):Option Bool :=
 ((eZ n a1).bind fun z5=>((if z5=true then ((eG n a1).bind fun z6=>(some (decide (z6 ≤ 60)))) else some false).bind fun z7=>((if z7=true then ((fu n a1).bind fun z9=>(some (decide (z9 ≤ 12)))) else some false).bind fun z10=>(some z10))))
def oG (n:Nat) (a1:Int) (a2:Str) (a3:Int):Option (Option Unit):=if a1=6 then some none else none
def qo (n:Nat) (a1:Bool) (a2:Int) (a3:Str) (a4:Int):Option (Option Unit) :=
 (if (!a1)=true then ((oG n a2 a3 a4).bind fun z6=>(qQ z6 (fun x7=>(some (some ()))))) else (some (some ())))
def gT (n:Nat) (a1:Bool) (a2:Str) (a3:Int):Option (Option Unit) :=
 ((qo n a1 6 a2 a3).bind fun z4=>(qQ z4 (fun x5=>(some (some ())))))
def bY (prow:aC→aQ→Option (Option ((List Tree) × aC))) (a3:(List aQ)):Nat→(List Int)→(List eu)→Int→(List Tree)→Int→Option (Option ((List Tree) × aC))
 | 0,_,_,_,_,_=>none
 | k22 + 1,x16,x17,x18,x19,x21 =>
  (if (decide (x21 < ((a3).length:Int)))=true then ((idx a3 x21).bind fun z24=>((prow (aC.mk x16 x17 x18) z24).bind fun z30=>(qQ z30 (fun x31=>((app 96 x19 x31.1).bind fun z36=>((bY prow a3 k22) (x31.2.state) (x31.2.params) (x31.2.steps) (z36) ((IntKind.wrap .i64 (x21 + 1))))))))) else (some (some (x19,(aC.mk x16 x17 x18)))))
def dM (prow:aC→aQ→Option (Option ((List Tree) × aC))) (n:Nat) (a2:aC) (a3:(List aQ)):Option (Option ((List Tree) × aC)) :=
 (bY prow a3 n (a2.state) (a2.params) (a2.steps) ([]) (0))
def eT (n:Nat) (a2:aC) (a3:Int):Option (Option Int) :=
 ((gT n ((decide (0 ≤ a3)) && (decide (a3 < ((a2.state).length:Int)))) [110,117,109,98,101,114] a3).bind fun z5=>(qQ z5 (fun x6=>((idx a2.state a3).bind fun z11=>(some (some z11))))))
def cB (n:Nat) (a2:aC) (a3:Str):Nat→Int→Option (Option Str)
 | 0,_=>none
 | k12 + 1,x11 =>
  (if (decide (x11 < ((a2.params).length:Int)))=true then ((idx a2.params x11).bind fun z14=>(if (z14.Name == a3)=true then (some (some z14.Value)) else ((cB n a2 a3 k12) ((IntKind.wrap .i64 (x11 + 1)))))) else ((gT n false a3 0).bind fun z21=>(qQ z21 (fun x22=>(some (some []))))))
def gJ (n:Nat) (a2:aC) (a3:Str):Option (Option Str) :=
 (cB n a2 a3 n (0))
def dN (x54:(List Tree)) (x56:Int) (again57:(List Tree)→Int→Option (Option ((List Tree) × aC))) (z59:Tree) (x67:Str):Option (Option ((List Tree) × aC)) :=
 ((app 96 x54 [(Tree.mk z59.Tag x67 z59.Text z59.aI z59.Kids)]).bind fun z69=>(again57 (z69) ((IntKind.wrap .i64 (x56 + 1)))))
def bF (n:Nat) (x36:Int) (again37:(List Int)→(List eu)→Int→(List Tree)→Int→Option (Option ((List Tree) × aC))) (x40:((List Tree) × aC)):Nat→(List Tree)→Int→Option (Option ((List Tree) × aC))
 | 0,_,_=>none
 | k57 + 1,x54,x56 =>
  (if (decide (x56 < ((x40.1).length:Int)))=true then ((idx x40.1 x56).bind fun z59=>(if (!(z59.Tag == []))=true then ((strconv_Itoa n x36).bind fun z74=>(dN x54 x56 (bF n x36 again37 x40 k57) z59 (z74))) else (dN x54 x56 (bF n x36 again37 x40 k57) z59 (z59.Key)))) else (again37 (x40.2.state) (x40.2.params) (x40.2.steps) (x54) ((IntKind.wrap .i64 (x36 + 1)))))
def aZ (n:Nat) (prow:aC→aQ→Option (Option ((List Tree) × aC))) (a3:aQ) (x8:Int):Nat→(List Int)→(List eu)→Int→(List Tree)→Int→Option (Option ((List Tree) × aC))
 | 0,_,_,_,_,_=>none
 | k37 + 1,x31,x32,x33,x34,x36 =>
  (if (decide (x36 < (mO x8 0)))=true then ((dM prow n (aC.mk x31 x32 x33) a3.Kids).bind fun z39=>(qQ z39 (fun x40=>(bF n x36 (aZ n prow a3 x8 k37) x40 n (x34) (0))))) else (some (some (x34,(aC.mk x31 x32 x33)))))
def ic (prow:aC→aQ→Option (Option ((List Tree) × aC))) (n:Nat) (a2:aC) (a3:aQ):Option (Option ((List Tree) × aC)) :=
 ((eT n a2 a3.N).bind fun z7=>(qQ z7 (fun x8=>((gT n (decide (x8 ≤ 24)) [116,105,109,101,115] x8).bind fun z13=>(qQ z13 (fun x14=>(aZ n prow a3 x8 n (a2.state) (a2.params) (a2.steps) ([]) (0))))))))
def bM:Nat→aC→aQ→Option (Option ((List Tree) × aC))
 | 0,_,_=>none
 | n + 1,a2,a3 =>
  ((gT n (decide ((IntKind.wrap .i64 (a2.steps + 1)) ≤ 1000)) [115,116,101,112,115] (IntKind.wrap .i64 (a2.steps + 1))).bind fun z9=>(qQ z9 (fun x10=>(if (a3.Kind == 1)=true then ((app 32 [] a3.aI).bind fun z19=>((dM (bM n) n (aC.mk a2.state a2.params (IntKind.wrap .i64 (a2.steps + 1))) a3.Kids).bind fun z23=>(qQ z23 (fun x24=>(some (some ([(Tree.mk a3.Tag [] [] z19 x24.1)],x24.2))))))) else (if (a3.Kind == 2)=true then (some (some ([(Tree.mk [] [] a3.Text [] [])],(aC.mk a2.state a2.params (IntKind.wrap .i64 (a2.steps + 1)))))) else (if (a3.Kind == 3)=true then ((eT n (aC.mk a2.state a2.params (IntKind.wrap .i64 (a2.steps + 1))) a3.N).bind fun z41=>(qQ z41 (fun x42=>((strconv_Itoa n x42).bind fun z47=>(some (some ([(Tree.mk [] [] z47 [] [])],(aC.mk a2.state a2.params (IntKind.wrap .i64 (a2.steps + 1)))))))))) else (if (a3.Kind == 4)=true then ((gJ n (aC.mk a2.state a2.params (IntKind.wrap .i64 (a2.steps + 1))) a3.Text).bind fun z49=>(qQ z49 (fun x50=>(some (some ([(Tree.mk [] [] x50 [] [])],(aC.mk a2.state a2.params (IntKind.wrap .i64 (a2.steps + 1))))))))) else (if (a3.Kind == 5)=true then ((eT n (aC.mk a2.state a2.params (IntKind.wrap .i64 (a2.steps + 1))) a3.N).bind fun z56=>(qQ z56 (fun x57=>(if (x57 == 0)=true then (some (some ([],(aC.mk a2.state a2.params (IntKind.wrap .i64 (a2.steps + 1)))))) else ((dM (bM n) n (aC.mk a2.state a2.params (IntKind.wrap .i64 (a2.steps + 1))) a3.Kids).bind fun z63=>(qQ z63 (fun x64=>(some (some (x64.1,x64.2)))))))))) else (if (a3.Kind == 6)=true then ((ic (bM n) n (aC.mk a2.state a2.params (IntKind.wrap .i64 (a2.steps + 1))) a3).bind fun z70=>(qQ z70 (fun x71=>(some (some (x71.1,x71.2)))))) else ((gT n (a3.Kind == 7) [107,105,110,100] a3.Kind).bind fun z76=>(qQ z76 (fun x77=>(some (some ([(Tree.mk [111,117,116,108,101,116] [] [] [] [])],(aC.mk a2.state a2.params (IntKind.wrap .i64 (a2.steps + 1))))))))))))))))))
def jo (n:Nat) (a2:aC) (a5:aQ) (a7:Tree):Option (Option (aC × Tree)) :=
 ((bM n a2 a5).bind fun z8=>(qQ z8 (fun x9=>((if (((x9.1).length:Int) == 1)=true then ((idx x9.1 0).bind fun z14=>(some (!(z14.Tag == [])))) else some false).bind fun z15=>((if z15=true then ((idx x9.1 0).bind fun z17=>((gM n z17).bind fun z18=>(some z18))) else some false).bind fun z18=>((gT n z18 [115,104,97,112,101] ((x9.1).length:Int)).bind fun z21=>(qQ z21 (fun x22=>((idx x9.1 0).bind fun z27=>(some (some (x9.2,z27))))))))))))
def eB (n:Nat) (a1:aQ) (a2:(List Int)) (a3:(List eu)):Option (Tree × Int) :=
 ((jo n (aC.mk a2 a3 0) a1 (Tree.mk [] [] [] [] [])).bind fun z21=>(Bv z21 (some ((Tree.mk [] [] [] [] []),6)) (fun x28=>(some (x28.2,0)))))
def aW (a1:(List Attr)) (a2:(List Attr)):Nat→Int→Option Bool
 | 0,_=>none
 | k12 + 1,x11 =>
  (if (decide (x11 < ((a1).length:Int)))=true then ((idx a1 x11).bind fun z14=>((idx a2 x11).bind fun z15=>(if (!(Attr.beq z14 z15))=true then (some false) else ((aW a1 a2 k12) ((IntKind.wrap .i64 (x11 + 1))))))) else (some true))
def dA (n:Nat) (a1:(List Attr)) (a2:(List Attr)):Option Bool :=
 (if (((a1).length:Int) != ((a2).length:Int))=true then (some false) else (aW a1 a2 n (0)))
def bS (self:Tree→Tree→Option Bool) (a1:Tree) (a2:Tree):Nat→Int→Option Bool
 | 0,_=>none
 | k24 + 1,x23 =>
  (if (decide (x23 < ((a1.Kids).length:Int)))=true then ((idx a1.Kids x23).bind fun z26=>((idx a2.Kids x23).bind fun z27=>((self z26 z27).bind fun z28=>(if (!z28)=true then (some false) else ((bS self a1 a2 k24) ((IntKind.wrap .i64 (x23 + 1)))))))) else (some true))
def bE:Nat→Tree→Tree→Option Bool
 | 0,_,_=>none
 | n + 1,a1,a2 =>
  ((if (((!(a1.Tag == a2.Tag)) || (!(a1.Key == a2.Key))) || (!(a1.Text == a2.Text)))=true then some true else ((dA n a1.aI a2.aI).bind fun z11=>(some (!z11)))).bind fun z12=>(if (z12 || (((a1.Kids).length:Int) != ((a2.Kids).length:Int)))=true then (some false) else (bS (bE n) a1 a2 n (0))))
def dS (self:aQ→Option (Int × Int)) (a1:aQ):Nat→Int→Int→Int→Option (Int × Int)
 | 0,_,_,_=>none
 | k17 + 1,x14,x15,x16 =>
  (if (decide (x16 < ((a1.Kids).length:Int)))=true then ((idx a1.Kids x16).bind fun z19=>((self z19).bind fun z25=>((dS self a1 k17) ((IntKind.wrap .i64 (x14 + z25.1))) ((mO x15 z25.2)) ((IntKind.wrap .i64 (x16 + 1)))))) else (some (x14,(IntKind.wrap .i64 (x15 + 1)))))
def fH:Nat→aQ→Option (Int × Int)
 | 0,_=>none
 | n + 1,a1 =>
  (dS (fH n) a1 n (1) (0) (0))
def fQ (self:aQ→Int→Bool→Option Bool) (a1:aQ) (a2:Int) (a3:Bool):Nat→Int→Option Bool
 | 0,_=>none
 | k33 + 1,x32 =>
  (if (decide (x32 < ((a1.Kids).length:Int)))=true then ((idx a1.Kids x32).bind fun z35=>((self z35 a2 ((a3 || (a1.Kind == 5)) || (a1.Kind == 6))).bind fun z41=>(if (!z41)=true then (some false) else ((fQ self a1 a2 a3 k33) ((IntKind.wrap .i64 (x32 + 1))))))) else (some true))
def gP (n:Nat) (self:aQ→Int→Bool→Option Bool) (a1:aQ) (a2:Int) (a3:Bool) (x16:Bool):Option Bool :=
 (if x16=true then (some false) else (if ((((a1.Kind == 3) || (a1.Kind == 5)) || (a1.Kind == 6)) && (!((decide (0 ≤ a1.N)) && (decide (a1.N < a2)))))=true then (some false) else (fQ self a1 a2 a3 n (0))))
def fI:Nat→aQ→Int→Bool→Option Bool
 | 0,_,_,_=>none
 | n + 1,a1,a2,a3 =>
  (if (((decide (a1.Kind < 1)) || (decide (7 < a1.Kind))) || ((!(((a1.Kind == 1) || (a1.Kind == 5)) || (a1.Kind == 6))) && (decide (0 < ((a1.Kids).length:Int)))))=true then (some false) else (if (a1.Tag == [111,117,116,108,101,116])=true then (gP n (fI n) a1 a2 a3 ((a1.Tag == [111,117,116,108,101,116]))) else (gP n (fI n) a1 a2 a3 (((a1.Kind == 7) && a3)))))
def lQ (n:Nat) (a1:aQ) (a2:Int):Option Bool :=
 ((fH n a1).bind fun z6=>((if (((a1.Kind == 1) && (decide (z6.1 ≤ 60))) && (decide (z6.2 ≤ 12)))=true then ((fI n a1 a2 false).bind fun z9=>(some z9)) else some false).bind fun z10=>(some z10)))
def fA (n:Nat)  : Option Bool :=
 ((eB n (aQ.mk 1 0 [117,108] [] [] [(aQ.mk 6 0 [] [] [] [(aQ.mk 1 0 [108,105] [] [] [(aQ.mk 3 1 [] [] [] [])])])]) [2,7] []).bind fun z6=>((eB n (aQ.mk 1 0 [117,108] [] [] [(aQ.mk 6 0 [] [] [] [(aQ.mk 1 0 [108,105] [] [] [(aQ.mk 3 1 [] [] [] [])])])]) [99,7] []).bind fun z12=>((if (z6.2 == 0)=true then ((bE n z6.1 (Tree.mk [117,108] [] [] [] [(Tree.mk [108,105] [48] [] [] [(Tree.mk [] [] [55] [] [])]),(Tree.mk [108,105] [49] [] [] [(Tree.mk [] [] [55] [] [])])])).bind fun z18=>(some z18)) else some false).bind fun z19=>((if (z19 && (z12.2 == 6))=true then ((lQ n (aQ.mk 1 0 [117,108] [] [] [(aQ.mk 6 0 [] [] [] [(aQ.mk 1 0 [108,105] [] [] [(aQ.mk 3 1 [] [] [] [])])])]) 2).bind fun z22=>(some z22)) else some false).bind fun z23=>((if z23=true then ((lQ n (aQ.mk 1 0 [117,108] [] [] [(aQ.mk 6 0 [] [] [] [(aQ.mk 1 0 [108,105] [] [] [(aQ.mk 3 1 [] [] [] [])])])]) 1).bind fun z25=>(some (!z25))) else some false).bind fun z26=>(some z26))))))
def dD (a2:Int) (x7:Int):Option Int :=
 (some (IntKind.wrap .i64 (a2 + x7)))
def aY (n:Nat) (a1:Int) (a2:Int) (a3:Int):Option Int :=
 ((AP .i64 a1 (IntKind.wrap .i64 ((IntKind.wrap .i64 (a3 - a2)) + 1))).bind fun z4=>(if (decide (z4 < 0))=true then (dD a2 ((IntKind.wrap .i64 ((IntKind.wrap .i64 ((IntKind.wrap .i64 (z4 + a3)) - a2)) + 1)))) else (dD a2 (z4))))
def gH (n:Nat)  : Option (List Str) :=
 (some ([[97],[98],[105,116,101,109],[120,32,121],[37],[97,47,98],[46,46],[122],[49],[108,105,115,116],[255],[63,61,38]]:List Str))
def bN (a1:(List Int)):Nat→Int→Int→Option Int
 | 0,_,_=>none
 | k13 + 1,x11,x12 =>
  (if ((decide (0 ≤ x11)) && (decide (x12 < 99)))=true then ((idx a1 x11).bind fun z16=>((bN a1 k13) (z16) ((IntKind.wrap .i64 (x12 + 1))))) else (some x12))
def fO (n:Nat) (a1:(List Int)) (a2:Int):Option Int :=
 (bN a1 n (a2) (0))
def dX (n:Nat) (a1:(List Int)) (a2:Int):Option Int :=
 (if (((a1).length:Int) == 0)=true then (some 0) else ((AP .i64 a2 ((a1).length:Int)).bind fun z4=>((idx a1 z4).bind fun z5=>(some z5))))
def dn (x24:Int) (again25:(List aQ)→Int→Option aQ) (x29:(List aQ)):Option aQ :=
 (again25 (x29) ((IntKind.wrap .i64 (x24 + 1))))
def bB (self:(List bu)→(List Int)→Int→Option aQ) (a1:(List bu)) (a2:(List Int)) (a3:Int) (z7:bu):Nat→(List aQ)→Int→Option aQ
 | 0,_,_=>none
 | k25 + 1,x22,x24 =>
  (if (decide (x24 < ((a1).length:Int)))=true then ((idx a2 x24).bind fun z32=>(if (z32 == a3)=true then ((self a1 a2 x24).bind fun z34=>((app 96 x22 [z34]).bind fun z35=>(dn x24 (bB self a1 a2 a3 z7 k25) (z35)))) else (dn x24 (bB self a1 a2 a3 z7 k25) (x22)))) else (some (aQ.mk z7.Kind z7.N z7.Tag z7.Text z7.aI x22)))
def bz:Nat→(List bu)→(List Int)→Int→Option aQ
 | 0,_,_,_=>none
 | n + 1,a1,a2,a3 =>
  ((idx a1 a3).bind fun z7=>(bB (bz n) a1 a2 a3 z7 n ([]) (0)))
def bf (x20:(List bu)) (x22:(List Int)) (x24:Int) (again25:(List bu)→(List Int)→Int→Option aQ) (x32:Int) (z35:Int) (z37:Int) (x51:Str) (x52:Str) (x53:(List Attr)):Option aQ :=
 ((app 96 x20 [(bu.mk ((bu.mk z35 z37 [] [] []).Kind) ((bu.mk z35 z37 [] [] []).N) x51 x52 x53)]).bind fun z55=>((app 8 x22 [x32]).bind fun z59=>(again25 (z55) (z59) ((IntKind.wrap .i64 (x24 + 1))))))
def bC (n:Nat) (a1:dI) (z8:(List Str)) (x20:(List bu)) (x22:(List Int)) (x24:Int) (again25:(List bu)→(List Int)→Int→Option aQ) (x32:Int):Option aQ :=
 ((dX n a1.Kinds x24).bind fun z34=>((aY n z34 1 7).bind fun z35=>((dX n a1.Ns x24).bind fun z36=>((aY n z36 0 4).bind fun z37=>((dX n a1.Texts x24).bind fun z48=>(if (((bu.mk z35 z37 [] [] []).Kind) == 1)=true then ((aY n z48 0 (IntKind.wrap .i64 (((([[100,105,118],[112],[108,105],[98]]:List Str)).length:Int) - 1))).bind fun z64=>((idx ([[100,105,118],[112],[108,105],[98]]:List Str) z64).bind fun z65=>(if ((DC .i64 z48 3) == 3)=true then ((BP .i64 z48 4).bind fun z69=>((aY n z69 0 (IntKind.wrap .i64 (((z8).length:Int) - 1))).bind fun z70=>((idx z8 z70).bind fun z71=>(bf x20 x22 x24 again25 x32 z35 z37 (z65) ((bu.mk z35 z37 [] [] []).Text) ([(Attr.mk [120] z71)]))))) else (bf x20 x22 x24 again25 x32 z35 z37 (z65) ((bu.mk z35 z37 [] [] []).Text) ((bu.mk z35 z37 [] [] []).aI))))) else (if (((bu.mk z35 z37 [] [] []).Kind) == 2)=true then ((aY n z48 0 (IntKind.wrap .i64 (((z8).length:Int) - 1))).bind fun z78=>((idx z8 z78).bind fun z79=>(bf x20 x22 x24 again25 x32 z35 z37 ((bu.mk z35 z37 [] [] []).Tag) (z79) ((bu.mk z35 z37 [] [] []).aI)))) else (if (((bu.mk z35 z37 [] [] []).Kind) == 4)=true then ((aY n z48 0 (IntKind.wrap .i64 (((([[105,100],[112,97],[112,98],[108,97,115,116]]:List Str)).length:Int) - 1))).bind fun z83=>((idx ([[105,100],[112,97],[112,98],[108,97,115,116]]:List Str) z83).bind fun z84=>(bf x20 x22 x24 again25 x32 z35 z37 ((bu.mk z35 z37 [] [] []).Tag) (z84) ((bu.mk z35 z37 [] [] []).aI)))) else (bf x20 x22 x24 again25 x32 z35 z37 ((bu.mk z35 z37 [] [] []).Tag) ((bu.mk z35 z37 [] [] []).Text) ((bu.mk z35 z37 [] [] []).aI))))))))))
def aN (n:Nat) (a1:dI) (z8:(List Str)):Nat→(List bu)→(List Int)→Int→Option aQ
 | 0,_,_,_=>none
 | k25 + 1,x20,x22,x24 =>
  (if ((decide (x24 < ((a1.Under).length:Int))) && (decide (x24 < 11)))=true then ((idx a1.Under x24).bind fun z28=>((aY n z28 0 (IntKind.wrap .i64 (((x20).length:Int) - 1))).bind fun z29=>((idx x20 z29).bind fun z87=>((if (((z87.Kind != 1) && (z87.Kind != 5)) && (z87.Kind != 6))=true then some true else ((fO n x22 z29).bind fun z90=>(some (decide (5 < z90))))).bind fun z91=>(if z91=true then (bC n a1 z8 x20 x22 x24 (aN n a1 z8 k25) (0)) else (bC n a1 z8 x20 x22 x24 (aN n a1 z8 k25) (z29))))))) else ((bz n x20 x22 0).bind fun z94=>(some z94)))
def dV (n:Nat) (a1:dI):Option aQ :=
 ((gH n).bind fun z8=>(aN n a1 z8 n ([(bu.mk 1 0 [109,97,105,110] [] [])]) ([(-1)]) (0)))
def bQ (n:Nat) (z50:Int) (z51:Int) (z57:(Tree × Int)) (x65:Int):Option Bool :=
 (if (decide (24 < x65))=true then ((if (z57.2 == 6)=true then ((fA n).bind fun z68=>(some z68)) else some false).bind fun z69=>(some z69)) else ((if ((z57.2 == 0) && (((z57.1.Kids).length:Int) == x65))=true then ((if (z50 == 0)=true then some true else ((idx z57.1.Kids (IntKind.wrap .i64 (z50 - 1))).bind fun z72=>((if (z72.Tag == [108,105])=true then ((idx z57.1.Kids 0).bind fun z73=>(some (z73.Key == [48]))) else some false).bind fun z74=>(some z74)))).bind fun z73=>(some z73)) else some false).bind fun z73=>((if z73=true then ((if (z51 == 0)=true then some true else ((idx z57.1.Kids (IntKind.wrap .i64 (x65 - 1))).bind fun z80=>(some (z80.Tag == [])))).bind fun z81=>(some z81)) else some false).bind fun z81=>((if z81=true then ((fA n).bind fun z85=>(some z85)) else some false).bind fun z86=>(some z86)))))
def dw (n:Nat) (a4:Int) (a5:Int) (z9:aQ) (z17:(List Int)) (z21:(List eu)) (z22:(Tree × Int)) (x30:Tree) (x32:Int):Option Bool :=
 ((eB n z9 z17 z21).bind fun z34=>((if (z22.2 == 0)=true then ((if (x32 != 0)=true then some true else ((bE n z22.1 x30).bind fun z40=>(some (!z40)))).bind fun z41=>(some z41)) else some false).bind fun z41=>((if (z41 || (z22.2 != z34.2))=true then some true else ((bE n z22.1 z34.1).bind fun z46=>(some (!z46)))).bind fun z47=>(if z47=true then (some false) else ((aY n a4 0 24).bind fun z50=>((aY n a5 (-9) 9).bind fun z51=>((eB n (aQ.mk 1 0 [111,108] [] [] [(aQ.mk 6 0 [] [] [] [(aQ.mk 1 0 [108,105] [] [] [])]),(aQ.mk 5 1 [] [] [] [(aQ.mk 3 1 [] [] [] [])])]) [z50,z51] []).bind fun z57=>(if (z51 != 0)=true then (bQ n z50 z51 z57 ((IntKind.wrap .i64 (z50 + 1)))) else (bQ n z50 z51 z57 (z50))))))))))
def eX (n:Nat) (a1:dI) (a2:(List Int)) (a3:(List eu)) (a4:Int) (a5:Int):Option Bool :=
 ((dV n a1).bind fun z9=>((cut a2 0 (Ae ((a2).length:Int) 5)).bind fun z15=>((app 8 [] z15).bind fun z17=>((cut a3 0 (Ae ((a3).length:Int) 5)).bind fun z21=>((eB n z9 z17 z21).bind fun z22=>((app 8 [] z17).bind fun z90=>((app 8 z90 [5]).bind fun z94=>((eB n z9 z94 z21).bind fun z98=>(dw n a4 a5 z9 z17 z21 z22 (z98.1) (z98.2))))))))))
end Pr
end Go.Ev

namespace Go.Ev
theorem aa.r {t:Nat} {x:AV} {e2 e:Env} (h:AL.get e t=some x) (k:aa e2 e):aa ((t,x) :: e2) e:=.cons h (.refl _) k
theorem jd.o {x:AV} {a b:List (Option AV)} (k:jd a b):jd (some x :: a) (some x :: b):=.old (.refl _) k
theorem jd.w (x:AV) {a b:List (Option AV)} (k:jd a b):jd (some x :: a) (none :: b):=.new k
theorem jd.n {a b:List (Option AV)} (k:jd a b):jd (none :: a) (none :: b):=.new k
theorem jd.z {a b:List (Option AV)} (k:jd a b):jd (some (.tup []) :: a) (none :: b):=.new k
theorem jd.q {x y z u:AV} {a b:List (Option AV)} (k:jd a b):jd (some x :: some y :: some z :: some u :: a) (some x :: some y :: some z :: some u :: b):=.o (.o (.o (.o k)))
theorem jd.m {a b:List (Option AV)} (k:jd a b):jd (none :: none :: none :: none :: a) (none :: none :: none :: none :: b):=.n (.n (.n (.n k)))
theorem RL.v {R:bA} {C:eH} {nt:Nat} {ops:Array Oper} {srcs:List Src} {e0:Env} {ws:List (Option AV)} {S:St} {i:Nat} {o:Oper} {x:AV} {e:Env} {os:List Nat} (ho:ops[i]? = some o) (hx:ws[i]? = some (some x)) (he:jW ws e0 (srcs.getD i [])=some e) (hw:dh ops e o=some true) (h:oper C (fB e) S o.op=some (.val x S)) (k:RL R C nt ops srcs e0 ws S os):RL R C nt ops srcs e0 ws S (i :: os):=.cons ho hx he (.val hw h (.refl _)) k
theorem Has.sl {B S:St} {l:List bW} (h:Has B S l) (is:List Nat) (hn:decide is.Nodup=true) {l':List bW} (hl:is.map (fun i=>l[i]?)=l'.map some):Has B S l':=h.Gr is (of_decide_eq_true hn) hl
namespace Pr
set_option linter.unusedVariables false
set_option linter.unusedSimpArgs false
open Go.Proofs
noncomputable def cfg:eH:={ P:=Tryd.prog,good:=fun _=>true,rowT:=fun _=>false,prim:=fun _ _ _=>none,objT:=fun _=>none,hasPrim:=fun _=>false }
theorem ET:(Tryd.f29.name == "runtime.NumGoroutine")=false:=by kernel_rfl
theorem F9:(Tryd.f53.name == "runtime.NumGoroutine")=false:=by kernel_rfl
theorem FX:∀ v w,(Instr.typeAssert (.iface 70 v) 20 70 true).run cfg.P w=.ok (.tuple #[v,.bool true]) w:=fun _ _=>by kernel_rfl
theorem Cv:cfg.objT 70=none:=by kernel_rfl
theorem zZ:zeroOf cfg.P 70=some (.agg [.int .i64 0,.str [],.int .i64 0]):=by kernel_rfl
theorem xB:aK cfg.P 70=3:=by kernel_rfl
theorem Ca:(dU cfg.P 70).isSome=true:=by kernel_rfl
theorem Dy:dU cfg.P 70=some true:=by kernel_rfl
theorem Gs:cfg.objT 4=none:=by kernel_rfl
theorem Gq:zeroOf cfg.P 4=some (.bool false):=by kernel_rfl
theorem Gi:aK cfg.P 4=1:=by kernel_rfl
theorem Gt:(dU cfg.P 4).isSome=true:=by kernel_rfl
theorem EC:dU cfg.P 4=some false:=by kernel_rfl
theorem wm:cz cfg.P 47 0=some (0,9):=by kernel_rfl
theorem mD:Nat.beq (aK cfg.P 9) 0=false:=by kernel_rfl
theorem lM:dU cfg.P 9=some false:=by kernel_rfl
theorem FY:(Tryd.f75.name == "runtime.NumGoroutine")=false:=by kernel_rfl
theorem Ac:(bL cfg.P 22).isSome=true:=by kernel_rfl
theorem xH:bL cfg.P 22=some 47:=by kernel_rfl
theorem BO:(dU cfg.P 47).isSome=true:=by kernel_rfl
theorem oN:aK cfg.P 47=2:=by kernel_rfl
theorem BR:dU cfg.P 47=some true:=by kernel_rfl
theorem Gc:(Tryd.f89.name == "runtime.NumGoroutine")=false:=by kernel_rfl
theorem Fv:(Tryd.f76.name == "runtime.NumGoroutine")=false:=by kernel_rfl
theorem lY:cz cfg.P 28 0=some (0,9):=by kernel_rfl
theorem Ex:qm cfg.P 9=true:=by kernel_rfl
theorem wE:cz cfg.P 28 2=some (2,9):=by kernel_rfl
theorem iL:cz cfg.P 28 4=some (4,26):=by kernel_rfl
theorem pW:Nat.beq (aK cfg.P 26) 0=false:=by kernel_rfl
theorem pX:dU cfg.P 26=some false:=by kernel_rfl
theorem rF:(bL cfg.P 26).isSome=true:=by kernel_rfl
theorem qj:cz cfg.P 28 1=some (1,9):=by kernel_rfl
theorem tK:cz cfg.P 28 3=some (3,22):=by kernel_rfl
theorem xE:Nat.beq (aK cfg.P 22) 0=false:=by kernel_rfl
theorem zn:dU cfg.P 22=some false:=by kernel_rfl
theorem Fb:cfg.objT 47=none:=by kernel_rfl
theorem Dq:zeroOf cfg.P 47=some (.agg [.str [],.str []]):=by kernel_rfl
theorem DN:cz cfg.P 47 1=some (1,9):=by kernel_rfl
theorem FW:(cfg.P.underlying 47).isSome=true:=by kernel_rfl
theorem Ff:(Tryd.f63.name == "runtime.NumGoroutine")=false:=by kernel_rfl
theorem il:dU cfg.P 28=some true:=by kernel_rfl
theorem dL:aK cfg.P 28=5:=by kernel_rfl
theorem kD:bL cfg.P 26=some 28:=by kernel_rfl
theorem iY:(dU cfg.P 28).isSome=true:=by kernel_rfl
theorem pE:cfg.objT 28=none:=by kernel_rfl
theorem iw:zeroOf cfg.P 28=some (.agg [.str [],.str [],.str [],.aT,.aT]):=by kernel_rfl
theorem FL:(Tryd.f45.name == "runtime.NumGoroutine")=false:=by kernel_rfl
theorem EX:(Tryd.f46.name == "runtime.NumGoroutine")=false:=by kernel_rfl
theorem FM:(Tryd.f47.name == "runtime.NumGoroutine")=false:=by kernel_rfl
theorem FZ:(Tryd.f21.name == "runtime.NumGoroutine")=false:=by kernel_rfl
theorem FB:(Tryd.f73.name == "runtime.NumGoroutine")=false:=by kernel_rfl
theorem FN:∀ v w,(Instr.makeInterface 70 v).run cfg.P w=.ok (.iface 70 v) w:=fun _ _=>by kernel_rfl
theorem Fq:(Tryd.f59.name == "runtime.NumGoroutine")=false:=by kernel_rfl
theorem F5:(Tryd.f32.name == "runtime.NumGoroutine")=false:=by kernel_rfl
theorem AO:(bL cfg.P 23).isSome=true:=by kernel_rfl
theorem nO:bL cfg.P 23=some 25:=by kernel_rfl
theorem oI:(dU cfg.P 25).isSome=true:=by kernel_rfl
theorem dP:aK cfg.P 25=6:=by kernel_rfl
theorem fU:dU cfg.P 25=some true:=by kernel_rfl
theorem uJ:cfg.objT 25=none:=by kernel_rfl
theorem iF:zeroOf cfg.P 25=some (.agg [.int .i64 0,.int .i64 0,.str [],.str [],.aT,.aT]):=by kernel_rfl
theorem uz:cfg.rowT 26=false:=by kernel_rfl
theorem Ef:iX cfg 26=true:=by kernel_rfl
theorem Eb:bytesOf cfg.P 28=96:=by kernel_rfl
theorem Er:fT cfg 28=true:=by kernel_rfl
theorem FH:(Tryd.f54.name == "runtime.NumGoroutine")=false:=by kernel_rfl
theorem E8:(cfg.P.underlying 5).isSome=true:=by kernel_rfl
theorem Ck:cz cfg.P 68 0=some (0,32):=by kernel_rfl
theorem wK:Nat.beq (aK cfg.P 32) 0=false:=by kernel_rfl
theorem vV:dU cfg.P 32=some false:=by kernel_rfl
theorem Ci:(bL cfg.P 32).isSome=true:=by kernel_rfl
theorem jw:bL cfg.P 32=some 3:=by kernel_rfl
theorem D5:(dU cfg.P 3).isSome=true:=by kernel_rfl
theorem oK:aK cfg.P 3=1:=by kernel_rfl
theorem kC:dU cfg.P 3=some false:=by kernel_rfl
theorem E5:(Tryd.f56.name == "runtime.NumGoroutine")=false:=by kernel_rfl
theorem DK:cz cfg.P 68 1=some (1,38):=by kernel_rfl
theorem EP:Nat.beq (aK cfg.P 38) 0=false:=by kernel_rfl
theorem F6:dU cfg.P 38=some false:=by kernel_rfl
theorem Es:(bL cfg.P 38).isSome=true:=by kernel_rfl
theorem Ez:bL cfg.P 38=some 104:=by kernel_rfl
theorem C8:(dU cfg.P 104).isSome=true:=by kernel_rfl
theorem zF:aK cfg.P 104=2:=by kernel_rfl
theorem D9:dU cfg.P 104=some true:=by kernel_rfl
theorem Et:cfg.objT 104=none:=by kernel_rfl
theorem Eu:zeroOf cfg.P 104=some (.agg [.str [],.str []]):=by kernel_rfl
theorem CB:cz cfg.P 104 0=some (0,9):=by kernel_rfl
theorem CO:cz cfg.P 104 1=some (1,9):=by kernel_rfl
theorem Fy:(Tryd.f57.name == "runtime.NumGoroutine")=false:=by kernel_rfl
theorem si:cz cfg.P 25 1=some (1,3):=by kernel_rfl
theorem qb:Nat.beq (aK cfg.P 3) 0=false:=by kernel_rfl
theorem jX:cz cfg.P 25 5=some (5,23):=by kernel_rfl
theorem sO:Nat.beq (aK cfg.P 23) 0=false:=by kernel_rfl
theorem uI:dU cfg.P 23=some false:=by kernel_rfl
theorem Bp:aK cfg.P 9=1:=by kernel_rfl
theorem Df:(dU cfg.P 9).isSome=true:=by kernel_rfl
theorem Fw:(Tryd.f58.name == "runtime.NumGoroutine")=false:=by kernel_rfl
theorem qd:cz cfg.P 68 2=some (2,3):=by kernel_rfl
theorem tJ:cfg.P.follows .mixedOrders=true:=by kernel_rfl
theorem gL:cz cfg.P 25 0=some (0,3):=by kernel_rfl
theorem oZ:cz cfg.P 25 2=some (2,9):=by kernel_rfl
theorem yI:cz cfg.P 25 4=some (4,22):=by kernel_rfl
theorem DW:cfg.rowT 22=false:=by kernel_rfl
theorem Ed:iX cfg 22=true:=by kernel_rfl
theorem EB:bytesOf cfg.P 47=32:=by kernel_rfl
theorem Em:fT cfg 47=true:=by kernel_rfl
theorem wz:cz cfg.P 25 3=some (3,9):=by kernel_rfl
theorem E9:(Tryd.f31.name == "runtime.NumGoroutine")=false:=by kernel_rfl
theorem Gb:dU cfg.P 66=some false:=by kernel_rfl
theorem EK:(Tryd.f30.name == "runtime.NumGoroutine")=false:=by kernel_rfl
theorem FU:zeroOf cfg.P 68=some (.agg [.aT,.aT,.int .i64 0]):=by kernel_rfl
theorem FI:cfg.objT 66=none:=by kernel_rfl
theorem Fz:zeroOf cfg.P 66=some (.nilp):=by kernel_rfl
theorem F4:aK cfg.P 66=1:=by kernel_rfl
theorem EM:(dU cfg.P 66).isSome=true:=by kernel_rfl
theorem BH:cz cfg.P 70 0=some (0,29):=by kernel_rfl
theorem Ee:Nat.beq (aK cfg.P 29) 0=false:=by kernel_rfl
theorem Ew:dU cfg.P 29=some false:=by kernel_rfl
theorem Gp:(Tryd.f9.name == "runtime.NumGoroutine")=false:=by kernel_rfl
theorem FV:(Tryd.f33.name == "runtime.NumGoroutine")=false:=by kernel_rfl
theorem ES:(Tryd.f10.name == "runtime.NumGoroutine")=false:=by kernel_rfl
theorem FJ:(Tryd.f34.name == "runtime.NumGoroutine")=false:=by kernel_rfl
theorem Fg:(Tryd.f35.name == "runtime.NumGoroutine")=false:=by kernel_rfl
theorem Fh:(Tryd.f11.name == "runtime.NumGoroutine")=false:=by kernel_rfl
theorem uk:cfg.rowT 23=false:=by kernel_rfl
theorem lq:cfg.rowT 32=false:=by kernel_rfl
theorem Cm:zeroOf cfg.P 3=some (.int .i64 0):=by kernel_rfl
theorem Gy:(Tryd.f3.name == "runtime.NumGoroutine")=false:=by kernel_rfl
theorem Fx:(Tryd.f13.name == "runtime.NumGoroutine")=false:=by kernel_rfl
theorem DD:cfg.rowT 79=false:=by kernel_rfl
theorem yN:bL cfg.P 79=some 9:=by kernel_rfl
theorem FD:zeroOf cfg.P 9=some (.str []):=by kernel_rfl
theorem EW:(Tryd.f36.name == "runtime.NumGoroutine")=false:=by kernel_rfl
theorem EU:(Tryd.f37.name == "runtime.NumGoroutine")=false:=by kernel_rfl
theorem F3:(Tryd.f38.name == "runtime.NumGoroutine")=false:=by kernel_rfl
theorem EA:iX cfg 23=true:=by kernel_rfl
theorem Ei:bytesOf cfg.P 25=96:=by kernel_rfl
theorem Ea:fT cfg 25=true:=by kernel_rfl
theorem Fj:aK cfg.P 23=1:=by kernel_rfl
theorem F7:(dU cfg.P 23).isSome=true:=by kernel_rfl
theorem F8:(Tryd.f39.name == "runtime.NumGoroutine")=false:=by kernel_rfl
theorem Bf:cz cfg.P 37 0=some (0,32):=by kernel_rfl
theorem BZ:cz cfg.P 37 1=some (1,32):=by kernel_rfl
theorem BB:cz cfg.P 37 2=some (2,32):=by kernel_rfl
theorem Dt:cz cfg.P 37 3=some (3,32):=by kernel_rfl
theorem CP:(bL cfg.P 79).isSome=true:=by kernel_rfl
theorem Fs:aK cfg.P 22=1:=by kernel_rfl
theorem FR:(dU cfg.P 22).isSome=true:=by kernel_rfl
theorem yH:iX cfg 32=true:=by kernel_rfl
theorem DZ:bytesOf cfg.P 3=8:=by kernel_rfl
theorem Dn:fT cfg 3=true:=by kernel_rfl
theorem FQ:(Tryd.f12.name == "runtime.NumGoroutine")=false:=by kernel_rfl
theorem Fa:dU cfg.P 37=some true:=by kernel_rfl
theorem FE:aK cfg.P 37=4:=by kernel_rfl
theorem Fe:(cfg.P.underlying 3).isSome=true:=by kernel_rfl
theorem EO:(cfg.P.underlying 104).isSome=true:=by kernel_rfl
theorem Gj:(Tryd.f4.name == "runtime.NumGoroutine")=false:=by kernel_rfl
theorem mQ:oper.P_place cfg 70=some (oW [(0,1),(1,1),(2,1)]):=lG (by kernel_rfl)
theorem dE:oper.P_place cfg 28=some (oW [(0,1),(1,1),(2,1),(3,1),(4,1)]):=lG (by kernel_rfl)
theorem tN:oper.P_place cfg 68=some (oW [(0,1),(1,1),(2,1)]):=lG (by kernel_rfl)
theorem cZ:oper.P_place cfg 25=some (oW [(0,1),(1,1),(2,1),(3,1),(4,1),(5,1)]):=lG (by kernel_rfl)
theorem sK:oper.P_place cfg 47=some (oW [(0,1),(1,1)]):=lG (by kernel_rfl)
theorem En (x y:Attr):AV.eqv cfg.P 47 (.d (.agg [(.str x.Name),(.str x.Value)])) (.d (.agg [(.str y.Name),(.str y.Value)]))=some (Attr.beq x y) :=
 AX (by kernel_rfl) Tryd.underlying47 (by kernel_rfl) (by kernel_rfl)
def Gd:List Src:=[[(0,none)],[(12,some 0)],[(13,some 1)],[(14,some 2)],[(15,some 3)],[(0,none)],[(17,some 5)],[(18,some 6)],[(19,some 7)],[(16,some 4),(20,some 8)]]
def Gf:List Src:=[[(3,none)],[(26,some 0)],[(3,none)],[(28,some 2)],[(29,some 3)],[(0,none)],[(3,none)],[(32,some 6)],[(31,some 5),(33,some 7)],[(27,some 1),(30,some 4),(34,some 8)],[(35,some 9)],[(36,some 10)]]
def Gh:List Src:=[[],[(10,none)],[(24,some 1)],[(6,none),(23,some 0)],[(25,some 2)]]
def Gu:List Src:=[[(0,none)],[(5,none)],[(17,some 0),(18,some 1)],[(19,some 2)],[(1,none)],[(5,none)],[(21,some 4),(22,some 5)],[(23,some 6)],[(20,some 3),(24,some 7)]]
def Gx:List Src:=[[(2,none)],[(48,some 0)],[(5,none)],[(49,some 1),(50,some 2)],[(51,some 3)],[(3,none)],[(53,some 5)],[(5,none)],[(54,some 6),(55,some 7)],[(56,some 8)],[(52,some 4),(57,some 9)],[(58,some 10)]]
def Gm:List Src:=[[(5,none)],[(12,some 0)],[(0,none)],[(1,none)],[(14,some 2),(15,some 3)],[(16,some 4)],[(13,some 1)],[(17,some 5)]]
def Gl:List Src:=[[(7,none)],[(24,some 0)],[(0,none)],[(1,none)],[(8,none)],[(26,some 2),(27,some 3),(28,some 4)],[(29,some 5)],[(25,some 1),(30,some 6)],[(7,none)],[(31,some 7),(32,some 8)]]
def Gv:List Src:=[[(1,none)],[(60,some 0)],[(8,none)],[(61,some 1),(62,some 2)],[(63,some 3)],[(1,none)],[(65,some 5)],[(8,none)],[(66,some 6),(67,some 7)],[(68,some 8)],[(64,some 4),(69,some 9)],[],[(11,some 11),(70,some 10)]]
def Gw:List Src:=[[(11,none)],[],[(12,none)],[(49,some 1),(50,some 2)],[],[(51,some 3),(52,some 4)],[(13,none)],[(48,some 0),(53,some 5),(54,some 6)],[(55,some 7)],[(47,some 8)],[(47,some 8)],[],[(16,some 11),(56,some 9)],[(57,some 10)]]
structure Eg (R:bA):Prop where
 obj:j6 R cfg
 strconv_Itoa_ok:∀ (n:Nat) (x0:Int) (r:Str),strconv_Itoa n x0=some r→dB R cfg.P 55 [(.int .i64 x0)] (.d (.str r))
 strings_Trim_ok:∀ (n:Nat) (x0:Str) (x1:Str) (r:Str),jP n x0 x1=some r→dB R cfg.P 74 [(.str x0),(.str x1)] (.d (.str r))
section
variable {R:bA} (E:Eg R)
include E
theorem yg {α:Type} {g:Nat} {caps:List AV} {ins:List bW} {z:Option α} {res:α→AV→List bW→Prop} (hc:gz R cfg.P 70 g caps ins z res):CY R cfg.P 29 [.fn g caps] ins (Dp z res):=by
 intro B S hB
 refine ⟨⟨Tryd.f29,Tryd.func29,rfl,by simpa using ET⟩,fun cx w us hS hl hr=>?_⟩
 refine calls_of_wp_defers Tryd.func29 rfl ?_
 have he0:=qw (n:=11) hl (Nat.le_of_ble_eq_true rfl) hr
 refine wp_seq (ay.run (Q:=fun r=>∃ b2 b3 S1,r=(.normal,[(3,.ptr b3 0 0),(2,.ptr b2 0 0),(0,.fn g caps)],S1)∧Has B S1 (.box b3 [.d (.bool false)] :: .box b2 [.d (.int .i64 0),.d (.str []),.d (.int .i64 0)] :: ins)) ?_ hS he0 (fun r hr=>?_))
 ·
  refine ay.region E.obj rfl ?_
  refine ae.alloc hB rfl Cv zZ rfl rfl (fun b2 S1 H1=>?_)
  refine ae.alloc H1 rfl Gs Gq rfl rfl (fun b3 S2 H2=>?_)
  exact ae.nil ⟨b2,b3,S2,rfl,H2⟩
 obtain ⟨b2,b3,S1,rfl,H1⟩:=hr
 intro cx1 a1 w1 s1 x1 er1 d1
 refine wp_seq (ay.run (Q:=fun r=>r=(.normal,[(3,.ptr b3 0 0),(2,.ptr b2 0 0),(0,.fn g caps)],S1)) ?_ s1 er1 (fun r hr=>?_))
 ·
  refine ay.seq ?_
  refine ay.region E.obj rfl ?_
  refine ae.val rfl (ah rfl) rfl ?_
  refine ae.Ey (f:=g) (caps:=caps) rfl rfl (fun _=>rfl) (fun vs w=>by kernel_rfl) rfl ?_
  refine ae.nil ?_
  refine ay.cond rfl (fun hb=>by cases hb) (fun hb=>?_)
  refine ay.sub (e2:=[(3,.ptr b3 0 0),(2,.ptr b2 0 0),(0,.fn g caps)]) ?_ (ay.skip rfl)
  exact .cons rfl (.cons rfl (.cons rfl .nil))
 subst hr
 intro cx2 a2 w2 s2 x2 er2 d2
 have dd:a2.defers=[]:=d2.trans d1
 obtain ⟨cx3,w3,u7,q1,s3,x3,q4⟩:=dQ E.obj s2 er2.eval { dst:=some 7,op:=Op.makeFunc (Fn.func 53) #[] #[Operand.tmp 3,Operand.tmp 2],type:=1,pos := "trap.go:28", after:=#[],guard:=none } (kR (g:=53) (cs:=[AV.ptr b3 0 0,AV.ptr b2 0 0]) rfl)
 cases q4 with
 | fn _ _ vs hl7 h7 =>
 match vs,hl7,h7,q1 with
 | [v3,v2],_,h7,q1 =>
 have r3:=h7 0 _ _ rfl rfl
 have r2:=h7 1 _ _ rfl rfl
 refine wp_seq (wp_region (uQ rfl rfl rfl q1 ?_))
 have er3:eD cx3 S1 w3 11 [(7,.any),(3,.ptr b3 0 0),(2,.ptr b2 0 0),(0,.fn g caps)] (a2.put (some 7) (.func (.func 53) #[] #[v3,v2])):=(er2.mono x3).put rfl (.any _)
 have e7:(a2.put (some 7) (.func (.func 53) #[] #[v3,v2])).tmps[7]? = some (.func (.func 53) #[] #[v3,v2]):=by
  have hz:=er2.size
  show (a2.tmps.setIfInBounds 7 _)[7]? = _
  rw [Array.getElem?_setIfInBounds_self_of_lt (by omega)]
 let dfd:Deferred:={ target:=.fn (.func 53) #[v3,v2],args:=#[] }
 have erun:(execOp (a2.put (some 7) (.func (.func 53) #[] #[v3,v2])).eval { dst:=none,op:=Op.defer { callee:=Callee.value (Operand.tmp 7),args:=#[],argTypes:=#[] },type:=0,pos := "trap.go:28", after:=#[{ on:=0,ground:=Ground.data }],guard:=none }).run cfg.P w3=.ok (.defer dfd) w3:=by
  simp [execOp,resolve,Deferred.ofValue,Act.xU e7,dfd]
 rw [show (a2.put (some 7) (Value.func (Fn.func 53) #[] [v3,v2].toArray))=(a2.put (some 7) (.func (.func 53) #[] #[v3,v2])) from rfl]
 rw [erun]
 have hinv:∀ w:World,(invoke (.fn (.func 53) #[v3,v2]) #[]).run cfg.P w=.ok (.enter 53 #[v3,v2]) w:=fun w=>by
  have hf:cfg.P.funcs[53]? = some Tryd.f53:=Tryd.func53
  have hb:Tryd.f53.body.isNone=false:=rfl
  simp only [invoke,callFunc,Sem.run_bind,Sem.run_pure,Result.andThen_ok,run_program,hf,F9,hb,Bool.false_eq_true,if_false]
  rfl
 let a3:Act:={ tmps:=a2.tmps.setIfInBounds 7 (.func (.func 53) #[] #[v3,v2]),defers:=dfd :: a2.defers }
 have er3':eD cx3 S1 w3 11 [(7,.any),(3,.ptr b3 0 0),(2,.ptr b2 0 0),(0,.fn g caps)] a3:=⟨er3.size,er3.rel⟩
 show (Code.seq _ _).wp cfg.P _ a3 w3
 obtain ⟨cx4,w4,u8,q8,s4,x4,r8⟩:=dQ E.obj s3 er3'.eval { dst:=some 8,op:=Op.move (Operand.tmp 0),type:=1,pos := "trap.go:39", after:=#[],guard:=none } (ah rfl)
 refine wp_seq (wp_region (uQ rfl rfl rfl q8 ?_))
 have er4:eD cx4 S1 w4 11 [(8,.fn g caps),(7,.any),(3,.ptr b3 0 0),(2,.ptr b2 0 0),(0,.fn g caps)] (a3.put (some 8) u8):=(er3'.mono x4).put rfl r8
 obtain ⟨E8,k1,k2,k3⟩:=dQ E.obj s4 er4.eval { dst:=some 9,op:=Op.call { callee:=Callee.value (Operand.tmp 8),args:=#[],argTypes:=#[] },type:=0,pos := "trap.go:39", after:=#[{ on:=0,ground:=Ground.data }],guard:=none } (sP rfl rfl)
 have H1':Has B S1 (ins ++ [.box b3 [.d (.bool false)],.box b2 [.d (.int .i64 0),.d (.str []),.d (.int .i64 0)]]):=H1.perm (List.perm_append_comm (l₁:=[bW.box b3 [.d (.bool false)],bW.box b2 [.d (.int .i64 0),.d (.str []),.d (.int .i64 0)]]) (l₂:=ins))
 obtain ⟨B',f1,f2⟩:=H1'.frame
 obtain ⟨⟨fn,g1,g2,g3⟩,hcalls⟩:=(hc B' S1 f1).nN
 rw [k3 fn g1 g2 g3]
 show Calls cfg.P g E8.toArray w4 _
 refine (hcalls cx4 w4 E8 s4 k1 k2).mono (fun en w5 hen=>?_)
 obtain ⟨⟨p,v,S5⟩,⟨hq,hd⟩,cx5,m1,m2,m3⟩:=hen
 simp only at hd m1 m2 m3
 have r3':=r3.mono (x4.trans m2)
 have r2':=r2.mono (x4.trans m2)
 have er5:=er4.mono m2
 cases z with
 | none =>
  obtain ⟨note,n,q1,q2⟩:=hq
  simp only at q1 q2
  subst q1
  obtain ⟨u,rfl,m3⟩:=m3
  have H5:=f2 S5 [] q2 hd
  show Go.Leaves cfg.P Tryd.f29 _ _ (dfd :: a2.defers) _ w5
  rw [dd]
  refine leaves_cons (f:=53) (args:=#[v3,v2]) (by simp) (hinv w5) ?_
  refine CallsD.mono (R:=fun e u' w'=>e=.returned (.tuple #[])∧u'=.panicking [{ v:=u,recovered:=true }]∧∃ cx6 S6,aR R cx6 S6 w'∧Ext cx5 S5 w5 cx6 S6 w'∧Has B S6 [.box b3 [.d (.bool false)],.box b2 [.d (.int .i64 6),.d (.str note),.d (.int .i64 n)]]) (callsD_of_wpS Tryd.func53 rfl (fun c0 cs hu=>?_)) ?_
  ·
   have he6:=qw (cx:=cx5) (S:=S5) (w:=w5) (args:=[.ptr b3 0 0,.ptr b2 0 0]) (us:=[v3,v2]) (n:=16) rfl (Nat.le_of_ble_eq_true rfl) (fun i x y hx hy=>by
    match i,hx,hy with
    | 0,hx,hy=>cases hx; cases hy; exact r3'
    | 1,hx,hy=>cases hx; cases hy; exact r2')
   refine wpS_seq (wpS_of_wp (ay.run (Q:=fun r=>r=(.normal,[(0,.ptr b3 0 0),(1,.ptr b2 0 0)],S5)) ?_ m1 he6 (fun r hr=>?_)))
   ·
    refine ay.seq ?_
    refine ay.region E.obj rfl ?_
    refine ae.val rfl (au H5 (i:=0) rfl rfl (aF EC rfl)) rfl ?_
    refine ae.nil ?_
    refine ay.cond rfl (fun hb=>by cases hb) (fun hb=>?_)
    exact ay.sub (e2:=[(0,.ptr b3 0 0),(1,.ptr b2 0 0)]) (.cons rfl (.cons rfl .nil)) (ay.skip rfl)
   subst hr
   intro cx6 a6 w6 s6 x6 er6 d6
   have hrc:recoverD (c0 :: cs)=some (u,{ c0 with mode:=.panicking [{ v:=u,recovered:=true }] } :: cs):=by
    simp only [recoverD,hu]
   refine wpS_seq (wpS_region (r9 rfl rfl rfl rfl hrc rfl ?_))
   have m36:aJ cx6 S5 w6 (.d (sQ 70 note n)) u:=m3.mono x6
   have e6:(a6.put (some 6) u).eval (.tmp 6)=u:=Act.xU (by
    have hz:=er6.size
    show (a6.tmps.setIfInBounds 6 u)[6]? = _
    rw [Array.getElem?_setIfInBounds_self_of_lt (by omega)])
   have er7:eD cx6 S5 w6 16 [(2,.d (sQ 70 note n)),(6,.any),(0,.ptr b3 0 0),(1,.ptr b2 0 0)] ((a6.put (some 6) u).put (some 2) ((a6.put (some 6) u).eval (.tmp 6))):=(er6.put (dst:=some 6) (x:=.any) rfl (.any _)).put (dst:=some 2) rfl (by rw [e6]; exact m36)
   refine wpS_of_wp (ay.run (Q:=fun r=>∃ e6 S6,r=(.normal,e6,S6)∧Has B S6 [.box b3 [.d (.bool false)],.box b2 [.d (.int .i64 6),.d (.str note),.d (.int .i64 n)]]) ?_ s6 er7 (fun r hr=>?_))
   ·
    refine ay.seq ?_
    refine ay.region E.obj rfl ?_
    refine ae.val rfl (ah rfl) rfl ?_
    refine ae.BD (d:=qz note n) rfl rfl FX rfl ?_
    refine ae.val rfl (ah rfl) rfl ?_
    refine ae.val rfl (aS rfl rfl) rfl ?_
    refine ae.val rfl (aS rfl rfl) rfl ?_
    refine ae.alloc H5 rfl Cv zZ rfl rfl (fun b6 S6 H6=>?_)
    refine ae.store H6 (i:=0) rfl rfl rfl rfl rfl rfl xB rfl Ca rfl rfl rfl (fun S7 H7=>?_)
    refine ae.val rfl (aj rfl) rfl ?_
    refine ae.nil ?_
    refine ay.seq ?_
    refine ay.seq ?_
    refine ay.region E.obj rfl ?_
    refine ae.val rfl (ah rfl) rfl ?_
    refine ae.val rfl (fG rfl) rfl ?_
    refine ae.nil ?_
    refine ay.cond rfl (fun hb=>by cases hb) (fun hb=>?_)
    refine ay.skip ?_
    refine ay.region E.obj rfl ?_
    refine ae.val rfl (au H7 (i:=0) rfl rfl (aV Dy xB rfl)) rfl ?_
    refine ae.store H7 (i:=2) rfl rfl rfl rfl rfl rfl xB rfl Ca rfl rfl rfl (fun S8 H8=>?_)
    refine ae.nil ⟨_,S8,rfl,?_⟩
    exact H8.sl [1,2] rfl rfl
   obtain ⟨e8,S6,rfl,H6⟩:=hr
   intro cx8 a8 w8 s8 x8 er8 d8
   exact ⟨d8.trans ((put_defers _ _ _).trans ((put_defers _ _ _).trans d6)),_,rfl,_,results_none rfl _ _ _,rfl,rfl,cx8,S6,s8,x6.trans x8,H6⟩
  ·
   rintro e u' w' ⟨rfl,rfl,cx6,S6,s6,x6,H6⟩
   obtain ⟨uv,h1,h2⟩:=jm (C:=cfg) s6 (er5.mono x6) (fn:=Tryd.f29) (rq H6 (i:=1) (i2:=0) rfl rfl rfl (aV Dy xB rfl) rfl rfl (aF EC rfl))
   exact ⟨uv,h1,(none,.tup [.d (qz note n),.d (.bool false)],S6),⟨rfl,_,[],.refl _,⟨rfl,note,n,rfl⟩,H6.weaken (List.nil_sublist _)⟩,cx6,s6,x1.trans (x2.trans (x3.trans (x4.trans (m2.trans x6)))),uv,rfl,h2⟩
 | some x =>
  obtain ⟨q1,v',l',q2,q3,q4⟩:=hq
  simp only at q1 q2 q3 q4
  subst q1
  obtain ⟨u,rfl,m3⟩:=m3
  have H5:Has B S5 (.box b3 [.d (.bool false)] :: .box b2 [.d (.int .i64 0),.d (.str []),.d (.int .i64 0)] :: l'):=(f2 S5 l' q4 hd).perm (List.perm_append_comm (l₁:=l') (l₂:=[bW.box b3 [.d (.bool false)],bW.box b2 [.d (.int .i64 0),.d (.str []),.d (.int .i64 0)]]))
  have er6:eD cx5 S5 w5 11 [(3,.ptr b3 0 0),(2,.ptr b2 0 0)] ((a3.put (some 8) u8).put (some 9) u):=(er5.put (dst:=some 9) (x:=.any) rfl (.any _)).sub (.cons rfl (.cons rfl .nil))
  show (Code.seq _ _).wp cfg.P _ ((a3.put (some 8) u8).put (some 9) u) w5
  refine ay.run (Q:=fun r=>∃ S6,r=(.ret,[(3,.ptr b3 0 0),(2,.ptr b2 0 0)],S6)∧Has B S6 (.box b3 [.d (.bool true)] :: .box b2 [.d (.int .i64 0),.d (.str []),.d (.int .i64 0)] :: l')) ?_ m1 er6 (fun r hr=>?_)
  ·
   refine ay.seq ?_
   refine ay.region E.obj rfl ?_
   refine ae.val rfl (bH (cs:=[.d (.int .i64 0),.d (.str []),.d (.int .i64 0)]) zZ rfl (mQ) rfl) rfl ?_
   refine ae.store H5 (i:=1) rfl rfl rfl rfl rfl rfl xB rfl Ca rfl rfl rfl (fun S6 H6=>?_)
   refine ae.store H6 (i:=0) rfl rfl rfl rfl rfl rfl Gi rfl Gt rfl rfl rfl (fun S7 H7=>?_)
   refine ae.nil ?_
   refine ay.sub (e2:=[(3,.ptr b3 0 0),(2,.ptr b2 0 0)]) (.cons rfl (.cons rfl .nil)) (ay.ret ⟨S7,rfl,H7⟩)
  obtain ⟨S6,rfl,H6⟩:=hr
  intro cx7 a7 w7 s7 x7 er7 d7
  have r3'':=r3'.mono x7
  have r2'':=r2'.mono x7
  have d7':a7.defers=[dfd]:=d7.trans (by show dfd :: a2.defers=_; rw [dd])
  show Go.Leaves cfg.P Tryd.f29 _ _ a7.defers _ w7
  rw [d7']
  refine leaves_cons (f:=53) (args:=#[v3,v2]) (by simp) (hinv w7) ?_
  refine CallsD.mono (R:=fun e u' w'=>u'=.returning∧e=.returned (.tuple #[])∧∃ cx8,aR R cx8 S6 w'∧Ext cx7 S6 w7 cx8 S6 w') (callsD_of_wp Tryd.func53 rfl ?_) ?_
  ·
   have he8:=qw (cx:=cx7) (S:=S6) (w:=w7) (args:=[.ptr b3 0 0,.ptr b2 0 0]) (us:=[v3,v2]) (n:=16) rfl (Nat.le_of_ble_eq_true rfl) (fun i x y hx hy=>by
    match i,hx,hy with
    | 0,hx,hy=>cases hx; cases hy; exact r3''
    | 1,hx,hy=>cases hx; cases hy; exact r2'')
   refine ay.run (Q:=fun r=>∃ e8,r=(.ret,e8,S6)) ?_ s7 he8 (fun r hr=>?_)
   ·
    refine ay.seq ?_
    refine ay.seq ?_
    refine ay.region E.obj rfl ?_
    refine ae.val rfl (au H6 (i:=0) rfl rfl (aF EC rfl)) rfl ?_
    refine ae.nil ?_
    refine ay.cond rfl (fun hb=>?_) (fun hb=>by cases hb)
    exact ay.ret ⟨_,rfl⟩
   obtain ⟨e8,rfl⟩:=hr
   intro cx8 a8 w8 s8 x8 er8 d8
   exact ⟨d8,_,results_none rfl _ _ _,rfl,cx8,s8,x8⟩
  ·
   rintro e u' w' ⟨rfl,rfl,cx8,s8,x8⟩
   obtain ⟨uv,h1,h2⟩:=jm (C:=cfg) s8 (er7.mono x8) (fn:=Tryd.f29) (rq H6 (i:=1) (i2:=0) rfl rfl rfl (aV Dy xB rfl) rfl rfl (aF EC rfl))
   exact ⟨uv,h1,(none,.tup [.d (.agg [.int .i64 0,.str [],.int .i64 0]),.d (.bool true)],S6),⟨rfl,_,l',.refl _,⟨v',q3,rfl⟩,H6.weaken ((List.sublist_cons_self _ _).trans (List.sublist_cons_self _ _))⟩,cx8,s8,x1.trans (x2.trans (x3.trans (x4.trans (m2.trans (x7.trans x8))))),uv,rfl,h2⟩
set_option maxRecDepth 20000 in
set_option maxHeartbeats 4000000 in
theorem oL (n:Nat) (a1:Attr) (a2:Attr) (S0:St) (b3:Nat) (hb4:S0.H.get b3=some (.cells 0 [(.d (.str a2.Name)),(.d (.str a2.Value))])) (r:Bool) (h:fC n a1 a2=some r):dY R cfg.P 75 [.d (aA a1),.ptr b3 0 0] S0 (fun o=>o=(none,.d (.bool r),S0)):=by
 unfold fC at h
 refine SpecS.of_wp (C:=cfg) Tryd.func75 rfl FY rfl (fun wf0=>?_)
 have H0:Has S0 S0 []:=Has.start wf0
 refine ay.seq ?_
 refine ay.region E.obj rfl ?_
 refine ae.box H0 rfl rfl rfl (Attr.bJ _) rfl (fun b5 S6 H7=>?_)
 refine ae.val rfl (aj rfl) rfl ?_
 refine ae.nil ?_
 refine ay.seq ?_
 refine ay.region E.obj rfl ?_
 refine ae.val rfl (ak rfl wm mD rfl) rfl ?_
 refine ae.val rfl (au H7 (i:=0) rfl rfl (aF lM rfl)) rfl ?_
 refine ae.val rfl (ak rfl wm mD rfl) rfl ?_
 refine ae.val rfl (yS H7 hb4 rfl (aF lM rfl)) rfl ?_
 refine ae.val rfl (av rfl rfl gY) rfl ?_
 refine ae.val rfl (aj rfl) rfl ?_
 refine ae.nil ?_
 have hr:=Option.some.inj h
 subst hr
 exact ay.ret ⟨_,rfl,rfl,H7.keeps,gG (aG.eq .nil)⟩
set_option maxRecDepth 20000 in
set_option maxHeartbeats 4000000 in
theorem gI (n:Nat) (S0:St) (a1:(List Attr)) (fg3:Nat) (fc4:List AV) (p2:Attr→Option Bool) (hpp2:∀ S',mq S0 S'→S'.Wf→∀ (y0:Attr) (r:Bool),p2 y0=some r→dY R cfg.P fg3 ([.d (aA y0)] ++ fc4) S' (fun o=>o=(none,.d (.bool r),S'))) (r:Int) (h:bX n a1 p2=some r):dY R cfg.P 89 [.d (.sl ((a1).map aA) false),.fn fg3 fc4] S0 (fun o=>o=(none,.d (.int .i64 r),S0)):=by
 unfold bX at h
 refine SpecS.of_wp (C:=cfg) Tryd.func89 rfl Gc rfl (fun wf0=>?_)
 have H0:Has S0 S0 []:=Has.start wf0
 refine ay.seq ?_
 refine ay.region E.obj rfl ?_
 refine ae.val rfl (aj rfl) rfl ?_
 refine ae.nil ?_
 refine ay.seq ?_
 refine ay.seq ?_
 refine ay.region E.obj rfl ?_
 refine ae.val rfl (ah rfl) rfl ?_
 refine ae.val rfl (bq rfl Ac) rfl ?_
 refine ae.val rfl (ah rfl) rfl ?_
 refine ae.nil ?_
 refine ay.block ?_
 refine mH.start (B:=S0) (α:=Int) (fun k a=>aP a1 p2 k a=some r) (fun a=>[(0,(.d (.sl ((a1).map aA) false))),(1,(.fn fg3 fc4)),(7,(.d (.int .i64 ((a1).length:Int)))),(8,(.d (.int .i64 a)))]) (fun a=>[]) ?_ ?_ n ⟨0,_,_,S0,.refl _ _,.refl _,(aa.r rfl (aa.r rfl (aa.r rfl (aa.r rfl aa.nil)))),H0.sl [] rfl rfl,h⟩
 ·
  intro a h; simp [aP] at h
 intro k13 x12 S10 H11 h
 replace h:aP a1 p2 (k13 + 1) x12=some r:=h
 replace H11:Has S0 S10 []:=H11
 unfold aP at h
 refine ay.seq ?_
 refine ay.region E.obj rfl ?_
 refine ae.val rfl (av rfl rfl dF) rfl ?_
 refine ae.nil ?_
 refine ay.seq ?_
 refine ay.cond rfl (fun hb14=>?_) (fun hb14=>?_)
 ·
  replace h:=di hb14 h
  refine ay.skip ?_
  refine ay.seq ?_
  refine ay.block ?_
  refine ay.seq ?_
  refine ay.region E.obj rfl ?_
  refine ae.val rfl (ah rfl) rfl ?_
  refine ae.val rfl (aj rfl) rfl ?_
  refine ae.nil ?_
  refine ay.seq ?_
  refine ay.region E.obj rfl ?_
  refine ae.val rfl (ah rfl) rfl ?_
  refine ae.val rfl (ah rfl) rfl ?_
  refine ae.val rfl (ah rfl) rfl ?_
  obtain ⟨z15,hzz15,h⟩:=bind_some h
  refine ae.val rfl (bR rfl rfl (df (enc:=aA) hzz15 xH BO ((Attr.len _).trans oN.symm))) rfl ?_
  refine ae.val rfl (aX rfl (Attr.iy BR oN)) rfl ?_
  obtain ⟨z16,hzz16,h⟩:=bind_some h
  refine ae.ret rfl (sP rfl rfl) (hpp2 _ H11.keeps H11.wf _ _ hzz16) rfl ?_
  refine ae.nil ?_
  refine ay.cond rfl (fun hb17=>?_) (fun hb17=>?_)
  ·
   replace h:=di hb17 h
   refine ay.seq ?_
   refine ay.region E.obj rfl ?_
   refine ae.val rfl (ah rfl) rfl ?_
   refine ae.val rfl (aj rfl) rfl ?_
   refine ae.nil ?_
   have hr:=Option.some.inj h
   subst hr
   exact ay.ret ⟨_,rfl,rfl,H11.keeps,gG (aG.eq .nil)⟩
  replace h:=dm hb17 h
  refine ay.skip ?_
  refine ay.region E.obj rfl ?_
  refine ae.val rfl (av rfl rfl cu) rfl ?_
  refine ae.val rfl (ah rfl) rfl ?_
  refine ae.nil ?_
  exact ⟨(IntKind.wrap .i64 (x12 + 1)),_,_,S10,.refl _ _,.refl _,(aa.r rfl (aa.r rfl (aa.r rfl (aa.r rfl aa.nil)))),H11.sl [] rfl rfl,h⟩
 replace h:=dm hb14 h
 refine ay.exit ?_
 refine ay.seq ?_
 refine ay.region E.obj rfl ?_
 refine ae.val rfl (aj rfl) rfl ?_
 refine ae.nil ?_
 have hr:=Option.some.inj h
 subst hr
 exact ay.ret ⟨_,rfl,rfl,H11.keeps,gG (aG.eq .nil)⟩
set_option maxRecDepth 20000 in
set_option maxHeartbeats 4000000 in
theorem gm (n:Nat) (S0:St) (a1:(List Attr)) (fg3:Nat) (fc4:List AV) (p2:Attr→Option Bool) (hpp2:∀ S',mq S0 S'→S'.Wf→∀ (y0:Attr) (r:Bool),p2 y0=some r→dY R cfg.P fg3 ([.d (aA y0)] ++ fc4) S' (fun o=>o=(none,.d (.bool r),S'))) (r:Bool) (h:bT n a1 p2=some r):dY R cfg.P 76 [.d (.sl ((a1).map aA) false),.fn fg3 fc4] S0 (fun o=>o=(none,.d (.bool r),S0)):=by
 unfold bT at h
 refine SpecS.of_wp (C:=cfg) Tryd.func76 rfl Fv rfl (fun wf0=>?_)
 have H0:Has S0 S0 []:=Has.start wf0
 refine ay.seq ?_
 refine ay.region E.obj rfl ?_
 refine ae.val rfl (aj rfl) rfl ?_
 refine ae.nil ?_
 refine ay.seq ?_
 refine ay.region E.obj rfl ?_
 refine ae.val rfl (ah rfl) rfl ?_
 refine ae.val rfl (ah rfl) rfl ?_
 obtain ⟨z6,hzz6,h⟩:=bind_some h
 refine ae.ret rfl (aB rfl rfl) (dY.vo (gI E n S0 _ _ _ p2 (fun S' hk hw y5 r hr=>hpp2 S' (H0.keeps.trans hk) hw y5 r hr) _ hzz6) (.cons (.refl _) (.cons (.refl _) .nil))) rfl ?_
 refine ae.val rfl (av rfl rfl pI) rfl ?_
 refine ae.val rfl (aj rfl) rfl ?_
 refine ae.nil ?_
 have hr:=Option.some.inj h
 subst hr
 exact ay.ret ⟨_,rfl,rfl,H0.keeps,gG (aG.eq .nil)⟩
set_option maxRecDepth 20000 in
set_option maxHeartbeats 4000000 in
theorem qF (n:Nat) (a1:Tree) (r:Bool) (h:iA n a1=some r):dB R cfg.P 63 [(ax a1)] (.d (.bool r)):=by
 unfold iA at h
 refine dB.of_wp E.obj.toObjOk (C:=cfg) Tryd.func63 rfl Ff rfl ?_
 have H0:Has aL aL []:=Has.pure
 refine ay.seq ?_
 refine ay.region E.obj rfl ?_
 refine ae.box H0 rfl rfl rfl (Tree.bJ _) rfl (fun b2 S3 H4=>?_)
 refine ae.val rfl (aj rfl) rfl ?_
 refine ae.nil ?_
 refine ay.seq ?_
 refine ay.seq ?_
 refine ay.region E.obj rfl ?_
 refine ae.val rfl (ak rfl lY mD rfl) rfl ?_
 refine ae.val rfl (au H4 (i:=0) rfl rfl (aF lM rfl)) rfl ?_
 refine ae.val rfl (ky rfl (lL Ex) rfl) rfl ?_
 refine ae.val rfl (av rfl rfl iW) rfl ?_
 refine ae.val rfl (ah rfl) rfl ?_
 obtain ⟨z6,hzz6,h⟩:=bind_some h
 refine ae.bG 5 15 (.d (.bool z6)) ?_ ?_
 ·
  rcases Bool.eq_false_or_eq_true ((decide (16 < ((a1.Tag).length:Int)))) with hB5 | hB5
  ·
   refine ae.bool hB5 ?_
   refine ae.no rfl rfl ?_
   refine ae.no rfl rfl ?_
   refine ae.no rfl rfl ?_
   refine ae.no rfl rfl ?_
   refine ae.val rfl (az (b:=true) rfl rfl) rfl ?_
   replace hzz6:=di hB5 hzz6
   cases hzz6
   exact ae.nil ⟨_,rfl,(aa.put (aa.push rfl (aa.push rfl (aa.push rfl (aa.push rfl (aa.put (.refl _) (Less.eq (by rw [hB5]))))))) (.refl _))⟩
  refine ae.bool hB5 ?_
  replace hzz6:=dm hB5 hzz6
  refine ae.val rfl (ak rfl lY mD rfl) rfl ?_
  refine ae.val rfl (au H4 (i:=0) rfl rfl (aF lM rfl)) rfl ?_
  obtain ⟨z7,hzz7,hzz6⟩:=bind_some hzz6
  refine ae.ret rfl (aB rfl rfl) (E.strings_Trim_ok _ _ _ _ hzz7 _ _ (aG.eq (aG.eq .nil))) rfl ?_
  refine ae.val rfl (av rfl rfl je) rfl ?_
  refine ae.val rfl (az (b:=false) rfl rfl) rfl ?_
  cases hzz6
  exact ae.nil ⟨_,rfl,(aa.put (aa.push rfl (aa.push rfl (aa.push rfl (aa.push rfl (aa.put (.refl _) (Less.eq (by rw [hB5]))))))) (.refl _))⟩
 refine ae.val rfl (ah rfl) rfl ?_
 refine ae.bG 4 20 (.d (.bool (z6 || (!(a1.Text == []))))) ?_ ?_
 ·
  rcases Bool.eq_false_or_eq_true (z6) with hB8 | hB8
  ·
   refine ae.bool hB8 ?_
   refine ae.no rfl rfl ?_
   refine ae.no rfl rfl ?_
   refine ae.no rfl rfl ?_
   refine ae.val rfl (az (b:=true) rfl rfl) rfl ?_
   exact ae.nil ⟨_,rfl,(aa.put (aa.push rfl (aa.push rfl (aa.push rfl (aa.put (.refl _) (Less.eq (by rw [hB8])))))) (Less.eq (by rw [hB8]; rw [Bool.true_or])))⟩
  refine ae.bool hB8 ?_
  refine ae.val rfl (ak rfl wE mD rfl) rfl ?_
  refine ae.val rfl (au H4 (i:=0) rfl rfl (aF lM rfl)) rfl ?_
  refine ae.val rfl (av rfl rfl je) rfl ?_
  refine ae.val rfl (az (b:=false) rfl rfl) rfl ?_
  exact ae.nil ⟨_,rfl,(aa.put (aa.push rfl (aa.push rfl (aa.push rfl (aa.put (.refl _) (Less.eq (by rw [hB8])))))) (Less.eq (by rw [hB8]; rw [Bool.false_or])))⟩
 refine ae.val rfl (ah rfl) rfl ?_
 refine ae.bG 5 26 (.d (.bool ((z6 || (!(a1.Text == []))) || (decide (24 < ((a1.Kids).length:Int)))))) ?_ ?_
 ·
  rcases Bool.eq_false_or_eq_true ((z6 || (!(a1.Text == [])))) with hB9 | hB9
  ·
   refine ae.bool hB9 ?_
   refine ae.no rfl rfl ?_
   refine ae.no rfl rfl ?_
   refine ae.no rfl rfl ?_
   refine ae.no rfl rfl ?_
   refine ae.val rfl (az (b:=true) rfl rfl) rfl ?_
   exact ae.nil ⟨_,rfl,(aa.put (aa.push rfl (aa.push rfl (aa.push rfl (aa.push rfl (aa.put (.refl _) (Less.eq (by rw [hB9]))))))) (Less.eq (by rw [hB9]; rw [Bool.true_or])))⟩
  refine ae.bool hB9 ?_
  refine ae.val rfl (ak rfl iL pW rfl) rfl ?_
  refine ae.val rfl (au H4 (i:=0) rfl rfl (aF pX rfl)) rfl ?_
  refine ae.val rfl (bq rfl rF) rfl ?_
  refine ae.val rfl (av rfl rfl iW) rfl ?_
  refine ae.val rfl (az (b:=false) rfl rfl) rfl ?_
  exact ae.nil ⟨_,rfl,(aa.put (aa.push rfl (aa.push rfl (aa.push rfl (aa.push rfl (aa.put (.refl _) (Less.eq (by rw [hB9]))))))) (Less.eq (by rw [hB9]; rw [Bool.false_or])))⟩
 refine ae.val rfl (ah rfl) rfl ?_
 refine ae.bG 5 32 (.d (.bool (((z6 || (!(a1.Text == []))) || (decide (24 < ((a1.Kids).length:Int)))) || (decide (64 < ((a1.Key).length:Int)))))) ?_ ?_
 ·
  rcases Bool.eq_false_or_eq_true (((z6 || (!(a1.Text == []))) || (decide (24 < ((a1.Kids).length:Int))))) with hB10 | hB10
  ·
   refine ae.bool hB10 ?_
   refine ae.no rfl rfl ?_
   refine ae.no rfl rfl ?_
   refine ae.no rfl rfl ?_
   refine ae.no rfl rfl ?_
   refine ae.val rfl (az (b:=true) rfl rfl) rfl ?_
   exact ae.nil ⟨_,rfl,(aa.put (aa.push rfl (aa.push rfl (aa.push rfl (aa.push rfl (aa.put (.refl _) (Less.eq (by rw [hB10]))))))) (Less.eq (by rw [hB10]; rw [Bool.true_or])))⟩
  refine ae.bool hB10 ?_
  refine ae.val rfl (ak rfl qj mD rfl) rfl ?_
  refine ae.val rfl (au H4 (i:=0) rfl rfl (aF lM rfl)) rfl ?_
  refine ae.val rfl (ky rfl (lL Ex) rfl) rfl ?_
  refine ae.val rfl (av rfl rfl iW) rfl ?_
  refine ae.val rfl (az (b:=false) rfl rfl) rfl ?_
  exact ae.nil ⟨_,rfl,(aa.put (aa.push rfl (aa.push rfl (aa.push rfl (aa.push rfl (aa.put (.refl _) (Less.eq (by rw [hB10]))))))) (Less.eq (by rw [hB10]; rw [Bool.false_or])))⟩
 refine ae.nil ?_
 refine ay.cond rfl (fun hb11=>?_) (fun hb11=>?_)
 ·
  replace h:=di hb11 h
  refine ay.seq ?_
  refine ay.region E.obj rfl ?_
  refine ae.val rfl (aj rfl) rfl ?_
  refine ae.nil ?_
  have hr:=Option.some.inj h
  subst hr
  exact ay.ret ⟨_,rfl,rfl,gG (aG.eq .nil)⟩
 replace h:=dm hb11 h
 refine ay.skip ?_
 refine ay.seq ?_
 refine ay.seq ?_
 refine ay.region E.obj rfl ?_
 refine ae.val rfl (ak rfl tK xE rfl) rfl ?_
 refine ae.val rfl (au H4 (i:=0) rfl rfl (aF zn rfl)) rfl ?_
 refine ae.val rfl (bq rfl Ac) rfl ?_
 refine ae.val rfl (ah rfl) rfl ?_
 refine ae.nil ?_
 refine ay.block ?_
 refine mH.start (B:=aL) (α:=Int) (fun k a=>bV n a1 k a=some r) (fun a=>[(1,(.ptr b2 0 0)),(34,(.d (.sl ((a1.aI).map aA) false))),(35,(.d (.int .i64 ((a1.aI).length:Int)))),(36,(.d (.int .i64 a)))]) (fun a=>[.box b2 [(.d (.str a1.Tag)),(.d (.str a1.Key)),(.d (.str a1.Text)),(.d (.sl ((a1.aI).map aA) false)),(.d (.sl ((a1.Kids).map ax) false))]]) ?_ ?_ n ⟨0,_,_,S3,.refl _ _,.refl _,(aa.r rfl (aa.r rfl (aa.r rfl (aa.r rfl aa.nil)))),H4.sl [0] rfl rfl,h⟩
 ·
  intro a h; simp [bV] at h
 intro k20 x19 S17 H18 h
 replace h:bV n a1 (k20 + 1) x19=some r:=h
 replace H18:Has aL S17 [.box b2 [(.d (.str a1.Tag)),(.d (.str a1.Key)),(.d (.str a1.Text)),(.d (.sl ((a1.aI).map aA) false)),(.d (.sl ((a1.Kids).map ax) false))]]:=H18
 unfold bV at h
 refine ay.seq ?_
 refine ay.region E.obj rfl ?_
 refine ae.val rfl (av rfl rfl dF) rfl ?_
 refine ae.nil ?_
 refine ay.seq ?_
 refine ay.cond rfl (fun hb21=>?_) (fun hb21=>?_)
 ·
  replace h:=di hb21 h
  refine ay.skip ?_
  refine ay.seq ?_
  refine ay.block ?_
  refine ay.seq ?_
  refine ay.region E.obj rfl ?_
  refine ae.val rfl (ah rfl) rfl ?_
  obtain ⟨z22,hzz22,h⟩:=bind_some h
  refine ae.val rfl (bR rfl rfl (df (enc:=aA) hzz22 xH BO ((Attr.len _).trans oN.symm))) rfl ?_
  refine ae.val rfl (aX rfl (Attr.iy BR oN)) rfl ?_
  refine ae.alloc H18 rfl Fb Dq rfl rfl (fun b23 S24 H25=>?_)
  refine ae.val rfl (aj rfl) rfl ?_
  refine ae.store H25 (i:=0) rfl rfl rfl rfl (Attr.bJ _) rfl oN rfl BO rfl rfl rfl (fun S26 H27=>?_)
  refine ae.nil ?_
  refine ay.seq ?_
  refine ay.region E.obj rfl ?_
  refine ae.val rfl (kR rfl) rfl ?_
  refine ae.val rfl (aj rfl) rfl ?_
  refine ae.nil ?_
  refine ay.seq ?_
  refine ay.region E.obj rfl ?_
  refine ae.val rfl (ak rfl wm mD rfl) rfl ?_
  refine ae.val rfl (au H27 (i:=0) rfl rfl (aF lM rfl)) rfl ?_
  refine ae.val rfl (av rfl rfl gY) rfl ?_
  refine ae.val rfl (ah rfl) rfl ?_
  refine ae.bG 5 50 (.d (.bool ((z22.Name == []) || (decide (64 < ((z22.Name).length:Int)))))) ?_ ?_
  ·
   rcases Bool.eq_false_or_eq_true ((z22.Name == [])) with hB28 | hB28
   ·
    refine ae.bool hB28 ?_
    refine ae.no rfl rfl ?_
    refine ae.no rfl rfl ?_
    refine ae.no rfl rfl ?_
    refine ae.no rfl rfl ?_
    refine ae.val rfl (az (b:=true) rfl rfl) rfl ?_
    exact ae.nil ⟨_,rfl,(aa.put (aa.push rfl (aa.push rfl (aa.push rfl (aa.push rfl (aa.put (.refl _) (Less.eq (by rw [hB28]))))))) (Less.eq (by rw [hB28]; rw [Bool.true_or])))⟩
   refine ae.bool hB28 ?_
   refine ae.val rfl (ak rfl wm mD rfl) rfl ?_
   refine ae.val rfl (au H27 (i:=0) rfl rfl (aF lM rfl)) rfl ?_
   refine ae.val rfl (ky rfl (lL Ex) rfl) rfl ?_
   refine ae.val rfl (av rfl rfl iW) rfl ?_
   refine ae.val rfl (az (b:=false) rfl rfl) rfl ?_
   exact ae.nil ⟨_,rfl,(aa.put (aa.push rfl (aa.push rfl (aa.push rfl (aa.push rfl (aa.put (.refl _) (Less.eq (by rw [hB28]))))))) (Less.eq (by rw [hB28]; rw [Bool.false_or])))⟩
  refine ae.val rfl (ah rfl) rfl ?_
  refine ae.bG 5 56 (.d (.bool (((z22.Name == []) || (decide (64 < ((z22.Name).length:Int)))) || (decide (64 < ((z22.Value).length:Int)))))) ?_ ?_
  ·
   rcases Bool.eq_false_or_eq_true (((z22.Name == []) || (decide (64 < ((z22.Name).length:Int))))) with hB29 | hB29
   ·
    refine ae.bool hB29 ?_
    refine ae.no rfl rfl ?_
    refine ae.no rfl rfl ?_
    refine ae.no rfl rfl ?_
    refine ae.no rfl rfl ?_
    refine ae.val rfl (az (b:=true) rfl rfl) rfl ?_
    exact ae.nil ⟨_,rfl,(aa.put (aa.push rfl (aa.push rfl (aa.push rfl (aa.push rfl (aa.put (.refl _) (Less.eq (by rw [hB29]))))))) (Less.eq (by rw [hB29]; rw [Bool.true_or])))⟩
   refine ae.bool hB29 ?_
   refine ae.val rfl (ak rfl DN mD rfl) rfl ?_
   refine ae.val rfl (au H27 (i:=0) rfl rfl (aF lM rfl)) rfl ?_
   refine ae.val rfl (ky rfl (lL Ex) rfl) rfl ?_
   refine ae.val rfl (av rfl rfl iW) rfl ?_
   refine ae.val rfl (az (b:=false) rfl rfl) rfl ?_
   exact ae.nil ⟨_,rfl,(aa.put (aa.push rfl (aa.push rfl (aa.push rfl (aa.push rfl (aa.put (.refl _) (Less.eq (by rw [hB29]))))))) (Less.eq (by rw [hB29]; rw [Bool.false_or])))⟩
  refine ae.val rfl (ah rfl) rfl ?_
  obtain ⟨z31,hzz31,h⟩:=bind_some h
  refine ae.bG 7 64 (.d (.bool z31)) ?_ ?_
  ·
   rcases Bool.eq_false_or_eq_true ((((z22.Name == []) || (decide (64 < ((z22.Name).length:Int)))) || (decide (64 < ((z22.Value).length:Int))))) with hB30 | hB30
   ·
    refine ae.bool hB30 ?_
    refine ae.no rfl rfl ?_
    refine ae.no rfl rfl ?_
    refine ae.no rfl rfl ?_
    refine ae.no rfl rfl ?_
    refine ae.no rfl rfl ?_
    refine ae.no rfl rfl ?_
    refine ae.val rfl (az (b:=true) rfl rfl) rfl ?_
    replace hzz31:=di hB30 hzz31
    cases hzz31
    exact ae.nil ⟨_,rfl,(aa.put (aa.push rfl (aa.push rfl (aa.push rfl (aa.push rfl (aa.push rfl (aa.push rfl (aa.put (.refl _) (Less.eq (by rw [hB30]))))))))) (.refl _))⟩
   refine ae.bool hB30 ?_
   replace hzz31:=dm hB30 hzz31
   refine ae.val rfl (ak rfl tK xE rfl) rfl ?_
   refine ae.val rfl (au H27 (i:=1) rfl rfl (aF zn rfl)) rfl ?_
   refine ae.val rfl (ah rfl) rfl ?_
   obtain ⟨z32,hzz32,hzz31⟩:=bind_some hzz31
   refine ae.val rfl (oC rfl rfl xH FW (fun z=>(Attr.len z).trans oN.symm) hzz32) rfl ?_
   refine ae.val rfl (ah rfl) rfl ?_
   obtain ⟨z34,hzz34,hzz31⟩:=bind_some hzz31
   refine ae.ret rfl (aB rfl rfl) (dY.vo (gm E n S26 _ _ _ (fun y33=>fC n y33 z22) (fun S' hk hw y33 r hr=>oL E n y33 z22 S' _ (hk.H _ _ (H27.at (i:=0) rfl)) r hr) _ hzz34) (.cons (.refl _) (.cons (.refl _) .nil))) rfl ?_
   refine ae.val rfl (az (b:=false) rfl rfl) rfl ?_
   cases hzz31
   exact ae.nil ⟨_,rfl,(aa.put (aa.push rfl (aa.push rfl (aa.push rfl (aa.push rfl (aa.push rfl (aa.push rfl (aa.put (.refl _) (Less.eq (by rw [hB30]))))))))) (.refl _))⟩
  refine ae.nil ?_
  refine ay.cond rfl (fun hb35=>?_) (fun hb35=>?_)
  ·
   replace h:=di hb35 h
   refine ay.seq ?_
   refine ay.region E.obj rfl ?_
   refine ae.val rfl (aj rfl) rfl ?_
   refine ae.nil ?_
   have hr:=Option.some.inj h
   subst hr
   exact ay.ret ⟨_,rfl,rfl,gG (aG.eq .nil)⟩
  replace h:=dm hb35 h
  refine ay.skip ?_
  refine ay.region E.obj rfl ?_
  refine ae.val rfl (av rfl rfl cu) rfl ?_
  refine ae.val rfl (ah rfl) rfl ?_
  refine ae.nil ?_
  exact ⟨(IntKind.wrap .i64 (x19 + 1)),_,_,S26,.refl _ _,.refl _,(aa.r rfl (aa.r rfl (aa.r rfl (aa.r rfl aa.nil)))),H27.sl [1] rfl rfl,h⟩
 replace h:=dm hb21 h
 refine ay.exit ?_
 refine ay.seq ?_
 refine ay.region E.obj rfl ?_
 refine ae.val rfl (aj rfl) rfl ?_
 refine ae.nil ?_
 have hr:=Option.some.inj h
 subst hr
 exact ay.ret ⟨_,rfl,rfl,gG (aG.eq .nil)⟩
set_option maxRecDepth 20000 in
set_option maxHeartbeats 4000000 in
theorem mW:∀ (n:Nat) (a1:Tree) (r:Bool),eZ n a1=some r→dB R cfg.P 45 [(ax a1)] (.d (.bool r))
 | 0,a1,r,h=>by simp [eZ] at h
 | n + 1,a1,r,h=>by
  have ih:=mW n
  unfold eZ at h
  refine dB.of_wp E.obj.toObjOk (C:=cfg) Tryd.func45 rfl FL rfl ?_
  have H0:Has aL aL []:=Has.pure
  refine ay.seq ?_
  refine ay.region E.obj rfl ?_
  refine ae.box H0 rfl rfl rfl (Tree.bJ _) rfl (fun b2 S3 H4=>?_)
  refine ae.val rfl (aj rfl) rfl ?_
  refine ae.nil ?_
  refine ay.seq ?_
  refine ay.seq ?_
  refine ay.region E.obj rfl ?_
  refine ae.val rfl (ak rfl lY mD rfl) rfl ?_
  refine ae.val rfl (au H4 (i:=0) rfl rfl (aF lM rfl)) rfl ?_
  refine ae.val rfl (av rfl rfl gY) rfl ?_
  refine ae.nil ?_
  refine ay.cond rfl (fun hb5=>?_) (fun hb5=>?_)
  ·
   replace h:=di hb5 h
   refine ay.seq ?_
   refine ay.region E.obj rfl ?_
   refine ae.val rfl (ak rfl qj mD rfl) rfl ?_
   refine ae.val rfl (au H4 (i:=0) rfl rfl (aF lM rfl)) rfl ?_
   refine ae.val rfl (av rfl rfl gY) rfl ?_
   refine ae.val rfl (ah rfl) rfl ?_
   refine ae.bG 5 16 (.d (.bool ((a1.Key == []) && (((a1.aI).length:Int) == 0)))) ?_ ?_
   ·
    rcases Bool.eq_false_or_eq_true ((a1.Key == [])) with hB6 | hB6
    ·
     refine ae.bool hB6 ?_
     refine ae.val rfl (ak rfl tK xE rfl) rfl ?_
     refine ae.val rfl (au H4 (i:=0) rfl rfl (aF zn rfl)) rfl ?_
     refine ae.val rfl (bq rfl Ac) rfl ?_
     refine ae.val rfl (av rfl rfl bI) rfl ?_
     refine ae.val rfl (az (b:=true) rfl rfl) rfl ?_
     exact ae.nil ⟨_,rfl,(aa.put (aa.push rfl (aa.push rfl (aa.push rfl (aa.push rfl (aa.put (.refl _) (Less.eq (by rw [hB6]))))))) (Less.eq (by rw [hB6]; rw [Bool.true_and])))⟩
    refine ae.bool hB6 ?_
    refine ae.no rfl rfl ?_
    refine ae.no rfl rfl ?_
    refine ae.no rfl rfl ?_
    refine ae.no rfl rfl ?_
    refine ae.val rfl (az (b:=false) rfl rfl) rfl ?_
    exact ae.nil ⟨_,rfl,(aa.put (aa.push rfl (aa.push rfl (aa.push rfl (aa.push rfl (aa.put (.refl _) (Less.eq (by rw [hB6]))))))) (Less.eq (by rw [hB6]; rw [Bool.false_and])))⟩
   refine ae.val rfl (ah rfl) rfl ?_
   refine ae.bG 5 22 (.d (.bool (((a1.Key == []) && (((a1.aI).length:Int) == 0)) && (((a1.Kids).length:Int) == 0)))) ?_ ?_
   ·
    rcases Bool.eq_false_or_eq_true (((a1.Key == []) && (((a1.aI).length:Int) == 0))) with hB7 | hB7
    ·
     refine ae.bool hB7 ?_
     refine ae.val rfl (ak rfl iL pW rfl) rfl ?_
     refine ae.val rfl (au H4 (i:=0) rfl rfl (aF pX rfl)) rfl ?_
     refine ae.val rfl (bq rfl rF) rfl ?_
     refine ae.val rfl (av rfl rfl bI) rfl ?_
     refine ae.val rfl (az (b:=true) rfl rfl) rfl ?_
     exact ae.nil ⟨_,rfl,(aa.put (aa.push rfl (aa.push rfl (aa.push rfl (aa.push rfl (aa.put (.refl _) (Less.eq (by rw [hB7]))))))) (Less.eq (by rw [hB7]; rw [Bool.true_and])))⟩
    refine ae.bool hB7 ?_
    refine ae.no rfl rfl ?_
    refine ae.no rfl rfl ?_
    refine ae.no rfl rfl ?_
    refine ae.no rfl rfl ?_
    refine ae.val rfl (az (b:=false) rfl rfl) rfl ?_
    exact ae.nil ⟨_,rfl,(aa.put (aa.push rfl (aa.push rfl (aa.push rfl (aa.push rfl (aa.put (.refl _) (Less.eq (by rw [hB7]))))))) (Less.eq (by rw [hB7]; rw [Bool.false_and])))⟩
   refine ae.val rfl (ah rfl) rfl ?_
   refine ae.bG 5 28 (.d (.bool ((((a1.Key == []) && (((a1.aI).length:Int) == 0)) && (((a1.Kids).length:Int) == 0)) && (decide (((a1.Text).length:Int) ≤ 64))))) ?_ ?_
   ·
    rcases Bool.eq_false_or_eq_true ((((a1.Key == []) && (((a1.aI).length:Int) == 0)) && (((a1.Kids).length:Int) == 0))) with hB8 | hB8
    ·
     refine ae.bool hB8 ?_
     refine ae.val rfl (ak rfl wE mD rfl) rfl ?_
     refine ae.val rfl (au H4 (i:=0) rfl rfl (aF lM rfl)) rfl ?_
     refine ae.val rfl (ky rfl (lL Ex) rfl) rfl ?_
     refine ae.val rfl (av rfl rfl jG) rfl ?_
     refine ae.val rfl (az (b:=true) rfl rfl) rfl ?_
     exact ae.nil ⟨_,rfl,(aa.put (aa.push rfl (aa.push rfl (aa.push rfl (aa.push rfl (aa.put (.refl _) (Less.eq (by rw [hB8]))))))) (Less.eq (by rw [hB8]; rw [Bool.true_and])))⟩
    refine ae.bool hB8 ?_
    refine ae.no rfl rfl ?_
    refine ae.no rfl rfl ?_
    refine ae.no rfl rfl ?_
    refine ae.no rfl rfl ?_
    refine ae.val rfl (az (b:=false) rfl rfl) rfl ?_
    exact ae.nil ⟨_,rfl,(aa.put (aa.push rfl (aa.push rfl (aa.push rfl (aa.push rfl (aa.put (.refl _) (Less.eq (by rw [hB8]))))))) (Less.eq (by rw [hB8]; rw [Bool.false_and])))⟩
   refine ae.val rfl (aj rfl) rfl ?_
   refine ae.nil ?_
   have hr:=Option.some.inj h
   subst hr
   exact ay.ret ⟨_,rfl,rfl,gG (aG.eq .nil)⟩
  replace h:=dm hb5 h
  refine ay.skip ?_
  refine ay.seq ?_
  refine ay.seq ?_
  refine ay.region E.obj rfl ?_
  refine ae.val rfl (au H4 (i:=0) rfl rfl (aV il dL rfl)) rfl ?_
  refine ae.less (Less.agg' (d:=ax a1) (ai.eq rfl (ai.eq rfl (ai.eq rfl (ai.eq rfl (ai.eq rfl .nil))))) ((Tree.eq _).trans rfl)) ?_
  obtain ⟨z9,hzz9,h⟩:=bind_some h
  refine ae.ret rfl (aB rfl rfl) (qF E _ _ _ hzz9 _ _ (aG.eq .nil)) rfl ?_
  refine ae.val rfl (fG rfl) rfl ?_
  refine ae.nil ?_
  refine ay.cond rfl (fun hb10=>?_) (fun hb10=>?_)
  ·
   replace h:=di hb10 h
   refine ay.seq ?_
   refine ay.region E.obj rfl ?_
   refine ae.val rfl (aj rfl) rfl ?_
   refine ae.nil ?_
   have hr:=Option.some.inj h
   subst hr
   exact ay.ret ⟨_,rfl,rfl,gG (aG.eq .nil)⟩
  replace h:=dm hb10 h
  refine ay.skip ?_
  refine ay.seq ?_
  refine ay.seq ?_
  refine ay.region E.obj rfl ?_
  refine ae.val rfl (ak rfl iL pW rfl) rfl ?_
  refine ae.val rfl (au H4 (i:=0) rfl rfl (aF pX rfl)) rfl ?_
  refine ae.val rfl (bq rfl rF) rfl ?_
  refine ae.val rfl (ah rfl) rfl ?_
  refine ae.nil ?_
  refine ay.block ?_
  refine mH.start (B:=aL) (α:=Int) (fun k a=>dK (eZ n) a1 k a=some r) (fun a=>[(33,(.d (.sl ((a1.Kids).map ax) false))),(34,(.d (.int .i64 ((a1.Kids).length:Int)))),(35,(.d (.int .i64 a)))]) (fun a=>[]) ?_ ?_ n ⟨0,_,_,S3,.refl _ _,.refl _,(aa.r rfl (aa.r rfl (aa.r rfl aa.nil))),H4.sl [] rfl rfl,h⟩
  ·
   intro a h; simp [dK] at h
  intro k19 x18 S16 H17 h
  replace h:dK (eZ n) a1 (k19 + 1) x18=some r:=h
  replace H17:Has aL S16 []:=H17
  unfold dK at h
  refine ay.seq ?_
  refine ay.region E.obj rfl ?_
  refine ae.val rfl (av rfl rfl dF) rfl ?_
  refine ae.nil ?_
  refine ay.seq ?_
  refine ay.cond rfl (fun hb20=>?_) (fun hb20=>?_)
  ·
   replace h:=di hb20 h
   refine ay.skip ?_
   refine ay.seq ?_
   refine ay.block ?_
   refine ay.seq ?_
   refine ay.region E.obj rfl ?_
   obtain ⟨z21,hzz21,h⟩:=bind_some h
   refine ae.val rfl (bR rfl rfl (df (enc:=ax) hzz21 kD iY ((Tree.len _).trans dL.symm))) rfl ?_
   refine ae.val rfl (aX rfl (Tree.iy il dL)) rfl ?_
   refine ae.alloc H17 rfl pE iw rfl rfl (fun b22 S23 H24=>?_)
   refine ae.store H24 (i:=0) rfl rfl rfl rfl (Tree.bJ _) rfl dL rfl iY rfl rfl rfl (fun S25 H26=>?_)
   refine ae.nil ?_
   refine ay.seq ?_
   refine ay.region E.obj rfl ?_
   refine ae.val rfl (au H26 (i:=0) rfl rfl (aV il dL rfl)) rfl ?_
   refine ae.less (Less.agg' (d:=ax z21) (ai.eq rfl (ai.eq rfl (ai.eq rfl (ai.eq rfl (ai.eq rfl .nil))))) ((Tree.eq _).trans rfl)) ?_
   obtain ⟨z27,hzz27,h⟩:=bind_some h
   refine ae.ret rfl (aB rfl rfl) (ih _ _ hzz27 _ _ (aG.eq .nil)) rfl ?_
   refine ae.val rfl (fG rfl) rfl ?_
   refine ae.nil ?_
   refine ay.cond rfl (fun hb28=>?_) (fun hb28=>?_)
   ·
    replace h:=di hb28 h
    refine ay.seq ?_
    refine ay.region E.obj rfl ?_
    refine ae.val rfl (aj rfl) rfl ?_
    refine ae.nil ?_
    have hr:=Option.some.inj h
    subst hr
    exact ay.ret ⟨_,rfl,rfl,gG (aG.eq .nil)⟩
   replace h:=dm hb28 h
   refine ay.skip ?_
   refine ay.region E.obj rfl ?_
   refine ae.val rfl (av rfl rfl cu) rfl ?_
   refine ae.val rfl (ah rfl) rfl ?_
   refine ae.nil ?_
   exact ⟨(IntKind.wrap .i64 (x18 + 1)),_,_,S25,.refl _ _,.refl _,(aa.r rfl (aa.r rfl (aa.r rfl aa.nil))),H26.sl [] rfl rfl,h⟩
  replace h:=dm hb20 h
  refine ay.exit ?_
  refine ay.seq ?_
  refine ay.region E.obj rfl ?_
  refine ae.val rfl (aj rfl) rfl ?_
  refine ae.nil ?_
  have hr:=Option.some.inj h
  subst hr
  exact ay.ret ⟨_,rfl,rfl,gG (aG.eq .nil)⟩
set_option maxRecDepth 20000 in
set_option maxHeartbeats 4000000 in
theorem nk:∀ (n:Nat) (a1:Tree) (r:Int),eG n a1=some r→dB R cfg.P 46 [(ax a1)] (.d (.int .i64 r))
 | 0,a1,r,h=>by simp [eG] at h
 | n + 1,a1,r,h=>by
  have ih:=nk n
  unfold eG at h
  refine dB.of_wp E.obj.toObjOk (C:=cfg) Tryd.func46 rfl EX rfl ?_
  have H0:Has aL aL []:=Has.pure
  refine ay.seq ?_
  refine ay.region E.obj rfl ?_
  refine ae.box H0 rfl rfl rfl (Tree.bJ _) rfl (fun b2 S3 H4=>?_)
  refine ae.val rfl (aj rfl) rfl ?_
  refine ae.nil ?_
  refine ay.seq ?_
  refine ay.region E.obj rfl ?_
  refine ae.val rfl (aj rfl) rfl ?_
  refine ae.nil ?_
  refine ay.seq ?_
  refine ay.seq ?_
  refine ay.region E.obj rfl ?_
  refine ae.val rfl (ak rfl iL pW rfl) rfl ?_
  refine ae.val rfl (au H4 (i:=0) rfl rfl (aF pX rfl)) rfl ?_
  refine ae.val rfl (bq rfl rF) rfl ?_
  refine ae.val rfl (ah rfl) rfl ?_
  refine ae.nil ?_
  refine ay.block ?_
  refine mH.start (B:=aL) (α:=Int × Int) (fun k a=>dJ (eG n) a1 k a.1 a.2=some r) (fun a=>[(3,(.d (.int .i64 a.1))),(7,(.d (.sl ((a1.Kids).map ax) false))),(8,(.d (.int .i64 ((a1.Kids).length:Int)))),(9,(.d (.int .i64 a.2)))]) (fun a=>[]) ?_ ?_ n ⟨⟨1,0⟩,_,_,S3,.refl _ _,.refl _,(aa.r rfl (aa.r rfl (aa.r rfl (aa.r rfl aa.nil)))),H4.sl [] rfl rfl,h⟩
  ·
   intro a h; simp [dJ] at h
  intro k15 a S11 H12 h
  obtain ⟨x13,x14⟩:=a
  replace h:dJ (eG n) a1 (k15 + 1) x13 x14=some r:=h
  replace H12:Has aL S11 []:=H12
  unfold dJ at h
  refine ay.seq ?_
  refine ay.region E.obj rfl ?_
  refine ae.val rfl (av rfl rfl dF) rfl ?_
  refine ae.nil ?_
  refine ay.seq ?_
  refine ay.cond rfl (fun hb16=>?_) (fun hb16=>?_)
  ·
   replace h:=di hb16 h
   refine ay.skip ?_
   refine ay.seq ?_
   refine ay.block ?_
   refine ay.seq ?_
   refine ay.region E.obj rfl ?_
   obtain ⟨z17,hzz17,h⟩:=bind_some h
   refine ae.val rfl (bR rfl rfl (df (enc:=ax) hzz17 kD iY ((Tree.len _).trans dL.symm))) rfl ?_
   refine ae.val rfl (aX rfl (Tree.iy il dL)) rfl ?_
   refine ae.alloc H12 rfl pE iw rfl rfl (fun b18 S19 H20=>?_)
   refine ae.store H20 (i:=0) rfl rfl rfl rfl (Tree.bJ _) rfl dL rfl iY rfl rfl rfl (fun S21 H22=>?_)
   refine ae.nil ?_
   refine ay.region E.obj rfl ?_
   refine ae.val rfl (ah rfl) rfl ?_
   refine ae.val rfl (au H22 (i:=0) rfl rfl (aV il dL rfl)) rfl ?_
   refine ae.less (Less.agg' (d:=ax z17) (ai.eq rfl (ai.eq rfl (ai.eq rfl (ai.eq rfl (ai.eq rfl .nil))))) ((Tree.eq _).trans rfl)) ?_
   obtain ⟨z23,hzz23,h⟩:=bind_some h
   refine ae.ret rfl (aB rfl rfl) (ih _ _ hzz23 _ _ (aG.eq .nil)) rfl ?_
   refine ae.val rfl (av rfl rfl cu) rfl ?_
   refine ae.val rfl (aj rfl) rfl ?_
   refine ae.nil ?_
   refine ay.region E.obj rfl ?_
   refine ae.val rfl (av rfl rfl cu) rfl ?_
   refine ae.val rfl (ah rfl) rfl ?_
   refine ae.nil ?_
   exact ⟨⟨(IntKind.wrap .i64 (x13 + z23)),(IntKind.wrap .i64 (x14 + 1))⟩,_,_,S21,.refl _ _,.refl _,(aa.r rfl (aa.r rfl (aa.r rfl (aa.r rfl aa.nil)))),H22.sl [] rfl rfl,h⟩
  replace h:=dm hb16 h
  refine ay.exit ?_
  refine ay.seq ?_
  refine ay.region E.obj rfl ?_
  refine ae.val rfl (ah rfl) rfl ?_
  refine ae.val rfl (aj rfl) rfl ?_
  refine ae.nil ?_
  have hr:=Option.some.inj h
  subst hr
  exact ay.ret ⟨_,rfl,rfl,gG (aG.eq .nil)⟩
set_option maxRecDepth 20000 in
set_option maxHeartbeats 4000000 in
theorem og:∀ (n:Nat) (a1:Tree) (r:Int),fu n a1=some r→dB R cfg.P 47 [(ax a1)] (.d (.int .i64 r))
 | 0,a1,r,h=>by simp [fu] at h
 | n + 1,a1,r,h=>by
  have ih:=og n
  unfold fu at h
  refine dB.of_wp E.obj.toObjOk (C:=cfg) Tryd.func47 rfl FM rfl ?_
  have H0:Has aL aL []:=Has.pure
  refine ay.seq ?_
  refine ay.region E.obj rfl ?_
  refine ae.box H0 rfl rfl rfl (Tree.bJ _) rfl (fun b2 S3 H4=>?_)
  refine ae.val rfl (aj rfl) rfl ?_
  refine ae.nil ?_
  refine ay.seq ?_
  refine ay.region E.obj rfl ?_
  refine ae.val rfl (aj rfl) rfl ?_
  refine ae.nil ?_
  refine ay.seq ?_
  refine ay.seq ?_
  refine ay.region E.obj rfl ?_
  refine ae.val rfl (ak rfl iL pW rfl) rfl ?_
  refine ae.val rfl (au H4 (i:=0) rfl rfl (aF pX rfl)) rfl ?_
  refine ae.val rfl (bq rfl rF) rfl ?_
  refine ae.val rfl (ah rfl) rfl ?_
  refine ae.nil ?_
  refine ay.block ?_
  refine mH.start (B:=aL) (α:=Int × Int) (fun k a=>dR (fu n) a1 k a.1 a.2=some r) (fun a=>[(3,(.d (.int .i64 a.1))),(7,(.d (.sl ((a1.Kids).map ax) false))),(8,(.d (.int .i64 ((a1.Kids).length:Int)))),(9,(.d (.int .i64 a.2)))]) (fun a=>[]) ?_ ?_ n ⟨⟨0,0⟩,_,_,S3,.refl _ _,.refl _,(aa.r rfl (aa.r rfl (aa.r rfl (aa.r rfl aa.nil)))),H4.sl [] rfl rfl,h⟩
  ·
   intro a h; simp [dR] at h
  intro k15 a S11 H12 h
  obtain ⟨x13,x14⟩:=a
  replace h:dR (fu n) a1 (k15 + 1) x13 x14=some r:=h
  replace H12:Has aL S11 []:=H12
  unfold dR at h
  refine ay.seq ?_
  refine ay.region E.obj rfl ?_
  refine ae.val rfl (av rfl rfl dF) rfl ?_
  refine ae.nil ?_
  refine ay.seq ?_
  refine ay.cond rfl (fun hb16=>?_) (fun hb16=>?_)
  ·
   replace h:=di hb16 h
   refine ay.skip ?_
   refine ay.seq ?_
   refine ay.block ?_
   refine ay.seq ?_
   refine ay.region E.obj rfl ?_
   obtain ⟨z17,hzz17,h⟩:=bind_some h
   refine ae.val rfl (bR rfl rfl (df (enc:=ax) hzz17 kD iY ((Tree.len _).trans dL.symm))) rfl ?_
   refine ae.val rfl (aX rfl (Tree.iy il dL)) rfl ?_
   refine ae.alloc H12 rfl pE iw rfl rfl (fun b18 S19 H20=>?_)
   refine ae.store H20 (i:=0) rfl rfl rfl rfl (Tree.bJ _) rfl dL rfl iY rfl rfl rfl (fun S21 H22=>?_)
   refine ae.nil ?_
   refine ay.region E.obj rfl ?_
   refine ae.val rfl (ah rfl) rfl ?_
   refine ae.val rfl (au H22 (i:=0) rfl rfl (aV il dL rfl)) rfl ?_
   refine ae.less (Less.agg' (d:=ax z17) (ai.eq rfl (ai.eq rfl (ai.eq rfl (ai.eq rfl (ai.eq rfl .nil))))) ((Tree.eq _).trans rfl)) ?_
   obtain ⟨z23,hzz23,h⟩:=bind_some h
   refine ae.ret rfl (aB rfl rfl) (ih _ _ hzz23 _ _ (aG.eq .nil)) rfl ?_
   refine ae.val rfl (ui rfl rfl) rfl ?_
   refine ae.val rfl (aj rfl) rfl ?_
   refine ae.nil ?_
   refine ay.region E.obj rfl ?_
   refine ae.val rfl (av rfl rfl cu) rfl ?_
   refine ae.val rfl (ah rfl) rfl ?_
   refine ae.nil ?_
   exact ⟨⟨(mO x13 z23),(IntKind.wrap .i64 (x14 + 1))⟩,_,_,S21,.refl _ _,.refl _,(aa.r rfl (aa.r rfl (aa.r rfl (aa.r rfl aa.nil)))),H22.sl [] rfl rfl,h⟩
  replace h:=dm hb16 h
  refine ay.exit ?_
  refine ay.seq ?_
  refine ay.region E.obj rfl ?_
  refine ae.val rfl (ah rfl) rfl ?_
  refine ae.val rfl (av rfl rfl cu) rfl ?_
  refine ae.val rfl (aj rfl) rfl ?_
  refine ae.nil ?_
  have hr:=Option.some.inj h
  subst hr
  exact ay.ret ⟨_,rfl,rfl,gG (aG.eq .nil)⟩
set_option maxRecDepth 20000 in
set_option maxHeartbeats 4000000 in
theorem um (n:Nat) (a1:Tree) (r:Bool) (h:gM n a1=some r):dB R cfg.P 21 [(ax a1)] (.d (.bool r)):=by
 unfold gM at h
 refine dB.of_wp E.obj.toObjOk (C:=cfg) Tryd.func21 rfl FZ rfl ?_
 have H0:Has aL aL []:=Has.pure
 refine ay.seq ?_
 refine ay.region E.obj rfl ?_
 refine ae.box H0 rfl rfl rfl (Tree.bJ _) rfl (fun b2 S3 H4=>?_)
 refine ae.val rfl (aj rfl) rfl ?_
 refine ae.nil ?_
 refine ay.seq ?_
 refine ay.region E.obj rfl ?_
 refine ae.val rfl (au H4 (i:=0) rfl rfl (aV il dL rfl)) rfl ?_
 refine ae.less (Less.agg' (d:=ax a1) (ai.eq rfl (ai.eq rfl (ai.eq rfl (ai.eq rfl (ai.eq rfl .nil))))) ((Tree.eq _).trans rfl)) ?_
 obtain ⟨z5,hzz5,h⟩:=bind_some h
 refine ae.ret rfl (aB rfl rfl) (mW E _ _ _ hzz5 _ _ (aG.eq .nil)) rfl ?_
 refine ae.val rfl (ah rfl) rfl ?_
 obtain ⟨z7,hzz7,h⟩:=bind_some h
 refine ae.bG 4 9 (.d (.bool z7)) ?_ ?_
 ·
  rcases Bool.eq_false_or_eq_true (z5) with hB6 | hB6
  ·
   refine ae.bool hB6 ?_
   replace hzz7:=di hB6 hzz7
   refine ae.val rfl (au H4 (i:=0) rfl rfl (aV il dL rfl)) rfl ?_
   refine ae.less (Less.agg' (d:=ax a1) (ai.eq rfl (ai.eq rfl (ai.eq rfl (ai.eq rfl (ai.eq rfl .nil))))) ((Tree.eq _).trans rfl)) ?_
   obtain ⟨z8,hzz8,hzz7⟩:=bind_some hzz7
   refine ae.ret rfl (aB rfl rfl) (nk E _ _ _ hzz8 _ _ (aG.eq .nil)) rfl ?_
   refine ae.val rfl (av rfl rfl jG) rfl ?_
   refine ae.val rfl (az (b:=true) rfl rfl) rfl ?_
   cases hzz7
   exact ae.nil ⟨_,rfl,(aa.put (aa.push rfl (aa.push rfl (aa.push rfl (aa.put (.refl _) (Less.eq (by rw [hB6])))))) (.refl _))⟩
  refine ae.bool hB6 ?_
  refine ae.no rfl rfl ?_
  refine ae.no rfl rfl ?_
  refine ae.no rfl rfl ?_
  refine ae.val rfl (az (b:=false) rfl rfl) rfl ?_
  replace hzz7:=dm hB6 hzz7
  cases hzz7
  exact ae.nil ⟨_,rfl,(aa.put (aa.push rfl (aa.push rfl (aa.push rfl (aa.put (.refl _) (Less.eq (by rw [hB6])))))) (.refl _))⟩
 refine ae.val rfl (ah rfl) rfl ?_
 obtain ⟨z10,hzz10,h⟩:=bind_some h
 refine ae.bG 4 14 (.d (.bool z10)) ?_ ?_
 ·
  rcases Bool.eq_false_or_eq_true (z7) with hB9 | hB9
  ·
   refine ae.bool hB9 ?_
   replace hzz10:=di hB9 hzz10
   refine ae.val rfl (au H4 (i:=0) rfl rfl (aV il dL rfl)) rfl ?_
   refine ae.less (Less.agg' (d:=ax a1) (ai.eq rfl (ai.eq rfl (ai.eq rfl (ai.eq rfl (ai.eq rfl .nil))))) ((Tree.eq _).trans rfl)) ?_
   obtain ⟨z11,hzz11,hzz10⟩:=bind_some hzz10
   refine ae.ret rfl (aB rfl rfl) (og E _ _ _ hzz11 _ _ (aG.eq .nil)) rfl ?_
   refine ae.val rfl (av rfl rfl jG) rfl ?_
   refine ae.val rfl (az (b:=true) rfl rfl) rfl ?_
   cases hzz10
   exact ae.nil ⟨_,rfl,(aa.put (aa.push rfl (aa.push rfl (aa.push rfl (aa.put (.refl _) (Less.eq (by rw [hB9])))))) (.refl _))⟩
  refine ae.bool hB9 ?_
  refine ae.no rfl rfl ?_
  refine ae.no rfl rfl ?_
  refine ae.no rfl rfl ?_
  refine ae.val rfl (az (b:=false) rfl rfl) rfl ?_
  replace hzz10:=dm hB9 hzz10
  cases hzz10
  exact ae.nil ⟨_,rfl,(aa.put (aa.push rfl (aa.push rfl (aa.push rfl (aa.put (.refl _) (Less.eq (by rw [hB9])))))) (.refl _))⟩
 refine ae.val rfl (aj rfl) rfl ?_
 refine ae.nil ?_
 have hr:=Option.some.inj h
 subst hr
 exact ay.ret ⟨_,rfl,rfl,gG (aG.eq .nil)⟩
theorem nR (n:Nat) (a1:Int) (a2:Str) (a3:Int) (r:Option Unit) (h:oG n a1 a2 a3=some r):gz R cfg.P 70 73 [.d (.int .i64 a1),.d (.str a2),.d (.int .i64 a3)] [] r (fun _ v l=>v=.tup []∧l=[]):=by
 unfold oG at h
 split at h
 ·
  rename_i he
  subst he
  cases h
  refine gz.of_wp (C:=cfg) Tryd.func73 rfl FB rfl (fun B0 S0 H0=>?_)
  refine ay.region E.obj rfl ?_
  refine ae.val rfl (ah rfl) rfl ?_
  refine ae.val rfl (ah rfl) rfl ?_
  refine ae.val rfl (ah rfl) rfl ?_
  refine ae.val rfl (bH (cs:=[.d (.int .i64 6),.d (.str a2),.d (.int .i64 a3)]) zZ rfl (mQ) (cO rfl rfl rfl rfl (cO rfl rfl rfl rfl (cO rfl rfl rfl rfl rfl)))) rfl ?_
  refine ae.Al (d:=qz a2 a3) rfl rfl FN rfl ?_
  refine ae.panic (d:=qz a2 a3) rfl rfl ?_
  exact ⟨a2,a3,rfl,H0⟩
 ·
  cases h
set_option maxRecDepth 20000 in
set_option maxHeartbeats 4000000 in
theorem o7 (n:Nat) (a1:Bool) (a2:Int) (a3:Str) (a4:Int) (r:(Option Unit)) (h:qo n a1 a2 a3 a4=some r):gz R cfg.P 70 59 [.d (.bool a1),.d (.int .i64 a2),.d (.str a3),.d (.int .i64 a4)] [] r (fun r v l=>v=.tup []∧l=[]):=by
 unfold qo at h
 refine gz.of_wp (C:=cfg) Tryd.func59 rfl Fq rfl (fun B0 S0 H0=>?_)
 replace H0:Has B0 S0 []:=H0
 refine ay.seq ?_
 refine ay.region E.obj rfl ?_
 refine ae.val rfl (ah rfl) rfl ?_
 refine ae.val rfl (fG rfl) rfl ?_
 refine ae.nil ?_
 refine ay.cond rfl (fun hb5=>?_) (fun hb5=>?_)
 ·
  replace h:=di hb5 h
  refine ay.region E.obj rfl ?_
  refine ae.val rfl (ah rfl) rfl ?_
  refine ae.val rfl (ah rfl) rfl ?_
  refine ae.val rfl (ah rfl) rfl ?_
  obtain ⟨z6,hzz6,h⟩:=bind_some h
  rcases z6 with _ | x7
  ·
   replace h:=mF h
   subst h
   refine ae.thrown (ins:=[]) (more:=[]) rfl (H0.sl [] rfl rfl) rfl (aB rfl rfl) (nR E n _ _ _ _ hzz6 ) (.cons (.refl _) (.cons (.refl _) (.cons (.refl _) .nil))) (fun _ _ S8 H9=>?_)
   exact ⟨_,_,rfl,H9.weaken (List.nil_sublist _)⟩
  replace h:=mE h
  refine ae.mG (ins:=[]) (more:=[]) (H0.sl [] rfl rfl) rfl (aB rfl rfl) (nR E n _ _ _ _ hzz6 ) (.cons (.refl _) (.cons (.refl _) (.cons (.refl _) .nil))) rfl ?_
  rintro _ S10 _ ⟨rfl,rfl⟩ H11
  replace H11:Has B0 S10 []:=H11
  refine ae.nil ?_
  have hr:=Option.some.inj h
  subst hr
  exact ⟨_,rfl,rfl,_,_,_,.refl _,(.refl _),⟨rfl,rfl⟩,H11.sl [] rfl rfl⟩
 replace h:=dm hb5 h
 refine ay.skip ?_
 have hr:=Option.some.inj h
 subst hr
 exact ⟨_,rfl,rfl,_,_,_,.refl _,(.refl _),⟨rfl,rfl⟩,H0.sl [] rfl rfl⟩
set_option maxRecDepth 20000 in
set_option maxHeartbeats 4000000 in
theorem dH (n:Nat) (a1:Bool) (a2:Str) (a3:Int) (r:(Option Unit)) (h:gT n a1 a2 a3=some r):gz R cfg.P 70 32 [.d (.bool a1),.d (.str a2),.d (.int .i64 a3)] [] r (fun r v l=>v=.tup []∧l=[]):=by
 unfold gT at h
 refine gz.of_wp (C:=cfg) Tryd.func32 rfl F5 rfl (fun B0 S0 H0=>?_)
 replace H0:Has B0 S0 []:=H0
 refine ay.region E.obj rfl ?_
 refine ae.val rfl (ah rfl) rfl ?_
 refine ae.val rfl (ah rfl) rfl ?_
 refine ae.val rfl (ah rfl) rfl ?_
 obtain ⟨z4,hzz4,h⟩:=bind_some h
 rcases z4 with _ | x5
 ·
  replace h:=mF h
  subst h
  refine ae.thrown (ins:=[]) (more:=[]) rfl (H0.sl [] rfl rfl) rfl (aB rfl rfl) (o7 E n _ _ _ _ _ hzz4 ) (.cons (.refl _) (.cons (.refl _) (.cons (.refl _) (.cons (.refl _) .nil)))) (fun _ _ S6 H7=>?_)
  exact ⟨_,_,rfl,H7.weaken (List.nil_sublist _)⟩
 replace h:=mE h
 refine ae.mG (ins:=[]) (more:=[]) (H0.sl [] rfl rfl) rfl (aB rfl rfl) (o7 E n _ _ _ _ _ hzz4 ) (.cons (.refl _) (.cons (.refl _) (.cons (.refl _) (.cons (.refl _) .nil)))) rfl ?_
 rintro _ S8 _ ⟨rfl,rfl⟩ H9
 replace H9:Has B0 S8 []:=H9
 refine ae.nil ?_
 have hr:=Option.some.inj h
 subst hr
 exact ⟨_,rfl,rfl,_,_,_,.refl _,(.refl _),⟨rfl,rfl⟩,H9.sl [] rfl rfl⟩
set_option maxRecDepth 20000 in
set_option maxHeartbeats 4000000 in
theorem fq (prow:aC→aQ→Option (Option ((List Tree) × aC))) (hprow:∀ (x0:aC) (x1:aQ) (r:Option ((List Tree) × aC)),prow x0 x1=some r→∀ (b:Nat),gz R cfg.P 70 31 [.ptr b 0 0,.d (aD x1)] [.box b [.d (.sl ((x0.state).map (D.int .i64)) false),.d (.sl ((x0.params).map aH) false),.d (.int .i64 x0.steps)]] r (fun r v l=>v=.d (.sl ((r.1).map ax) false)∧l=[.box b [.d (.sl ((r.2.state).map (D.int .i64)) false),.d (.sl ((r.2.params).map aH) false),.d (.int .i64 r.2.steps)]])) (n:Nat) (a2:aC) (a3:(List aQ)) (r:(Option ((List Tree) × aC))) (h:dM prow n a2 a3=some r) (b1:Nat):gz R cfg.P 70 54 [.ptr b1 0 0,.d (.sl ((a3).map aD) false)] [.box b1 [(.d (.sl ((a2.state).map (D.int .i64)) false)),(.d (.sl ((a2.params).map aH) false)),(.d (.int .i64 a2.steps))]] r (fun r v l=>v=.d (.sl ((r.1).map ax) false)∧l=[.box b1 [.d (.sl ((r.2.state).map (D.int .i64)) false),.d (.sl ((r.2.params).map aH) false),.d (.int .i64 r.2.steps)]]):=by
 unfold dM at h
 refine gz.of_wp (C:=cfg) Tryd.func54 rfl FH rfl (fun B0 S0 H0=>?_)
 replace H0:Has B0 S0 [.box b1 [(.d (.sl ((a2.state).map (D.int .i64)) false)),(.d (.sl ((a2.params).map aH) false)),(.d (.int .i64 a2.steps))]]:=H0
 refine ay.seq ?_
 refine ay.region E.obj rfl ?_
 refine ae.val rfl (aj rfl) rfl ?_
 refine ae.nil ?_
 refine ay.seq ?_
 refine ay.region E.obj rfl ?_
 refine ae.val rfl (aj rfl) rfl ?_
 refine ae.nil ?_
 refine ay.seq ?_
 refine ay.seq ?_
 refine ay.region E.obj rfl ?_
 refine ae.val rfl (ah rfl) rfl ?_
 refine ae.val rfl (bq rfl AO) rfl ?_
 refine ae.val rfl (ah rfl) rfl ?_
 refine ae.nil ?_
 refine ay.block ?_
 have H40:=H0.BL
 refine mH.start (B:=B0) (α:=(List Int) × (List eu) × Int × (List Tree) × AV × Int) (fun k a=>bY prow a3 k a.1 a.2.1 a.2.2.1 a.2.2.2.1 a.2.2.2.2.2=some r) (fun a=>[(0,(.ptr b1 0 0)),(5,a.2.2.2.2.1),(8,(.d (.sl ((a3).map aD) false))),(9,(.d (.int .i64 ((a3).length:Int)))),(10,(.d (.int .i64 a.2.2.2.2.2)))]) (fun a=>[.box b1 [(.d (.sl ((a.1).map (D.int .i64)) false)),(.d (.sl ((a.2.1).map aH) false)),(.d (.int .i64 a.2.2.1))],.grow a.2.2.2.2.1 ((a.2.2.2.1).map ax)]) ?_ ?_ n ⟨⟨a2.state,a2.params,a2.steps,[],(.d .aT),0⟩,_,_,S0,.refl _ _,.refl _,(aa.r rfl (aa.r rfl (aa.r rfl (aa.r rfl (aa.r rfl aa.nil))))),H40.sl [1,0] rfl rfl,h⟩
 ·
  intro a h; simp [bY] at h
 intro k22 a S14 H15 h
 obtain ⟨x16,x17,x18,x19,v20,x21⟩:=a
 replace h:bY prow a3 (k22 + 1) x16 x17 x18 x19 x21=some r:=h
 replace H15:Has B0 S14 [.box b1 [(.d (.sl ((x16).map (D.int .i64)) false)),(.d (.sl ((x17).map aH) false)),(.d (.int .i64 x18))],.grow v20 ((x19).map ax)]:=H15
 unfold bY at h
 refine ay.seq ?_
 refine ay.region E.obj rfl ?_
 refine ae.val rfl (av rfl rfl dF) rfl ?_
 refine ae.nil ?_
 refine ay.seq ?_
 refine ay.cond rfl (fun hb23=>?_) (fun hb23=>?_)
 ·
  replace h:=di hb23 h
  refine ay.skip ?_
  refine ay.seq ?_
  refine ay.block ?_
  refine ay.seq ?_
  refine ay.region E.obj rfl ?_
  obtain ⟨z24,hzz24,h⟩:=bind_some h
  refine ae.val rfl (bR rfl rfl (df (enc:=aD) hzz24 nO oI ((aQ.len _).trans dP.symm))) rfl ?_
  refine ae.val rfl (aX rfl (aQ.iy fU dP)) rfl ?_
  refine ae.alloc H15 rfl uJ iF rfl rfl (fun b25 S26 H27=>?_)
  refine ae.store H27 (i:=0) rfl rfl rfl rfl (aQ.bJ _) rfl dP rfl oI rfl rfl rfl (fun S28 H29=>?_)
  refine ae.nil ?_
  refine ay.region E.obj rfl ?_
  refine ae.val rfl (ah rfl) rfl ?_
  refine ae.val rfl (ah rfl) rfl ?_
  refine ae.val rfl (au H29 (i:=0) rfl rfl (aV fU dP rfl)) rfl ?_
  refine ae.less (Less.agg' (d:=aD z24) (ai.eq rfl (ai.eq rfl (ai.eq rfl (ai.eq rfl (ai.eq rfl (ai.eq rfl .nil)))))) ((aQ.eq _).trans rfl)) ?_
  obtain ⟨z30,hzz30,h⟩:=bind_some h
  rcases z30 with _ | x31
  ·
   replace h:=mF h
   subst h
   refine ae.thrown (ins:=[.box b1 [(.d (.sl ((x16).map (D.int .i64)) false)),(.d (.sl ((x17).map aH) false)),(.d (.int .i64 x18))]]) (more:=[.box b25 [(.d (.int .i64 z24.Kind)),(.d (.int .i64 z24.N)),(.d (.str z24.Tag)),(.d (.str z24.Text)),(.d (.sl ((z24.aI).map aA) false)),(.d (.sl ((z24.Kids).map aD) false))],.grow v20 ((x19).map ax)]) rfl (H29.sl [1,0,2] rfl rfl) rfl (aB rfl rfl) (hprow _ _ _ hzz30 b1) (.cons (.refl _) (.cons (.refl _) .nil)) (fun _ _ S32 H33=>?_)
   exact ⟨_,_,rfl,H33.weaken (List.nil_sublist _)⟩
  replace h:=mE h
  refine ae.mG (ins:=[.box b1 [(.d (.sl ((x16).map (D.int .i64)) false)),(.d (.sl ((x17).map aH) false)),(.d (.int .i64 x18))]]) (more:=[.box b25 [(.d (.int .i64 z24.Kind)),(.d (.int .i64 z24.N)),(.d (.str z24.Tag)),(.d (.str z24.Text)),(.d (.sl ((z24.aI).map aA) false)),(.d (.sl ((z24.Kids).map aD) false))],.grow v20 ((x19).map ax)]) (H29.sl [1,0,2] rfl rfl) rfl (aB rfl rfl) (hprow _ _ _ hzz30 b1) (.cons (.refl _) (.cons (.refl _) .nil)) rfl ?_
  rintro _ S34 _ ⟨rfl,rfl⟩ H35
  replace H35:Has B0 S34 [.box b1 [(.d (.sl ((x31.2.state).map (D.int .i64)) false)),(.d (.sl ((x31.2.params).map aH) false)),(.d (.int .i64 x31.2.steps))],.box b25 [(.d (.int .i64 z24.Kind)),(.d (.int .i64 z24.N)),(.d (.str z24.Tag)),(.d (.str z24.Text)),(.d (.sl ((z24.aI).map aA) false)),(.d (.sl ((z24.Kids).map aD) false))],.grow v20 ((x19).map ax)]:=H35
  obtain ⟨z36,hzz36,h⟩:=bind_some h
  refine ae.append (xs:=(x19).map ax) (ys:=(x31.1).map ax) (zs:=(z36).map ax) H35 rfl rfl rfl (i:=2) rfl rfl uz Ef kD (fe hzz36) Eb rfl (bP (enc:=ax) (fun z=>(Tree.len z).trans dL.symm) _) (bP (enc:=ax) (fun z=>(Tree.len z).trans dL.symm) _) Er rfl (ji hzz36) (fun v37 S38 H39=>?_)
  refine ae.val rfl (aj rfl) rfl ?_
  refine ae.nil ?_
  refine ay.region E.obj rfl ?_
  refine ae.val rfl (av rfl rfl cu) rfl ?_
  refine ae.val rfl (ah rfl) rfl ?_
  refine ae.nil ?_
  exact ⟨⟨x31.2.state,x31.2.params,x31.2.steps,z36,v37,(IntKind.wrap .i64 (x21 + 1))⟩,_,_,S38,.refl _ _,.refl _,(aa.r rfl (aa.r rfl (aa.r rfl (aa.r rfl (aa.r rfl aa.nil))))),H39.sl [0,2] rfl rfl,h⟩
 replace h:=dm hb23 h
 refine ay.exit ?_
 refine ay.seq ?_
 refine ay.region E.obj rfl ?_
 refine ae.val rfl (ah rfl) rfl ?_
 refine ae.val rfl (aj rfl) rfl ?_
 refine ae.nil ?_
 have hr:=Option.some.inj h
 subst hr
 exact ay.ret ⟨_,rfl,rfl,_,_,_,.refl _,(Db H15 (i:=1) rfl),⟨rfl,rfl⟩,H15.sl [0] rfl rfl⟩
set_option maxRecDepth 20000 in
set_option maxHeartbeats 4000000 in
theorem dW (n:Nat) (a2:aC) (a3:Int) (r:(Option Int)) (h:eT n a2 a3=some r) (b1:Nat):gz R cfg.P 70 56 [.ptr b1 0 0,.d (.int .i64 a3)] [.box b1 [(.d (.sl ((a2.state).map (D.int .i64)) false)),(.d (.sl ((a2.params).map aH) false)),(.d (.int .i64 a2.steps))]] r (fun r v l=>v=.d (.int .i64 r)∧l=[.box b1 [.d (.sl ((a2.state).map (D.int .i64)) false),.d (.sl ((a2.params).map aH) false),.d (.int .i64 a2.steps)]]):=by
 unfold eT at h
 refine gz.of_wp (C:=cfg) Tryd.func56 rfl E5 rfl (fun B0 S0 H0=>?_)
 replace H0:Has B0 S0 [.box b1 [(.d (.sl ((a2.state).map (D.int .i64)) false)),(.d (.sl ((a2.params).map aH) false)),(.d (.int .i64 a2.steps))]]:=H0
 refine ay.seq ?_
 refine ay.region E.obj rfl ?_
 refine ae.val rfl (aj rfl) rfl ?_
 refine ae.nil ?_
 refine ay.seq ?_
 refine ay.region E.obj rfl ?_
 refine ae.val rfl (ah rfl) rfl ?_
 refine ae.val rfl (av rfl rfl pI) rfl ?_
 refine ae.val rfl (ah rfl) rfl ?_
 refine ae.bG 8 15 (.d (.bool ((decide (0 ≤ a3)) && (decide (a3 < ((a2.state).length:Int)))))) ?_ ?_
 ·
  rcases Bool.eq_false_or_eq_true ((decide (0 ≤ a3))) with hB4 | hB4
  ·
   refine ae.bool hB4 ?_
   refine ae.val rfl (ah rfl) rfl ?_
   refine ae.val rfl (ah rfl) rfl ?_
   refine ae.val rfl (dZ rfl) rfl ?_
   refine ae.val rfl (ak rfl Ck wK rfl) rfl ?_
   refine ae.val rfl (au H0 (i:=0) rfl rfl (aF vV rfl)) rfl ?_
   refine ae.val rfl (bq rfl Ci) rfl ?_
   refine ae.val rfl (av rfl rfl dF) rfl ?_
   refine ae.val rfl (az (b:=true) rfl rfl) rfl ?_
   exact ae.nil ⟨_,rfl,(aa.put (aa.push rfl (aa.push rfl (aa.push rfl (aa.push rfl (aa.push rfl (aa.push rfl (aa.push rfl (aa.put (.refl _) (Less.eq (by rw [hB4])))))))))) (Less.eq (by rw [hB4]; rw [Bool.true_and])))⟩
  refine ae.bool hB4 ?_
  refine ae.no rfl rfl ?_
  refine ae.no rfl rfl ?_
  refine ae.no rfl rfl ?_
  refine ae.no rfl rfl ?_
  refine ae.no rfl rfl ?_
  refine ae.no rfl rfl ?_
  refine ae.no rfl rfl ?_
  refine ae.val rfl (az (b:=false) rfl rfl) rfl ?_
  exact ae.nil ⟨_,rfl,(aa.put (aa.push rfl (aa.push rfl (aa.push rfl (aa.push rfl (aa.push rfl (aa.push rfl (aa.push rfl (aa.put (.refl _) (Less.eq (by rw [hB4])))))))))) (Less.eq (by rw [hB4]; rw [Bool.false_and])))⟩
 refine ae.val rfl (ah rfl) rfl ?_
 obtain ⟨z5,hzz5,h⟩:=bind_some h
 rcases z5 with _ | x6
 ·
  replace h:=mF h
  subst h
  refine ae.thrown (ins:=[]) (more:=[.box b1 [(.d (.sl ((a2.state).map (D.int .i64)) false)),(.d (.sl ((a2.params).map aH) false)),(.d (.int .i64 a2.steps))]]) rfl (H0.sl [0] rfl rfl) rfl (aB rfl rfl) (dH E n _ _ _ _ hzz5 ) (.cons (.refl _) (.cons (.refl _) (.cons (.refl _) .nil))) (fun _ _ S7 H8=>?_)
  exact ⟨_,_,rfl,H8.weaken (List.nil_sublist _)⟩
 replace h:=mE h
 refine ae.mG (ins:=[]) (more:=[.box b1 [(.d (.sl ((a2.state).map (D.int .i64)) false)),(.d (.sl ((a2.params).map aH) false)),(.d (.int .i64 a2.steps))]]) (H0.sl [0] rfl rfl) rfl (aB rfl rfl) (dH E n _ _ _ _ hzz5 ) (.cons (.refl _) (.cons (.refl _) (.cons (.refl _) .nil))) rfl ?_
 rintro _ S9 _ ⟨rfl,rfl⟩ H10
 replace H10:Has B0 S9 [.box b1 [(.d (.sl ((a2.state).map (D.int .i64)) false)),(.d (.sl ((a2.params).map aH) false)),(.d (.int .i64 a2.steps))]]:=H10
 refine ae.nil ?_
 refine ay.seq ?_
 refine ay.region E.obj rfl ?_
 refine ae.val rfl (ah rfl) rfl ?_
 refine ae.val rfl (dZ rfl) rfl ?_
 refine ae.val rfl (ak rfl Ck wK rfl) rfl ?_
 refine ae.val rfl (au H10 (i:=0) rfl rfl (aF vV rfl)) rfl ?_
 refine ae.val rfl (ah rfl) rfl ?_
 obtain ⟨z11,hzz11,h⟩:=bind_some h
 refine ae.val rfl (bR rfl rfl (df (enc:=(D.int .i64)) hzz11 jw D5 (((fun _=>rfl) _).trans oK.symm))) rfl ?_
 refine ae.val rfl (aX rfl (eO kC rfl)) rfl ?_
 refine ae.val rfl (aj rfl) rfl ?_
 refine ae.nil ?_
 have hr:=Option.some.inj h
 subst hr
 exact ay.ret ⟨_,rfl,rfl,_,_,_,.refl _,(.refl _),⟨rfl,rfl⟩,H10.sl [0] rfl rfl⟩
set_option maxRecDepth 20000 in
set_option maxHeartbeats 4000000 in
theorem kQ (n:Nat) (a2:aC) (a3:Str) (r:(Option Str)) (h:gJ n a2 a3=some r) (b1:Nat):gz R cfg.P 70 57 [.ptr b1 0 0,.d (.str a3)] [.box b1 [(.d (.sl ((a2.state).map (D.int .i64)) false)),(.d (.sl ((a2.params).map aH) false)),(.d (.int .i64 a2.steps))]] r (fun r v l=>v=.d (.str r)∧l=[.box b1 [.d (.sl ((a2.state).map (D.int .i64)) false),.d (.sl ((a2.params).map aH) false),.d (.int .i64 a2.steps)]]):=by
 unfold gJ at h
 refine gz.of_wp (C:=cfg) Tryd.func57 rfl Fy rfl (fun B0 S0 H0=>?_)
 replace H0:Has B0 S0 [.box b1 [(.d (.sl ((a2.state).map (D.int .i64)) false)),(.d (.sl ((a2.params).map aH) false)),(.d (.int .i64 a2.steps))]]:=H0
 refine ay.seq ?_
 refine ay.region E.obj rfl ?_
 refine ae.val rfl (aj rfl) rfl ?_
 refine ae.nil ?_
 refine ay.seq ?_
 refine ay.seq ?_
 refine ay.region E.obj rfl ?_
 refine ae.val rfl (ah rfl) rfl ?_
 refine ae.val rfl (dZ rfl) rfl ?_
 refine ae.val rfl (ak rfl DK EP rfl) rfl ?_
 refine ae.val rfl (au H0 (i:=0) rfl rfl (aF F6 rfl)) rfl ?_
 refine ae.val rfl (bq rfl Es) rfl ?_
 refine ae.val rfl (ah rfl) rfl ?_
 refine ae.nil ?_
 refine ay.block ?_
 refine mH.start (B:=B0) (α:=Int) (fun k a=>cB n a2 a3 k a=some r) (fun a=>[(1,(.d (.str a3))),(10,(.d (.sl ((a2.params).map aH) false))),(11,(.d (.int .i64 ((a2.params).length:Int)))),(12,(.d (.int .i64 a)))]) (fun a=>[.box b1 [(.d (.sl ((a2.state).map (D.int .i64)) false)),(.d (.sl ((a2.params).map aH) false)),(.d (.int .i64 a2.steps))]]) ?_ ?_ n ⟨0,_,_,S0,.refl _ _,.refl _,(aa.r rfl (aa.r rfl (aa.r rfl (aa.r rfl aa.nil)))),H0.sl [0] rfl rfl,h⟩
 ·
  intro a h; simp [cB] at h
 intro k12 x11 S9 H10 h
 replace h:cB n a2 a3 (k12 + 1) x11=some r:=h
 replace H10:Has B0 S9 [.box b1 [(.d (.sl ((a2.state).map (D.int .i64)) false)),(.d (.sl ((a2.params).map aH) false)),(.d (.int .i64 a2.steps))]]:=H10
 unfold cB at h
 refine ay.seq ?_
 refine ay.region E.obj rfl ?_
 refine ae.val rfl (av rfl rfl dF) rfl ?_
 refine ae.nil ?_
 refine ay.seq ?_
 refine ay.cond rfl (fun hb13=>?_) (fun hb13=>?_)
 ·
  replace h:=di hb13 h
  refine ay.skip ?_
  refine ay.seq ?_
  refine ay.block ?_
  refine ay.seq ?_
  refine ay.region E.obj rfl ?_
  obtain ⟨z14,hzz14,h⟩:=bind_some h
  refine ae.val rfl (bR rfl rfl (df (enc:=aH) hzz14 Ez C8 ((eu.len _).trans zF.symm))) rfl ?_
  refine ae.val rfl (aX rfl (eu.iy D9 zF)) rfl ?_
  refine ae.alloc H10 rfl Et Eu rfl rfl (fun b15 S16 H17=>?_)
  refine ae.store H17 (i:=0) rfl rfl rfl rfl (eu.bJ _) rfl zF rfl C8 rfl rfl rfl (fun S18 H19=>?_)
  refine ae.nil ?_
  refine ay.seq ?_
  refine ay.region E.obj rfl ?_
  refine ae.val rfl (ak rfl CB mD rfl) rfl ?_
  refine ae.val rfl (au H19 (i:=0) rfl rfl (aF lM rfl)) rfl ?_
  refine ae.val rfl (ah rfl) rfl ?_
  refine ae.val rfl (av rfl rfl gY) rfl ?_
  refine ae.nil ?_
  refine ay.cond rfl (fun hb20=>?_) (fun hb20=>?_)
  ·
   replace h:=di hb20 h
   refine ay.seq ?_
   refine ay.region E.obj rfl ?_
   refine ae.val rfl (ak rfl CO mD rfl) rfl ?_
   refine ae.val rfl (au H19 (i:=0) rfl rfl (aF lM rfl)) rfl ?_
   refine ae.val rfl (aj rfl) rfl ?_
   refine ae.nil ?_
   have hr:=Option.some.inj h
   subst hr
   exact ay.ret ⟨_,rfl,rfl,_,_,_,.refl _,(.refl _),⟨rfl,rfl⟩,H19.sl [1] rfl rfl⟩
  replace h:=dm hb20 h
  refine ay.skip ?_
  refine ay.region E.obj rfl ?_
  refine ae.val rfl (av rfl rfl cu) rfl ?_
  refine ae.val rfl (ah rfl) rfl ?_
  refine ae.nil ?_
  exact ⟨(IntKind.wrap .i64 (x11 + 1)),_,_,S18,.refl _ _,.refl _,(aa.r rfl (aa.r rfl (aa.r rfl (aa.r rfl aa.nil)))),H19.sl [1] rfl rfl,h⟩
 replace h:=dm hb13 h
 refine ay.exit ?_
 refine ay.seq ?_
 refine ay.region E.obj rfl ?_
 refine ae.val rfl (ah rfl) rfl ?_
 obtain ⟨z21,hzz21,h⟩:=bind_some h
 rcases z21 with _ | x22
 ·
  replace h:=mF h
  subst h
  refine ae.thrown (ins:=[]) (more:=[.box b1 [(.d (.sl ((a2.state).map (D.int .i64)) false)),(.d (.sl ((a2.params).map aH) false)),(.d (.int .i64 a2.steps))]]) rfl (H10.sl [0] rfl rfl) rfl (aB rfl rfl) (dH E n _ _ _ _ hzz21 ) (.cons (.refl _) (.cons (.refl _) (.cons (.refl _) .nil))) (fun _ _ S23 H24=>?_)
  exact ⟨_,_,rfl,H24.weaken (List.nil_sublist _)⟩
 replace h:=mE h
 refine ae.mG (ins:=[]) (more:=[.box b1 [(.d (.sl ((a2.state).map (D.int .i64)) false)),(.d (.sl ((a2.params).map aH) false)),(.d (.int .i64 a2.steps))]]) (H10.sl [0] rfl rfl) rfl (aB rfl rfl) (dH E n _ _ _ _ hzz21 ) (.cons (.refl _) (.cons (.refl _) (.cons (.refl _) .nil))) rfl ?_
 rintro _ S25 _ ⟨rfl,rfl⟩ H26
 replace H26:Has B0 S25 [.box b1 [(.d (.sl ((a2.state).map (D.int .i64)) false)),(.d (.sl ((a2.params).map aH) false)),(.d (.int .i64 a2.steps))]]:=H26
 refine ae.nil ?_
 refine ay.seq ?_
 refine ay.region E.obj rfl ?_
 refine ae.val rfl (aj rfl) rfl ?_
 refine ae.nil ?_
 have hr:=Option.some.inj h
 subst hr
 exact ay.ret ⟨_,rfl,rfl,_,_,_,.refl _,(.refl _),⟨rfl,rfl⟩,H26.sl [0] rfl rfl⟩
set_option maxRecDepth 20000 in
set_option maxHeartbeats 4000000 in
theorem lK (prow:aC→aQ→Option (Option ((List Tree) × aC))) (hprow:∀ (x0:aC) (x1:aQ) (r:Option ((List Tree) × aC)),prow x0 x1=some r→∀ (b:Nat),gz R cfg.P 70 31 [.ptr b 0 0,.d (aD x1)] [.box b [.d (.sl ((x0.state).map (D.int .i64)) false),.d (.sl ((x0.params).map aH) false),.d (.int .i64 x0.steps)]] r (fun r v l=>v=.d (.sl ((r.1).map ax) false)∧l=[.box b [.d (.sl ((r.2.state).map (D.int .i64)) false),.d (.sl ((r.2.params).map aH) false),.d (.int .i64 r.2.steps)]])) (n:Nat) (a2:aC) (a3:aQ) (r:(Option ((List Tree) × aC))) (h:ic prow n a2 a3=some r) (b1:Nat):gz R cfg.P 70 58 [.ptr b1 0 0,.d (aD a3)] [.box b1 [(.d (.sl ((a2.state).map (D.int .i64)) false)),(.d (.sl ((a2.params).map aH) false)),(.d (.int .i64 a2.steps))]] r (fun r v l=>v=.d (.sl ((r.1).map ax) false)∧l=[.box b1 [.d (.sl ((r.2.state).map (D.int .i64)) false),.d (.sl ((r.2.params).map aH) false),.d (.int .i64 r.2.steps)]]):=by
 unfold ic at h
 refine gz.of_wp (C:=cfg) Tryd.func58 rfl Fw rfl (fun B0 S0 H0=>?_)
 replace H0:Has B0 S0 [.box b1 [(.d (.sl ((a2.state).map (D.int .i64)) false)),(.d (.sl ((a2.params).map aH) false)),(.d (.int .i64 a2.steps))]]:=H0
 refine ay.seq ?_
 refine ay.region E.obj rfl ?_
 refine ae.box H0 rfl rfl rfl (aQ.bJ _) rfl (fun b4 S5 H6=>?_)
 refine ae.val rfl (aj rfl) rfl ?_
 refine ae.nil ?_
 refine ay.seq ?_
 refine ay.region E.obj rfl ?_
 refine ae.val rfl (ah rfl) rfl ?_
 refine ae.val rfl (ak rfl si qb rfl) rfl ?_
 refine ae.val rfl (au H6 (i:=0) rfl rfl (aF kC rfl)) rfl ?_
 obtain ⟨z7,hzz7,h⟩:=bind_some h
 rcases z7 with _ | x8
 ·
  replace h:=mF h
  subst h
  refine ae.thrown (ins:=[.box b1 [(.d (.sl ((a2.state).map (D.int .i64)) false)),(.d (.sl ((a2.params).map aH) false)),(.d (.int .i64 a2.steps))]]) (more:=[.box b4 [(.d (.int .i64 a3.Kind)),(.d (.int .i64 a3.N)),(.d (.str a3.Tag)),(.d (.str a3.Text)),(.d (.sl ((a3.aI).map aA) false)),(.d (.sl ((a3.Kids).map aD) false))]]) rfl (H6.sl [1,0] rfl rfl) rfl (aB rfl rfl) (dW E n _ _ _ hzz7 b1) (.cons (.refl _) (.cons (.refl _) .nil)) (fun _ _ S9 H10=>?_)
  exact ⟨_,_,rfl,H10.weaken (List.nil_sublist _)⟩
 replace h:=mE h
 refine ae.mG (ins:=[.box b1 [(.d (.sl ((a2.state).map (D.int .i64)) false)),(.d (.sl ((a2.params).map aH) false)),(.d (.int .i64 a2.steps))]]) (more:=[.box b4 [(.d (.int .i64 a3.Kind)),(.d (.int .i64 a3.N)),(.d (.str a3.Tag)),(.d (.str a3.Text)),(.d (.sl ((a3.aI).map aA) false)),(.d (.sl ((a3.Kids).map aD) false))]]) (H6.sl [1,0] rfl rfl) rfl (aB rfl rfl) (dW E n _ _ _ hzz7 b1) (.cons (.refl _) (.cons (.refl _) .nil)) rfl ?_
 rintro _ S11 _ ⟨rfl,rfl⟩ H12
 replace H12:Has B0 S11 [.box b1 [(.d (.sl ((a2.state).map (D.int .i64)) false)),(.d (.sl ((a2.params).map aH) false)),(.d (.int .i64 a2.steps))],.box b4 [(.d (.int .i64 a3.Kind)),(.d (.int .i64 a3.N)),(.d (.str a3.Tag)),(.d (.str a3.Text)),(.d (.sl ((a3.aI).map aA) false)),(.d (.sl ((a3.Kids).map aD) false))]]:=H12
 refine ae.val rfl (aj rfl) rfl ?_
 refine ae.nil ?_
 refine ay.seq ?_
 refine ay.region E.obj rfl ?_
 refine ae.val rfl (ah rfl) rfl ?_
 refine ae.val rfl (av rfl rfl jG) rfl ?_
 refine ae.val rfl (ah rfl) rfl ?_
 obtain ⟨z13,hzz13,h⟩:=bind_some h
 rcases z13 with _ | x14
 ·
  replace h:=mF h
  subst h
  refine ae.thrown (ins:=[]) (more:=[.box b1 [(.d (.sl ((a2.state).map (D.int .i64)) false)),(.d (.sl ((a2.params).map aH) false)),(.d (.int .i64 a2.steps))],.box b4 [(.d (.int .i64 a3.Kind)),(.d (.int .i64 a3.N)),(.d (.str a3.Tag)),(.d (.str a3.Text)),(.d (.sl ((a3.aI).map aA) false)),(.d (.sl ((a3.Kids).map aD) false))]]) rfl (H12.sl [0,1] rfl rfl) rfl (aB rfl rfl) (dH E n _ _ _ _ hzz13 ) (.cons (.refl _) (.cons (.refl _) (.cons (.refl _) .nil))) (fun _ _ S15 H16=>?_)
  exact ⟨_,_,rfl,H16.weaken (List.nil_sublist _)⟩
 replace h:=mE h
 refine ae.mG (ins:=[]) (more:=[.box b1 [(.d (.sl ((a2.state).map (D.int .i64)) false)),(.d (.sl ((a2.params).map aH) false)),(.d (.int .i64 a2.steps))],.box b4 [(.d (.int .i64 a3.Kind)),(.d (.int .i64 a3.N)),(.d (.str a3.Tag)),(.d (.str a3.Text)),(.d (.sl ((a3.aI).map aA) false)),(.d (.sl ((a3.Kids).map aD) false))]]) (H12.sl [0,1] rfl rfl) rfl (aB rfl rfl) (dH E n _ _ _ _ hzz13 ) (.cons (.refl _) (.cons (.refl _) (.cons (.refl _) .nil))) rfl ?_
 rintro _ S17 _ ⟨rfl,rfl⟩ H18
 replace H18:Has B0 S17 [.box b1 [(.d (.sl ((a2.state).map (D.int .i64)) false)),(.d (.sl ((a2.params).map aH) false)),(.d (.int .i64 a2.steps))],.box b4 [(.d (.int .i64 a3.Kind)),(.d (.int .i64 a3.N)),(.d (.str a3.Tag)),(.d (.str a3.Text)),(.d (.sl ((a3.aI).map aA) false)),(.d (.sl ((a3.Kids).map aD) false))]]:=H18
 refine ae.nil ?_
 refine ay.seq ?_
 refine ay.region E.obj rfl ?_
 refine ae.val rfl (aj rfl) rfl ?_
 refine ae.nil ?_
 refine ay.seq ?_
 refine ay.seq ?_
 refine ay.region E.obj rfl ?_
 refine ae.val rfl (ah rfl) rfl ?_
 refine ae.val rfl (ui rfl rfl) rfl ?_
 refine ae.val rfl (ah rfl) rfl ?_
 refine ae.nil ?_
 refine ay.block ?_
 have H77:=H18.BL
 refine mH.start (B:=B0) (α:=(List Int) × (List eu) × Int × (List Tree) × AV × Int) (fun k a=>aZ n prow a3 x8 k a.1 a.2.1 a.2.2.1 a.2.2.2.1 a.2.2.2.2.2=some r) (fun a=>[(0,(.ptr b1 0 0)),(3,(.ptr b4 0 0)),(6,a.2.2.2.2.1),(19,(.d (.int .i64 (mO x8 0)))),(20,(.d (.int .i64 a.2.2.2.2.2)))]) (fun a=>[.box b1 [(.d (.sl ((a.1).map (D.int .i64)) false)),(.d (.sl ((a.2.1).map aH) false)),(.d (.int .i64 a.2.2.1))],.box b4 [(.d (.int .i64 a3.Kind)),(.d (.int .i64 a3.N)),(.d (.str a3.Tag)),(.d (.str a3.Text)),(.d (.sl ((a3.aI).map aA) false)),(.d (.sl ((a3.Kids).map aD) false))],.grow a.2.2.2.2.1 ((a.2.2.2.1).map ax)]) ?_ ?_ n ⟨⟨a2.state,a2.params,a2.steps,[],(.d .aT),0⟩,_,_,S17,.refl _ _,.refl _,(aa.r rfl (aa.r rfl (aa.r rfl (aa.r rfl (aa.r rfl aa.nil))))),H77.sl [1,2,0] rfl rfl,h⟩
 ·
  intro a h; simp [aZ] at h
 intro k37 a S29 H30 h
 obtain ⟨x31,x32,x33,x34,v35,x36⟩:=a
 replace h:aZ n prow a3 x8 (k37 + 1) x31 x32 x33 x34 x36=some r:=h
 replace H30:Has B0 S29 [.box b1 [(.d (.sl ((x31).map (D.int .i64)) false)),(.d (.sl ((x32).map aH) false)),(.d (.int .i64 x33))],.box b4 [(.d (.int .i64 a3.Kind)),(.d (.int .i64 a3.N)),(.d (.str a3.Tag)),(.d (.str a3.Text)),(.d (.sl ((a3.aI).map aA) false)),(.d (.sl ((a3.Kids).map aD) false))],.grow v35 ((x34).map ax)]:=H30
 unfold aZ at h
 refine ay.seq ?_
 refine ay.region E.obj rfl ?_
 refine ae.val rfl (av rfl rfl dF) rfl ?_
 refine ae.nil ?_
 refine ay.seq ?_
 refine ay.cond rfl (fun hb38=>?_) (fun hb38=>?_)
 ·
  replace h:=di hb38 h
  refine ay.skip ?_
  refine ay.seq ?_
  refine ay.block ?_
  refine ay.seq ?_
  refine ay.region E.obj rfl ?_
  refine ae.val rfl (ah rfl) rfl ?_
  refine ae.val rfl (aj rfl) rfl ?_
  refine ae.nil ?_
  refine ay.seq ?_
  refine ay.region E.obj rfl ?_
  refine ae.val rfl (ah rfl) rfl ?_
  refine ae.val rfl (ak rfl jX sO rfl) rfl ?_
  refine ae.val rfl (au H30 (i:=1) rfl rfl (aF uI rfl)) rfl ?_
  obtain ⟨z39,hzz39,h⟩:=bind_some h
  rcases z39 with _ | x40
  ·
   replace h:=mF h
   subst h
   refine ae.thrown (ins:=[.box b1 [(.d (.sl ((x31).map (D.int .i64)) false)),(.d (.sl ((x32).map aH) false)),(.d (.int .i64 x33))]]) (more:=[.box b4 [(.d (.int .i64 a3.Kind)),(.d (.int .i64 a3.N)),(.d (.str a3.Tag)),(.d (.str a3.Text)),(.d (.sl ((a3.aI).map aA) false)),(.d (.sl ((a3.Kids).map aD) false))],.grow v35 ((x34).map ax)]) rfl (H30.sl [0,1,2] rfl rfl) rfl (aB rfl rfl) (fq E prow hprow n _ _ _ hzz39 b1) (.cons (.refl _) (.cons (.refl _) .nil)) (fun _ _ S41 H42=>?_)
   exact ⟨_,_,rfl,H42.weaken (List.nil_sublist _)⟩
  replace h:=mE h
  refine ae.mG (ins:=[.box b1 [(.d (.sl ((x31).map (D.int .i64)) false)),(.d (.sl ((x32).map aH) false)),(.d (.int .i64 x33))]]) (more:=[.box b4 [(.d (.int .i64 a3.Kind)),(.d (.int .i64 a3.N)),(.d (.str a3.Tag)),(.d (.str a3.Text)),(.d (.sl ((a3.aI).map aA) false)),(.d (.sl ((a3.Kids).map aD) false))],.grow v35 ((x34).map ax)]) (H30.sl [0,1,2] rfl rfl) rfl (aB rfl rfl) (fq E prow hprow n _ _ _ hzz39 b1) (.cons (.refl _) (.cons (.refl _) .nil)) rfl ?_
  rintro _ S43 _ ⟨rfl,rfl⟩ H44
  replace H44:Has B0 S43 [.box b1 [(.d (.sl ((x40.2.state).map (D.int .i64)) false)),(.d (.sl ((x40.2.params).map aH) false)),(.d (.int .i64 x40.2.steps))],.box b4 [(.d (.int .i64 a3.Kind)),(.d (.int .i64 a3.N)),(.d (.str a3.Tag)),(.d (.str a3.Text)),(.d (.sl ((a3.aI).map aA) false)),(.d (.sl ((a3.Kids).map aD) false))],.grow v35 ((x34).map ax)]:=H44
  refine ae.val rfl (bq rfl rF) rfl ?_
  refine ae.val rfl (ah rfl) rfl ?_
  refine ae.nil ?_
  refine ay.block ?_
  refine mH.start (B:=B0) (α:=(List Tree) × AV × Int) (fun k a=>bF n x36 (aZ n prow a3 x8 k37) x40 k a.1 a.2.2=some r) (fun a=>[(0,(.ptr b1 0 0)),(3,(.ptr b4 0 0)),(6,a.2.1),(7,(.d (.int .i64 x36))),(19,(.d (.int .i64 (mO x8 0)))),(20,(.d (.int .i64 x36))),(26,(.d (.sl ((x40.1).map ax) false))),(27,(.d (.int .i64 ((x40.1).length:Int)))),(28,(.d (.int .i64 a.2.2)))]) (fun a=>[.box b1 [(.d (.sl ((x40.2.state).map (D.int .i64)) false)),(.d (.sl ((x40.2.params).map aH) false)),(.d (.int .i64 x40.2.steps))],.box b4 [(.d (.int .i64 a3.Kind)),(.d (.int .i64 a3.N)),(.d (.str a3.Tag)),(.d (.str a3.Text)),(.d (.sl ((a3.aI).map aA) false)),(.d (.sl ((a3.Kids).map aD) false))],.grow a.2.1 ((a.1).map ax)]) ?_ ?_ n ⟨⟨x34,v35,0⟩,_,_,S43,.refl _ _,.refl _,(aa.r rfl (aa.r rfl (aa.r rfl (aa.r rfl (aa.r rfl (aa.r rfl (aa.r rfl (aa.r rfl (aa.r rfl aa.nil))))))))),H44.sl [0,1,2] rfl rfl,h⟩
  ·
   intro a h; simp [bF] at h
  intro k57 a S52 H53 h
  obtain ⟨x54,v55,x56⟩:=a
  replace h:bF n x36 (aZ n prow a3 x8 k37) x40 (k57 + 1) x54 x56=some r:=h
  replace H53:Has B0 S52 [.box b1 [(.d (.sl ((x40.2.state).map (D.int .i64)) false)),(.d (.sl ((x40.2.params).map aH) false)),(.d (.int .i64 x40.2.steps))],.box b4 [(.d (.int .i64 a3.Kind)),(.d (.int .i64 a3.N)),(.d (.str a3.Tag)),(.d (.str a3.Text)),(.d (.sl ((a3.aI).map aA) false)),(.d (.sl ((a3.Kids).map aD) false))],.grow v55 ((x54).map ax)]:=H53
  unfold bF at h
  refine ay.seq ?_
  refine ay.region E.obj rfl ?_
  refine ae.val rfl (av rfl rfl dF) rfl ?_
  refine ae.nil ?_
  refine ay.seq ?_
  refine ay.cond rfl (fun hb58=>?_) (fun hb58=>?_)
  ·
   replace h:=di hb58 h
   refine ay.skip ?_
   refine ay.seq ?_
   refine ay.block ?_
   refine ay.seq ?_
   refine ay.region E.obj rfl ?_
   obtain ⟨z59,hzz59,h⟩:=bind_some h
   refine ae.val rfl (bR rfl rfl (df (enc:=ax) hzz59 kD iY ((Tree.len _).trans dL.symm))) rfl ?_
   refine ae.val rfl (aX rfl (Tree.iy il dL)) rfl ?_
   refine ae.alloc H53 rfl pE iw rfl rfl (fun b60 S61 H62=>?_)
   refine ae.store H62 (i:=0) rfl rfl rfl rfl (Tree.bJ _) rfl dL rfl iY rfl rfl rfl (fun S63 H64=>?_)
   refine ae.nil ?_
   refine ay.join (B:=B0) (α:=Str) (fun a=>dN x54 x56 (bF n x36 (aZ n prow a3 x8 k37) x40 k57) z59 a=some r) (fun a=>[(0,(.ptr b1 0 0)),(3,(.ptr b4 0 0)),(6,v55),(7,(.d (.int .i64 x36))),(9,(.ptr b60 0 0)),(19,(.d (.int .i64 (mO x8 0)))),(20,(.d (.int .i64 x36))),(26,(.d (.sl ((x40.1).map ax) false))),(27,(.d (.int .i64 ((x40.1).length:Int)))),(28,(.d (.int .i64 x56)))]) (fun a=>[.box b60 [(.d (.str z59.Tag)),(.d (.str a)),(.d (.str z59.Text)),(.d (.sl ((z59.aI).map aA) false)),(.d (.sl ((z59.Kids).map ax) false))],.box b1 [(.d (.sl ((x40.2.state).map (D.int .i64)) false)),(.d (.sl ((x40.2.params).map aH) false)),(.d (.int .i64 x40.2.steps))],.box b4 [(.d (.int .i64 a3.Kind)),(.d (.int .i64 a3.N)),(.d (.str a3.Tag)),(.d (.str a3.Text)),(.d (.sl ((a3.aI).map aA) false)),(.d (.sl ((a3.Kids).map aD) false))],.grow v55 ((x54).map ax)]) ?_ ?_
   ·
    intro x67 S65 H66 h
    replace h:dN x54 x56 (bF n x36 (aZ n prow a3 x8 k37) x40 k57) z59 x67=some r:=h
    replace H66:Has B0 S65 [.box b60 [(.d (.str z59.Tag)),(.d (.str x67)),(.d (.str z59.Text)),(.d (.sl ((z59.aI).map aA) false)),(.d (.sl ((z59.Kids).map ax) false))],.box b1 [(.d (.sl ((x40.2.state).map (D.int .i64)) false)),(.d (.sl ((x40.2.params).map aH) false)),(.d (.int .i64 x40.2.steps))],.box b4 [(.d (.int .i64 a3.Kind)),(.d (.int .i64 a3.N)),(.d (.str a3.Tag)),(.d (.str a3.Text)),(.d (.sl ((a3.aI).map aA) false)),(.d (.sl ((a3.Kids).map aD) false))],.grow v55 ((x54).map ax)]:=H66
    unfold dN at h
    refine ay.region E.obj rfl ?_
    refine ae.val rfl (ah rfl) rfl ?_
    refine ae.val rfl (au H66 (i:=0) rfl rfl (aV il dL rfl)) rfl ?_
    refine ae.less (Less.agg' (d:=ax (Tree.mk z59.Tag x67 z59.Text z59.aI z59.Kids)) (ai.eq rfl (ai.eq rfl (ai.eq rfl (ai.eq rfl (ai.eq rfl .nil))))) ((Tree.eq _).trans rfl)) ?_
    refine ae.val rfl (aM (vs:=[(.d (ax (Tree.mk z59.Tag x67 z59.Text z59.aI z59.Kids)))]) (ds:=[(ax (Tree.mk z59.Tag x67 z59.Text z59.aI z59.Kids))]) uz kD il iw dL rfl (by decide) (.cons rfl (Tree.len _) .nil) rfl (by intro d hd; simp only [List.mem_cons,List.not_mem_nil,or_false] at hd; rcases hd with rfl <;> exact Tree.agg _) rfl) rfl ?_
    obtain ⟨z69,hzz69,h⟩:=bind_some h
    refine ae.append (xs:=(x54).map ax) (ys:=([(Tree.mk z59.Tag x67 z59.Text z59.aI z59.Kids)]).map ax) (zs:=(z69).map ax) H66 rfl rfl rfl (i:=3) rfl rfl uz Ef kD (fe hzz69) Eb rfl (bP (enc:=ax) (fun z=>(Tree.len z).trans dL.symm) _) (bP (enc:=ax) (fun z=>(Tree.len z).trans dL.symm) _) Er rfl (ji hzz69) (fun v70 S71 H72=>?_)
    refine ae.val rfl (aj rfl) rfl ?_
    refine ae.nil ?_
    refine ay.region E.obj rfl ?_
    refine ae.val rfl (av rfl rfl cu) rfl ?_
    refine ae.val rfl (ah rfl) rfl ?_
    refine ae.nil ?_
    exact ⟨⟨z69,v70,(IntKind.wrap .i64 (x56 + 1))⟩,_,_,S71,.refl _ _,.refl _,(aa.r rfl (aa.r rfl (aa.r rfl (aa.r rfl (aa.r rfl (aa.r rfl (aa.r rfl (aa.r rfl (aa.r rfl aa.nil))))))))),H72.sl [1,2,3] rfl rfl,h⟩
   refine ay.seq ?_
   refine ay.region E.obj rfl ?_
   refine ae.val rfl (ak rfl lY mD rfl) rfl ?_
   refine ae.val rfl (au H64 (i:=0) rfl rfl (aF lM rfl)) rfl ?_
   refine ae.val rfl (av rfl rfl je) rfl ?_
   refine ae.nil ?_
   refine ay.cond rfl (fun hb73=>?_) (fun hb73=>?_)
   ·
    replace h:=di hb73 h
    refine ay.region E.obj rfl ?_
    refine ae.val rfl (ah rfl) rfl ?_
    obtain ⟨z74,hzz74,h⟩:=bind_some h
    refine ae.ret rfl (aB rfl rfl) (E.strconv_Itoa_ok _ _ _ hzz74 _ _ (aG.eq .nil)) rfl ?_
    refine ae.val rfl (ak rfl qj mD rfl) rfl ?_
    refine ae.store H64 (i:=0) rfl rfl rfl rfl rfl rfl Bp rfl Df rfl rfl rfl (fun S75 H76=>?_)
    refine ae.nil ?_
    exact ⟨z74,_,_,S75,.refl _ _,.refl _,(aa.r rfl (aa.r rfl (aa.r rfl (aa.r rfl (aa.r rfl (aa.r rfl (aa.r rfl (aa.r rfl (aa.r rfl (aa.r rfl aa.nil)))))))))),H76.sl [0,1,2,3] rfl rfl,h⟩
   replace h:=dm hb73 h
   refine ay.skip ?_
   exact ⟨z59.Key,_,_,S63,.refl _ _,.refl _,(aa.r rfl (aa.r rfl (aa.r rfl (aa.r rfl (aa.r rfl (aa.r rfl (aa.r rfl (aa.r rfl (aa.r rfl (aa.r rfl aa.nil)))))))))),H64.sl [0,1,2,3] rfl rfl,h⟩
  replace h:=dm hb58 h
  refine ay.exit ?_
  refine ay.region E.obj rfl ?_
  refine ae.val rfl (av rfl rfl cu) rfl ?_
  refine ae.val rfl (ah rfl) rfl ?_
  refine ae.nil ?_
  exact ⟨⟨x40.2.state,x40.2.params,x40.2.steps,x54,v55,(IntKind.wrap .i64 (x36 + 1))⟩,_,_,S52,.refl _ _,.refl _,(aa.r rfl (aa.r rfl (aa.r rfl (aa.r rfl (aa.r rfl aa.nil))))),H53.sl [0,1,2] rfl rfl,h⟩
 replace h:=dm hb38 h
 refine ay.exit ?_
 refine ay.seq ?_
 refine ay.region E.obj rfl ?_
 refine ae.val rfl (ah rfl) rfl ?_
 refine ae.val rfl (aj rfl) rfl ?_
 refine ae.nil ?_
 have hr:=Option.some.inj h
 subst hr
 exact ay.ret ⟨_,rfl,rfl,_,_,_,.refl _,(Db H30 (i:=2) rfl),⟨rfl,rfl⟩,H30.sl [0] rfl rfl⟩
set_option maxRecDepth 20000 in
set_option maxHeartbeats 4000000 in
theorem jM:∀ (n:Nat) (a2:aC) (a3:aQ) (r:(Option ((List Tree) × aC))),bM n a2 a3=some r→∀ (b1:Nat),gz R cfg.P 70 31 [.ptr b1 0 0,.d (aD a3)] [.box b1 [(.d (.sl ((a2.state).map (D.int .i64)) false)),(.d (.sl ((a2.params).map aH) false)),(.d (.int .i64 a2.steps))]] r (fun r v l=>v=.d (.sl ((r.1).map ax) false)∧l=[.box b1 [.d (.sl ((r.2.state).map (D.int .i64)) false),.d (.sl ((r.2.params).map aH) false),.d (.int .i64 r.2.steps)]])
 | 0,a2,a3,r,h,b1=>by simp [bM] at h
 | n + 1,a2,a3,r,h,b1=>by
  have ih:=jM n
  unfold bM at h
  refine gz.of_wp (C:=cfg) Tryd.func31 rfl E9 rfl (fun B0 S0 H0=>?_)
  replace H0:Has B0 S0 [.box b1 [(.d (.sl ((a2.state).map (D.int .i64)) false)),(.d (.sl ((a2.params).map aH) false)),(.d (.int .i64 a2.steps))]]:=H0
  refine ay.seq ?_
  refine ay.region E.obj rfl ?_
  refine ae.box H0 rfl rfl rfl (aQ.bJ _) rfl (fun b4 S5 H6=>?_)
  refine ae.val rfl (aj rfl) rfl ?_
  refine ae.nil ?_
  refine ay.seq ?_
  refine ay.region E.obj rfl ?_
  refine ae.val rfl (ah rfl) rfl ?_
  refine ae.val rfl (dZ rfl) rfl ?_
  refine ae.val rfl (ak rfl qd qb rfl) rfl ?_
  refine ae.val rfl (au H6 (i:=1) rfl rfl (aF kC rfl)) rfl ?_
  refine ae.val rfl (av rfl rfl cu) rfl ?_
  refine ae.val rfl (dZ rfl) rfl ?_
  refine ae.val rfl (ak rfl qd qb rfl) rfl ?_
  refine ae.store H6 (i:=1) rfl rfl rfl rfl rfl rfl oK rfl D5 rfl rfl rfl (fun S7 H8=>?_)
  refine ae.nil ?_
  refine ay.seq ?_
  obtain ⟨z9,hzz9,h⟩:=bind_some h
  rcases z9 with _ | x10
  ·
   replace h:=mF h
   subst h
   refine ay.nW E.obj tJ Gd [(0,none),(3,none)] (by kernel_rfl) [9] (by decide) [some (.ptr b1 0 0),some (.ptr b1 0 0),some (.ptr b1 0 2),some (.d (.int .i64 (IntKind.wrap .i64 (a2.steps + 1)))),some (.d (.bool (decide ((IntKind.wrap .i64 (a2.steps + 1)) ≤ 1000)))),some (.ptr b1 0 0),some (.ptr b1 0 0),some (.ptr b1 0 2),some (.d (.int .i64 (IntKind.wrap .i64 (a2.steps + 1)))),none] ?_
   refine ⟨[0,1,2,3,4,5,6,7,8],by kernel_rfl,?_,_,_,rfl,rfl,.stepX ?_⟩
   ·
    refine .v rfl rfl rfl rfl (ah rfl) ?_
    refine .v rfl rfl rfl rfl (dZ rfl) ?_
    refine .v rfl rfl rfl rfl (ak rfl qd qb rfl) ?_
    refine .v rfl rfl rfl rfl (au H8 (i:=1) rfl rfl (aF kC rfl)) ?_
    refine .v rfl rfl rfl rfl (av rfl rfl jG) ?_
    refine .v rfl rfl rfl rfl (ah rfl) ?_
    refine .v rfl rfl rfl rfl (dZ rfl) ?_
    refine .v rfl rfl rfl rfl (ak rfl qd qb rfl) ?_
    refine .v rfl rfl rfl rfl (au H8 (i:=1) rfl rfl (aF kC rfl)) ?_
    exact .nil
   refine ae.thrown (ins:=[]) (more:=[.box b4 [(.d (.int .i64 a3.Kind)),(.d (.int .i64 a3.N)),(.d (.str a3.Tag)),(.d (.str a3.Text)),(.d (.sl ((a3.aI).map aA) false)),(.d (.sl ((a3.Kids).map aD) false))],.box b1 [(.d (.sl ((a2.state).map (D.int .i64)) false)),(.d (.sl ((a2.params).map aH) false)),(.d (.int .i64 (IntKind.wrap .i64 (a2.steps + 1))))]]) rfl (H8.sl [0,1] rfl rfl) rfl (aB rfl rfl) (dH E n _ _ _ _ hzz9 ) (.cons (.refl _) (.cons (.refl _) (.cons (.refl _) .nil))) (fun _ _ S11 H12=>?_)
   exact ⟨_,_,rfl,H12.weaken (List.nil_sublist _)⟩
  replace h:=mE h
  refine ay.nW E.obj tJ Gd [(0,none),(3,none)] (by kernel_rfl) [9] (by decide) [some (.ptr b1 0 0),some (.ptr b1 0 0),some (.ptr b1 0 2),some (.d (.int .i64 (IntKind.wrap .i64 (a2.steps + 1)))),some (.d (.bool (decide ((IntKind.wrap .i64 (a2.steps + 1)) ≤ 1000)))),some (.ptr b1 0 0),some (.ptr b1 0 0),some (.ptr b1 0 2),some (.d (.int .i64 (IntKind.wrap .i64 (a2.steps + 1)))),none] ?_
  refine ⟨[0,1,2,3,4,5,6,7,8],by kernel_rfl,?_,_,_,rfl,rfl,.stepX ?_⟩
  ·
   refine .v rfl rfl rfl rfl (ah rfl) ?_
   refine .v rfl rfl rfl rfl (dZ rfl) ?_
   refine .v rfl rfl rfl rfl (ak rfl qd qb rfl) ?_
   refine .v rfl rfl rfl rfl (au H8 (i:=1) rfl rfl (aF kC rfl)) ?_
   refine .v rfl rfl rfl rfl (av rfl rfl jG) ?_
   refine .v rfl rfl rfl rfl (ah rfl) ?_
   refine .v rfl rfl rfl rfl (dZ rfl) ?_
   refine .v rfl rfl rfl rfl (ak rfl qd qb rfl) ?_
   refine .v rfl rfl rfl rfl (au H8 (i:=1) rfl rfl (aF kC rfl)) ?_
   exact .nil
  refine ae.mG (ins:=[]) (more:=[.box b4 [(.d (.int .i64 a3.Kind)),(.d (.int .i64 a3.N)),(.d (.str a3.Tag)),(.d (.str a3.Text)),(.d (.sl ((a3.aI).map aA) false)),(.d (.sl ((a3.Kids).map aD) false))],.box b1 [(.d (.sl ((a2.state).map (D.int .i64)) false)),(.d (.sl ((a2.params).map aH) false)),(.d (.int .i64 (IntKind.wrap .i64 (a2.steps + 1))))]]) (H8.sl [0,1] rfl rfl) rfl (aB rfl rfl) (dH E n _ _ _ _ hzz9 ) (.cons (.refl _) (.cons (.refl _) (.cons (.refl _) .nil))) rfl ?_
  rintro _ S15 _ ⟨rfl,rfl⟩ H16
  replace H16:Has B0 S15 [.box b4 [(.d (.int .i64 a3.Kind)),(.d (.int .i64 a3.N)),(.d (.str a3.Tag)),(.d (.str a3.Text)),(.d (.sl ((a3.aI).map aA) false)),(.d (.sl ((a3.Kids).map aD) false))],.box b1 [(.d (.sl ((a2.state).map (D.int .i64)) false)),(.d (.sl ((a2.params).map aH) false)),(.d (.int .i64 (IntKind.wrap .i64 (a2.steps + 1))))]]:=H16
  refine ae.nil ⟨_,(fun _ ht=>by cases ht; rfl),_,(.q (.q (.o (.z .nil)))),(fun _ ht=>by cases ht; exact ⟨_,rfl,.refl _⟩),?_⟩
  refine ⟨[],by kernel_rfl,?_,_,rfl,?_⟩
  ·
   exact .nil
  refine ay.seq ?_
  refine ay.seq ?_
  refine ay.region E.obj rfl ?_
  refine ae.val rfl (ak rfl gL qb rfl) rfl ?_
  refine ae.val rfl (au H16 (i:=0) rfl rfl (aF kC rfl)) rfl ?_
  refine ae.nil ?_
  refine ay.block ?_
  refine ay.seq ?_
  refine ay.region E.obj rfl ?_
  refine ae.val rfl (av rfl rfl bI) rfl ?_
  refine ae.val rfl (aj rfl) rfl ?_
  refine ae.nil ?_
  refine ay.cond rfl (fun hb17=>?_) (fun hb17=>?_)
  ·
   replace h:=di hb17 h
   refine ay.seq ?_
   obtain ⟨z19,hzz19,h⟩:=bind_some h
   obtain ⟨z23,hzz23,h⟩:=bind_some h
   rcases z23 with _ | x24
   ·
    replace h:=mF h
    subst h
    refine ay.nW E.obj tJ Gf [(4,some 11)] (by kernel_rfl) [4,8] (by decide) [some (.ptr b4 0 2),some (.d (.str a3.Tag)),some (.ptr b4 0 4),some (.d (.sl ((a3.aI).map aA) false)),none,some (.ptr b1 0 0),some (.ptr b4 0 5),some (.d (.sl ((a3.Kids).map aD) false)),none,none,none,none] ?_
    refine ⟨[0,1,2,3,5,6,7],by kernel_rfl,?_,_,_,rfl,rfl,.step ?_⟩
    ·
     refine .v rfl rfl rfl rfl (ak rfl oZ mD rfl) ?_
     refine .v rfl rfl rfl rfl (au H16 (i:=0) rfl rfl (aF lM rfl)) ?_
     refine .v rfl rfl rfl rfl (ak rfl yI xE rfl) ?_
     refine .v rfl rfl rfl rfl (au H16 (i:=0) rfl rfl (aF zn rfl)) ?_
     refine .v rfl rfl rfl rfl (ah rfl) ?_
     refine .v rfl rfl rfl rfl (ak rfl jX sO rfl) ?_
     refine .v rfl rfl rfl rfl (au H16 (i:=0) rfl rfl (aF uI rfl)) ?_
     exact .nil
    have H25:=H16.BL
    refine ae.append (xs:=([]).map aA) (ys:=(a3.aI).map aA) (zs:=(z19).map aA) H25 rfl rfl rfl (i:=0) rfl rfl DW Ed xH (fe hzz19) EB rfl (bP (enc:=aA) (fun z=>(Attr.len z).trans oN.symm) _) (bP (enc:=aA) (fun z=>(Attr.len z).trans oN.symm) _) Em rfl (ji hzz19) (fun v26 S27 H28=>?_)
    refine ae.nil ⟨_,_,_,rfl,(fun _ ht=>by cases ht; rfl),_,(.q (.w v26 (.o (.o (.o (.m .nil)))))),(fun _ ht=>by cases ht; exact ⟨_,rfl,.refl _⟩),?_⟩
    refine ⟨[0,1,5,6,7],by kernel_rfl,?_,_,_,rfl,rfl,.stepX ?_⟩
    ·
     refine .v rfl rfl rfl rfl (ak rfl oZ mD rfl) ?_
     refine .v rfl rfl rfl rfl (au H28 (i:=1) rfl rfl (aF lM rfl)) ?_
     refine .v rfl rfl rfl rfl (ah rfl) ?_
     refine .v rfl rfl rfl rfl (ak rfl jX sO rfl) ?_
     refine .v rfl rfl rfl rfl (au H28 (i:=1) rfl rfl (aF uI rfl)) ?_
     exact .nil
    refine ae.thrown (ins:=[.box b1 [(.d (.sl ((a2.state).map (D.int .i64)) false)),(.d (.sl ((a2.params).map aH) false)),(.d (.int .i64 (IntKind.wrap .i64 (a2.steps + 1))))]]) (more:=[.grow v26 ((z19).map aA),.box b4 [(.d (.int .i64 a3.Kind)),(.d (.int .i64 a3.N)),(.d (.str a3.Tag)),(.d (.str a3.Text)),(.d (.sl ((a3.aI).map aA) false)),(.d (.sl ((a3.Kids).map aD) false))]]) rfl (H28.sl [2,0,1] rfl rfl) rfl (aB rfl rfl) (fq E (bM n) ih n _ _ _ hzz23 b1) (.cons (.refl _) (.cons (.refl _) .nil)) (fun _ _ S29 H30=>?_)
    exact ⟨_,_,rfl,H30.weaken (List.nil_sublist _)⟩
   replace h:=mE h
   refine ay.nW E.obj tJ Gf [(4,some 11)] (by kernel_rfl) [4,8] (by decide) [some (.ptr b4 0 2),some (.d (.str a3.Tag)),some (.ptr b4 0 4),some (.d (.sl ((a3.aI).map aA) false)),none,some (.ptr b1 0 0),some (.ptr b4 0 5),some (.d (.sl ((a3.Kids).map aD) false)),none,none,none,none] ?_
   refine ⟨[0,1,2,3,5,6,7],by kernel_rfl,?_,_,_,rfl,rfl,.step ?_⟩
   ·
    refine .v rfl rfl rfl rfl (ak rfl oZ mD rfl) ?_
    refine .v rfl rfl rfl rfl (au H16 (i:=0) rfl rfl (aF lM rfl)) ?_
    refine .v rfl rfl rfl rfl (ak rfl yI xE rfl) ?_
    refine .v rfl rfl rfl rfl (au H16 (i:=0) rfl rfl (aF zn rfl)) ?_
    refine .v rfl rfl rfl rfl (ah rfl) ?_
    refine .v rfl rfl rfl rfl (ak rfl jX sO rfl) ?_
    refine .v rfl rfl rfl rfl (au H16 (i:=0) rfl rfl (aF uI rfl)) ?_
    exact .nil
   have H33:=H16.BL
   refine ae.append (xs:=([]).map aA) (ys:=(a3.aI).map aA) (zs:=(z19).map aA) H33 rfl rfl rfl (i:=0) rfl rfl DW Ed xH (fe hzz19) EB rfl (bP (enc:=aA) (fun z=>(Attr.len z).trans oN.symm) _) (bP (enc:=aA) (fun z=>(Attr.len z).trans oN.symm) _) Em rfl (ji hzz19) (fun v34 S35 H36=>?_)
   refine ae.nil ⟨_,_,_,rfl,(fun _ ht=>by cases ht; rfl),_,(.q (.w v34 (.o (.o (.o (.m .nil)))))),(fun _ ht=>by cases ht; exact ⟨_,rfl,.refl _⟩),?_⟩
   refine ⟨[0,1,5,6,7],by kernel_rfl,?_,_,_,rfl,rfl,.stepX ?_⟩
   ·
    refine .v rfl rfl rfl rfl (ak rfl oZ mD rfl) ?_
    refine .v rfl rfl rfl rfl (au H36 (i:=1) rfl rfl (aF lM rfl)) ?_
    refine .v rfl rfl rfl rfl (ah rfl) ?_
    refine .v rfl rfl rfl rfl (ak rfl jX sO rfl) ?_
    refine .v rfl rfl rfl rfl (au H36 (i:=1) rfl rfl (aF uI rfl)) ?_
    exact .nil
   refine ae.mG (ins:=[.box b1 [(.d (.sl ((a2.state).map (D.int .i64)) false)),(.d (.sl ((a2.params).map aH) false)),(.d (.int .i64 (IntKind.wrap .i64 (a2.steps + 1))))]]) (more:=[.grow v34 ((z19).map aA),.box b4 [(.d (.int .i64 a3.Kind)),(.d (.int .i64 a3.N)),(.d (.str a3.Tag)),(.d (.str a3.Text)),(.d (.sl ((a3.aI).map aA) false)),(.d (.sl ((a3.Kids).map aD) false))]]) (H36.sl [2,0,1] rfl rfl) rfl (aB rfl rfl) (fq E (bM n) ih n _ _ _ hzz23 b1) (.cons (.refl _) (.cons (.refl _) .nil)) rfl ?_
   rintro _ S37 _ ⟨rfl,rfl⟩ H38
   replace H38:Has B0 S37 [.box b1 [(.d (.sl ((x24.2.state).map (D.int .i64)) false)),(.d (.sl ((x24.2.params).map aH) false)),(.d (.int .i64 x24.2.steps))],.grow v34 ((z19).map aA),.box b4 [(.d (.int .i64 a3.Kind)),(.d (.int .i64 a3.N)),(.d (.str a3.Tag)),(.d (.str a3.Text)),(.d (.sl ((a3.aI).map aA) false)),(.d (.sl ((a3.Kids).map aD) false))]]:=H38
   refine ae.nil ⟨_,(fun _ ht=>by cases ht; rfl),_,(.q (.q (.w (.d (.sl ((x24.1).map ax) false)) (.w (.d (ax (Tree.mk a3.Tag [] [] z19 x24.1))) (.w (.d (.sl (([(Tree.mk a3.Tag [] [] z19 x24.1)]).map ax) true)) (.w (.d (.sl (([(Tree.mk a3.Tag [] [] z19 x24.1)]).map ax) true)) .nil)))))),(fun _ ht=>by cases ht; exact ⟨_,rfl,.refl _⟩),?_⟩
   refine ⟨[0,1,9,10,11],by kernel_rfl,?_,_,rfl,?_⟩
   ·
    refine .v rfl rfl rfl rfl (ak rfl oZ mD rfl) ?_
    refine .v rfl rfl rfl rfl (au H38 (i:=2) rfl rfl (aF lM rfl)) ?_
    refine .cons rfl rfl rfl (.step ?_) ?_
    ·
     refine ae.val rfl (bH (cs:=[(.d (.str a3.Tag)),(.d (.str [])),(.d (.str [])),v34,(.d (.sl ((x24.1).map ax) false))]) iw rfl (dE) (cO rfl rfl rfl rfl (cO rfl (zf H38 (i:=1) rfl) rfl rfl (cO rfl rfl rfl rfl rfl)))) rfl ?_
     refine ae.less (Less.agg' (d:=ax (Tree.mk a3.Tag [] [] z19 x24.1)) (ai.eq rfl (ai.eq rfl (ai.eq rfl (ai.grow H38 (i:=1) rfl (ai.eq rfl .nil))))) ((Tree.eq _).trans rfl)) ?_
     exact ae.nil ⟨_,_,rfl,fun _ ht=>by cases ht; exact ⟨rfl,.refl _⟩⟩
    refine .v rfl rfl rfl rfl (aM (vs:=[(.d (ax (Tree.mk a3.Tag [] [] z19 x24.1)))]) (ds:=[(ax (Tree.mk a3.Tag [] [] z19 x24.1))]) uz kD il iw dL rfl (by decide) (.cons rfl (Tree.len _) .nil) rfl (by intro d hd; simp only [List.mem_cons,List.not_mem_nil,or_false] at hd; rcases hd with rfl <;> exact Tree.agg _) rfl) ?_
    refine .v rfl rfl rfl rfl (aj rfl) ?_
    exact .nil
   have hr:=Option.some.inj h
   subst hr
   exact ay.ret ⟨_,rfl,rfl,_,_,_,.refl _,Au,⟨rfl,rfl⟩,H38.sl [0] rfl rfl⟩
  replace h:=dm hb17 h
  refine ay.seq ?_
  refine ay.region E.obj rfl ?_
  refine ae.val rfl (av rfl rfl bI) rfl ?_
  refine ae.val rfl (aj rfl) rfl ?_
  refine ae.nil ?_
  refine ay.cond rfl (fun hb39=>?_) (fun hb39=>?_)
  ·
   replace h:=di hb39 h
   refine ay.seq ?_
   refine ay.region E.obj rfl ?_
   refine ae.val rfl (ak rfl wz mD rfl) rfl ?_
   refine ae.val rfl (au H16 (i:=0) rfl rfl (aF lM rfl)) rfl ?_
   refine ae.val rfl (bH (cs:=[(.d (.str [])),(.d (.str [])),(.d (.str a3.Text)),(.d .aT),(.d .aT)]) iw rfl (dE) (cO rfl rfl rfl rfl rfl)) rfl ?_
   refine ae.less (Less.agg' (d:=ax (Tree.mk [] [] a3.Text [] [])) (ai.eq rfl (ai.eq rfl (ai.eq rfl (ai.cK rfl (.aT false) rfl rfl (ai.cK rfl (.aT false) rfl rfl .nil))))) ((Tree.eq _).trans rfl)) ?_
   refine ae.val rfl (aM (vs:=[(.d (ax (Tree.mk [] [] a3.Text [] [])))]) (ds:=[(ax (Tree.mk [] [] a3.Text [] []))]) uz kD il iw dL rfl (by decide) (.cons rfl (Tree.len _) .nil) rfl (by intro d hd; simp only [List.mem_cons,List.not_mem_nil,or_false] at hd; rcases hd with rfl <;> exact Tree.agg _) rfl) rfl ?_
   refine ae.val rfl (aj rfl) rfl ?_
   refine ae.nil ?_
   have hr:=Option.some.inj h
   subst hr
   exact ay.ret ⟨_,rfl,rfl,_,_,_,.refl _,Au,⟨rfl,rfl⟩,H16.sl [1] rfl rfl⟩
  replace h:=dm hb39 h
  refine ay.seq ?_
  refine ay.region E.obj rfl ?_
  refine ae.val rfl (av rfl rfl bI) rfl ?_
  refine ae.val rfl (aj rfl) rfl ?_
  refine ae.nil ?_
  refine ay.cond rfl (fun hb40=>?_) (fun hb40=>?_)
  ·
   replace h:=di hb40 h
   refine ay.seq ?_
   refine ay.region E.obj rfl ?_
   refine ae.val rfl (ah rfl) rfl ?_
   refine ae.val rfl (ak rfl si qb rfl) rfl ?_
   refine ae.val rfl (au H16 (i:=0) rfl rfl (aF kC rfl)) rfl ?_
   obtain ⟨z41,hzz41,h⟩:=bind_some h
   rcases z41 with _ | x42
   ·
    replace h:=mF h
    subst h
    refine ae.thrown (ins:=[.box b1 [(.d (.sl ((a2.state).map (D.int .i64)) false)),(.d (.sl ((a2.params).map aH) false)),(.d (.int .i64 (IntKind.wrap .i64 (a2.steps + 1))))]]) (more:=[.box b4 [(.d (.int .i64 a3.Kind)),(.d (.int .i64 a3.N)),(.d (.str a3.Tag)),(.d (.str a3.Text)),(.d (.sl ((a3.aI).map aA) false)),(.d (.sl ((a3.Kids).map aD) false))]]) rfl (H16.sl [1,0] rfl rfl) rfl (aB rfl rfl) (dW E n _ _ _ hzz41 b1) (.cons (.refl _) (.cons (.refl _) .nil)) (fun _ _ S43 H44=>?_)
    exact ⟨_,_,rfl,H44.weaken (List.nil_sublist _)⟩
   replace h:=mE h
   refine ae.mG (ins:=[.box b1 [(.d (.sl ((a2.state).map (D.int .i64)) false)),(.d (.sl ((a2.params).map aH) false)),(.d (.int .i64 (IntKind.wrap .i64 (a2.steps + 1))))]]) (more:=[.box b4 [(.d (.int .i64 a3.Kind)),(.d (.int .i64 a3.N)),(.d (.str a3.Tag)),(.d (.str a3.Text)),(.d (.sl ((a3.aI).map aA) false)),(.d (.sl ((a3.Kids).map aD) false))]]) (H16.sl [1,0] rfl rfl) rfl (aB rfl rfl) (dW E n _ _ _ hzz41 b1) (.cons (.refl _) (.cons (.refl _) .nil)) rfl ?_
   rintro _ S45 _ ⟨rfl,rfl⟩ H46
   replace H46:Has B0 S45 [.box b1 [(.d (.sl ((a2.state).map (D.int .i64)) false)),(.d (.sl ((a2.params).map aH) false)),(.d (.int .i64 (IntKind.wrap .i64 (a2.steps + 1))))],.box b4 [(.d (.int .i64 a3.Kind)),(.d (.int .i64 a3.N)),(.d (.str a3.Tag)),(.d (.str a3.Text)),(.d (.sl ((a3.aI).map aA) false)),(.d (.sl ((a3.Kids).map aD) false))]]:=H46
   obtain ⟨z47,hzz47,h⟩:=bind_some h
   refine ae.ret rfl (aB rfl rfl) (E.strconv_Itoa_ok _ _ _ hzz47 _ _ (aG.eq .nil)) rfl ?_
   refine ae.val rfl (bH (cs:=[(.d (.str [])),(.d (.str [])),(.d (.str z47)),(.d .aT),(.d .aT)]) iw rfl (dE) (cO rfl rfl rfl rfl rfl)) rfl ?_
   refine ae.less (Less.agg' (d:=ax (Tree.mk [] [] z47 [] [])) (ai.eq rfl (ai.eq rfl (ai.eq rfl (ai.cK rfl (.aT false) rfl rfl (ai.cK rfl (.aT false) rfl rfl .nil))))) ((Tree.eq _).trans rfl)) ?_
   refine ae.val rfl (aM (vs:=[(.d (ax (Tree.mk [] [] z47 [] [])))]) (ds:=[(ax (Tree.mk [] [] z47 [] []))]) uz kD il iw dL rfl (by decide) (.cons rfl (Tree.len _) .nil) rfl (by intro d hd; simp only [List.mem_cons,List.not_mem_nil,or_false] at hd; rcases hd with rfl <;> exact Tree.agg _) rfl) rfl ?_
   refine ae.val rfl (aj rfl) rfl ?_
   refine ae.nil ?_
   have hr:=Option.some.inj h
   subst hr
   exact ay.ret ⟨_,rfl,rfl,_,_,_,.refl _,Au,⟨rfl,rfl⟩,H46.sl [0] rfl rfl⟩
  replace h:=dm hb40 h
  refine ay.seq ?_
  refine ay.region E.obj rfl ?_
  refine ae.val rfl (av rfl rfl bI) rfl ?_
  refine ae.val rfl (aj rfl) rfl ?_
  refine ae.nil ?_
  refine ay.cond rfl (fun hb48=>?_) (fun hb48=>?_)
  ·
   replace h:=di hb48 h
   refine ay.seq ?_
   refine ay.region E.obj rfl ?_
   refine ae.val rfl (ah rfl) rfl ?_
   refine ae.val rfl (ak rfl wz mD rfl) rfl ?_
   refine ae.val rfl (au H16 (i:=0) rfl rfl (aF lM rfl)) rfl ?_
   obtain ⟨z49,hzz49,h⟩:=bind_some h
   rcases z49 with _ | x50
   ·
    replace h:=mF h
    subst h
    refine ae.thrown (ins:=[.box b1 [(.d (.sl ((a2.state).map (D.int .i64)) false)),(.d (.sl ((a2.params).map aH) false)),(.d (.int .i64 (IntKind.wrap .i64 (a2.steps + 1))))]]) (more:=[.box b4 [(.d (.int .i64 a3.Kind)),(.d (.int .i64 a3.N)),(.d (.str a3.Tag)),(.d (.str a3.Text)),(.d (.sl ((a3.aI).map aA) false)),(.d (.sl ((a3.Kids).map aD) false))]]) rfl (H16.sl [1,0] rfl rfl) rfl (aB rfl rfl) (kQ E n _ _ _ hzz49 b1) (.cons (.refl _) (.cons (.refl _) .nil)) (fun _ _ S51 H52=>?_)
    exact ⟨_,_,rfl,H52.weaken (List.nil_sublist _)⟩
   replace h:=mE h
   refine ae.mG (ins:=[.box b1 [(.d (.sl ((a2.state).map (D.int .i64)) false)),(.d (.sl ((a2.params).map aH) false)),(.d (.int .i64 (IntKind.wrap .i64 (a2.steps + 1))))]]) (more:=[.box b4 [(.d (.int .i64 a3.Kind)),(.d (.int .i64 a3.N)),(.d (.str a3.Tag)),(.d (.str a3.Text)),(.d (.sl ((a3.aI).map aA) false)),(.d (.sl ((a3.Kids).map aD) false))]]) (H16.sl [1,0] rfl rfl) rfl (aB rfl rfl) (kQ E n _ _ _ hzz49 b1) (.cons (.refl _) (.cons (.refl _) .nil)) rfl ?_
   rintro _ S53 _ ⟨rfl,rfl⟩ H54
   replace H54:Has B0 S53 [.box b1 [(.d (.sl ((a2.state).map (D.int .i64)) false)),(.d (.sl ((a2.params).map aH) false)),(.d (.int .i64 (IntKind.wrap .i64 (a2.steps + 1))))],.box b4 [(.d (.int .i64 a3.Kind)),(.d (.int .i64 a3.N)),(.d (.str a3.Tag)),(.d (.str a3.Text)),(.d (.sl ((a3.aI).map aA) false)),(.d (.sl ((a3.Kids).map aD) false))]]:=H54
   refine ae.val rfl (bH (cs:=[(.d (.str [])),(.d (.str [])),(.d (.str x50)),(.d .aT),(.d .aT)]) iw rfl (dE) (cO rfl rfl rfl rfl rfl)) rfl ?_
   refine ae.less (Less.agg' (d:=ax (Tree.mk [] [] x50 [] [])) (ai.eq rfl (ai.eq rfl (ai.eq rfl (ai.cK rfl (.aT false) rfl rfl (ai.cK rfl (.aT false) rfl rfl .nil))))) ((Tree.eq _).trans rfl)) ?_
   refine ae.val rfl (aM (vs:=[(.d (ax (Tree.mk [] [] x50 [] [])))]) (ds:=[(ax (Tree.mk [] [] x50 [] []))]) uz kD il iw dL rfl (by decide) (.cons rfl (Tree.len _) .nil) rfl (by intro d hd; simp only [List.mem_cons,List.not_mem_nil,or_false] at hd; rcases hd with rfl <;> exact Tree.agg _) rfl) rfl ?_
   refine ae.val rfl (aj rfl) rfl ?_
   refine ae.nil ?_
   have hr:=Option.some.inj h
   subst hr
   exact ay.ret ⟨_,rfl,rfl,_,_,_,.refl _,Au,⟨rfl,rfl⟩,H54.sl [0] rfl rfl⟩
  replace h:=dm hb48 h
  refine ay.seq ?_
  refine ay.region E.obj rfl ?_
  refine ae.val rfl (av rfl rfl bI) rfl ?_
  refine ae.val rfl (aj rfl) rfl ?_
  refine ae.nil ?_
  refine ay.cond rfl (fun hb55=>?_) (fun hb55=>?_)
  ·
   replace h:=di hb55 h
   refine ay.seq ?_
   refine ay.seq ?_
   refine ay.region E.obj rfl ?_
   refine ae.val rfl (ah rfl) rfl ?_
   refine ae.val rfl (ak rfl si qb rfl) rfl ?_
   refine ae.val rfl (au H16 (i:=0) rfl rfl (aF kC rfl)) rfl ?_
   obtain ⟨z56,hzz56,h⟩:=bind_some h
   rcases z56 with _ | x57
   ·
    replace h:=mF h
    subst h
    refine ae.thrown (ins:=[.box b1 [(.d (.sl ((a2.state).map (D.int .i64)) false)),(.d (.sl ((a2.params).map aH) false)),(.d (.int .i64 (IntKind.wrap .i64 (a2.steps + 1))))]]) (more:=[.box b4 [(.d (.int .i64 a3.Kind)),(.d (.int .i64 a3.N)),(.d (.str a3.Tag)),(.d (.str a3.Text)),(.d (.sl ((a3.aI).map aA) false)),(.d (.sl ((a3.Kids).map aD) false))]]) rfl (H16.sl [1,0] rfl rfl) rfl (aB rfl rfl) (dW E n _ _ _ hzz56 b1) (.cons (.refl _) (.cons (.refl _) .nil)) (fun _ _ S58 H59=>?_)
    exact ⟨_,_,rfl,H59.weaken (List.nil_sublist _)⟩
   replace h:=mE h
   refine ae.mG (ins:=[.box b1 [(.d (.sl ((a2.state).map (D.int .i64)) false)),(.d (.sl ((a2.params).map aH) false)),(.d (.int .i64 (IntKind.wrap .i64 (a2.steps + 1))))]]) (more:=[.box b4 [(.d (.int .i64 a3.Kind)),(.d (.int .i64 a3.N)),(.d (.str a3.Tag)),(.d (.str a3.Text)),(.d (.sl ((a3.aI).map aA) false)),(.d (.sl ((a3.Kids).map aD) false))]]) (H16.sl [1,0] rfl rfl) rfl (aB rfl rfl) (dW E n _ _ _ hzz56 b1) (.cons (.refl _) (.cons (.refl _) .nil)) rfl ?_
   rintro _ S60 _ ⟨rfl,rfl⟩ H61
   replace H61:Has B0 S60 [.box b1 [(.d (.sl ((a2.state).map (D.int .i64)) false)),(.d (.sl ((a2.params).map aH) false)),(.d (.int .i64 (IntKind.wrap .i64 (a2.steps + 1))))],.box b4 [(.d (.int .i64 a3.Kind)),(.d (.int .i64 a3.N)),(.d (.str a3.Tag)),(.d (.str a3.Text)),(.d (.sl ((a3.aI).map aA) false)),(.d (.sl ((a3.Kids).map aD) false))]]:=H61
   refine ae.val rfl (av rfl rfl bI) rfl ?_
   refine ae.nil ?_
   refine ay.cond rfl (fun hb62=>?_) (fun hb62=>?_)
   ·
    replace h:=di hb62 h
    refine ay.seq ?_
    refine ay.region E.obj rfl ?_
    refine ae.val rfl (aj rfl) rfl ?_
    refine ae.nil ?_
    have hr:=Option.some.inj h
    subst hr
    exact ay.ret ⟨_,rfl,rfl,_,_,_,.refl _,Dl,⟨rfl,rfl⟩,H61.sl [0] rfl rfl⟩
   replace h:=dm hb62 h
   refine ay.skip ?_
   refine ay.seq ?_
   refine ay.region E.obj rfl ?_
   refine ae.val rfl (ah rfl) rfl ?_
   refine ae.val rfl (ak rfl jX sO rfl) rfl ?_
   refine ae.val rfl (au H61 (i:=1) rfl rfl (aF uI rfl)) rfl ?_
   obtain ⟨z63,hzz63,h⟩:=bind_some h
   rcases z63 with _ | x64
   ·
    replace h:=mF h
    subst h
    refine ae.thrown (ins:=[.box b1 [(.d (.sl ((a2.state).map (D.int .i64)) false)),(.d (.sl ((a2.params).map aH) false)),(.d (.int .i64 (IntKind.wrap .i64 (a2.steps + 1))))]]) (more:=[.box b4 [(.d (.int .i64 a3.Kind)),(.d (.int .i64 a3.N)),(.d (.str a3.Tag)),(.d (.str a3.Text)),(.d (.sl ((a3.aI).map aA) false)),(.d (.sl ((a3.Kids).map aD) false))]]) rfl (H61.sl [0,1] rfl rfl) rfl (aB rfl rfl) (fq E (bM n) ih n _ _ _ hzz63 b1) (.cons (.refl _) (.cons (.refl _) .nil)) (fun _ _ S65 H66=>?_)
    exact ⟨_,_,rfl,H66.weaken (List.nil_sublist _)⟩
   replace h:=mE h
   refine ae.mG (ins:=[.box b1 [(.d (.sl ((a2.state).map (D.int .i64)) false)),(.d (.sl ((a2.params).map aH) false)),(.d (.int .i64 (IntKind.wrap .i64 (a2.steps + 1))))]]) (more:=[.box b4 [(.d (.int .i64 a3.Kind)),(.d (.int .i64 a3.N)),(.d (.str a3.Tag)),(.d (.str a3.Text)),(.d (.sl ((a3.aI).map aA) false)),(.d (.sl ((a3.Kids).map aD) false))]]) (H61.sl [0,1] rfl rfl) rfl (aB rfl rfl) (fq E (bM n) ih n _ _ _ hzz63 b1) (.cons (.refl _) (.cons (.refl _) .nil)) rfl ?_
   rintro _ S67 _ ⟨rfl,rfl⟩ H68
   replace H68:Has B0 S67 [.box b1 [(.d (.sl ((x64.2.state).map (D.int .i64)) false)),(.d (.sl ((x64.2.params).map aH) false)),(.d (.int .i64 x64.2.steps))],.box b4 [(.d (.int .i64 a3.Kind)),(.d (.int .i64 a3.N)),(.d (.str a3.Tag)),(.d (.str a3.Text)),(.d (.sl ((a3.aI).map aA) false)),(.d (.sl ((a3.Kids).map aD) false))]]:=H68
   refine ae.val rfl (aj rfl) rfl ?_
   refine ae.nil ?_
   have hr:=Option.some.inj h
   subst hr
   exact ay.ret ⟨_,rfl,rfl,_,_,_,.refl _,(.refl _),⟨rfl,rfl⟩,H68.sl [0] rfl rfl⟩
  replace h:=dm hb55 h
  refine ay.seq ?_
  refine ay.region E.obj rfl ?_
  refine ae.val rfl (av rfl rfl bI) rfl ?_
  refine ae.val rfl (aj rfl) rfl ?_
  refine ae.nil ?_
  refine ay.cond rfl (fun hb69=>?_) (fun hb69=>?_)
  ·
   replace h:=di hb69 h
   refine ay.seq ?_
   refine ay.region E.obj rfl ?_
   refine ae.val rfl (ah rfl) rfl ?_
   refine ae.val rfl (au H16 (i:=0) rfl rfl (aV fU dP rfl)) rfl ?_
   refine ae.less (Less.agg' (d:=aD a3) (ai.eq rfl (ai.eq rfl (ai.eq rfl (ai.eq rfl (ai.eq rfl (ai.eq rfl .nil)))))) ((aQ.eq _).trans rfl)) ?_
   obtain ⟨z70,hzz70,h⟩:=bind_some h
   rcases z70 with _ | x71
   ·
    replace h:=mF h
    subst h
    refine ae.thrown (ins:=[.box b1 [(.d (.sl ((a2.state).map (D.int .i64)) false)),(.d (.sl ((a2.params).map aH) false)),(.d (.int .i64 (IntKind.wrap .i64 (a2.steps + 1))))]]) (more:=[.box b4 [(.d (.int .i64 a3.Kind)),(.d (.int .i64 a3.N)),(.d (.str a3.Tag)),(.d (.str a3.Text)),(.d (.sl ((a3.aI).map aA) false)),(.d (.sl ((a3.Kids).map aD) false))]]) rfl (H16.sl [1,0] rfl rfl) rfl (aB rfl rfl) (lK E (bM n) ih n _ _ _ hzz70 b1) (.cons (.refl _) (.cons (.refl _) .nil)) (fun _ _ S72 H73=>?_)
    exact ⟨_,_,rfl,H73.weaken (List.nil_sublist _)⟩
   replace h:=mE h
   refine ae.mG (ins:=[.box b1 [(.d (.sl ((a2.state).map (D.int .i64)) false)),(.d (.sl ((a2.params).map aH) false)),(.d (.int .i64 (IntKind.wrap .i64 (a2.steps + 1))))]]) (more:=[.box b4 [(.d (.int .i64 a3.Kind)),(.d (.int .i64 a3.N)),(.d (.str a3.Tag)),(.d (.str a3.Text)),(.d (.sl ((a3.aI).map aA) false)),(.d (.sl ((a3.Kids).map aD) false))]]) (H16.sl [1,0] rfl rfl) rfl (aB rfl rfl) (lK E (bM n) ih n _ _ _ hzz70 b1) (.cons (.refl _) (.cons (.refl _) .nil)) rfl ?_
   rintro _ S74 _ ⟨rfl,rfl⟩ H75
   replace H75:Has B0 S74 [.box b1 [(.d (.sl ((x71.2.state).map (D.int .i64)) false)),(.d (.sl ((x71.2.params).map aH) false)),(.d (.int .i64 x71.2.steps))],.box b4 [(.d (.int .i64 a3.Kind)),(.d (.int .i64 a3.N)),(.d (.str a3.Tag)),(.d (.str a3.Text)),(.d (.sl ((a3.aI).map aA) false)),(.d (.sl ((a3.Kids).map aD) false))]]:=H75
   refine ae.val rfl (aj rfl) rfl ?_
   refine ae.nil ?_
   have hr:=Option.some.inj h
   subst hr
   exact ay.ret ⟨_,rfl,rfl,_,_,_,.refl _,(.refl _),⟨rfl,rfl⟩,H75.sl [0] rfl rfl⟩
  replace h:=dm hb69 h
  refine ay.skip ?_
  refine ay.seq ?_
  refine ay.region E.obj rfl ?_
  refine ae.val rfl (ak rfl gL qb rfl) rfl ?_
  refine ae.val rfl (au H16 (i:=0) rfl rfl (aF kC rfl)) rfl ?_
  refine ae.val rfl (av rfl rfl bI) rfl ?_
  refine ae.val rfl (ak rfl gL qb rfl) rfl ?_
  refine ae.val rfl (au H16 (i:=0) rfl rfl (aF kC rfl)) rfl ?_
  obtain ⟨z76,hzz76,h⟩:=bind_some h
  rcases z76 with _ | x77
  ·
   replace h:=mF h
   subst h
   refine ae.thrown (ins:=[]) (more:=[.box b4 [(.d (.int .i64 a3.Kind)),(.d (.int .i64 a3.N)),(.d (.str a3.Tag)),(.d (.str a3.Text)),(.d (.sl ((a3.aI).map aA) false)),(.d (.sl ((a3.Kids).map aD) false))],.box b1 [(.d (.sl ((a2.state).map (D.int .i64)) false)),(.d (.sl ((a2.params).map aH) false)),(.d (.int .i64 (IntKind.wrap .i64 (a2.steps + 1))))]]) rfl (H16.sl [0,1] rfl rfl) rfl (aB rfl rfl) (dH E n _ _ _ _ hzz76 ) (.cons (.refl _) (.cons (.refl _) (.cons (.refl _) .nil))) (fun _ _ S78 H79=>?_)
   exact ⟨_,_,rfl,H79.weaken (List.nil_sublist _)⟩
  replace h:=mE h
  refine ae.mG (ins:=[]) (more:=[.box b4 [(.d (.int .i64 a3.Kind)),(.d (.int .i64 a3.N)),(.d (.str a3.Tag)),(.d (.str a3.Text)),(.d (.sl ((a3.aI).map aA) false)),(.d (.sl ((a3.Kids).map aD) false))],.box b1 [(.d (.sl ((a2.state).map (D.int .i64)) false)),(.d (.sl ((a2.params).map aH) false)),(.d (.int .i64 (IntKind.wrap .i64 (a2.steps + 1))))]]) (H16.sl [0,1] rfl rfl) rfl (aB rfl rfl) (dH E n _ _ _ _ hzz76 ) (.cons (.refl _) (.cons (.refl _) (.cons (.refl _) .nil))) rfl ?_
  rintro _ S80 _ ⟨rfl,rfl⟩ H81
  replace H81:Has B0 S80 [.box b4 [(.d (.int .i64 a3.Kind)),(.d (.int .i64 a3.N)),(.d (.str a3.Tag)),(.d (.str a3.Text)),(.d (.sl ((a3.aI).map aA) false)),(.d (.sl ((a3.Kids).map aD) false))],.box b1 [(.d (.sl ((a2.state).map (D.int .i64)) false)),(.d (.sl ((a2.params).map aH) false)),(.d (.int .i64 (IntKind.wrap .i64 (a2.steps + 1))))]]:=H81
  refine ae.nil ?_
  refine ay.seq ?_
  refine ay.region E.obj rfl ?_
  refine ae.val rfl (bH (cs:=[(.d (.str [111,117,116,108,101,116])),(.d (.str [])),(.d (.str [])),(.d .aT),(.d .aT)]) iw rfl (dE) (cO rfl rfl rfl rfl rfl)) rfl ?_
  refine ae.less (Less.agg' (d:=ax (Tree.mk [111,117,116,108,101,116] [] [] [] [])) (ai.eq rfl (ai.eq rfl (ai.eq rfl (ai.cK rfl (.aT false) rfl rfl (ai.cK rfl (.aT false) rfl rfl .nil))))) ((Tree.eq _).trans rfl)) ?_
  refine ae.val rfl (aM (vs:=[(.d (ax (Tree.mk [111,117,116,108,101,116] [] [] [] [])))]) (ds:=[(ax (Tree.mk [111,117,116,108,101,116] [] [] [] []))]) uz kD il iw dL rfl (by decide) (.cons rfl (Tree.len _) .nil) rfl (by intro d hd; simp only [List.mem_cons,List.not_mem_nil,or_false] at hd; rcases hd with rfl <;> exact Tree.agg _) rfl) rfl ?_
  refine ae.val rfl (aj rfl) rfl ?_
  refine ae.nil ?_
  have hr:=Option.some.inj h
  subst hr
  exact ay.ret ⟨_,rfl,rfl,_,_,_,.refl _,Au,⟨rfl,rfl⟩,H81.sl [1] rfl rfl⟩
set_option maxRecDepth 20000 in
set_option maxHeartbeats 4000000 in
theorem qE (n:Nat) (a2:aC) (a5:aQ) (a7:Tree) (r:(Option (aC × Tree))) (h:jo n a2 a5 a7=some r) (b1:Nat) (b3:Nat) (b4:Nat) (b6:Nat):gz R cfg.P 70 30 [.ptr b1 0 0,.ptr b4 0 0,.ptr b6 0 0] [.box b1 [(.ptr b3 0 0)],.box b3 [(.d (.sl ((a2.state).map (D.int .i64)) false)),(.d (.sl ((a2.params).map aH) false)),(.d (.int .i64 a2.steps))],.box b4 [(.d (.int .i64 a5.Kind)),(.d (.int .i64 a5.N)),(.d (.str a5.Tag)),(.d (.str a5.Text)),(.d (.sl ((a5.aI).map aA) false)),(.d (.sl ((a5.Kids).map aD) false))],.box b6 [(.d (.str a7.Tag)),(.d (.str a7.Key)),(.d (.str a7.Text)),(.d (.sl ((a7.aI).map aA) false)),(.d (.sl ((a7.Kids).map ax) false))]] r (fun r v l=>v=.tup []∧l=[.box b1 [.ptr b3 0 0],.box b3 [.d (.sl ((r.1.state).map (D.int .i64)) false),.d (.sl ((r.1.params).map aH) false),.d (.int .i64 r.1.steps)],.box b4 [.d (.int .i64 a5.Kind),.d (.int .i64 a5.N),.d (.str a5.Tag),.d (.str a5.Text),.d (.sl ((a5.aI).map aA) false),.d (.sl ((a5.Kids).map aD) false)],.box b6 [.d (.str r.2.Tag),.d (.str r.2.Key),.d (.str r.2.Text),.d (.sl ((r.2.aI).map aA) false),.d (.sl ((r.2.Kids).map ax) false)]]):=by
 unfold jo at h
 refine gz.of_wp (C:=cfg) Tryd.func30 rfl EK rfl (fun B0 S0 H0=>?_)
 replace H0:Has B0 S0 [.box b1 [(.ptr b3 0 0)],.box b3 [(.d (.sl ((a2.state).map (D.int .i64)) false)),(.d (.sl ((a2.params).map aH) false)),(.d (.int .i64 a2.steps))],.box b4 [(.d (.int .i64 a5.Kind)),(.d (.int .i64 a5.N)),(.d (.str a5.Tag)),(.d (.str a5.Text)),(.d (.sl ((a5.aI).map aA) false)),(.d (.sl ((a5.Kids).map aD) false))],.box b6 [(.d (.str a7.Tag)),(.d (.str a7.Key)),(.d (.str a7.Text)),(.d (.sl ((a7.aI).map aA) false)),(.d (.sl ((a7.Kids).map ax) false))]]:=H0
 refine ay.seq ?_
 refine ay.region E.obj rfl ?_
 refine ae.val rfl (au H0 (i:=0) rfl rfl (aF Gb rfl)) rfl ?_
 refine ae.val rfl (au H0 (i:=2) rfl rfl (aV fU dP rfl)) rfl ?_
 refine ae.less (Less.agg' (d:=aD a5) (ai.eq rfl (ai.eq rfl (ai.eq rfl (ai.eq rfl (ai.eq rfl (ai.eq rfl .nil)))))) ((aQ.eq _).trans rfl)) ?_
 obtain ⟨z8,hzz8,h⟩:=bind_some h
 rcases z8 with _ | x9
 ·
  replace h:=mF h
  subst h
  refine ae.thrown (ins:=[.box b3 [(.d (.sl ((a2.state).map (D.int .i64)) false)),(.d (.sl ((a2.params).map aH) false)),(.d (.int .i64 a2.steps))]]) (more:=[.box b1 [(.ptr b3 0 0)],.box b4 [(.d (.int .i64 a5.Kind)),(.d (.int .i64 a5.N)),(.d (.str a5.Tag)),(.d (.str a5.Text)),(.d (.sl ((a5.aI).map aA) false)),(.d (.sl ((a5.Kids).map aD) false))],.box b6 [(.d (.str a7.Tag)),(.d (.str a7.Key)),(.d (.str a7.Text)),(.d (.sl ((a7.aI).map aA) false)),(.d (.sl ((a7.Kids).map ax) false))]]) rfl (H0.sl [1,0,2,3] rfl rfl) rfl (aB rfl rfl) (jM E n _ _ _ hzz8 b3) (.cons (.refl _) (.cons (.refl _) .nil)) (fun _ _ S10 H11=>?_)
  exact ⟨_,_,rfl,H11.weaken (List.nil_sublist _)⟩
 replace h:=mE h
 refine ae.mG (ins:=[.box b3 [(.d (.sl ((a2.state).map (D.int .i64)) false)),(.d (.sl ((a2.params).map aH) false)),(.d (.int .i64 a2.steps))]]) (more:=[.box b1 [(.ptr b3 0 0)],.box b4 [(.d (.int .i64 a5.Kind)),(.d (.int .i64 a5.N)),(.d (.str a5.Tag)),(.d (.str a5.Text)),(.d (.sl ((a5.aI).map aA) false)),(.d (.sl ((a5.Kids).map aD) false))],.box b6 [(.d (.str a7.Tag)),(.d (.str a7.Key)),(.d (.str a7.Text)),(.d (.sl ((a7.aI).map aA) false)),(.d (.sl ((a7.Kids).map ax) false))]]) (H0.sl [1,0,2,3] rfl rfl) rfl (aB rfl rfl) (jM E n _ _ _ hzz8 b3) (.cons (.refl _) (.cons (.refl _) .nil)) rfl ?_
 rintro _ S12 _ ⟨rfl,rfl⟩ H13
 replace H13:Has B0 S12 [.box b3 [(.d (.sl ((x9.2.state).map (D.int .i64)) false)),(.d (.sl ((x9.2.params).map aH) false)),(.d (.int .i64 x9.2.steps))],.box b1 [(.ptr b3 0 0)],.box b4 [(.d (.int .i64 a5.Kind)),(.d (.int .i64 a5.N)),(.d (.str a5.Tag)),(.d (.str a5.Text)),(.d (.sl ((a5.aI).map aA) false)),(.d (.sl ((a5.Kids).map aD) false))],.box b6 [(.d (.str a7.Tag)),(.d (.str a7.Key)),(.d (.str a7.Text)),(.d (.sl ((a7.aI).map aA) false)),(.d (.sl ((a7.Kids).map ax) false))]]:=H13
 refine ae.val rfl (aj rfl) rfl ?_
 refine ae.nil ?_
 refine ay.seq ?_
 refine ay.region E.obj rfl ?_
 refine ae.val rfl (ah rfl) rfl ?_
 refine ae.val rfl (bq rfl rF) rfl ?_
 refine ae.val rfl (av rfl rfl bI) rfl ?_
 refine ae.val rfl (ah rfl) rfl ?_
 obtain ⟨z15,hzz15,h⟩:=bind_some h
 refine ae.bG 6 16 (.d (.bool z15)) ?_ ?_
 ·
  rcases Bool.eq_false_or_eq_true ((((x9.1).length:Int) == 1)) with hB14 | hB14
  ·
   refine ae.bool hB14 ?_
   replace hzz15:=di hB14 hzz15
   refine ae.val rfl (ah rfl) rfl ?_
   obtain ⟨z16,hzz16,hzz15⟩:=bind_some hzz15
   refine ae.val rfl (bR rfl rfl (df (enc:=ax) hzz16 kD iY ((Tree.len _).trans dL.symm))) rfl ?_
   refine ae.val rfl (gq rfl lY mD rfl) rfl ?_
   refine ae.val rfl (aX rfl (by rw [Tree.cells]; exact eO lM rfl)) rfl ?_
   refine ae.val rfl (av rfl rfl je) rfl ?_
   refine ae.val rfl (az (b:=true) rfl rfl) rfl ?_
   cases hzz15
   exact ae.nil ⟨_,rfl,(aa.put (aa.push rfl (aa.push rfl (aa.push rfl (aa.push rfl (aa.push rfl (aa.put (.refl _) (Less.eq (by rw [hB14])))))))) (.refl _))⟩
  refine ae.bool hB14 ?_
  refine ae.no rfl rfl ?_
  refine ae.no rfl rfl ?_
  refine ae.no rfl rfl ?_
  refine ae.no rfl rfl ?_
  refine ae.no rfl rfl ?_
  refine ae.val rfl (az (b:=false) rfl rfl) rfl ?_
  replace hzz15:=dm hB14 hzz15
  cases hzz15
  exact ae.nil ⟨_,rfl,(aa.put (aa.push rfl (aa.push rfl (aa.push rfl (aa.push rfl (aa.push rfl (aa.put (.refl _) (Less.eq (by rw [hB14])))))))) (.refl _))⟩
 refine ae.val rfl (ah rfl) rfl ?_
 obtain ⟨z18,hzz18,h⟩:=bind_some h
 refine ae.bG 5 22 (.d (.bool z18)) ?_ ?_
 ·
  rcases Bool.eq_false_or_eq_true (z15) with hB17 | hB17
  ·
   refine ae.bool hB17 ?_
   replace hzz18:=di hB17 hzz18
   refine ae.val rfl (ah rfl) rfl ?_
   obtain ⟨z19,hzz19,hzz18⟩:=bind_some hzz18
   refine ae.val rfl (bR rfl rfl (df (enc:=ax) hzz19 kD iY ((Tree.len _).trans dL.symm))) rfl ?_
   refine ae.val rfl (aX rfl (Tree.iy il dL)) rfl ?_
   obtain ⟨z20,hzz20,hzz18⟩:=bind_some hzz18
   refine ae.ret rfl (aB rfl rfl) (um E _ _ _ hzz20 _ _ (aG.eq .nil)) rfl ?_
   refine ae.val rfl (az (b:=true) rfl rfl) rfl ?_
   cases hzz18
   exact ae.nil ⟨_,rfl,(aa.put (aa.push rfl (aa.push rfl (aa.push rfl (aa.push rfl (aa.put (.refl _) (Less.eq (by rw [hB17]))))))) (.refl _))⟩
  refine ae.bool hB17 ?_
  refine ae.no rfl rfl ?_
  refine ae.no rfl rfl ?_
  refine ae.no rfl rfl ?_
  refine ae.no rfl rfl ?_
  refine ae.val rfl (az (b:=false) rfl rfl) rfl ?_
  replace hzz18:=dm hB17 hzz18
  cases hzz18
  exact ae.nil ⟨_,rfl,(aa.put (aa.push rfl (aa.push rfl (aa.push rfl (aa.push rfl (aa.put (.refl _) (Less.eq (by rw [hB17]))))))) (.refl _))⟩
 refine ae.val rfl (ah rfl) rfl ?_
 refine ae.val rfl (bq rfl rF) rfl ?_
 obtain ⟨z21,hzz21,h⟩:=bind_some h
 rcases z21 with _ | x22
 ·
  replace h:=mF h
  subst h
  refine ae.thrown (ins:=[]) (more:=[.box b3 [(.d (.sl ((x9.2.state).map (D.int .i64)) false)),(.d (.sl ((x9.2.params).map aH) false)),(.d (.int .i64 x9.2.steps))],.box b1 [(.ptr b3 0 0)],.box b4 [(.d (.int .i64 a5.Kind)),(.d (.int .i64 a5.N)),(.d (.str a5.Tag)),(.d (.str a5.Text)),(.d (.sl ((a5.aI).map aA) false)),(.d (.sl ((a5.Kids).map aD) false))],.box b6 [(.d (.str a7.Tag)),(.d (.str a7.Key)),(.d (.str a7.Text)),(.d (.sl ((a7.aI).map aA) false)),(.d (.sl ((a7.Kids).map ax) false))]]) rfl (H13.sl [0,1,2,3] rfl rfl) rfl (aB rfl rfl) (dH E n _ _ _ _ hzz21 ) (.cons (.refl _) (.cons (.refl _) (.cons (.refl _) .nil))) (fun _ _ S23 H24=>?_)
  exact ⟨_,_,rfl,H24.weaken (List.nil_sublist _)⟩
 replace h:=mE h
 refine ae.mG (ins:=[]) (more:=[.box b3 [(.d (.sl ((x9.2.state).map (D.int .i64)) false)),(.d (.sl ((x9.2.params).map aH) false)),(.d (.int .i64 x9.2.steps))],.box b1 [(.ptr b3 0 0)],.box b4 [(.d (.int .i64 a5.Kind)),(.d (.int .i64 a5.N)),(.d (.str a5.Tag)),(.d (.str a5.Text)),(.d (.sl ((a5.aI).map aA) false)),(.d (.sl ((a5.Kids).map aD) false))],.box b6 [(.d (.str a7.Tag)),(.d (.str a7.Key)),(.d (.str a7.Text)),(.d (.sl ((a7.aI).map aA) false)),(.d (.sl ((a7.Kids).map ax) false))]]) (H13.sl [0,1,2,3] rfl rfl) rfl (aB rfl rfl) (dH E n _ _ _ _ hzz21 ) (.cons (.refl _) (.cons (.refl _) (.cons (.refl _) .nil))) rfl ?_
 rintro _ S25 _ ⟨rfl,rfl⟩ H26
 replace H26:Has B0 S25 [.box b3 [(.d (.sl ((x9.2.state).map (D.int .i64)) false)),(.d (.sl ((x9.2.params).map aH) false)),(.d (.int .i64 x9.2.steps))],.box b1 [(.ptr b3 0 0)],.box b4 [(.d (.int .i64 a5.Kind)),(.d (.int .i64 a5.N)),(.d (.str a5.Tag)),(.d (.str a5.Text)),(.d (.sl ((a5.aI).map aA) false)),(.d (.sl ((a5.Kids).map aD) false))],.box b6 [(.d (.str a7.Tag)),(.d (.str a7.Key)),(.d (.str a7.Text)),(.d (.sl ((a7.aI).map aA) false)),(.d (.sl ((a7.Kids).map ax) false))]]:=H26
 refine ae.nil ?_
 refine ay.region E.obj rfl ?_
 refine ae.val rfl (ah rfl) rfl ?_
 obtain ⟨z27,hzz27,h⟩:=bind_some h
 refine ae.val rfl (bR rfl rfl (df (enc:=ax) hzz27 kD iY ((Tree.len _).trans dL.symm))) rfl ?_
 refine ae.val rfl (aX rfl (Tree.iy il dL)) rfl ?_
 refine ae.store H26 (i:=3) rfl rfl rfl rfl (Tree.bJ _) rfl dL rfl iY rfl rfl rfl (fun S28 H29=>?_)
 refine ae.nil ?_
 have hr:=Option.some.inj h
 subst hr
 exact ⟨_,rfl,rfl,_,_,_,.refl _,(.refl _),⟨rfl,rfl⟩,H29.sl [1,0,2,3] rfl rfl⟩
set_option maxRecDepth 20000 in
set_option maxHeartbeats 4000000 in
theorem dO (n:Nat) (a1:aQ) (a2:(List Int)) (a3:(List eu)) (r:(Tree × Int)) (h:eB n a1 a2 a3=some r):dB R cfg.P 9 [(aD a1),(.sl ((a2).map (D.int .i64)) false),(.sl ((a3).map aH) false)] (.tup [.d (ax r.1),.d (.int .i64 r.2)]):=by
 unfold eB at h
 refine dB.of_wp E.obj.toObjOk (C:=cfg) Tryd.func9 rfl Gp rfl ?_
 have H0:Has aL aL []:=Has.pure
 refine ay.seq ?_
 refine ay.region E.obj rfl ?_
 refine ae.box H0 rfl rfl rfl (aQ.bJ _) rfl (fun b4 S5 H6=>?_)
 refine ae.alloc H6 rfl pE iw rfl rfl (fun b7 S8 H9=>?_)
 refine ae.val rfl (aj rfl) rfl ?_
 refine ae.nil ?_
 refine ay.seq ?_
 refine ay.region E.obj rfl ?_
 refine ae.alloc H9 rfl pE iw rfl rfl (fun b10 S11 H12=>?_)
 refine ae.nil ?_
 refine ay.seq ?_
 refine ay.region E.obj rfl ?_
 refine ae.val rfl (ah rfl) rfl ?_
 refine ae.val rfl (ah rfl) rfl ?_
 refine ae.val rfl (bH (cs:=[(.d (.sl ((a2).map (D.int .i64)) false)),(.d (.sl ((a3).map aH) false)),(.d (.int .i64 0))]) FU rfl (tN) (cO rfl rfl rfl rfl (cO rfl rfl rfl rfl rfl))) rfl ?_
 refine ae.less (Less.agg' (d:=jC (aC.mk a2 a3 0)) (ai.eq rfl (ai.eq rfl (ai.eq rfl .nil))) ((aC.eq _).trans rfl)) ?_
 refine ae.box H12 rfl rfl rfl (aC.bJ _) rfl (fun b13 S14 H15=>?_)
 refine ae.alloc H15 rfl FI Fz rfl rfl (fun b16 S17 H18=>?_)
 refine ae.store H18 (i:=0) rfl rfl rfl rfl rfl rfl F4 rfl EM rfl rfl rfl (fun S19 H20=>?_)
 refine ae.nil ?_
 refine ay.seq ?_
 obtain ⟨SC1,hwC1,HC1⟩:=H20.zS (i:=2) (cs':=[(.d (.str [])),(.d (.str [])),(.d (.str [])),(.d (.sl (([]).map aA) false)),(.d (.sl (([]).map ax) false))]) rfl (.cons (.refl _) (.cons (.refl _) (.cons (.refl _) (.cons Dl (.cons Dl .nil)))))
 refine ay.fD hwC1 ?_
 refine ay.region E.obj rfl ?_
 refine ae.val rfl (kR rfl) rfl ?_
 obtain ⟨z21,hzz21,h⟩:=bind_some h
 refine ae.FP (ins:=[.box b16 [(.ptr b13 0 0)],.box b13 [(.d (.sl (((aC.mk a2 a3 0).state).map (D.int .i64)) false)),(.d (.sl (((aC.mk a2 a3 0).params).map aH) false)),(.d (.int .i64 (aC.mk a2 a3 0).steps))],.box b4 [(.d (.int .i64 a1.Kind)),(.d (.int .i64 a1.N)),(.d (.str a1.Tag)),(.d (.str a1.Text)),(.d (.sl ((a1.aI).map aA) false)),(.d (.sl ((a1.Kids).map aD) false))],.box b10 [(.d (.str [])),(.d (.str [])),(.d (.str [])),(.d (.sl (([]).map aA) false)),(.d (.sl (([]).map ax) false))]]) (more:=[.box b7 [(.d (.str [])),(.d (.str [])),(.d (.str [])),(.d .aT),(.d .aT)]]) (HC1.sl [0,1,4,2,3] rfl rfl) rfl (aB rfl rfl) (yg E (qE E n _ _ _ _ hzz21 b16 b13 b4 b10)) (.cons (.refl _) .nil) rfl ?_
 rintro v22 S23 l24 hr25 H26
 rcases z21 with _ | x28
 ·
  obtain ⟨rfl,nt29,na30,hv27⟩:=hr25
  replace hv27:v22=.tup [.d (gB (dC.mk 6 nt29 na30)),.d (.bool false)]:=hv27
  subst hv27
  replace h:=Fu h
  replace H26:Has aL S23 [.box b7 [(.d (.str [])),(.d (.str [])),(.d (.str [])),(.d .aT),(.d .aT)]]:=H26
  refine ae.val rfl (ah rfl) rfl ?_
  refine ae.val rfl (aS rfl rfl) rfl ?_
  refine ae.val rfl (aS rfl rfl) rfl ?_
  refine ae.alloc H26 rfl Cv zZ rfl rfl (fun b31 S32 H33=>?_)
  refine ae.store H33 (i:=0) rfl rfl rfl rfl (dC.bJ _) rfl xB rfl Ca rfl rfl rfl (fun S34 H35=>?_)
  refine ae.val rfl (aj rfl) rfl ?_
  refine ae.nil ?_
  refine ay.seq ?_
  refine ay.seq ?_
  refine ay.region E.obj rfl ?_
  refine ae.val rfl (ah rfl) rfl ?_
  refine ae.val rfl (fG rfl) rfl ?_
  refine ae.nil ?_
  refine ay.cond rfl (fun hb=>?_) (fun hb=>?_)
  ·
   refine ay.seq ?_
   refine ay.nW E.obj tJ Gh [(6,none),(7,some 4)] (by kernel_rfl) [3] (by decide) [some (.d (ax (Tree.mk [] [] [] [] []))),some (.ptr b31 0 0),some (.d (.int .i64 6)),none,none] ?_
   refine ⟨[0,1,2],by kernel_rfl,?_,_,_,rfl,rfl,.step ?_⟩
   ·
    refine .cons rfl rfl rfl (.step ?_) ?_
    ·
     refine ae.val rfl (bH (cs:=[(.d (.str [])),(.d (.str [])),(.d (.str [])),(.d .aT),(.d .aT)]) iw rfl (dE) rfl) rfl ?_
     refine ae.less (Less.agg' (d:=ax (Tree.mk [] [] [] [] [])) (ai.eq rfl (ai.eq rfl (ai.eq rfl (ai.cK rfl (.aT false) rfl rfl (ai.cK rfl (.aT false) rfl rfl .nil))))) ((Tree.eq _).trans rfl)) ?_
     exact ae.nil ⟨_,_,rfl,fun _ ht=>by cases ht; exact ⟨rfl,.refl _⟩⟩
    refine .v rfl rfl rfl rfl (ak rfl BH Ee rfl) ?_
    refine .v rfl rfl rfl rfl (au H35 (i:=0) rfl rfl (aF Ew rfl)) ?_
    exact .nil
   refine ae.store H35 (i:=1) rfl rfl rfl rfl (Tree.bJ _) rfl dL rfl iY rfl rfl rfl (fun S38 H39=>?_)
   refine ae.nil ⟨_,.any,_,rfl,(fun _ ht=>by cases ht),_,(.o (.o (.o (.w .any (.w (.d (.int .i64 6)) .nil))))),(fun _ ht=>by cases ht),?_⟩
   refine ⟨[1,2,4],by kernel_rfl,?_,_,rfl,?_⟩
   ·
    refine .v rfl rfl rfl rfl (ak rfl BH Ee rfl) ?_
    refine .v rfl rfl rfl rfl (au H39 (i:=0) rfl rfl (aF Ew rfl)) ?_
    refine .v rfl rfl rfl rfl (aj rfl) ?_
    exact .nil
   have hr:=Option.some.inj h
   subst hr
   exact ay.ret ⟨_,qR H39 (i:=1) rfl rfl rfl (aV il dL rfl) rfl,rfl,Dm (aG.seq (aG.pU (d:=ax (Tree.mk [] [] [] [] [])) (ai.eq rfl (ai.eq rfl (ai.eq rfl (ai.eq rfl (ai.eq rfl .nil))))) ((Tree.eq _).trans rfl)) (aG.eq .nil))⟩
  cases hb
 obtain ⟨_,⟨rfl,rfl⟩,hv27⟩:=hr25
 replace hv27:v22=.tup [.d (gB (dC.mk 0 [] 0)),.d (.bool true)]:=hv27
 subst hv27
 replace h:=EL h
 replace H26:Has aL S23 [.box b16 [(.ptr b13 0 0)],.box b13 [(.d (.sl ((x28.1.state).map (D.int .i64)) false)),(.d (.sl ((x28.1.params).map aH) false)),(.d (.int .i64 x28.1.steps))],.box b4 [(.d (.int .i64 a1.Kind)),(.d (.int .i64 a1.N)),(.d (.str a1.Tag)),(.d (.str a1.Text)),(.d (.sl ((a1.aI).map aA) false)),(.d (.sl ((a1.Kids).map aD) false))],.box b10 [(.d (.str x28.2.Tag)),(.d (.str x28.2.Key)),(.d (.str x28.2.Text)),(.d (.sl ((x28.2.aI).map aA) false)),(.d (.sl ((x28.2.Kids).map ax) false))],.box b7 [(.d (.str [])),(.d (.str [])),(.d (.str [])),(.d .aT),(.d .aT)]]:=H26
 refine ae.val rfl (ah rfl) rfl ?_
 refine ae.val rfl (aS rfl rfl) rfl ?_
 refine ae.val rfl (aS rfl rfl) rfl ?_
 refine ae.alloc H26 rfl Cv zZ rfl rfl (fun b40 S41 H42=>?_)
 refine ae.store H42 (i:=0) rfl rfl rfl rfl (dC.bJ _) rfl xB rfl Ca rfl rfl rfl (fun S43 H44=>?_)
 refine ae.val rfl (aj rfl) rfl ?_
 refine ae.nil ?_
 refine ay.seq ?_
 refine ay.seq ?_
 refine ay.region E.obj rfl ?_
 refine ae.val rfl (ah rfl) rfl ?_
 refine ae.val rfl (fG rfl) rfl ?_
 refine ae.nil ?_
 refine ay.cond rfl (fun hb=>?_) (fun hb=>?_)
 ·
  cases hb
 refine ay.skip ?_
 refine ay.seq ?_
 refine ay.region E.obj rfl ?_
 refine ae.val rfl (au H44 (i:=4) rfl rfl (aV il dL rfl)) rfl ?_
 refine ae.less (Less.agg' (d:=ax x28.2) (ai.eq rfl (ai.eq rfl (ai.eq rfl (ai.eq rfl (ai.eq rfl .nil))))) ((Tree.eq _).trans rfl)) ?_
 refine ae.store H44 (i:=5) rfl rfl rfl rfl (Tree.bJ _) rfl dL rfl iY rfl rfl rfl (fun S45 H46=>?_)
 refine ae.val rfl (aj rfl) rfl ?_
 refine ae.nil ?_
 have hr:=Option.some.inj h
 subst hr
 exact ay.ret ⟨_,qR H46 (i:=5) rfl rfl rfl (aV il dL rfl) rfl,rfl,Dm (aG.seq (aG.pU (d:=ax x28.2) (ai.eq rfl (ai.eq rfl (ai.eq rfl (ai.eq rfl (ai.eq rfl .nil))))) ((Tree.eq _).trans rfl)) (aG.eq .nil))⟩
set_option maxRecDepth 20000 in
set_option maxHeartbeats 4000000 in
theorem jJ (n:Nat) (a1:(List Attr)) (a2:(List Attr)) (r:Bool) (h:dA n a1 a2=some r):dB R cfg.P 33 [(.sl ((a1).map aA) false),(.sl ((a2).map aA) false)] (.d (.bool r)):=by
 unfold dA at h
 refine dB.of_wp E.obj.toObjOk (C:=cfg) Tryd.func33 rfl FV rfl ?_
 have H0:Has aL aL []:=Has.pure
 refine ay.seq ?_
 refine ay.region E.obj rfl ?_
 refine ae.val rfl (aj rfl) rfl ?_
 refine ae.nil ?_
 refine ay.seq ?_
 refine ay.seq ?_
 refine ay.region E.obj rfl ?_
 refine ae.val rfl (ah rfl) rfl ?_
 refine ae.val rfl (bq rfl Ac) rfl ?_
 refine ae.val rfl (ah rfl) rfl ?_
 refine ae.val rfl (bq rfl Ac) rfl ?_
 refine ae.val rfl (av rfl rfl jA) rfl ?_
 refine ae.nil ?_
 refine ay.cond rfl (fun hb3=>?_) (fun hb3=>?_)
 ·
  replace h:=di hb3 h
  refine ay.seq ?_
  refine ay.region E.obj rfl ?_
  refine ae.val rfl (aj rfl) rfl ?_
  refine ae.nil ?_
  have hr:=Option.some.inj h
  subst hr
  exact ay.ret ⟨_,rfl,rfl,gG (aG.eq .nil)⟩
 replace h:=dm hb3 h
 refine ay.skip ?_
 refine ay.seq ?_
 refine ay.seq ?_
 refine ay.region E.obj rfl ?_
 refine ae.val rfl (aj rfl) rfl ?_
 refine ae.nil ?_
 refine ay.block ?_
 refine mH.start (B:=aL) (α:=Int) (fun k a=>aW a1 a2 k a=some r) (fun a=>[(0,(.d (.sl ((a1).map aA) false))),(1,(.d (.sl ((a2).map aA) false))),(5,(.d (.int .i64 a)))]) (fun a=>[]) ?_ ?_ n ⟨0,_,_,aL,.refl _ _,.refl _,(aa.r rfl (aa.r rfl (aa.r rfl aa.nil))),H0.sl [] rfl rfl,h⟩
 ·
  intro a h; simp [aW] at h
 intro k12 x11 S9 H10 h
 replace h:aW a1 a2 (k12 + 1) x11=some r:=h
 replace H10:Has aL S9 []:=H10
 unfold aW at h
 refine ay.seq ?_
 refine ay.seq ?_
 refine ay.region E.obj rfl ?_
 refine ae.val rfl (ah rfl) rfl ?_
 refine ae.val rfl (ah rfl) rfl ?_
 refine ae.val rfl (bq rfl Ac) rfl ?_
 refine ae.val rfl (av rfl rfl dF) rfl ?_
 refine ae.nil ?_
 refine ay.cond rfl (fun hb13=>?_) (fun hb13=>?_)
 ·
  replace h:=di hb13 h
  refine ay.skip ?_
  refine ay.seq ?_
  refine ay.block ?_
  refine ay.seq ?_
  obtain ⟨z14,hzz14,h⟩:=bind_some h
  obtain ⟨z15,hzz15,h⟩:=bind_some h
  refine ay.nW E.obj tJ Gu [(0,none),(1,none),(5,none),(25,some 8)] (by kernel_rfl) [] (by decide) [some (.d (.sl ((a1).map aA) false)),some (.d (.int .i64 x11)),some (.eptr (aA z14) 0),some (.d (aA z14)),some (.d (.sl ((a2).map aA) false)),some (.d (.int .i64 x11)),some (.eptr (aA z15) 0),some (.d (aA z15)),some (.d (.bool (!(Attr.beq z14 z15))))] ?_
  refine ⟨[0,1,2,3,4,5,6,7,8],by kernel_rfl,?_,_,rfl,?_⟩
  ·
   refine .v rfl rfl rfl rfl (ah rfl) ?_
   refine .v rfl rfl rfl rfl (ah rfl) ?_
   refine .v rfl rfl rfl rfl (bR rfl rfl (df (enc:=aA) hzz14 xH BO ((Attr.len _).trans oN.symm))) ?_
   refine .v rfl rfl rfl rfl (aX rfl (Attr.iy BR oN)) ?_
   refine .v rfl rfl rfl rfl (ah rfl) ?_
   refine .v rfl rfl rfl rfl (ah rfl) ?_
   refine .v rfl rfl rfl rfl (bR rfl rfl (df (enc:=aA) hzz15 xH BO ((Attr.len _).trans oN.symm))) ?_
   refine .v rfl rfl rfl rfl (aX rfl (Attr.iy BR oN)) ?_
   refine .v rfl rfl rfl rfl (av rfl rfl (zq (Attr.eq _) (Attr.eq _) (En _ _))) ?_
   exact .nil
  refine ay.cond rfl (fun hb16=>?_) (fun hb16=>?_)
  ·
   replace h:=di hb16 h
   refine ay.seq ?_
   refine ay.region E.obj rfl ?_
   refine ae.val rfl (aj rfl) rfl ?_
   refine ae.nil ?_
   have hr:=Option.some.inj h
   subst hr
   exact ay.ret ⟨_,rfl,rfl,gG (aG.eq .nil)⟩
  replace h:=dm hb16 h
  refine ay.skip ?_
  refine ay.region E.obj rfl ?_
  refine ae.val rfl (ah rfl) rfl ?_
  refine ae.val rfl (av rfl rfl cu) rfl ?_
  refine ae.val rfl (aj rfl) rfl ?_
  refine ae.nil ?_
  exact ⟨(IntKind.wrap .i64 (x11 + 1)),_,_,S9,.refl _ _,.refl _,(aa.r rfl (aa.r rfl (aa.r rfl aa.nil))),H10.sl [] rfl rfl,h⟩
 replace h:=dm hb13 h
 refine ay.exit ?_
 refine ay.seq ?_
 refine ay.region E.obj rfl ?_
 refine ae.val rfl (aj rfl) rfl ?_
 refine ae.nil ?_
 have hr:=Option.some.inj h
 subst hr
 exact ay.ret ⟨_,rfl,rfl,gG (aG.eq .nil)⟩
set_option maxRecDepth 20000 in
set_option maxHeartbeats 4000000 in
theorem fE:∀ (n:Nat) (a1:Tree) (a2:Tree) (r:Bool),bE n a1 a2=some r→dB R cfg.P 10 [(ax a1),(ax a2)] (.d (.bool r))
 | 0,a1,a2,r,h=>by simp [bE] at h
 | n + 1,a1,a2,r,h=>by
  have ih:=fE n
  unfold bE at h
  refine dB.of_wp E.obj.toObjOk (C:=cfg) Tryd.func10 rfl ES rfl ?_
  have H0:Has aL aL []:=Has.pure
  refine ay.seq ?_
  refine ay.region E.obj rfl ?_
  refine ae.box H0 rfl rfl rfl (Tree.bJ _) rfl (fun b3 S4 H5=>?_)
  refine ae.box H5 rfl rfl rfl (Tree.bJ _) rfl (fun b6 S7 H8=>?_)
  refine ae.val rfl (aj rfl) rfl ?_
  refine ae.nil ?_
  refine ay.seq ?_
  refine ay.seq ?_
  refine ay.region E.obj rfl ?_
  refine ae.val rfl (ak rfl lY mD rfl) rfl ?_
  refine ae.val rfl (au H8 (i:=1) rfl rfl (aF lM rfl)) rfl ?_
  refine ae.val rfl (ak rfl lY mD rfl) rfl ?_
  refine ae.val rfl (au H8 (i:=0) rfl rfl (aF lM rfl)) rfl ?_
  refine ae.val rfl (av rfl rfl je) rfl ?_
  refine ae.val rfl (ah rfl) rfl ?_
  refine ae.bG 6 17 (.d (.bool ((!(a1.Tag == a2.Tag)) || (!(a1.Key == a2.Key))))) ?_ ?_
  ·
   rcases Bool.eq_false_or_eq_true ((!(a1.Tag == a2.Tag))) with hB9 | hB9
   ·
    refine ae.bool hB9 ?_
    refine ae.no rfl rfl ?_
    refine ae.no rfl rfl ?_
    refine ae.no rfl rfl ?_
    refine ae.no rfl rfl ?_
    refine ae.no rfl rfl ?_
    refine ae.val rfl (az (b:=true) rfl rfl) rfl ?_
    exact ae.nil ⟨_,rfl,(aa.put (aa.push rfl (aa.push rfl (aa.push rfl (aa.push rfl (aa.push rfl (aa.put (.refl _) (Less.eq (by rw [hB9])))))))) (Less.eq (by rw [hB9]; rw [Bool.true_or])))⟩
   refine ae.bool hB9 ?_
   refine ae.val rfl (ak rfl qj mD rfl) rfl ?_
   refine ae.val rfl (au H8 (i:=1) rfl rfl (aF lM rfl)) rfl ?_
   refine ae.val rfl (ak rfl qj mD rfl) rfl ?_
   refine ae.val rfl (au H8 (i:=0) rfl rfl (aF lM rfl)) rfl ?_
   refine ae.val rfl (av rfl rfl je) rfl ?_
   refine ae.val rfl (az (b:=false) rfl rfl) rfl ?_
   exact ae.nil ⟨_,rfl,(aa.put (aa.push rfl (aa.push rfl (aa.push rfl (aa.push rfl (aa.push rfl (aa.put (.refl _) (Less.eq (by rw [hB9])))))))) (Less.eq (by rw [hB9]; rw [Bool.false_or])))⟩
  refine ae.val rfl (ah rfl) rfl ?_
  refine ae.bG 6 24 (.d (.bool (((!(a1.Tag == a2.Tag)) || (!(a1.Key == a2.Key))) || (!(a1.Text == a2.Text))))) ?_ ?_
  ·
   rcases Bool.eq_false_or_eq_true (((!(a1.Tag == a2.Tag)) || (!(a1.Key == a2.Key)))) with hB10 | hB10
   ·
    refine ae.bool hB10 ?_
    refine ae.no rfl rfl ?_
    refine ae.no rfl rfl ?_
    refine ae.no rfl rfl ?_
    refine ae.no rfl rfl ?_
    refine ae.no rfl rfl ?_
    refine ae.val rfl (az (b:=true) rfl rfl) rfl ?_
    exact ae.nil ⟨_,rfl,(aa.put (aa.push rfl (aa.push rfl (aa.push rfl (aa.push rfl (aa.push rfl (aa.put (.refl _) (Less.eq (by rw [hB10])))))))) (Less.eq (by rw [hB10]; rw [Bool.true_or])))⟩
   refine ae.bool hB10 ?_
   refine ae.val rfl (ak rfl wE mD rfl) rfl ?_
   refine ae.val rfl (au H8 (i:=1) rfl rfl (aF lM rfl)) rfl ?_
   refine ae.val rfl (ak rfl wE mD rfl) rfl ?_
   refine ae.val rfl (au H8 (i:=0) rfl rfl (aF lM rfl)) rfl ?_
   refine ae.val rfl (av rfl rfl je) rfl ?_
   refine ae.val rfl (az (b:=false) rfl rfl) rfl ?_
   exact ae.nil ⟨_,rfl,(aa.put (aa.push rfl (aa.push rfl (aa.push rfl (aa.push rfl (aa.push rfl (aa.put (.refl _) (Less.eq (by rw [hB10])))))))) (Less.eq (by rw [hB10]; rw [Bool.false_or])))⟩
  refine ae.val rfl (ah rfl) rfl ?_
  obtain ⟨z12,hzz12,h⟩:=bind_some h
  refine ae.bG 7 32 (.d (.bool z12)) ?_ ?_
  ·
   rcases Bool.eq_false_or_eq_true ((((!(a1.Tag == a2.Tag)) || (!(a1.Key == a2.Key))) || (!(a1.Text == a2.Text)))) with hB11 | hB11
   ·
    refine ae.bool hB11 ?_
    refine ae.no rfl rfl ?_
    refine ae.no rfl rfl ?_
    refine ae.no rfl rfl ?_
    refine ae.no rfl rfl ?_
    refine ae.no rfl rfl ?_
    refine ae.no rfl rfl ?_
    refine ae.val rfl (az (b:=true) rfl rfl) rfl ?_
    replace hzz12:=di hB11 hzz12
    cases hzz12
    exact ae.nil ⟨_,rfl,(aa.put (aa.push rfl (aa.push rfl (aa.push rfl (aa.push rfl (aa.push rfl (aa.push rfl (aa.put (.refl _) (Less.eq (by rw [hB11]))))))))) (.refl _))⟩
   refine ae.bool hB11 ?_
   replace hzz12:=dm hB11 hzz12
   refine ae.val rfl (ak rfl tK xE rfl) rfl ?_
   refine ae.val rfl (au H8 (i:=1) rfl rfl (aF zn rfl)) rfl ?_
   refine ae.val rfl (ak rfl tK xE rfl) rfl ?_
   refine ae.val rfl (au H8 (i:=0) rfl rfl (aF zn rfl)) rfl ?_
   obtain ⟨z13,hzz13,hzz12⟩:=bind_some hzz12
   refine ae.ret rfl (aB rfl rfl) (jJ E _ _ _ _ hzz13 _ _ (aG.eq (aG.eq .nil))) rfl ?_
   refine ae.val rfl (fG rfl) rfl ?_
   refine ae.val rfl (az (b:=false) rfl rfl) rfl ?_
   cases hzz12
   exact ae.nil ⟨_,rfl,(aa.put (aa.push rfl (aa.push rfl (aa.push rfl (aa.push rfl (aa.push rfl (aa.push rfl (aa.put (.refl _) (Less.eq (by rw [hB11]))))))))) (.refl _))⟩
  refine ae.val rfl (ah rfl) rfl ?_
  refine ae.bG 8 41 (.d (.bool (z12 || (((a1.Kids).length:Int) != ((a2.Kids).length:Int))))) ?_ ?_
  ·
   rcases Bool.eq_false_or_eq_true (z12) with hB14 | hB14
   ·
    refine ae.bool hB14 ?_
    refine ae.no rfl rfl ?_
    refine ae.no rfl rfl ?_
    refine ae.no rfl rfl ?_
    refine ae.no rfl rfl ?_
    refine ae.no rfl rfl ?_
    refine ae.no rfl rfl ?_
    refine ae.no rfl rfl ?_
    refine ae.val rfl (az (b:=true) rfl rfl) rfl ?_
    exact ae.nil ⟨_,rfl,(aa.put (aa.push rfl (aa.push rfl (aa.push rfl (aa.push rfl (aa.push rfl (aa.push rfl (aa.push rfl (aa.put (.refl _) (Less.eq (by rw [hB14])))))))))) (Less.eq (by rw [hB14]; rw [Bool.true_or])))⟩
   refine ae.bool hB14 ?_
   refine ae.val rfl (ak rfl iL pW rfl) rfl ?_
   refine ae.val rfl (au H8 (i:=1) rfl rfl (aF pX rfl)) rfl ?_
   refine ae.val rfl (bq rfl rF) rfl ?_
   refine ae.val rfl (ak rfl iL pW rfl) rfl ?_
   refine ae.val rfl (au H8 (i:=0) rfl rfl (aF pX rfl)) rfl ?_
   refine ae.val rfl (bq rfl rF) rfl ?_
   refine ae.val rfl (av rfl rfl jA) rfl ?_
   refine ae.val rfl (az (b:=false) rfl rfl) rfl ?_
   exact ae.nil ⟨_,rfl,(aa.put (aa.push rfl (aa.push rfl (aa.push rfl (aa.push rfl (aa.push rfl (aa.push rfl (aa.push rfl (aa.put (.refl _) (Less.eq (by rw [hB14])))))))))) (Less.eq (by rw [hB14]; rw [Bool.false_or])))⟩
  refine ae.nil ?_
  refine ay.cond rfl (fun hb15=>?_) (fun hb15=>?_)
  ·
   replace h:=di hb15 h
   refine ay.seq ?_
   refine ay.region E.obj rfl ?_
   refine ae.val rfl (aj rfl) rfl ?_
   refine ae.nil ?_
   have hr:=Option.some.inj h
   subst hr
   exact ay.ret ⟨_,rfl,rfl,gG (aG.eq .nil)⟩
  replace h:=dm hb15 h
  refine ay.skip ?_
  refine ay.seq ?_
  refine ay.seq ?_
  refine ay.region E.obj rfl ?_
  refine ae.val rfl (ak rfl iL pW rfl) rfl ?_
  refine ae.val rfl (au H8 (i:=1) rfl rfl (aF pX rfl)) rfl ?_
  refine ae.val rfl (bq rfl rF) rfl ?_
  refine ae.val rfl (ah rfl) rfl ?_
  refine ae.nil ?_
  refine ay.block ?_
  refine mH.start (B:=aL) (α:=Int) (fun k a=>bS (bE n) a1 a2 k a=some r) (fun a=>[(2,(.ptr b3 0 0)),(3,(.ptr b6 0 0)),(44,(.d (.int .i64 ((a1.Kids).length:Int)))),(45,(.d (.int .i64 a)))]) (fun a=>[.box b6 [(.d (.str a2.Tag)),(.d (.str a2.Key)),(.d (.str a2.Text)),(.d (.sl ((a2.aI).map aA) false)),(.d (.sl ((a2.Kids).map ax) false))],.box b3 [(.d (.str a1.Tag)),(.d (.str a1.Key)),(.d (.str a1.Text)),(.d (.sl ((a1.aI).map aA) false)),(.d (.sl ((a1.Kids).map ax) false))]]) ?_ ?_ n ⟨0,_,_,S7,.refl _ _,.refl _,(aa.r rfl (aa.r rfl (aa.r rfl (aa.r rfl aa.nil)))),H8.sl [0,1] rfl rfl,h⟩
  ·
   intro a h; simp [bS] at h
  intro k24 x23 S21 H22 h
  replace h:bS (bE n) a1 a2 (k24 + 1) x23=some r:=h
  replace H22:Has aL S21 [.box b6 [(.d (.str a2.Tag)),(.d (.str a2.Key)),(.d (.str a2.Text)),(.d (.sl ((a2.aI).map aA) false)),(.d (.sl ((a2.Kids).map ax) false))],.box b3 [(.d (.str a1.Tag)),(.d (.str a1.Key)),(.d (.str a1.Text)),(.d (.sl ((a1.aI).map aA) false)),(.d (.sl ((a1.Kids).map ax) false))]]:=H22
  unfold bS at h
  refine ay.seq ?_
  refine ay.region E.obj rfl ?_
  refine ae.val rfl (av rfl rfl dF) rfl ?_
  refine ae.nil ?_
  refine ay.seq ?_
  refine ay.cond rfl (fun hb25=>?_) (fun hb25=>?_)
  ·
   replace h:=di hb25 h
   refine ay.skip ?_
   refine ay.seq ?_
   refine ay.block ?_
   refine ay.seq ?_
   refine ay.region E.obj rfl ?_
   refine ae.val rfl (ah rfl) rfl ?_
   refine ae.val rfl (aj rfl) rfl ?_
   refine ae.nil ?_
   refine ay.seq ?_
   obtain ⟨z26,hzz26,h⟩:=bind_some h
   obtain ⟨z27,hzz27,h⟩:=bind_some h
   obtain ⟨z28,hzz28,h⟩:=bind_some h
   refine ay.nW E.obj tJ Gx [(2,none),(3,none),(44,none),(45,none),(59,some 11)] (by kernel_rfl) [] (by decide) [some (.ptr b3 0 4),some (.d (.sl ((a1.Kids).map ax) false)),some (.d (.int .i64 x23)),some (.eptr (ax z26) 0),some (.d (ax z26)),some (.ptr b6 0 4),some (.d (.sl ((a2.Kids).map ax) false)),some (.d (.int .i64 x23)),some (.eptr (ax z27) 0),some (.d (ax z27)),some (.d (.bool z28)),some (.d (.bool (!z28)))] ?_
   refine ⟨[0,1,2,3,4,5,6,7,8,9,10,11],by kernel_rfl,?_,_,rfl,?_⟩
   ·
    refine .v rfl rfl rfl rfl (ak rfl iL pW rfl) ?_
    refine .v rfl rfl rfl rfl (au H22 (i:=1) rfl rfl (aF pX rfl)) ?_
    refine .v rfl rfl rfl rfl (ah rfl) ?_
    refine .v rfl rfl rfl rfl (bR rfl rfl (df (enc:=ax) hzz26 kD iY ((Tree.len _).trans dL.symm))) ?_
    refine .v rfl rfl rfl rfl (aX rfl (Tree.iy il dL)) ?_
    refine .v rfl rfl rfl rfl (ak rfl iL pW rfl) ?_
    refine .v rfl rfl rfl rfl (au H22 (i:=0) rfl rfl (aF pX rfl)) ?_
    refine .v rfl rfl rfl rfl (ah rfl) ?_
    refine .v rfl rfl rfl rfl (bR rfl rfl (df (enc:=ax) hzz27 kD iY ((Tree.len _).trans dL.symm))) ?_
    refine .v rfl rfl rfl rfl (aX rfl (Tree.iy il dL)) ?_
    refine .cons rfl rfl rfl (.step ?_) ?_
    ·
     refine ae.ret rfl (aB rfl rfl) (ih _ _ _ hzz28 _ _ (aG.eq (aG.eq .nil))) rfl ?_
     exact ae.nil ⟨_,_,rfl,fun _ ht=>by cases ht; exact ⟨rfl,.refl _⟩⟩
    refine .v rfl rfl rfl rfl (fG rfl) ?_
    exact .nil
   refine ay.cond rfl (fun hb29=>?_) (fun hb29=>?_)
   ·
    replace h:=di hb29 h
    refine ay.seq ?_
    refine ay.region E.obj rfl ?_
    refine ae.val rfl (aj rfl) rfl ?_
    refine ae.nil ?_
    have hr:=Option.some.inj h
    subst hr
    exact ay.ret ⟨_,rfl,rfl,gG (aG.eq .nil)⟩
   replace h:=dm hb29 h
   refine ay.skip ?_
   refine ay.region E.obj rfl ?_
   refine ae.val rfl (av rfl rfl cu) rfl ?_
   refine ae.val rfl (ah rfl) rfl ?_
   refine ae.nil ?_
   exact ⟨(IntKind.wrap .i64 (x23 + 1)),_,_,S21,.refl _ _,.refl _,(aa.r rfl (aa.r rfl (aa.r rfl (aa.r rfl aa.nil)))),H22.sl [0,1] rfl rfl,h⟩
  replace h:=dm hb25 h
  refine ay.exit ?_
  refine ay.seq ?_
  refine ay.region E.obj rfl ?_
  refine ae.val rfl (aj rfl) rfl ?_
  refine ae.nil ?_
  have hr:=Option.some.inj h
  subst hr
  exact ay.ret ⟨_,rfl,rfl,gG (aG.eq .nil)⟩
set_option maxRecDepth 20000 in
set_option maxHeartbeats 4000000 in
theorem nX:∀ (n:Nat) (a1:aQ) (r:(Int × Int)),fH n a1=some r→dB R cfg.P 34 [(aD a1)] (.tup [.d (.int .i64 r.1),.d (.int .i64 r.2)])
 | 0,a1,r,h=>by simp [fH] at h
 | n + 1,a1,r,h=>by
  have ih:=nX n
  unfold fH at h
  refine dB.of_wp E.obj.toObjOk (C:=cfg) Tryd.func34 rfl FJ rfl ?_
  have H0:Has aL aL []:=Has.pure
  refine ay.seq ?_
  refine ay.region E.obj rfl ?_
  refine ae.box H0 rfl rfl rfl (aQ.bJ _) rfl (fun b2 S3 H4=>?_)
  refine ae.val rfl (aj rfl) rfl ?_
  refine ae.val rfl (aj rfl) rfl ?_
  refine ae.nil ?_
  refine ay.seq ?_
  refine ay.region E.obj rfl ?_
  refine ae.val rfl (aj rfl) rfl ?_
  refine ae.val rfl (aj rfl) rfl ?_
  refine ae.nil ?_
  refine ay.seq ?_
  refine ay.seq ?_
  refine ay.region E.obj rfl ?_
  refine ae.val rfl (ak rfl jX sO rfl) rfl ?_
  refine ae.val rfl (au H4 (i:=0) rfl rfl (aF uI rfl)) rfl ?_
  refine ae.val rfl (bq rfl AO) rfl ?_
  refine ae.val rfl (ah rfl) rfl ?_
  refine ae.nil ?_
  refine ay.block ?_
  refine mH.start (B:=aL) (α:=Int × Int × Int) (fun k a=>dS (fH n) a1 k a.1 a.2.1 a.2.2=some r) (fun a=>[(4,(.d (.int .i64 a.1))),(5,(.d (.int .i64 a.2.1))),(11,(.d (.sl ((a1.Kids).map aD) false))),(12,(.d (.int .i64 ((a1.Kids).length:Int)))),(13,(.d (.int .i64 a.2.2)))]) (fun a=>[]) ?_ ?_ n ⟨⟨1,0,0⟩,_,_,S3,.refl _ _,.refl _,(aa.r rfl (aa.r rfl (aa.r rfl (aa.r rfl (aa.r rfl aa.nil))))),H4.sl [] rfl rfl,h⟩
  ·
   intro a h; simp [dS] at h
  intro k17 a S12 H13 h
  obtain ⟨x14,x15,x16⟩:=a
  replace h:dS (fH n) a1 (k17 + 1) x14 x15 x16=some r:=h
  replace H13:Has aL S12 []:=H13
  unfold dS at h
  refine ay.seq ?_
  refine ay.region E.obj rfl ?_
  refine ae.val rfl (av rfl rfl dF) rfl ?_
  refine ae.nil ?_
  refine ay.seq ?_
  refine ay.cond rfl (fun hb18=>?_) (fun hb18=>?_)
  ·
   replace h:=di hb18 h
   refine ay.skip ?_
   refine ay.seq ?_
   refine ay.block ?_
   refine ay.seq ?_
   refine ay.region E.obj rfl ?_
   obtain ⟨z19,hzz19,h⟩:=bind_some h
   refine ae.val rfl (bR rfl rfl (df (enc:=aD) hzz19 nO oI ((aQ.len _).trans dP.symm))) rfl ?_
   refine ae.val rfl (aX rfl (aQ.iy fU dP)) rfl ?_
   refine ae.alloc H13 rfl uJ iF rfl rfl (fun b20 S21 H22=>?_)
   refine ae.store H22 (i:=0) rfl rfl rfl rfl (aQ.bJ _) rfl dP rfl oI rfl rfl rfl (fun S23 H24=>?_)
   refine ae.nil ?_
   refine ay.seq ?_
   refine ay.region E.obj rfl ?_
   refine ae.val rfl (au H24 (i:=0) rfl rfl (aV fU dP rfl)) rfl ?_
   refine ae.less (Less.agg' (d:=aD z19) (ai.eq rfl (ai.eq rfl (ai.eq rfl (ai.eq rfl (ai.eq rfl (ai.eq rfl .nil)))))) ((aQ.eq _).trans rfl)) ?_
   obtain ⟨z25,hzz25,h⟩:=bind_some h
   refine ae.ret rfl (aB rfl rfl) (ih _ _ hzz25 _ _ (aG.eq .nil)) rfl ?_
   refine ae.val rfl (ah rfl) rfl ?_
   refine ae.val rfl (aS rfl rfl) rfl ?_
   refine ae.val rfl (aS rfl rfl) rfl ?_
   refine ae.val rfl (aj rfl) rfl ?_
   refine ae.val rfl (aj rfl) rfl ?_
   refine ae.nil ?_
   refine ay.region E.obj rfl ?_
   refine ae.val rfl (ah rfl) rfl ?_
   refine ae.val rfl (ah rfl) rfl ?_
   refine ae.val rfl (av rfl rfl cu) rfl ?_
   refine ae.val rfl (ah rfl) rfl ?_
   refine ae.val rfl (ah rfl) rfl ?_
   refine ae.val rfl (ui rfl rfl) rfl ?_
   refine ae.val rfl (aj rfl) rfl ?_
   refine ae.val rfl (aj rfl) rfl ?_
   refine ae.nil ?_
   refine ay.region E.obj rfl ?_
   refine ae.val rfl (av rfl rfl cu) rfl ?_
   refine ae.val rfl (ah rfl) rfl ?_
   refine ae.nil ?_
   exact ⟨⟨(IntKind.wrap .i64 (x14 + z25.1)),(mO x15 z25.2),(IntKind.wrap .i64 (x16 + 1))⟩,_,_,S23,.refl _ _,.refl _,(aa.r rfl (aa.r rfl (aa.r rfl (aa.r rfl (aa.r rfl aa.nil))))),H24.sl [] rfl rfl,h⟩
  replace h:=dm hb18 h
  refine ay.exit ?_
  refine ay.seq ?_
  refine ay.region E.obj rfl ?_
  refine ae.val rfl (ah rfl) rfl ?_
  refine ae.val rfl (ah rfl) rfl ?_
  refine ae.val rfl (av rfl rfl cu) rfl ?_
  refine ae.val rfl (aj rfl) rfl ?_
  refine ae.val rfl (aj rfl) rfl ?_
  refine ae.nil ?_
  have hr:=Option.some.inj h
  subst hr
  exact ay.ret ⟨_,rfl,rfl,Dm (vs:=[(.d (.int .i64 x14)),(.d (.int .i64 (IntKind.wrap .i64 (x15 + 1))))]) (ds:=[(.int .i64 x14),(.int .i64 (IntKind.wrap .i64 (x15 + 1)))]) (aG.eq (aG.eq .nil))⟩
set_option maxRecDepth 20000 in
set_option maxHeartbeats 4000000 in
theorem nV:∀ (n:Nat) (a1:aQ) (a2:Int) (a3:Bool) (r:Bool),fI n a1 a2 a3=some r→dB R cfg.P 35 [(aD a1),(.int .i64 a2),(.bool a3)] (.d (.bool r))
 | 0,a1,a2,a3,r,h=>by simp [fI] at h
 | n + 1,a1,a2,a3,r,h=>by
  have ih:=nV n
  unfold fI at h
  refine dB.of_wp E.obj.toObjOk (C:=cfg) Tryd.func35 rfl Fg rfl ?_
  have H0:Has aL aL []:=Has.pure
  refine ay.seq ?_
  refine ay.region E.obj rfl ?_
  refine ae.box H0 rfl rfl rfl (aQ.bJ _) rfl (fun b4 S5 H6=>?_)
  refine ae.val rfl (aj rfl) rfl ?_
  refine ae.nil ?_
  refine ay.seq ?_
  refine ay.region E.obj rfl ?_
  refine ae.val rfl (ak rfl si qb rfl) rfl ?_
  refine ae.val rfl (au H6 (i:=0) rfl rfl (aF kC rfl)) rfl ?_
  refine ae.val rfl (av rfl rfl pI) rfl ?_
  refine ae.val rfl (ah rfl) rfl ?_
  refine ae.bG 5 19 (.d (.bool ((decide (0 ≤ a1.N)) && (decide (a1.N < a2))))) ?_ ?_
  ·
   rcases Bool.eq_false_or_eq_true ((decide (0 ≤ a1.N))) with hB7 | hB7
   ·
    refine ae.bool hB7 ?_
    refine ae.val rfl (ak rfl si qb rfl) rfl ?_
    refine ae.val rfl (au H6 (i:=0) rfl rfl (aF kC rfl)) rfl ?_
    refine ae.val rfl (ah rfl) rfl ?_
    refine ae.val rfl (av rfl rfl dF) rfl ?_
    refine ae.val rfl (az (b:=true) rfl rfl) rfl ?_
    exact ae.nil ⟨_,rfl,(aa.put (aa.push rfl (aa.push rfl (aa.push rfl (aa.push rfl (aa.put (.refl _) (Less.eq (by rw [hB7]))))))) (Less.eq (by rw [hB7]; rw [Bool.true_and])))⟩
   refine ae.bool hB7 ?_
   refine ae.no rfl rfl ?_
   refine ae.no rfl rfl ?_
   refine ae.no rfl rfl ?_
   refine ae.no rfl rfl ?_
   refine ae.val rfl (az (b:=false) rfl rfl) rfl ?_
   exact ae.nil ⟨_,rfl,(aa.put (aa.push rfl (aa.push rfl (aa.push rfl (aa.push rfl (aa.put (.refl _) (Less.eq (by rw [hB7]))))))) (Less.eq (by rw [hB7]; rw [Bool.false_and])))⟩
  refine ae.val rfl (aj rfl) rfl ?_
  refine ae.nil ?_
  refine ay.seq ?_
  refine ay.region E.obj rfl ?_
  refine ae.val rfl (ak rfl gL qb rfl) rfl ?_
  refine ae.val rfl (au H6 (i:=0) rfl rfl (aF kC rfl)) rfl ?_
  refine ae.val rfl (av rfl rfl bI) rfl ?_
  refine ae.val rfl (ah rfl) rfl ?_
  refine ae.bG 4 27 (.d (.bool ((a1.Kind == 1) || (a1.Kind == 5)))) ?_ ?_
  ·
   rcases Bool.eq_false_or_eq_true ((a1.Kind == 1)) with hB8 | hB8
   ·
    refine ae.bool hB8 ?_
    refine ae.no rfl rfl ?_
    refine ae.no rfl rfl ?_
    refine ae.no rfl rfl ?_
    refine ae.val rfl (az (b:=true) rfl rfl) rfl ?_
    exact ae.nil ⟨_,rfl,(aa.put (aa.push rfl (aa.push rfl (aa.push rfl (aa.put (.refl _) (Less.eq (by rw [hB8])))))) (Less.eq (by rw [hB8]; rw [Bool.true_or])))⟩
   refine ae.bool hB8 ?_
   refine ae.val rfl (ak rfl gL qb rfl) rfl ?_
   refine ae.val rfl (au H6 (i:=0) rfl rfl (aF kC rfl)) rfl ?_
   refine ae.val rfl (av rfl rfl bI) rfl ?_
   refine ae.val rfl (az (b:=false) rfl rfl) rfl ?_
   exact ae.nil ⟨_,rfl,(aa.put (aa.push rfl (aa.push rfl (aa.push rfl (aa.put (.refl _) (Less.eq (by rw [hB8])))))) (Less.eq (by rw [hB8]; rw [Bool.false_or])))⟩
  refine ae.val rfl (ah rfl) rfl ?_
  refine ae.bG 4 32 (.d (.bool (((a1.Kind == 1) || (a1.Kind == 5)) || (a1.Kind == 6)))) ?_ ?_
  ·
   rcases Bool.eq_false_or_eq_true (((a1.Kind == 1) || (a1.Kind == 5))) with hB9 | hB9
   ·
    refine ae.bool hB9 ?_
    refine ae.no rfl rfl ?_
    refine ae.no rfl rfl ?_
    refine ae.no rfl rfl ?_
    refine ae.val rfl (az (b:=true) rfl rfl) rfl ?_
    exact ae.nil ⟨_,rfl,(aa.put (aa.push rfl (aa.push rfl (aa.push rfl (aa.put (.refl _) (Less.eq (by rw [hB9])))))) (Less.eq (by rw [hB9]; rw [Bool.true_or])))⟩
   refine ae.bool hB9 ?_
   refine ae.val rfl (ak rfl gL qb rfl) rfl ?_
   refine ae.val rfl (au H6 (i:=0) rfl rfl (aF kC rfl)) rfl ?_
   refine ae.val rfl (av rfl rfl bI) rfl ?_
   refine ae.val rfl (az (b:=false) rfl rfl) rfl ?_
   exact ae.nil ⟨_,rfl,(aa.put (aa.push rfl (aa.push rfl (aa.push rfl (aa.put (.refl _) (Less.eq (by rw [hB9])))))) (Less.eq (by rw [hB9]; rw [Bool.false_or])))⟩
  refine ae.val rfl (aj rfl) rfl ?_
  refine ae.nil ?_
  refine ay.seq ?_
  refine ay.block ?_
  refine ay.seq ?_
  refine ay.region E.obj rfl ?_
  refine ae.val rfl (ak rfl gL qb rfl) rfl ?_
  refine ae.val rfl (au H6 (i:=0) rfl rfl (aF kC rfl)) rfl ?_
  refine ae.val rfl (av rfl rfl dF) rfl ?_
  refine ae.val rfl (ah rfl) rfl ?_
  refine ae.bG 4 41 (.d (.bool ((decide (a1.Kind < 1)) || (decide (7 < a1.Kind))))) ?_ ?_
  ·
   rcases Bool.eq_false_or_eq_true ((decide (a1.Kind < 1))) with hB10 | hB10
   ·
    refine ae.bool hB10 ?_
    refine ae.no rfl rfl ?_
    refine ae.no rfl rfl ?_
    refine ae.no rfl rfl ?_
    refine ae.val rfl (az (b:=true) rfl rfl) rfl ?_
    exact ae.nil ⟨_,rfl,(aa.put (aa.push rfl (aa.push rfl (aa.push rfl (aa.put (.refl _) (Less.eq (by rw [hB10])))))) (Less.eq (by rw [hB10]; rw [Bool.true_or])))⟩
   refine ae.bool hB10 ?_
   refine ae.val rfl (ak rfl gL qb rfl) rfl ?_
   refine ae.val rfl (au H6 (i:=0) rfl rfl (aF kC rfl)) rfl ?_
   refine ae.val rfl (av rfl rfl iW) rfl ?_
   refine ae.val rfl (az (b:=false) rfl rfl) rfl ?_
   exact ae.nil ⟨_,rfl,(aa.put (aa.push rfl (aa.push rfl (aa.push rfl (aa.put (.refl _) (Less.eq (by rw [hB10])))))) (Less.eq (by rw [hB10]; rw [Bool.false_or])))⟩
  refine ae.val rfl (ah rfl) rfl ?_
  refine ae.bG 9 51 (.d (.bool (((decide (a1.Kind < 1)) || (decide (7 < a1.Kind))) || ((!(((a1.Kind == 1) || (a1.Kind == 5)) || (a1.Kind == 6))) && (decide (0 < ((a1.Kids).length:Int))))))) ?_ ?_
  ·
   rcases Bool.eq_false_or_eq_true (((decide (a1.Kind < 1)) || (decide (7 < a1.Kind)))) with hB11 | hB11
   ·
    refine ae.bool hB11 ?_
    refine ae.no rfl rfl ?_
    refine ae.no rfl rfl ?_
    refine ae.no rfl rfl ?_
    refine ae.no rfl rfl ?_
    refine ae.no rfl rfl ?_
    refine ae.no rfl rfl ?_
    refine ae.no rfl rfl ?_
    refine ae.no rfl rfl ?_
    refine ae.val rfl (az (b:=true) rfl rfl) rfl ?_
    exact ae.nil ⟨_,rfl,(aa.put (aa.push rfl (aa.push rfl (aa.push rfl (aa.push rfl (aa.push rfl (aa.push rfl (aa.push rfl (aa.push rfl (aa.put (.refl _) (Less.eq (by rw [hB11]))))))))))) (Less.eq (by rw [hB11]; rw [Bool.true_or])))⟩
   refine ae.bool hB11 ?_
   refine ae.val rfl (ah rfl) rfl ?_
   refine ae.val rfl (fG rfl) rfl ?_
   refine ae.val rfl (ah rfl) rfl ?_
   refine ae.bG 5 50 (.d (.bool ((!(((a1.Kind == 1) || (a1.Kind == 5)) || (a1.Kind == 6))) && (decide (0 < ((a1.Kids).length:Int)))))) ?_ ?_
   ·
    rcases Bool.eq_false_or_eq_true ((!(((a1.Kind == 1) || (a1.Kind == 5)) || (a1.Kind == 6)))) with hB12 | hB12
    ·
     refine ae.bool hB12 ?_
     refine ae.val rfl (ak rfl jX sO rfl) rfl ?_
     refine ae.val rfl (au H6 (i:=0) rfl rfl (aF uI rfl)) rfl ?_
     refine ae.val rfl (bq rfl AO) rfl ?_
     refine ae.val rfl (av rfl rfl iW) rfl ?_
     refine ae.val rfl (az (b:=true) rfl rfl) rfl ?_
     exact ae.nil ⟨_,rfl,(aa.put (aa.push rfl (aa.push rfl (aa.push rfl (aa.push rfl (aa.put (.refl _) (Less.eq (by rw [hB12]))))))) (Less.eq (by rw [hB12]; rw [Bool.true_and])))⟩
    refine ae.bool hB12 ?_
    refine ae.no rfl rfl ?_
    refine ae.no rfl rfl ?_
    refine ae.no rfl rfl ?_
    refine ae.no rfl rfl ?_
    refine ae.val rfl (az (b:=false) rfl rfl) rfl ?_
    exact ae.nil ⟨_,rfl,(aa.put (aa.push rfl (aa.push rfl (aa.push rfl (aa.push rfl (aa.put (.refl _) (Less.eq (by rw [hB12]))))))) (Less.eq (by rw [hB12]; rw [Bool.false_and])))⟩
   refine ae.val rfl (az (b:=false) rfl rfl) rfl ?_
   exact ae.nil ⟨_,rfl,(aa.put (aa.push rfl (aa.push rfl (aa.push rfl (aa.push rfl (aa.put (.refl _) (Less.eq (by rw [hB11]))))))) (Less.eq (by rw [hB11]; rw [Bool.false_or])))⟩
  refine ae.val rfl (aj rfl) rfl ?_
  refine ae.nil ?_
  refine ay.cond rfl (fun hb13=>?_) (fun hb13=>?_)
  ·
   replace h:=di hb13 h
   refine ay.seq ?_
   refine ay.region E.obj rfl ?_
   refine ae.val rfl (aj rfl) rfl ?_
   refine ae.nil ?_
   have hr:=Option.some.inj h
   subst hr
   exact ay.ret ⟨_,rfl,rfl,gG (aG.eq .nil)⟩
  replace h:=dm hb13 h
  refine ay.join (B:=aL) (α:=Bool) (fun a=>gP n (fI n) a1 a2 a3 a=some r) (fun a=>[(1,(.d (.int .i64 a2))),(2,(.d (.bool a3))),(3,(.ptr b4 0 0)),(7,(.d (.bool ((decide (0 ≤ a1.N)) && (decide (a1.N < a2)))))),(52,(.d (.bool a)))]) (fun a=>[.box b4 [(.d (.int .i64 a1.Kind)),(.d (.int .i64 a1.N)),(.d (.str a1.Tag)),(.d (.str a1.Text)),(.d (.sl ((a1.aI).map aA) false)),(.d (.sl ((a1.Kids).map aD) false))]]) ?_ ?_
  ·
   intro x16 S14 H15 h
   replace h:gP n (fI n) a1 a2 a3 x16=some r:=h
   replace H15:Has aL S14 [.box b4 [(.d (.int .i64 a1.Kind)),(.d (.int .i64 a1.N)),(.d (.str a1.Tag)),(.d (.str a1.Text)),(.d (.sl ((a1.aI).map aA) false)),(.d (.sl ((a1.Kids).map aD) false))]]:=H15
   unfold gP at h
   refine ay.cond rfl (fun hb18=>?_) (fun hb18=>?_)
   ·
    replace h:=di hb18 h
    refine ay.seq ?_
    refine ay.region E.obj rfl ?_
    refine ae.val rfl (aj rfl) rfl ?_
    refine ae.nil ?_
    have hr:=Option.some.inj h
    subst hr
    exact ay.ret ⟨_,rfl,rfl,gG (aG.eq .nil)⟩
   replace h:=dm hb18 h
   refine ay.seq ?_
   refine ay.region E.obj rfl ?_
   refine ae.val rfl (ak rfl gL qb rfl) rfl ?_
   refine ae.val rfl (au H15 (i:=0) rfl rfl (aF kC rfl)) rfl ?_
   refine ae.val rfl (av rfl rfl bI) rfl ?_
   refine ae.val rfl (ah rfl) rfl ?_
   refine ae.bG 4 70 (.d (.bool ((a1.Kind == 3) || (a1.Kind == 5)))) ?_ ?_
   ·
    rcases Bool.eq_false_or_eq_true ((a1.Kind == 3)) with hB19 | hB19
    ·
     refine ae.bool hB19 ?_
     refine ae.no rfl rfl ?_
     refine ae.no rfl rfl ?_
     refine ae.no rfl rfl ?_
     refine ae.val rfl (az (b:=true) rfl rfl) rfl ?_
     exact ae.nil ⟨_,rfl,(aa.put (aa.push rfl (aa.push rfl (aa.push rfl (aa.put (.refl _) (Less.eq (by rw [hB19])))))) (Less.eq (by rw [hB19]; rw [Bool.true_or])))⟩
    refine ae.bool hB19 ?_
    refine ae.val rfl (ak rfl gL qb rfl) rfl ?_
    refine ae.val rfl (au H15 (i:=0) rfl rfl (aF kC rfl)) rfl ?_
    refine ae.val rfl (av rfl rfl bI) rfl ?_
    refine ae.val rfl (az (b:=false) rfl rfl) rfl ?_
    exact ae.nil ⟨_,rfl,(aa.put (aa.push rfl (aa.push rfl (aa.push rfl (aa.put (.refl _) (Less.eq (by rw [hB19])))))) (Less.eq (by rw [hB19]; rw [Bool.false_or])))⟩
   refine ae.val rfl (ah rfl) rfl ?_
   refine ae.bG 4 75 (.d (.bool (((a1.Kind == 3) || (a1.Kind == 5)) || (a1.Kind == 6)))) ?_ ?_
   ·
    rcases Bool.eq_false_or_eq_true (((a1.Kind == 3) || (a1.Kind == 5))) with hB20 | hB20
    ·
     refine ae.bool hB20 ?_
     refine ae.no rfl rfl ?_
     refine ae.no rfl rfl ?_
     refine ae.no rfl rfl ?_
     refine ae.val rfl (az (b:=true) rfl rfl) rfl ?_
     exact ae.nil ⟨_,rfl,(aa.put (aa.push rfl (aa.push rfl (aa.push rfl (aa.put (.refl _) (Less.eq (by rw [hB20])))))) (Less.eq (by rw [hB20]; rw [Bool.true_or])))⟩
    refine ae.bool hB20 ?_
    refine ae.val rfl (ak rfl gL qb rfl) rfl ?_
    refine ae.val rfl (au H15 (i:=0) rfl rfl (aF kC rfl)) rfl ?_
    refine ae.val rfl (av rfl rfl bI) rfl ?_
    refine ae.val rfl (az (b:=false) rfl rfl) rfl ?_
    exact ae.nil ⟨_,rfl,(aa.put (aa.push rfl (aa.push rfl (aa.push rfl (aa.put (.refl _) (Less.eq (by rw [hB20])))))) (Less.eq (by rw [hB20]; rw [Bool.false_or])))⟩
   refine ae.val rfl (ah rfl) rfl ?_
   refine ae.bG 3 79 (.d (.bool ((((a1.Kind == 3) || (a1.Kind == 5)) || (a1.Kind == 6)) && (!((decide (0 ≤ a1.N)) && (decide (a1.N < a2))))))) ?_ ?_
   ·
    rcases Bool.eq_false_or_eq_true ((((a1.Kind == 3) || (a1.Kind == 5)) || (a1.Kind == 6))) with hB21 | hB21
    ·
     refine ae.bool hB21 ?_
     refine ae.val rfl (ah rfl) rfl ?_
     refine ae.val rfl (fG rfl) rfl ?_
     refine ae.val rfl (az (b:=true) rfl rfl) rfl ?_
     exact ae.nil ⟨_,rfl,(aa.put (aa.push rfl (aa.push rfl (aa.put (.refl _) (Less.eq (by rw [hB21]))))) (Less.eq (by rw [hB21]; rw [Bool.true_and])))⟩
    refine ae.bool hB21 ?_
    refine ae.no rfl rfl ?_
    refine ae.no rfl rfl ?_
    refine ae.val rfl (az (b:=false) rfl rfl) rfl ?_
    exact ae.nil ⟨_,rfl,(aa.put (aa.push rfl (aa.push rfl (aa.put (.refl _) (Less.eq (by rw [hB21]))))) (Less.eq (by rw [hB21]; rw [Bool.false_and])))⟩
   refine ae.val rfl (aj rfl) rfl ?_
   refine ae.nil ?_
   refine ay.cond rfl (fun hb22=>?_) (fun hb22=>?_)
   ·
    replace h:=di hb22 h
    refine ay.seq ?_
    refine ay.region E.obj rfl ?_
    refine ae.val rfl (aj rfl) rfl ?_
    refine ae.nil ?_
    have hr:=Option.some.inj h
    subst hr
    exact ay.ret ⟨_,rfl,rfl,gG (aG.eq .nil)⟩
   replace h:=dm hb22 h
   refine ay.skip ?_
   refine ay.seq ?_
   refine ay.region E.obj rfl ?_
   refine ae.val rfl (ah rfl) rfl ?_
   refine ae.val rfl (ah rfl) rfl ?_
   refine ae.bG 4 85 (.d (.bool (a3 || (a1.Kind == 5)))) ?_ ?_
   ·
    rcases Bool.eq_false_or_eq_true (a3) with hB23 | hB23
    ·
     refine ae.bool hB23 ?_
     refine ae.no rfl rfl ?_
     refine ae.no rfl rfl ?_
     refine ae.no rfl rfl ?_
     refine ae.val rfl (az (b:=true) rfl rfl) rfl ?_
     exact ae.nil ⟨_,rfl,(aa.put (aa.push rfl (aa.push rfl (aa.push rfl (aa.put (.refl _) (Less.eq (by rw [hB23])))))) (Less.eq (by rw [hB23]; rw [Bool.true_or])))⟩
    refine ae.bool hB23 ?_
    refine ae.val rfl (ak rfl gL qb rfl) rfl ?_
    refine ae.val rfl (au H15 (i:=0) rfl rfl (aF kC rfl)) rfl ?_
    refine ae.val rfl (av rfl rfl bI) rfl ?_
    refine ae.val rfl (az (b:=false) rfl rfl) rfl ?_
    exact ae.nil ⟨_,rfl,(aa.put (aa.push rfl (aa.push rfl (aa.push rfl (aa.put (.refl _) (Less.eq (by rw [hB23])))))) (Less.eq (by rw [hB23]; rw [Bool.false_or])))⟩
   refine ae.val rfl (ah rfl) rfl ?_
   refine ae.bG 4 90 (.d (.bool ((a3 || (a1.Kind == 5)) || (a1.Kind == 6)))) ?_ ?_
   ·
    rcases Bool.eq_false_or_eq_true ((a3 || (a1.Kind == 5))) with hB24 | hB24
    ·
     refine ae.bool hB24 ?_
     refine ae.no rfl rfl ?_
     refine ae.no rfl rfl ?_
     refine ae.no rfl rfl ?_
     refine ae.val rfl (az (b:=true) rfl rfl) rfl ?_
     exact ae.nil ⟨_,rfl,(aa.put (aa.push rfl (aa.push rfl (aa.push rfl (aa.put (.refl _) (Less.eq (by rw [hB24])))))) (Less.eq (by rw [hB24]; rw [Bool.true_or])))⟩
    refine ae.bool hB24 ?_
    refine ae.val rfl (ak rfl gL qb rfl) rfl ?_
    refine ae.val rfl (au H15 (i:=0) rfl rfl (aF kC rfl)) rfl ?_
    refine ae.val rfl (av rfl rfl bI) rfl ?_
    refine ae.val rfl (az (b:=false) rfl rfl) rfl ?_
    exact ae.nil ⟨_,rfl,(aa.put (aa.push rfl (aa.push rfl (aa.push rfl (aa.put (.refl _) (Less.eq (by rw [hB24])))))) (Less.eq (by rw [hB24]; rw [Bool.false_or])))⟩
   refine ae.val rfl (aj rfl) rfl ?_
   refine ae.nil ?_
   refine ay.seq ?_
   refine ay.seq ?_
   refine ay.region E.obj rfl ?_
   refine ae.val rfl (ak rfl jX sO rfl) rfl ?_
   refine ae.val rfl (au H15 (i:=0) rfl rfl (aF uI rfl)) rfl ?_
   refine ae.val rfl (bq rfl AO) rfl ?_
   refine ae.val rfl (ah rfl) rfl ?_
   refine ae.nil ?_
   refine ay.block ?_
   refine mH.start (B:=aL) (α:=Int) (fun k a=>fQ (fI n) a1 a2 a3 k a=some r) (fun a=>[(1,(.d (.int .i64 a2))),(2,(.d (.bool ((a3 || (a1.Kind == 5)) || (a1.Kind == 6))))),(92,(.d (.sl ((a1.Kids).map aD) false))),(93,(.d (.int .i64 ((a1.Kids).length:Int)))),(94,(.d (.int .i64 a)))]) (fun a=>[]) ?_ ?_ n ⟨0,_,_,S14,.refl _ _,.refl _,(aa.r rfl (aa.r rfl (aa.r rfl (aa.r rfl (aa.r rfl aa.nil))))),H15.sl [] rfl rfl,h⟩
   ·
    intro a h; simp [fQ] at h
   intro k33 x32 S30 H31 h
   replace h:fQ (fI n) a1 a2 a3 (k33 + 1) x32=some r:=h
   replace H31:Has aL S30 []:=H31
   unfold fQ at h
   refine ay.seq ?_
   refine ay.region E.obj rfl ?_
   refine ae.val rfl (av rfl rfl dF) rfl ?_
   refine ae.nil ?_
   refine ay.seq ?_
   refine ay.cond rfl (fun hb34=>?_) (fun hb34=>?_)
   ·
    replace h:=di hb34 h
    refine ay.skip ?_
    refine ay.seq ?_
    refine ay.block ?_
    refine ay.seq ?_
    refine ay.region E.obj rfl ?_
    obtain ⟨z35,hzz35,h⟩:=bind_some h
    refine ae.val rfl (bR rfl rfl (df (enc:=aD) hzz35 nO oI ((aQ.len _).trans dP.symm))) rfl ?_
    refine ae.val rfl (aX rfl (aQ.iy fU dP)) rfl ?_
    refine ae.alloc H31 rfl uJ iF rfl rfl (fun b36 S37 H38=>?_)
    refine ae.store H38 (i:=0) rfl rfl rfl rfl (aQ.bJ _) rfl dP rfl oI rfl rfl rfl (fun S39 H40=>?_)
    refine ae.nil ?_
    refine ay.seq ?_
    refine ay.region E.obj rfl ?_
    refine ae.val rfl (au H40 (i:=0) rfl rfl (aV fU dP rfl)) rfl ?_
    refine ae.less (Less.agg' (d:=aD z35) (ai.eq rfl (ai.eq rfl (ai.eq rfl (ai.eq rfl (ai.eq rfl (ai.eq rfl .nil)))))) ((aQ.eq _).trans rfl)) ?_
    refine ae.val rfl (ah rfl) rfl ?_
    refine ae.val rfl (ah rfl) rfl ?_
    obtain ⟨z41,hzz41,h⟩:=bind_some h
    refine ae.ret rfl (aB rfl rfl) (ih _ _ _ _ hzz41 _ _ (aG.eq (aG.eq (aG.eq .nil)))) rfl ?_
    refine ae.val rfl (fG rfl) rfl ?_
    refine ae.nil ?_
    refine ay.cond rfl (fun hb42=>?_) (fun hb42=>?_)
    ·
     replace h:=di hb42 h
     refine ay.seq ?_
     refine ay.region E.obj rfl ?_
     refine ae.val rfl (aj rfl) rfl ?_
     refine ae.nil ?_
     have hr:=Option.some.inj h
     subst hr
     exact ay.ret ⟨_,rfl,rfl,gG (aG.eq .nil)⟩
    replace h:=dm hb42 h
    refine ay.skip ?_
    refine ay.region E.obj rfl ?_
    refine ae.val rfl (av rfl rfl cu) rfl ?_
    refine ae.val rfl (ah rfl) rfl ?_
    refine ae.nil ?_
    exact ⟨(IntKind.wrap .i64 (x32 + 1)),_,_,S39,.refl _ _,.refl _,(aa.r rfl (aa.r rfl (aa.r rfl (aa.r rfl (aa.r rfl aa.nil))))),H40.sl [] rfl rfl,h⟩
   replace h:=dm hb34 h
   refine ay.exit ?_
   refine ay.seq ?_
   refine ay.region E.obj rfl ?_
   refine ae.val rfl (aj rfl) rfl ?_
   refine ae.nil ?_
   have hr:=Option.some.inj h
   subst hr
   exact ay.ret ⟨_,rfl,rfl,gG (aG.eq .nil)⟩
  refine ay.seq ?_
  refine ay.region E.obj rfl ?_
  refine ae.val rfl (ak rfl oZ mD rfl) rfl ?_
  refine ae.val rfl (au H6 (i:=0) rfl rfl (aF lM rfl)) rfl ?_
  refine ae.val rfl (av rfl rfl gY) rfl ?_
  refine ae.val rfl (aj rfl) rfl ?_
  refine ae.nil ?_
  refine ay.cond rfl (fun hb43=>?_) (fun hb43=>?_)
  ·
   replace h:=di hb43 h
   refine ay.skip ?_
   exact ⟨(a1.Tag == [111,117,116,108,101,116]),_,_,S5,.refl _ _,.refl _,(aa.r rfl (aa.r rfl (aa.r rfl (aa.r rfl (aa.r rfl aa.nil))))),H6.sl [0] rfl rfl,h⟩
  replace h:=dm hb43 h
  refine ay.region E.obj rfl ?_
  refine ae.val rfl (ak rfl gL qb rfl) rfl ?_
  refine ae.val rfl (au H6 (i:=0) rfl rfl (aF kC rfl)) rfl ?_
  refine ae.val rfl (av rfl rfl bI) rfl ?_
  refine ae.val rfl (ah rfl) rfl ?_
  refine ae.bG 2 61 (.d (.bool ((a1.Kind == 7) && a3))) ?_ ?_
  ·
   rcases Bool.eq_false_or_eq_true ((a1.Kind == 7)) with hB44 | hB44
   ·
    refine ae.bool hB44 ?_
    refine ae.val rfl (ah rfl) rfl ?_
    refine ae.val rfl (az (b:=true) rfl rfl) rfl ?_
    exact ae.nil ⟨_,rfl,(aa.put (aa.push rfl (aa.put (.refl _) (Less.eq (by rw [hB44])))) (Less.eq (by rw [hB44]; rw [Bool.true_and])))⟩
   refine ae.bool hB44 ?_
   refine ae.no rfl rfl ?_
   refine ae.val rfl (az (b:=false) rfl rfl) rfl ?_
   exact ae.nil ⟨_,rfl,(aa.put (aa.push rfl (aa.put (.refl _) (Less.eq (by rw [hB44])))) (Less.eq (by rw [hB44]; rw [Bool.false_and])))⟩
  refine ae.val rfl (aj rfl) rfl ?_
  refine ae.nil ?_
  exact ⟨((a1.Kind == 7) && a3),_,_,S5,.refl _ _,.refl _,(aa.r rfl (aa.r rfl (aa.r rfl (aa.r rfl (aa.r rfl aa.nil))))),H6.sl [0] rfl rfl,h⟩
set_option maxRecDepth 20000 in
set_option maxHeartbeats 4000000 in
theorem om (n:Nat) (a1:aQ) (a2:Int) (r:Bool) (h:lQ n a1 a2=some r):dB R cfg.P 11 [(aD a1),(.int .i64 a2)] (.d (.bool r)):=by
 unfold lQ at h
 refine dB.of_wp E.obj.toObjOk (C:=cfg) Tryd.func11 rfl Fh rfl ?_
 have H0:Has aL aL []:=Has.pure
 refine ay.seq ?_
 refine ay.region E.obj rfl ?_
 refine ae.box H0 rfl rfl rfl (aQ.bJ _) rfl (fun b3 S4 H5=>?_)
 refine ae.val rfl (aj rfl) rfl ?_
 refine ae.nil ?_
 refine ay.seq ?_
 refine ay.region E.obj rfl ?_
 refine ae.val rfl (au H5 (i:=0) rfl rfl (aV fU dP rfl)) rfl ?_
 refine ae.less (Less.agg' (d:=aD a1) (ai.eq rfl (ai.eq rfl (ai.eq rfl (ai.eq rfl (ai.eq rfl (ai.eq rfl .nil)))))) ((aQ.eq _).trans rfl)) ?_
 obtain ⟨z6,hzz6,h⟩:=bind_some h
 refine ae.ret rfl (aB rfl rfl) (nX E _ _ _ hzz6 _ _ (aG.eq .nil)) rfl ?_
 refine ae.val rfl (ah rfl) rfl ?_
 refine ae.val rfl (aS rfl rfl) rfl ?_
 refine ae.val rfl (aS rfl rfl) rfl ?_
 refine ae.val rfl (aj rfl) rfl ?_
 refine ae.val rfl (aj rfl) rfl ?_
 refine ae.nil ?_
 refine ay.seq ?_
 refine ay.region E.obj rfl ?_
 refine ae.val rfl (ak rfl gL qb rfl) rfl ?_
 refine ae.val rfl (au H5 (i:=0) rfl rfl (aF kC rfl)) rfl ?_
 refine ae.val rfl (av rfl rfl bI) rfl ?_
 refine ae.val rfl (ah rfl) rfl ?_
 refine ae.bG 3 18 (.d (.bool ((a1.Kind == 1) && (decide (z6.1 ≤ 60))))) ?_ ?_
 ·
  rcases Bool.eq_false_or_eq_true ((a1.Kind == 1)) with hB7 | hB7
  ·
   refine ae.bool hB7 ?_
   refine ae.val rfl (ah rfl) rfl ?_
   refine ae.val rfl (av rfl rfl jG) rfl ?_
   refine ae.val rfl (az (b:=true) rfl rfl) rfl ?_
   exact ae.nil ⟨_,rfl,(aa.put (aa.push rfl (aa.push rfl (aa.put (.refl _) (Less.eq (by rw [hB7]))))) (Less.eq (by rw [hB7]; rw [Bool.true_and])))⟩
  refine ae.bool hB7 ?_
  refine ae.no rfl rfl ?_
  refine ae.no rfl rfl ?_
  refine ae.val rfl (az (b:=false) rfl rfl) rfl ?_
  exact ae.nil ⟨_,rfl,(aa.put (aa.push rfl (aa.push rfl (aa.put (.refl _) (Less.eq (by rw [hB7]))))) (Less.eq (by rw [hB7]; rw [Bool.false_and])))⟩
 refine ae.val rfl (ah rfl) rfl ?_
 refine ae.bG 3 22 (.d (.bool (((a1.Kind == 1) && (decide (z6.1 ≤ 60))) && (decide (z6.2 ≤ 12))))) ?_ ?_
 ·
  rcases Bool.eq_false_or_eq_true (((a1.Kind == 1) && (decide (z6.1 ≤ 60)))) with hB8 | hB8
  ·
   refine ae.bool hB8 ?_
   refine ae.val rfl (ah rfl) rfl ?_
   refine ae.val rfl (av rfl rfl jG) rfl ?_
   refine ae.val rfl (az (b:=true) rfl rfl) rfl ?_
   exact ae.nil ⟨_,rfl,(aa.put (aa.push rfl (aa.push rfl (aa.put (.refl _) (Less.eq (by rw [hB8]))))) (Less.eq (by rw [hB8]; rw [Bool.true_and])))⟩
  refine ae.bool hB8 ?_
  refine ae.no rfl rfl ?_
  refine ae.no rfl rfl ?_
  refine ae.val rfl (az (b:=false) rfl rfl) rfl ?_
  exact ae.nil ⟨_,rfl,(aa.put (aa.push rfl (aa.push rfl (aa.put (.refl _) (Less.eq (by rw [hB8]))))) (Less.eq (by rw [hB8]; rw [Bool.false_and])))⟩
 refine ae.val rfl (ah rfl) rfl ?_
 obtain ⟨z10,hzz10,h⟩:=bind_some h
 refine ae.bG 4 27 (.d (.bool z10)) ?_ ?_
 ·
  rcases Bool.eq_false_or_eq_true ((((a1.Kind == 1) && (decide (z6.1 ≤ 60))) && (decide (z6.2 ≤ 12)))) with hB9 | hB9
  ·
   refine ae.bool hB9 ?_
   replace hzz10:=di hB9 hzz10
   refine ae.val rfl (au H5 (i:=0) rfl rfl (aV fU dP rfl)) rfl ?_
   refine ae.less (Less.agg' (d:=aD a1) (ai.eq rfl (ai.eq rfl (ai.eq rfl (ai.eq rfl (ai.eq rfl (ai.eq rfl .nil)))))) ((aQ.eq _).trans rfl)) ?_
   refine ae.val rfl (ah rfl) rfl ?_
   obtain ⟨z11,hzz11,hzz10⟩:=bind_some hzz10
   refine ae.ret rfl (aB rfl rfl) (nV E _ _ _ _ _ hzz11 _ _ (aG.eq (aG.eq (aG.eq .nil)))) rfl ?_
   refine ae.val rfl (az (b:=true) rfl rfl) rfl ?_
   cases hzz10
   exact ae.nil ⟨_,rfl,(aa.put (aa.push rfl (aa.push rfl (aa.push rfl (aa.put (.refl _) (Less.eq (by rw [hB9])))))) (.refl _))⟩
  refine ae.bool hB9 ?_
  refine ae.no rfl rfl ?_
  refine ae.no rfl rfl ?_
  refine ae.no rfl rfl ?_
  refine ae.val rfl (az (b:=false) rfl rfl) rfl ?_
  replace hzz10:=dm hB9 hzz10
  cases hzz10
  exact ae.nil ⟨_,rfl,(aa.put (aa.push rfl (aa.push rfl (aa.push rfl (aa.put (.refl _) (Less.eq (by rw [hB9])))))) (.refl _))⟩
 refine ae.val rfl (aj rfl) rfl ?_
 refine ae.nil ?_
 have hr:=Option.some.inj h
 subst hr
 exact ay.ret ⟨_,rfl,rfl,gG (aG.eq .nil)⟩
set_option maxRecDepth 20000 in
set_option maxHeartbeats 4000000 in
theorem ig (n:Nat)  (r:Bool) (h:fA n  = some r):dB R cfg.P 3 [] (.d (.bool r)):=by
 unfold fA at h
 refine dB.of_wp E.obj.toObjOk (C:=cfg) Tryd.func3 rfl Gy rfl ?_
 have H0:Has aL aL []:=Has.pure
 refine ay.seq ?_
 refine ay.region E.obj rfl ?_
 refine ae.val rfl (aj rfl) rfl ?_
 refine ae.nil ?_
 refine ay.seq ?_
 refine ay.region E.obj rfl ?_
 refine ae.val rfl (bH (cs:=[(.d (.int .i64 3)),(.d (.int .i64 1)),(.d (.str [])),(.d (.str [])),(.d .aT),(.d .aT)]) iF rfl (cZ) (cO rfl rfl rfl rfl (cO rfl rfl rfl rfl rfl))) rfl ?_
 refine ae.less (Less.agg' (d:=aD (aQ.mk 3 1 [] [] [] [])) (ai.eq rfl (ai.eq rfl (ai.eq rfl (ai.eq rfl (ai.cK rfl (.aT false) rfl rfl (ai.cK rfl (.aT false) rfl rfl .nil)))))) ((aQ.eq _).trans rfl)) ?_
 refine ae.val rfl (aM (vs:=[(.d (aD (aQ.mk 3 1 [] [] [] [])))]) (ds:=[(aD (aQ.mk 3 1 [] [] [] []))]) uk nO fU iF dP rfl (by decide) (.cons rfl (aQ.len _) .nil) rfl (by intro d hd; simp only [List.mem_cons,List.not_mem_nil,or_false] at hd; rcases hd with rfl <;> exact aQ.agg _) rfl) rfl ?_
 refine ae.val rfl (bH (cs:=[(.d (.int .i64 1)),(.d (.int .i64 0)),(.d (.str [108,105])),(.d (.str [])),(.d .aT),(.d (.sl (([(aQ.mk 3 1 [] [] [] [])]).map aD) true))]) iF rfl (cZ) (cO rfl rfl rfl rfl (cO rfl rfl rfl rfl (cO rfl rfl rfl rfl rfl)))) rfl ?_
 refine ae.less (Less.agg' (d:=aD (aQ.mk 1 0 [108,105] [] [] [(aQ.mk 3 1 [] [] [] [])])) (ai.eq rfl (ai.eq rfl (ai.eq rfl (ai.eq rfl (ai.cK rfl (.aT false) rfl rfl (ai.cK rfl (.gp _ _) rfl rfl .nil)))))) ((aQ.eq _).trans rfl)) ?_
 refine ae.val rfl (aM (vs:=[(.d (aD (aQ.mk 1 0 [108,105] [] [] [(aQ.mk 3 1 [] [] [] [])])))]) (ds:=[(aD (aQ.mk 1 0 [108,105] [] [] [(aQ.mk 3 1 [] [] [] [])]))]) uk nO fU iF dP rfl (by decide) (.cons rfl (aQ.len _) .nil) rfl (by intro d hd; simp only [List.mem_cons,List.not_mem_nil,or_false] at hd; rcases hd with rfl <;> exact aQ.agg _) rfl) rfl ?_
 refine ae.val rfl (bH (cs:=[(.d (.int .i64 6)),(.d (.int .i64 0)),(.d (.str [])),(.d (.str [])),(.d .aT),(.d (.sl (([(aQ.mk 1 0 [108,105] [] [] [(aQ.mk 3 1 [] [] [] [])])]).map aD) true))]) iF rfl (cZ) (cO rfl rfl rfl rfl (cO rfl rfl rfl rfl rfl))) rfl ?_
 refine ae.less (Less.agg' (d:=aD (aQ.mk 6 0 [] [] [] [(aQ.mk 1 0 [108,105] [] [] [(aQ.mk 3 1 [] [] [] [])])])) (ai.eq rfl (ai.eq rfl (ai.eq rfl (ai.eq rfl (ai.cK rfl (.aT false) rfl rfl (ai.cK rfl (.gp _ _) rfl rfl .nil)))))) ((aQ.eq _).trans rfl)) ?_
 refine ae.val rfl (aM (vs:=[(.d (aD (aQ.mk 6 0 [] [] [] [(aQ.mk 1 0 [108,105] [] [] [(aQ.mk 3 1 [] [] [] [])])])))]) (ds:=[(aD (aQ.mk 6 0 [] [] [] [(aQ.mk 1 0 [108,105] [] [] [(aQ.mk 3 1 [] [] [] [])])]))]) uk nO fU iF dP rfl (by decide) (.cons rfl (aQ.len _) .nil) rfl (by intro d hd; simp only [List.mem_cons,List.not_mem_nil,or_false] at hd; rcases hd with rfl <;> exact aQ.agg _) rfl) rfl ?_
 refine ae.val rfl (bH (cs:=[(.d (.int .i64 1)),(.d (.int .i64 0)),(.d (.str [117,108])),(.d (.str [])),(.d .aT),(.d (.sl (([(aQ.mk 6 0 [] [] [] [(aQ.mk 1 0 [108,105] [] [] [(aQ.mk 3 1 [] [] [] [])])])]).map aD) true))]) iF rfl (cZ) (cO rfl rfl rfl rfl (cO rfl rfl rfl rfl (cO rfl rfl rfl rfl rfl)))) rfl ?_
 refine ae.less (Less.agg' (d:=aD (aQ.mk 1 0 [117,108] [] [] [(aQ.mk 6 0 [] [] [] [(aQ.mk 1 0 [108,105] [] [] [(aQ.mk 3 1 [] [] [] [])])])])) (ai.eq rfl (ai.eq rfl (ai.eq rfl (ai.eq rfl (ai.cK rfl (.aT false) rfl rfl (ai.cK rfl (.gp _ _) rfl rfl .nil)))))) ((aQ.eq _).trans rfl)) ?_
 refine ae.alloc H0 rfl uJ iF rfl rfl (fun b1 S2 H3=>?_)
 refine ae.store H3 (i:=0) rfl rfl rfl rfl (aQ.bJ _) rfl dP rfl oI rfl rfl rfl (fun S4 H5=>?_)
 refine ae.nil ?_
 refine ay.seq ?_
 refine ay.region E.obj rfl ?_
 refine ae.val rfl (au H5 (i:=0) rfl rfl (aV fU dP rfl)) rfl ?_
 refine ae.less (Less.agg' (d:=aD (aQ.mk 1 0 [117,108] [] [] [(aQ.mk 6 0 [] [] [] [(aQ.mk 1 0 [108,105] [] [] [(aQ.mk 3 1 [] [] [] [])])])])) (ai.eq rfl (ai.eq rfl (ai.eq rfl (ai.eq rfl (ai.eq rfl (ai.eq rfl .nil)))))) ((aQ.eq _).trans rfl)) ?_
 refine ae.val rfl (aM (vs:=[(.d (.int .i64 2)),(.d (.int .i64 7))]) (ds:=[(.int .i64 2),(.int .i64 7)]) lq jw kC Cm oK rfl (by decide) (.cons rfl rfl (.cons rfl rfl .nil)) rfl (by intro d hd; simp only [List.mem_cons,List.not_mem_nil,or_false] at hd; rcases hd with rfl | rfl <;> rfl) rfl) rfl ?_
 obtain ⟨z6,hzz6,h⟩:=bind_some h
 refine ae.ret rfl (aB rfl rfl) (dO E _ _ _ _ _ hzz6 _ _ (aG.eq (aG.cK rfl (.gp _ _) (aG.cK rfl (.aT false) .nil)))) rfl ?_
 refine ae.val rfl (ah rfl) rfl ?_
 refine ae.val rfl (aS rfl rfl) rfl ?_
 refine ae.val rfl (aS rfl rfl) rfl ?_
 refine ae.alloc H5 rfl pE iw rfl rfl (fun b7 S8 H9=>?_)
 refine ae.store H9 (i:=0) rfl rfl rfl rfl (Tree.bJ _) rfl dL rfl iY rfl rfl rfl (fun S10 H11=>?_)
 refine ae.val rfl (aj rfl) rfl ?_
 refine ae.nil ?_
 refine ay.seq ?_
 refine ay.region E.obj rfl ?_
 refine ae.val rfl (au H11 (i:=1) rfl rfl (aV fU dP rfl)) rfl ?_
 refine ae.less (Less.agg' (d:=aD (aQ.mk 1 0 [117,108] [] [] [(aQ.mk 6 0 [] [] [] [(aQ.mk 1 0 [108,105] [] [] [(aQ.mk 3 1 [] [] [] [])])])])) (ai.eq rfl (ai.eq rfl (ai.eq rfl (ai.eq rfl (ai.eq rfl (ai.eq rfl .nil)))))) ((aQ.eq _).trans rfl)) ?_
 refine ae.val rfl (aM (vs:=[(.d (.int .i64 99)),(.d (.int .i64 7))]) (ds:=[(.int .i64 99),(.int .i64 7)]) lq jw kC Cm oK rfl (by decide) (.cons rfl rfl (.cons rfl rfl .nil)) rfl (by intro d hd; simp only [List.mem_cons,List.not_mem_nil,or_false] at hd; rcases hd with rfl | rfl <;> rfl) rfl) rfl ?_
 obtain ⟨z12,hzz12,h⟩:=bind_some h
 refine ae.ret rfl (aB rfl rfl) (dO E _ _ _ _ _ hzz12 _ _ (aG.eq (aG.cK rfl (.gp _ _) (aG.cK rfl (.aT false) .nil)))) rfl ?_
 refine ae.val rfl (ah rfl) rfl ?_
 refine ae.val rfl (aS rfl rfl) rfl ?_
 refine ae.val rfl (aS rfl rfl) rfl ?_
 refine ae.alloc H11 rfl pE iw rfl rfl (fun b13 S14 H15=>?_)
 refine ae.store H15 (i:=0) rfl rfl rfl rfl (Tree.bJ _) rfl dL rfl iY rfl rfl rfl (fun S16 H17=>?_)
 refine ae.val rfl (aj rfl) rfl ?_
 refine ae.nil ?_
 refine ay.seq ?_
 refine ay.region E.obj rfl ?_
 refine ae.val rfl (bH (cs:=[(.d (.str [])),(.d (.str [])),(.d (.str [55])),(.d .aT),(.d .aT)]) iw rfl (dE) (cO rfl rfl rfl rfl rfl)) rfl ?_
 refine ae.less (Less.agg' (d:=ax (Tree.mk [] [] [55] [] [])) (ai.eq rfl (ai.eq rfl (ai.eq rfl (ai.cK rfl (.aT false) rfl rfl (ai.cK rfl (.aT false) rfl rfl .nil))))) ((Tree.eq _).trans rfl)) ?_
 refine ae.val rfl (aM (vs:=[(.d (ax (Tree.mk [] [] [55] [] [])))]) (ds:=[(ax (Tree.mk [] [] [55] [] []))]) uz kD il iw dL rfl (by decide) (.cons rfl (Tree.len _) .nil) rfl (by intro d hd; simp only [List.mem_cons,List.not_mem_nil,or_false] at hd; rcases hd with rfl <;> exact Tree.agg _) rfl) rfl ?_
 refine ae.val rfl (aj rfl) rfl ?_
 refine ae.nil ?_
 refine ay.seq ?_
 refine ay.region E.obj rfl ?_
 refine ae.val rfl (ah rfl) rfl ?_
 refine ae.val rfl (av rfl rfl bI) rfl ?_
 refine ae.val rfl (ah rfl) rfl ?_
 obtain ⟨z19,hzz19,h⟩:=bind_some h
 refine ae.bG 9 39 (.d (.bool z19)) ?_ ?_
 ·
  rcases Bool.eq_false_or_eq_true ((z6.2 == 0)) with hB18 | hB18
  ·
   refine ae.bool hB18 ?_
   replace hzz19:=di hB18 hzz19
   refine ae.val rfl (au H17 (i:=1) rfl rfl (aV il dL rfl)) rfl ?_
   refine ae.less (Less.agg' (d:=ax z6.1) (ai.eq rfl (ai.eq rfl (ai.eq rfl (ai.eq rfl (ai.eq rfl .nil))))) ((Tree.eq _).trans rfl)) ?_
   refine ae.val rfl (ah rfl) rfl ?_
   refine ae.val rfl (bH (cs:=[(.d (.str [108,105])),(.d (.str [48])),(.d (.str [])),(.d .aT),(.d (.sl (([(Tree.mk [] [] [55] [] [])]).map ax) true))]) iw rfl (dE) (cO rfl rfl rfl rfl (cO rfl rfl rfl rfl (cO rfl rfl rfl rfl rfl)))) rfl ?_
   refine ae.less (Less.agg' (d:=ax (Tree.mk [108,105] [48] [] [] [(Tree.mk [] [] [55] [] [])])) (ai.eq rfl (ai.eq rfl (ai.eq rfl (ai.cK rfl (.aT false) rfl rfl (ai.cK rfl (.gp _ _) rfl rfl .nil))))) ((Tree.eq _).trans rfl)) ?_
   refine ae.val rfl (ah rfl) rfl ?_
   refine ae.val rfl (bH (cs:=[(.d (.str [108,105])),(.d (.str [49])),(.d (.str [])),(.d .aT),(.d (.sl (([(Tree.mk [] [] [55] [] [])]).map ax) true))]) iw rfl (dE) (cO rfl rfl rfl rfl (cO rfl rfl rfl rfl (cO rfl rfl rfl rfl rfl)))) rfl ?_
   refine ae.less (Less.agg' (d:=ax (Tree.mk [108,105] [49] [] [] [(Tree.mk [] [] [55] [] [])])) (ai.eq rfl (ai.eq rfl (ai.eq rfl (ai.cK rfl (.aT false) rfl rfl (ai.cK rfl (.gp _ _) rfl rfl .nil))))) ((Tree.eq _).trans rfl)) ?_
   refine ae.val rfl (aM (vs:=[(.d (ax (Tree.mk [108,105] [48] [] [] [(Tree.mk [] [] [55] [] [])]))),(.d (ax (Tree.mk [108,105] [49] [] [] [(Tree.mk [] [] [55] [] [])])))]) (ds:=[(ax (Tree.mk [108,105] [48] [] [] [(Tree.mk [] [] [55] [] [])])),(ax (Tree.mk [108,105] [49] [] [] [(Tree.mk [] [] [55] [] [])]))]) uz kD il iw dL rfl (by decide) (.cons rfl (Tree.len _) (.cons rfl (Tree.len _) .nil)) rfl (by intro d hd; simp only [List.mem_cons,List.not_mem_nil,or_false] at hd; rcases hd with rfl | rfl <;> exact Tree.agg _) rfl) rfl ?_
   refine ae.val rfl (bH (cs:=[(.d (.str [117,108])),(.d (.str [])),(.d (.str [])),(.d .aT),(.d (.sl (([(Tree.mk [108,105] [48] [] [] [(Tree.mk [] [] [55] [] [])]),(Tree.mk [108,105] [49] [] [] [(Tree.mk [] [] [55] [] [])])]).map ax) true))]) iw rfl (dE) (cO rfl rfl rfl rfl (cO rfl rfl rfl rfl rfl))) rfl ?_
   refine ae.less (Less.agg' (d:=ax (Tree.mk [117,108] [] [] [] [(Tree.mk [108,105] [48] [] [] [(Tree.mk [] [] [55] [] [])]),(Tree.mk [108,105] [49] [] [] [(Tree.mk [] [] [55] [] [])])])) (ai.eq rfl (ai.eq rfl (ai.eq rfl (ai.cK rfl (.aT false) rfl rfl (ai.cK rfl (.gp _ _) rfl rfl .nil))))) ((Tree.eq _).trans rfl)) ?_
   obtain ⟨z20,hzz20,hzz19⟩:=bind_some hzz19
   refine ae.ret rfl (aB rfl rfl) (fE E _ _ _ _ hzz20 _ _ (aG.eq (aG.eq .nil))) rfl ?_
   refine ae.val rfl (az (b:=true) rfl rfl) rfl ?_
   cases hzz19
   exact ae.nil ⟨_,rfl,(aa.put (aa.push rfl (aa.push rfl (aa.push rfl (aa.push rfl (aa.push rfl (aa.push rfl (aa.push rfl (aa.push rfl (aa.put (.refl _) (Less.eq (by rw [hB18]))))))))))) (.refl _))⟩
  refine ae.bool hB18 ?_
  refine ae.no rfl rfl ?_
  refine ae.no rfl rfl ?_
  refine ae.no rfl rfl ?_
  refine ae.no rfl rfl ?_
  refine ae.no rfl rfl ?_
  refine ae.no rfl rfl ?_
  refine ae.no rfl rfl ?_
  refine ae.no rfl rfl ?_
  refine ae.val rfl (az (b:=false) rfl rfl) rfl ?_
  replace hzz19:=dm hB18 hzz19
  cases hzz19
  exact ae.nil ⟨_,rfl,(aa.put (aa.push rfl (aa.push rfl (aa.push rfl (aa.push rfl (aa.push rfl (aa.push rfl (aa.push rfl (aa.push rfl (aa.put (.refl _) (Less.eq (by rw [hB18]))))))))))) (.refl _))⟩
 refine ae.val rfl (ah rfl) rfl ?_
 refine ae.bG 3 43 (.d (.bool (z19 && (z12.2 == 6)))) ?_ ?_
 ·
  rcases Bool.eq_false_or_eq_true (z19) with hB21 | hB21
  ·
   refine ae.bool hB21 ?_
   refine ae.val rfl (ah rfl) rfl ?_
   refine ae.val rfl (av rfl rfl bI) rfl ?_
   refine ae.val rfl (az (b:=true) rfl rfl) rfl ?_
   exact ae.nil ⟨_,rfl,(aa.put (aa.push rfl (aa.push rfl (aa.put (.refl _) (Less.eq (by rw [hB21]))))) (Less.eq (by rw [hB21]; rw [Bool.true_and])))⟩
  refine ae.bool hB21 ?_
  refine ae.no rfl rfl ?_
  refine ae.no rfl rfl ?_
  refine ae.val rfl (az (b:=false) rfl rfl) rfl ?_
  exact ae.nil ⟨_,rfl,(aa.put (aa.push rfl (aa.push rfl (aa.put (.refl _) (Less.eq (by rw [hB21]))))) (Less.eq (by rw [hB21]; rw [Bool.false_and])))⟩
 refine ae.val rfl (ah rfl) rfl ?_
 obtain ⟨z23,hzz23,h⟩:=bind_some h
 refine ae.bG 3 47 (.d (.bool z23)) ?_ ?_
 ·
  rcases Bool.eq_false_or_eq_true ((z19 && (z12.2 == 6))) with hB22 | hB22
  ·
   refine ae.bool hB22 ?_
   replace hzz23:=di hB22 hzz23
   refine ae.val rfl (au H17 (i:=2) rfl rfl (aV fU dP rfl)) rfl ?_
   refine ae.less (Less.agg' (d:=aD (aQ.mk 1 0 [117,108] [] [] [(aQ.mk 6 0 [] [] [] [(aQ.mk 1 0 [108,105] [] [] [(aQ.mk 3 1 [] [] [] [])])])])) (ai.eq rfl (ai.eq rfl (ai.eq rfl (ai.eq rfl (ai.eq rfl (ai.eq rfl .nil)))))) ((aQ.eq _).trans rfl)) ?_
   obtain ⟨z24,hzz24,hzz23⟩:=bind_some hzz23
   refine ae.ret rfl (aB rfl rfl) (om E _ _ _ _ hzz24 _ _ (aG.eq (aG.eq .nil))) rfl ?_
   refine ae.val rfl (az (b:=true) rfl rfl) rfl ?_
   cases hzz23
   exact ae.nil ⟨_,rfl,(aa.put (aa.push rfl (aa.push rfl (aa.put (.refl _) (Less.eq (by rw [hB22]))))) (.refl _))⟩
  refine ae.bool hB22 ?_
  refine ae.no rfl rfl ?_
  refine ae.no rfl rfl ?_
  refine ae.val rfl (az (b:=false) rfl rfl) rfl ?_
  replace hzz23:=dm hB22 hzz23
  cases hzz23
  exact ae.nil ⟨_,rfl,(aa.put (aa.push rfl (aa.push rfl (aa.put (.refl _) (Less.eq (by rw [hB22]))))) (.refl _))⟩
 refine ae.val rfl (ah rfl) rfl ?_
 obtain ⟨z26,hzz26,h⟩:=bind_some h
 refine ae.bG 4 52 (.d (.bool z26)) ?_ ?_
 ·
  rcases Bool.eq_false_or_eq_true (z23) with hB25 | hB25
  ·
   refine ae.bool hB25 ?_
   replace hzz26:=di hB25 hzz26
   refine ae.val rfl (au H17 (i:=2) rfl rfl (aV fU dP rfl)) rfl ?_
   refine ae.less (Less.agg' (d:=aD (aQ.mk 1 0 [117,108] [] [] [(aQ.mk 6 0 [] [] [] [(aQ.mk 1 0 [108,105] [] [] [(aQ.mk 3 1 [] [] [] [])])])])) (ai.eq rfl (ai.eq rfl (ai.eq rfl (ai.eq rfl (ai.eq rfl (ai.eq rfl .nil)))))) ((aQ.eq _).trans rfl)) ?_
   obtain ⟨z27,hzz27,hzz26⟩:=bind_some hzz26
   refine ae.ret rfl (aB rfl rfl) (om E _ _ _ _ hzz27 _ _ (aG.eq (aG.eq .nil))) rfl ?_
   refine ae.val rfl (fG rfl) rfl ?_
   refine ae.val rfl (az (b:=true) rfl rfl) rfl ?_
   cases hzz26
   exact ae.nil ⟨_,rfl,(aa.put (aa.push rfl (aa.push rfl (aa.push rfl (aa.put (.refl _) (Less.eq (by rw [hB25])))))) (.refl _))⟩
  refine ae.bool hB25 ?_
  refine ae.no rfl rfl ?_
  refine ae.no rfl rfl ?_
  refine ae.no rfl rfl ?_
  refine ae.val rfl (az (b:=false) rfl rfl) rfl ?_
  replace hzz26:=dm hB25 hzz26
  cases hzz26
  exact ae.nil ⟨_,rfl,(aa.put (aa.push rfl (aa.push rfl (aa.push rfl (aa.put (.refl _) (Less.eq (by rw [hB25])))))) (.refl _))⟩
 refine ae.val rfl (aj rfl) rfl ?_
 refine ae.nil ?_
 have hr:=Option.some.inj h
 subst hr
 exact ay.ret ⟨_,rfl,rfl,gG (aG.eq .nil)⟩
set_option maxRecDepth 20000 in
set_option maxHeartbeats 4000000 in
theorem bD (n:Nat) (a1:Int) (a2:Int) (a3:Int) (r:Int) (h:aY n a1 a2 a3=some r):dB R cfg.P 13 [(.int .i64 a1),(.int .i64 a2),(.int .i64 a3)] (.d (.int .i64 r)):=by
 unfold aY at h
 refine dB.of_wp E.obj.toObjOk (C:=cfg) Tryd.func13 rfl Fx rfl ?_
 have H0:Has aL aL []:=Has.pure
 refine ay.seq ?_
 refine ay.region E.obj rfl ?_
 refine ae.val rfl (aj rfl) rfl ?_
 refine ae.nil ?_
 refine ay.seq ?_
 refine ay.region E.obj rfl ?_
 refine ae.val rfl (ah rfl) rfl ?_
 refine ae.val rfl (ah rfl) rfl ?_
 refine ae.val rfl (ah rfl) rfl ?_
 refine ae.val rfl (av rfl rfl iO) rfl ?_
 refine ae.val rfl (av rfl rfl cu) rfl ?_
 obtain ⟨z4,hzz4,h⟩:=bind_some h
 refine ae.val rfl (av rfl rfl (vN hzz4)) rfl ?_
 refine ae.val rfl (aj rfl) rfl ?_
 refine ae.nil ?_
 refine ay.join (B:=aL) (α:=Int) (fun a=>dD a2 a=some r) (fun a=>[(0,(.d (.int .i64 a))),(1,(.d (.int .i64 a2)))]) (fun a=>[]) ?_ ?_
 ·
  intro x7 S5 H6 h
  replace h:dD a2 x7=some r:=h
  replace H6:Has aL S5 []:=H6
  unfold dD at h
  refine ay.seq ?_
  refine ay.region E.obj rfl ?_
  refine ae.val rfl (ah rfl) rfl ?_
  refine ae.val rfl (ah rfl) rfl ?_
  refine ae.val rfl (av rfl rfl cu) rfl ?_
  refine ae.val rfl (aj rfl) rfl ?_
  refine ae.nil ?_
  have hr:=Option.some.inj h
  subst hr
  exact ay.ret ⟨_,rfl,rfl,gG (aG.eq .nil)⟩
 refine ay.seq ?_
 refine ay.region E.obj rfl ?_
 refine ae.val rfl (ah rfl) rfl ?_
 refine ae.val rfl (av rfl rfl dF) rfl ?_
 refine ae.nil ?_
 refine ay.cond rfl (fun hb9=>?_) (fun hb9=>?_)
 ·
  replace h:=di hb9 h
  refine ay.region E.obj rfl ?_
  refine ae.val rfl (ah rfl) rfl ?_
  refine ae.val rfl (ah rfl) rfl ?_
  refine ae.val rfl (av rfl rfl cu) rfl ?_
  refine ae.val rfl (ah rfl) rfl ?_
  refine ae.val rfl (av rfl rfl iO) rfl ?_
  refine ae.val rfl (av rfl rfl cu) rfl ?_
  refine ae.val rfl (aj rfl) rfl ?_
  refine ae.nil ?_
  exact ⟨(IntKind.wrap .i64 ((IntKind.wrap .i64 ((IntKind.wrap .i64 (z4 + a3)) - a2)) + 1)),_,_,aL,.refl _ _,.refl _,(aa.r rfl (aa.r rfl aa.nil)),H0.sl [] rfl rfl,h⟩
 replace h:=dm hb9 h
 refine ay.skip ?_
 exact ⟨z4,_,_,aL,.refl _ _,.refl _,(aa.r rfl (aa.r rfl aa.nil)),H0.sl [] rfl rfl,h⟩
set_option maxRecDepth 20000 in
set_option maxHeartbeats 4000000 in
theorem ni (n:Nat)  (r:(List Str)) (h:gH n  = some r):dB R cfg.P 36 [] (.d (.sl ((r).map D.str) false)):=by
 unfold gH at h
 refine dB.of_wp E.obj.toObjOk (C:=cfg) Tryd.func36 rfl EW rfl ?_
 have H0:Has aL aL []:=Has.pure
 refine ay.seq ?_
 refine ay.region E.obj rfl ?_
 refine ae.val rfl (aj rfl) rfl ?_
 refine ae.nil ?_
 refine ay.seq ?_
 refine ay.region E.obj rfl ?_
 refine ae.val rfl (aM (vs:=[(.d (.str [97])),(.d (.str [98])),(.d (.str [105,116,101,109])),(.d (.str [120,32,121])),(.d (.str [37])),(.d (.str [97,47,98])),(.d (.str [46,46])),(.d (.str [122])),(.d (.str [49])),(.d (.str [108,105,115,116])),(.d (.str [255])),(.d (.str [63,61,38]))]) (ds:=[(.str [97]),(.str [98]),(.str [105,116,101,109]),(.str [120,32,121]),(.str [37]),(.str [97,47,98]),(.str [46,46]),(.str [122]),(.str [49]),(.str [108,105,115,116]),(.str [255]),(.str [63,61,38])]) DD yN lM FD Bp rfl (by decide) (.cons rfl rfl (.cons rfl rfl (.cons rfl rfl (.cons rfl rfl (.cons rfl rfl (.cons rfl rfl (.cons rfl rfl (.cons rfl rfl (.cons rfl rfl (.cons rfl rfl (.cons rfl rfl (.cons rfl rfl .nil)))))))))))) rfl (by intro d hd; simp only [List.mem_cons,List.not_mem_nil,or_false] at hd; rcases hd with rfl | rfl | rfl | rfl | rfl | rfl | rfl | rfl | rfl | rfl | rfl | rfl <;> rfl) rfl) rfl ?_
 refine ae.val rfl (aj rfl) rfl ?_
 refine ae.nil ?_
 have hr:=Option.some.inj h
 subst hr
 exact ay.ret ⟨_,rfl,rfl,gG (aG.cK rfl (.gp _ _) .nil)⟩
set_option maxRecDepth 20000 in
set_option maxHeartbeats 4000000 in
theorem nK (n:Nat) (a1:(List Int)) (a2:Int) (r:Int) (h:fO n a1 a2=some r):dB R cfg.P 37 [(.sl ((a1).map (D.int .i64)) false),(.int .i64 a2)] (.d (.int .i64 r)):=by
 unfold fO at h
 refine dB.of_wp E.obj.toObjOk (C:=cfg) Tryd.func37 rfl EU rfl ?_
 have H0:Has aL aL []:=Has.pure
 refine ay.seq ?_
 refine ay.region E.obj rfl ?_
 refine ae.val rfl (aj rfl) rfl ?_
 refine ae.nil ?_
 refine ay.seq ?_
 refine ay.region E.obj rfl ?_
 refine ae.val rfl (aj rfl) rfl ?_
 refine ae.nil ?_
 refine ay.seq ?_
 refine ay.block ?_
 refine mH.start (B:=aL) (α:=Int × Int) (fun k a=>bN a1 k a.1 a.2=some r) (fun a=>[(0,(.d (.sl ((a1).map (D.int .i64)) false))),(1,(.d (.int .i64 a.1))),(5,(.d (.int .i64 a.2)))]) (fun a=>[]) ?_ ?_ n ⟨⟨a2,0⟩,_,_,aL,.refl _ _,.refl _,(aa.r rfl (aa.r rfl (aa.r rfl aa.nil))),H0.sl [] rfl rfl,h⟩
 ·
  intro a h; simp [bN] at h
 intro k13 a S9 H10 h
 obtain ⟨x11,x12⟩:=a
 replace h:bN a1 (k13 + 1) x11 x12=some r:=h
 replace H10:Has aL S9 []:=H10
 unfold bN at h
 refine ay.seq ?_
 refine ay.seq ?_
 refine ay.region E.obj rfl ?_
 refine ae.val rfl (ah rfl) rfl ?_
 refine ae.val rfl (av rfl rfl pI) rfl ?_
 refine ae.val rfl (ah rfl) rfl ?_
 refine ae.bG 3 11 (.d (.bool ((decide (0 ≤ x11)) && (decide (x12 < 99))))) ?_ ?_
 ·
  rcases Bool.eq_false_or_eq_true ((decide (0 ≤ x11))) with hB14 | hB14
  ·
   refine ae.bool hB14 ?_
   refine ae.val rfl (ah rfl) rfl ?_
   refine ae.val rfl (av rfl rfl dF) rfl ?_
   refine ae.val rfl (az (b:=true) rfl rfl) rfl ?_
   exact ae.nil ⟨_,rfl,(aa.put (aa.push rfl (aa.push rfl (aa.put (.refl _) (Less.eq (by rw [hB14]))))) (Less.eq (by rw [hB14]; rw [Bool.true_and])))⟩
  refine ae.bool hB14 ?_
  refine ae.no rfl rfl ?_
  refine ae.no rfl rfl ?_
  refine ae.val rfl (az (b:=false) rfl rfl) rfl ?_
  exact ae.nil ⟨_,rfl,(aa.put (aa.push rfl (aa.push rfl (aa.put (.refl _) (Less.eq (by rw [hB14]))))) (Less.eq (by rw [hB14]; rw [Bool.false_and])))⟩
 refine ae.nil ?_
 refine ay.cond rfl (fun hb15=>?_) (fun hb15=>?_)
 ·
  replace h:=di hb15 h
  refine ay.skip ?_
  refine ay.block ?_
  obtain ⟨z16,hzz16,h⟩:=bind_some h
  refine ay.nW E.obj tJ Gm [(0,none),(1,some 7),(5,some 6)] (by kernel_rfl) [] (by decide) [some (.d (.int .i64 x12)),some (.d (.int .i64 (IntKind.wrap .i64 (x12 + 1)))),some (.d (.sl ((a1).map (D.int .i64)) false)),some (.d (.int .i64 x11)),some (.eptr (.int .i64 z16) 0),some (.d (.int .i64 z16)),some (.d (.int .i64 (IntKind.wrap .i64 (x12 + 1)))),some (.d (.int .i64 z16))] ?_
  refine ⟨[0,1,2,3,4,5,6,7],by kernel_rfl,?_,_,rfl,?_⟩
  ·
   refine .v rfl rfl rfl rfl (ah rfl) ?_
   refine .v rfl rfl rfl rfl (av rfl rfl cu) ?_
   refine .v rfl rfl rfl rfl (ah rfl) ?_
   refine .v rfl rfl rfl rfl (ah rfl) ?_
   refine .v rfl rfl rfl rfl (bR rfl rfl (df (enc:=(D.int .i64)) hzz16 jw D5 (((fun _=>rfl) _).trans oK.symm))) ?_
   refine .v rfl rfl rfl rfl (aX rfl (eO kC rfl)) ?_
   refine .v rfl rfl rfl rfl (aj rfl) ?_
   refine .v rfl rfl rfl rfl (aj rfl) ?_
   exact .nil
  exact ⟨⟨z16,(IntKind.wrap .i64 (x12 + 1))⟩,_,_,S9,.refl _ _,.refl _,(aa.r rfl (aa.r rfl (aa.r rfl aa.nil))),H10.sl [] rfl rfl,h⟩
 replace h:=dm hb15 h
 refine ay.exit ?_
 refine ay.seq ?_
 refine ay.region E.obj rfl ?_
 refine ae.val rfl (ah rfl) rfl ?_
 refine ae.val rfl (aj rfl) rfl ?_
 refine ae.nil ?_
 have hr:=Option.some.inj h
 subst hr
 exact ay.ret ⟨_,rfl,rfl,gG (aG.eq .nil)⟩
set_option maxRecDepth 20000 in
set_option maxHeartbeats 4000000 in
theorem eU (n:Nat) (a1:(List Int)) (a2:Int) (r:Int) (h:dX n a1 a2=some r):dB R cfg.P 38 [(.sl ((a1).map (D.int .i64)) false),(.int .i64 a2)] (.d (.int .i64 r)):=by
 unfold dX at h
 refine dB.of_wp E.obj.toObjOk (C:=cfg) Tryd.func38 rfl F3 rfl ?_
 have H0:Has aL aL []:=Has.pure
 refine ay.seq ?_
 refine ay.region E.obj rfl ?_
 refine ae.val rfl (aj rfl) rfl ?_
 refine ae.nil ?_
 refine ay.seq ?_
 refine ay.seq ?_
 refine ay.region E.obj rfl ?_
 refine ae.val rfl (ah rfl) rfl ?_
 refine ae.val rfl (bq rfl Ci) rfl ?_
 refine ae.val rfl (av rfl rfl bI) rfl ?_
 refine ae.nil ?_
 refine ay.cond rfl (fun hb3=>?_) (fun hb3=>?_)
 ·
  replace h:=di hb3 h
  refine ay.seq ?_
  refine ay.region E.obj rfl ?_
  refine ae.val rfl (aj rfl) rfl ?_
  refine ae.nil ?_
  have hr:=Option.some.inj h
  subst hr
  exact ay.ret ⟨_,rfl,rfl,gG (aG.eq .nil)⟩
 replace h:=dm hb3 h
 refine ay.skip ?_
 refine ay.seq ?_
 refine ay.region E.obj rfl ?_
 refine ae.val rfl (ah rfl) rfl ?_
 refine ae.val rfl (ah rfl) rfl ?_
 refine ae.val rfl (ah rfl) rfl ?_
 refine ae.val rfl (bq rfl Ci) rfl ?_
 obtain ⟨z4,hzz4,h⟩:=bind_some h
 refine ae.val rfl (av rfl rfl (vN hzz4)) rfl ?_
 obtain ⟨z5,hzz5,h⟩:=bind_some h
 refine ae.val rfl (bR rfl rfl (df (enc:=(D.int .i64)) hzz5 jw D5 (((fun _=>rfl) _).trans oK.symm))) rfl ?_
 refine ae.val rfl (aX rfl (eO kC rfl)) rfl ?_
 refine ae.val rfl (aj rfl) rfl ?_
 refine ae.nil ?_
 have hr:=Option.some.inj h
 subst hr
 exact ay.ret ⟨_,rfl,rfl,gG (aG.eq .nil)⟩
set_option maxRecDepth 20000 in
set_option maxHeartbeats 4000000 in
theorem jO:∀ (n:Nat) (a1:(List bu)) (a2:(List Int)) (a3:Int) (r:aQ),bz n a1 a2 a3=some r→dB R cfg.P 39 [(.sl ((a1).map bU) false),(.sl ((a2).map (D.int .i64)) false),(.int .i64 a3)] (.d (aD r))
 | 0,a1,a2,a3,r,h=>by simp [bz] at h
 | n + 1,a1,a2,a3,r,h=>by
  have ih:=jO n
  unfold bz at h
  refine dB.of_wp E.obj.toObjOk (C:=cfg) Tryd.func39 rfl F8 rfl ?_
  have H0:Has aL aL []:=Has.pure
  refine ay.seq ?_
  refine ay.region E.obj rfl ?_
  refine ae.alloc H0 rfl uJ iF rfl rfl (fun b4 S5 H6=>?_)
  refine ae.nil ?_
  refine ay.seq ?_
  refine ay.region E.obj rfl ?_
  refine ae.val rfl (ah rfl) rfl ?_
  refine ae.val rfl (ah rfl) rfl ?_
  obtain ⟨z7,hzz7,h⟩:=bind_some h
  refine ae.val rfl (bR rfl rfl (df (enc:=bU) hzz7 nO oI ((bu.len _).trans dP.symm))) rfl ?_
  refine ae.val rfl (aX rfl (bu.iy fU dP)) rfl ?_
  refine ae.alloc H6 rfl uJ iF rfl rfl (fun b8 S9 H10=>?_)
  refine ae.store H10 (i:=0) rfl rfl rfl rfl (bu.bJ _) rfl dP rfl oI rfl rfl rfl (fun S11 H12=>?_)
  refine ae.nil ?_
  refine ay.seq ?_
  refine ay.seq ?_
  refine ay.region E.obj rfl ?_
  refine ae.val rfl (ah rfl) rfl ?_
  refine ae.val rfl (bq rfl AO) rfl ?_
  refine ae.val rfl (ah rfl) rfl ?_
  refine ae.nil ?_
  refine ay.block ?_
  have H48:=H12.BL
  refine mH.start (B:=aL) (α:=(List aQ) × AV × Int) (fun k a=>bB (bz n) a1 a2 a3 z7 k a.1 a.2.2=some r) (fun a=>[(0,(.d (.sl ((a1).map bU) false))),(1,(.d (.sl ((a2).map (D.int .i64)) false))),(2,(.d (.int .i64 a3))),(6,(.ptr b4 0 0)),(7,(.ptr b8 0 0)),(14,(.d (.int .i64 ((a1).length:Int)))),(15,(.d (.int .i64 a.2.2)))]) (fun a=>[.box b8 [(.d (.int .i64 z7.Kind)),(.d (.int .i64 z7.N)),(.d (.str z7.Tag)),(.d (.str z7.Text)),(.d (.sl ((z7.aI).map aA) false)),a.2.1],.box b4 [(.d (.int .i64 0)),(.d (.int .i64 0)),(.d (.str [])),(.d (.str [])),(.d .aT),(.d .aT)],.grow a.2.1 ((a.1).map aD)]) ?_ ?_ n ⟨⟨[],(.d .aT),0⟩,_,_,S11,.refl _ _,.refl _,(aa.r rfl (aa.r rfl (aa.r rfl (aa.r rfl (aa.r rfl (aa.r rfl (aa.r rfl aa.nil))))))),H48.sl [1,2,0] rfl rfl,h⟩
  ·
   intro a h; simp [bB] at h
  intro k25 a S20 H21 h
  obtain ⟨x22,v23,x24⟩:=a
  replace h:bB (bz n) a1 a2 a3 z7 (k25 + 1) x22 x24=some r:=h
  replace H21:Has aL S20 [.box b8 [(.d (.int .i64 z7.Kind)),(.d (.int .i64 z7.N)),(.d (.str z7.Tag)),(.d (.str z7.Text)),(.d (.sl ((z7.aI).map aA) false)),v23],.box b4 [(.d (.int .i64 0)),(.d (.int .i64 0)),(.d (.str [])),(.d (.str [])),(.d .aT),(.d .aT)],.grow v23 ((x22).map aD)]:=H21
  unfold bB at h
  refine ay.seq ?_
  refine ay.region E.obj rfl ?_
  refine ae.val rfl (av rfl rfl dF) rfl ?_
  refine ae.nil ?_
  refine ay.seq ?_
  refine ay.cond rfl (fun hb26=>?_) (fun hb26=>?_)
  ·
   replace h:=di hb26 h
   refine ay.skip ?_
   refine ay.join (B:=aL) (α:=(List aQ) × AV) (fun a=>dn x24 (bB (bz n) a1 a2 a3 z7 k25) a.1=some r) (fun a=>[(0,(.d (.sl ((a1).map bU) false))),(1,(.d (.sl ((a2).map (D.int .i64)) false))),(2,(.d (.int .i64 a3))),(6,(.ptr b4 0 0)),(7,(.ptr b8 0 0)),(14,(.d (.int .i64 ((a1).length:Int)))),(15,(.d (.int .i64 x24)))]) (fun a=>[.box b8 [(.d (.int .i64 z7.Kind)),(.d (.int .i64 z7.N)),(.d (.str z7.Tag)),(.d (.str z7.Text)),(.d (.sl ((z7.aI).map aA) false)),a.2],.box b4 [(.d (.int .i64 0)),(.d (.int .i64 0)),(.d (.str [])),(.d (.str [])),(.d .aT),(.d .aT)],.grow a.2 ((a.1).map aD)]) ?_ ?_
   ·
    intro a S27 H28 h
    obtain ⟨x29,v30⟩:=a
    replace h:dn x24 (bB (bz n) a1 a2 a3 z7 k25) x29=some r:=h
    replace H28:Has aL S27 [.box b8 [(.d (.int .i64 z7.Kind)),(.d (.int .i64 z7.N)),(.d (.str z7.Tag)),(.d (.str z7.Text)),(.d (.sl ((z7.aI).map aA) false)),v30],.box b4 [(.d (.int .i64 0)),(.d (.int .i64 0)),(.d (.str [])),(.d (.str [])),(.d .aT),(.d .aT)],.grow v30 ((x29).map aD)]:=H28
    unfold dn at h
    refine ay.region E.obj rfl ?_
    refine ae.val rfl (av rfl rfl cu) rfl ?_
    refine ae.val rfl (ah rfl) rfl ?_
    refine ae.nil ?_
    exact ⟨⟨x29,v30,(IntKind.wrap .i64 (x24 + 1))⟩,_,_,S27,.refl _ _,.refl _,(aa.r rfl (aa.r rfl (aa.r rfl (aa.r rfl (aa.r rfl (aa.r rfl (aa.r rfl aa.nil))))))),H28.sl [0,1,2] rfl rfl,h⟩
   refine ay.block ?_
   refine ay.seq ?_
   refine ay.region E.obj rfl ?_
   refine ae.val rfl (ah rfl) rfl ?_
   refine ae.val rfl (aj rfl) rfl ?_
   refine ae.nil ?_
   refine ay.seq ?_
   refine ay.region E.obj rfl ?_
   refine ae.val rfl (ah rfl) rfl ?_
   refine ae.val rfl (ah rfl) rfl ?_
   obtain ⟨z32,hzz32,h⟩:=bind_some h
   refine ae.val rfl (bR rfl rfl (df (enc:=(D.int .i64)) hzz32 jw D5 (((fun _=>rfl) _).trans oK.symm))) rfl ?_
   refine ae.val rfl (aX rfl (eO kC rfl)) rfl ?_
   refine ae.val rfl (ah rfl) rfl ?_
   refine ae.val rfl (av rfl rfl bI) rfl ?_
   refine ae.nil ?_
   refine ay.cond rfl (fun hb33=>?_) (fun hb33=>?_)
   ·
    replace h:=di hb33 h
    obtain ⟨z34,hzz34,h⟩:=bind_some h
    obtain ⟨z35,hzz35,h⟩:=bind_some h
    refine ay.nW E.obj tJ Gl [(0,none),(1,none),(2,none),(6,none),(7,none),(14,none),(15,none)] (by kernel_rfl) [7,9] (by decide) [some (.ptr b8 0 5),some v23,some (.d (.sl ((a1).map bU) false)),some (.d (.sl ((a2).map (D.int .i64)) false)),some (.d (.int .i64 x24)),some (.d (aD z34)),some (.d (.sl (([z34]).map aD) true)),none,none,none] ?_
    refine ⟨[0,1,2,3,4,5,6],by kernel_rfl,?_,_,_,rfl,rfl,.step ?_⟩
    ·
     refine .v rfl rfl rfl rfl (ak rfl jX sO rfl) ?_
     refine .v rfl rfl rfl rfl (au H21 (i:=0) rfl rfl (aF uI rfl)) ?_
     refine .v rfl rfl rfl rfl (ah rfl) ?_
     refine .v rfl rfl rfl rfl (ah rfl) ?_
     refine .v rfl rfl rfl rfl (ah rfl) ?_
     refine .cons rfl rfl rfl (.step ?_) ?_
     ·
      refine ae.ret rfl (aB rfl rfl) (ih _ _ _ _ hzz34 _ _ (aG.eq (aG.eq (aG.eq .nil)))) rfl ?_
      exact ae.nil ⟨_,_,rfl,fun _ ht=>by cases ht; exact ⟨rfl,.refl _⟩⟩
     refine .v rfl rfl rfl rfl (aM (vs:=[(.d (aD z34))]) (ds:=[(aD z34)]) uk nO fU iF dP rfl (by decide) (.cons rfl (aQ.len _) .nil) rfl (by intro d hd; simp only [List.mem_cons,List.not_mem_nil,or_false] at hd; rcases hd with rfl <;> exact aQ.agg _) rfl) ?_
     exact .nil
    refine ae.append (xs:=(x22).map aD) (ys:=([z34]).map aD) (zs:=(z35).map aD) H21 rfl rfl rfl (i:=2) rfl rfl uk EA nO (fe hzz35) Ei rfl (bP (enc:=aD) (fun z=>(aQ.len z).trans dP.symm) _) (bP (enc:=aD) (fun z=>(aQ.len z).trans dP.symm) _) Ea rfl (ji hzz35) (fun v41 S42 H43=>?_)
    refine ae.nil ⟨_,_,_,rfl,(fun _ ht=>by cases ht; rfl),_,(.q (.o (.o (.o (.w v41 (.w (.ptr b8 0 5) (.n .nil))))))),(fun _ ht=>by cases ht; exact ⟨_,rfl,.refl _⟩),?_⟩
    refine ⟨[8],by kernel_rfl,?_,_,_,rfl,rfl,.step ?_⟩
    ·
     refine .v rfl rfl rfl rfl (ak rfl jX sO rfl) ?_
     exact .nil
    refine ae.store H43 (i:=0) rfl rfl rfl rfl (nz (H43.at (i:=2) rfl)).2.2.2.2 rfl Fj (nz (H43.at (i:=2) rfl)).2.2.2.1 F7 rfl rfl rfl (fun S44 H45=>?_)
    refine ae.nil ⟨_,.any,_,rfl,(fun _ ht=>by cases ht),_,(.q (.q (.o (.w .any .nil)))),(fun _ ht=>by cases ht),?_⟩
    refine ⟨[],by kernel_rfl,?_,_,rfl,?_⟩
    ·
     exact .nil
    exact ⟨⟨z35,v41⟩,_,_,S44,.refl _ _,.refl _,(aa.r rfl (aa.r rfl (aa.r rfl (aa.r rfl (aa.r rfl (aa.r rfl (aa.r rfl aa.nil))))))),H45.sl [0,1,2] rfl rfl,h⟩
   replace h:=dm hb33 h
   refine ay.skip ?_
   exact ⟨⟨x22,v23⟩,_,_,S20,.refl _ _,.refl _,(aa.r rfl (aa.r rfl (aa.r rfl (aa.r rfl (aa.r rfl (aa.r rfl (aa.r rfl aa.nil))))))),H21.sl [0,1,2] rfl rfl,h⟩
  replace h:=dm hb26 h
  refine ay.exit ?_
  refine ay.seq ?_
  refine ay.region E.obj rfl ?_
  refine ae.val rfl (au H21 (i:=0) rfl rfl (aV fU dP rfl)) rfl ?_
  refine ae.less (Less.agg' (d:=aD (aQ.mk z7.Kind z7.N z7.Tag z7.Text z7.aI x22)) (ai.eq rfl (ai.eq rfl (ai.eq rfl (ai.eq rfl (ai.eq rfl (ai.grow H21 (i:=2) rfl .nil)))))) ((aQ.eq _).trans rfl)) ?_
  refine ae.store H21 (i:=1) rfl rfl rfl rfl (aQ.bJ _) rfl dP rfl oI rfl rfl rfl (fun S46 H47=>?_)
  refine ae.nil ?_
  have hr:=Option.some.inj h
  subst hr
  exact ay.ret ⟨_,nP H47 (i:=1) rfl rfl rfl (aV fU dP rfl),rfl,gG (aG.pU (d:=aD (aQ.mk z7.Kind z7.N z7.Tag z7.Text z7.aI x22)) (ai.eq rfl (ai.eq rfl (ai.eq rfl (ai.eq rfl (ai.eq rfl (ai.eq rfl .nil)))))) ((aQ.eq _).trans rfl))⟩
end
end Pr
end Go.Ev

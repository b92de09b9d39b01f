import Derived.Test.YtjlfkpfombdelaaDoorPartB
import Derived.Shelf.Strings.OnBuilder
import Derived.Shelf.Strings.SplitShaped
import Derived.Shelf.Strings.SlTrimAscii
import Derived.Shelf.Small.Strs
import Derived.Shelf.Strings.Cut
import Derived.DataReads
import GoSem.ClaimChange
import Derived.WideShapes
import Derived.ChangeShapes
namespace Go.Ev
noncomputable section
open Go.Shelf Go.RowKit Go.Proofs
set_option linter.unusedVariables false
set_option linter.unusedSimpArgs false
def EP (T e:Nat) (k:Nat) (x:D) (w:World) (b:Nat) (F:Nat→Prop):Prop :=
 k=1∧∃ l p v,x=.str l∧qG T e b p v (Lib.byteCells l) w∧∀ c,F c↔(c=b∨v.ownBlock=some c)
def F3 (k:Nat) (w:World) (b:Nat) (F:Nat→Prop):Prop:=k=3∧b < w.heap.size∧∀ c,F c↔c=b
def uV (T e:Nat) (G:World→(Nat→Nat→Prop)→Prop):bL:={ rel:=fun k x w b F=>EP T e k x w b F∨F3 k w b F,G:=G }
def o9 (G:World→(Nat→Nat→Prop)→Prop):Prop :=
 ∀ (w w':World) (fr fr':Nat→Nat→Prop),G w fr→(∀ (b o:Nat) (v:Value),¬ fr b o→w.cell? ⟨b,o,none⟩=some v→w'.cell? ⟨b,o,none⟩=some v∧¬ fr' b o)→(∀ b,b < w.heap.size→(∀ o,¬ fr b o)→w'.heap[b]? = w.heap[b]?∧∀ o,¬ fr' b o)→G w' fr'
theorem CJ {e:Nat} {v:Value} {n:Nat} {xs:List Value} {w w':World} (h:w.ownsRow 0 e 1 v n xs) (hk:∀ c,v.ownBlock=some c→w'.heap[c]? = w.heap[c]?):w'.ownsRow 0 e 1 v n xs:=by
 refine ⟨h.1,?_⟩
 rcases h.2 with q | ⟨g,cap,cur,rfl,q1,q2,q3⟩
 ·
  exact .inl q
 ·
  exact .inr ⟨g,cap,cur,rfl,q1,by rw [hk g rfl]; exact q2,q3⟩
theorem xW {T e:Nat} {G:World→(Nat→Nat→Prop)→Prop} (hG:o9 G):ObjOk (uV T e G) where
 frame:=fun k x w w' b F h hF=>by
  rcases h with h | ⟨h1,h2,h3⟩
  ·
   obtain ⟨hk,l,p,v,hx,⟨h1,h2,h3,h4⟩,hf⟩:=h
   exact .inl ⟨hk,l,p,v,hx,⟨h1,by rw [hF b ((hf b).2 (.inl rfl))]; exact h2,CJ h3 (fun c hc=>hF c ((hf c).2 (.inr hc))),h4⟩,hf⟩
  ·
   refine .inr ⟨h1,?_,h3⟩
   have:=hF b ((h3 b).2 rfl)
   rcases Nat.lt_or_ge b w'.heap.size with q | q
   ·
    exact q
   ·
    rw [Array.getElem?_eq_none q,Array.getElem?_eq_getElem h2] at this; cases this
 lt:=fun k x w b F h=>by
  rcases h with h | ⟨h1,h2,h3⟩
  ·
   obtain ⟨hk,l,p,v,hx,⟨h1,h2,h3,h4⟩,hf⟩:=h
   refine ⟨fun c hc=>?_,(hf b).2 (.inl rfl)⟩
   rcases (hf c).1 hc with rfl | hc
   ·
    rcases Nat.lt_or_ge c w.heap.size with q | q
    ·
     exact q
    ·
     rw [Array.getElem?_eq_none q] at h2; cases h2
   ·
    exact (h3.lt c hc).2
  ·
   exact ⟨fun c hc=>by rw [(h3 c).1 hc]; exact h2,(h3 b).2 rfl⟩
 it:=fun x w b F=>by
  constructor
  ·
   rintro (⟨h,_⟩ | ⟨_,h1,h2⟩)
   ·
    cases h
   ·
    exact ⟨h1,h2⟩
  ·
   rintro ⟨h1,h2⟩
   exact .inr ⟨rfl,h1,h2⟩
 stat:=hG
theorem wW {T e:Nat} {G:World→(Nat→Nat→Prop)→Prop} (hG:o9 G) {cx:Cx} {S:St} {w w':World} (hS:aS (uV T e G) cx S w) {id:Nat} {l l':List UInt8} (hk:S.H.get id=some (.obj 1 (.str l)))
  {v:Value} (hfv:∀ c,cx.fp id c↔(c=cx.bm id∨v.ownBlock=some c)) (hp:uw w w' (cx.bm id) v (Lib.byteCells l') T e) :
  ∃ cx',aS (uV T e G) cx' { S with H:=S.H.set id (.obj 1 (.str l')) } w'∧Ext cx S w cx' { S with H:=S.H.set id (.obj 1 (.str l')) } w':=by
 obtain ⟨⟨p1,p2,p3,p4⟩,v',b1,b2,b3,b4,b5⟩:=hp
 obtain ⟨o1,o2⟩:=hS.objs id _ _ hk
 let cx':Cx:={ cx with fp:=fun i c=>if i=id then (c=cx.bm id∨v'.ownBlock=some c) else cx.fp i c,fr:=fun b o=>(b=cx.bm id∨v'.ownBlock=some b)∨cx.fr b o }
 have hlt:∀ c,(c=cx.bm id∨v'.ownBlock=some c)→c < w'.heap.size:=fun c hc=>by
  rcases hc with rfl | hc
  ·
   rcases Nat.lt_or_ge (cx.bm id) w'.heap.size with q | q
   ·
    exact q
   ·
    rw [Array.getElem?_eq_none q] at b1; cases b1
  ·
   exact (b2.lt c hc).2
 have hold:∀ c,(c=cx.bm id∨v'.ownBlock=some c)→cx.fp id c∨w.heap.size ≤ c:=fun c hc=>by
  rcases hc with rfl | hc
  ·
   exact .inl ((hfv _).2 (.inl rfl))
  ·
   rcases b5 c hc with q | q
   ·
    exact .inl ((hfv _).2 (.inr q))
   ·
    exact .inr q
 refine ⟨cx',rP (xW hG) hS hk (fun k x hx=>by simp [rW]) (fun g hg=>by simp [isIt,AL.aR] at hg) (fun g hg=>by simp [isIt,hk] at hg) rfl rfl (fun i hi=>by simp [AL.aR,Ne.symm hi]) (.inr ⟨1,.str l',by simp [AL.aR],.inl ⟨rfl,l',.pointer (some ⟨cx.bm id,0,none⟩),v',rfl,⟨.inr rfl,b1,b2,b3⟩,fun c=>by simp [cx']⟩⟩)
  p4 p1 p2 p3 (fun b hb hn=>b4 b hb (fun q=>hn ((hfv b).2 (.inl q))) (fun q=>hn ((hfv b).2 (.inr q.symm)))) (fun _=>rfl) (fun i hi b=>by simp [cx',hi]) (fun _=>rfl) (fun _=>rfl)
  (fun b hb=>?_) (fun b o hb=>?_) (fun b o hf hb q=>?_) (fun b o hf=>.inr hf) (fun b o hf=>?_)⟩
 ·
  simp only [cx',if_true] at hb
  rcases hold b hb with q | q
  ·
   exact .inl q
  ·
   exact .inr ⟨q,hlt b hb⟩
 ·
  simp only [cx',if_true] at hb
  exact .inl hb
 ·
  rcases q with q | q
  ·
   rcases hold b q with z | z
   ·
    exact hf (o2 b o z)
   ·
    omega
  ·
   exact hf q
 ·
  rcases hf with q | q
  ·
   exact hlt b q
  ·
   exact Nat.lt_of_lt_of_le (hS.lt b o q) p4
theorem Dp {T e:Nat} {G:World→(Nat→Nat→Prop)→Prop} (hG:o9 G) {cx:Cx} {S:St} {w w':World} (hS:aS (uV T e G) cx S w) {id:Nat} {l:List UInt8} (hk:S.H.get id=some (.obj 1 (.str l)))
  {v:Value} (hfv:∀ c,cx.fp id c↔(c=cx.bm id∨v.ownBlock=some c)) (hp:Kept w w' (cx.bm id) v) :
  aS (uV T e G) cx { S with H:=S.H.del id } w'∧Ext cx S w cx { S with H:=S.H.del id } w':=by
 obtain ⟨p1,p2,p3,p4,p5⟩:=hp
 obtain ⟨o1,o2⟩:=hS.objs id _ _ hk
 exact rP (xW hG) hS hk (fun k x hx=>by simp [rW]) (fun g hg=>by simp [isIt,AL.nL] at hg) (fun g hg=>by simp [isIt,hk] at hg) rfl rfl (fun i hi=>by simp [AL.nL,Ne.symm hi]) (.inl (by simp [AL.nL]))
  p4 p1 p2 p3 (fun b hb hn=>p5 b hb (fun q=>hn ((hfv b).2 (.inl q))) (fun q=>hn ((hfv b).2 (.inr q.symm)))) (fun _=>rfl) (fun i hi b=>Iff.rfl) (fun _=>rfl) (fun _=>rfl)
  (fun b hb=>.inl hb) (fun b o hb=>o2 b o hb) (fun b o hf hb q=>hf q) (fun b o hf=>hf) (fun b o hf=>Nat.lt_of_lt_of_le (hS.lt b o hf) p4)
end
end Go.Ev

namespace Go.Ev
noncomputable section
open Go.Shelf Go.RowKit Go.Proofs
set_option linter.unusedVariables false
set_option linter.unusedSimpArgs false
abbrev Prim:=List AV→St→Option (AV × St)
structure jD (R:bL) (P:Program) (f:Nat) (p:Prim):Prop where
 pure:∀ args S v S',p args S=some (v,S')→(jW args).isSome=true→(vV v).isSome=true→∀ S2,p args S2=some (v,S2)
 calls:∀ args S v S',p args S=some (v,S')→(∃ fn,P.funcs[f]? = some fn∧fn.body.isSome=true∧fn.name ≠ "runtime.NumGoroutine") ∧
  ∀ cx w (us:List Value),aS R cx S w→us.length=args.length→(∀ (i:Nat) (x:AV) (u:Value),args[i]? = some x→us[i]? = some u→aF cx S w x u) →
  Calls P f us.toArray w (fun e w'=>∃ cx',aS R cx' S' w'∧Ext cx S w cx' S' w'∧∃ u,e=.returned u∧aF cx' S' w' v u)
def yf (R:bL) (P:Program):AL Prim→Prop
 | []=>True
 | (f,p) :: l=>jD R P f p∧yf R P l
theorem oJ {R:bL} {P:Program}:∀ {l:AL Prim} {f:Nat} {p:Prim},yf R P l→AL.get l f=some p→jD R P f p
 | [],f,p,_,h=>by cases h
 | (k,q) :: l,f,p,hl,h=>by
  rw [AL.gG] at h
  split at h
  ·
   rename_i he
   cases h; subst he; exact hl.1
  ·
   exact oJ hl.2 h
def wh (args:List AV) (S:St):Option (AV × St) :=
 match args with
 | [.ptr id 0 0,.d (.int .u8 c)]=>match S.H.get id with
  | some (.obj 1 (.str bs))=>if 0 ≤ c∧c < 256∧bs.length + 1 ≤ bound then some (.d .nili,{ S with H:=S.H.set id (.obj 1 (.str (bs ++ [UInt8.ofNat c.toNat]))) }) else none
  | _=>none
 | _=>none
def wy (args:List AV) (S:St):Option (AV × St) :=
 match args with
 | [.ptr id 0 0,.d (.str s)]=>match S.H.get id with
  | some (.obj 1 (.str bs))=>if bs.length + s.length ≤ bound then some (.tup [.d (.int .i64 (s.length:Nat)),.d .nili],{ S with H:=S.H.set id (.obj 1 (.str (bs ++ s))) }) else none
  | _=>none
 | _=>none
def vU (args:List AV) (S:St):Option (AV × St) :=
 match args with
 | [.ptr id 0 0]=>match S.H.get id with
  | some (.obj 1 (.str bs))=>some (.d (.str bs),{ S with H:=S.H.del id })
  | _=>none
 | _=>none
theorem yE {T e:Nat} {G:World→(Nat→Nat→Prop)→Prop} {cx:Cx} {S:St} {w:World} (hS:aS (uV T e G) cx S w) {id:Nat} {l:List UInt8} (hk:S.H.get id=some (.obj 1 (.str l))) {u:Value} (hu:aF cx S w (.ptr id 0 0) u) :
  u=.pointer (some ⟨cx.bm id,0,none⟩)∧∃ p v,qG T e (cx.bm id) p v (Lib.byteCells l) w∧∀ c,cx.fp id c↔(c=cx.bm id∨v.ownBlock=some c):=by
 obtain ⟨⟨_,l',p,v,hx,h1,h2⟩ | ⟨h3,_⟩,_⟩:=hS.objs id _ _ hk
 rotate_left
 ·
  cases h3
 cases hx
 cases hu with
 | ptr _ _ _ b hn hp =>
  have:=hp (by simp [cur,hk,rW])
  subst this
  exact ⟨rfl,p,v,h1,h2⟩
theorem Fz {G:World→(Nat→Nat→Prop)→Prop} (hG:o9 G) {P:Program} {ρ:Ren} (L:Lays.n167 P ρ) (X:Builder.Extra P ρ):jD (uV (ρ.t 72) (ρ.t 5) G) P (ρ.f 167) wh where
 pure:=fun args S v S' h h1=>by
  exfalso
  unfold wh at h
  split at h
  ·
   simp [jW,vH] at h1
  ·
   cases h
 calls:=fun args S v S' h=>⟨⟨_,L.f167,rfl,by show ¬ ("(*strings.Builder).WriteByte" = "runtime.NumGoroutine"); decide⟩,fun cx w us hS hl hr=>by
  unfold wh at h
  split at h
  ·
   rename_i id c
   split at h
   ·
    rename_i bs hk
    split at h
    ·
     rename_i hc
     simp only [Option.some.injEq,Prod.mk.injEq] at h
     obtain ⟨rfl,rfl⟩:=h
     match us,hl with
     | [u0,u1],_ =>
     obtain ⟨rfl,p,v,h1,h2⟩:=yE hS hk (hr 0 _ _ rfl rfl)
     have r1:=hr 1 _ _ rfl rfl
     cases r1 with
     | d _ _ r1 =>
     have a1:=r1.val rfl; cases a1
     refine (wN L X h1 c (by rw [Lib.byteCells_length]; exact hc.2.2)).mono (fun e w' hp=>?_)
     obtain ⟨rfl,hp⟩:=hp
     have hb:Lib.byteCells bs ++ [.int .u8 c]=Lib.byteCells (bs ++ [UInt8.ofNat c.toNat]):=by
      have:((UInt8.ofNat c.toNat).toNat:Int)=c:=by
       rw [UInt8.toNat_ofNat']
       have h0:=hc.1; have h1:=hc.2.1
       omega
      simp only [Lib.byteCells,List.map_append,List.map_cons,List.map_nil,this]
     rw [hb] at hp
     obtain ⟨cx',k1,k2⟩:=wW hG hS hk h2 hp
     exact ⟨cx',k1,k2,_,rfl,.d _ _ (bA.of_cell .nili rfl)⟩
    ·
     cases h
   ·
    cases h
  ·
   cases h⟩
theorem Fw {G:World→(Nat→Nat→Prop)→Prop} (hG:o9 G) {P:Program} {ρ:Ren} (L:Lays.n166 P ρ) (X:Builder.Extra P ρ):jD (uV (ρ.t 72) (ρ.t 5) G) P (ρ.f 166) wy where
 pure:=fun args S v S' h h1=>by
  exfalso
  unfold wy at h
  split at h
  ·
   simp [jW,vH] at h1
  ·
   cases h
 calls:=fun args S v S' h=>⟨⟨_,L.f166,rfl,by show ¬ ("(*strings.Builder).WriteString" = "runtime.NumGoroutine"); decide⟩,fun cx w us hS hl hr=>by
  unfold wy at h
  split at h
  ·
   rename_i id s
   split at h
   ·
    rename_i bs hk
    split at h
    ·
     rename_i hc
     simp only [Option.some.injEq,Prod.mk.injEq] at h
     obtain ⟨rfl,rfl⟩:=h
     match us,hl with
     | [u0,u1],_ =>
     obtain ⟨rfl,p,v,h1,h2⟩:=yE hS hk (hr 0 _ _ rfl rfl)
     have r1:=hr 1 _ _ rfl rfl
     cases r1 with
     | d _ _ r1 =>
     have a1:=r1.val rfl; cases a1
     rename_i s xx
     refine (uh L X h1 s (by rw [Lib.byteCells_length]; simpa using hc)).mono (fun e w' hp=>?_)
     obtain ⟨rfl,hp⟩:=hp
     have hb:Lib.byteCells bs ++ Lib.strCells s=Lib.byteCells (bs ++ s.data.toList):=by
      simp [Lib.byteCells,Lib.strCells]
     rw [hb] at hp
     obtain ⟨cx',k1,k2⟩:=wW hG hS hk h2 hp
     refine ⟨cx',k1,k2,_,rfl,.tup _ [.int .i64 (s.size:Nat),.nilIface] rfl (fun i x v hx hv=>?_)⟩
     match i,hx,hv with
     | 0,hx,hv =>
      simp at hx hv; subst hx; subst hv
      exact .d _ _ (bA.of_cell (.int _ _) rfl)
     | 1,hx,hv =>
      simp at hx hv; subst hx; subst hv
      exact .d _ _ (bA.of_cell .nili rfl)
    ·
     cases h
   ·
    cases h
  ·
   cases h⟩
theorem FD {G:World→(Nat→Nat→Prop)→Prop} (hG:o9 G) {P:Program} {ρ:Ren} (L:Lays.n169 P ρ) (X:Builder.Extra P ρ):jD (uV (ρ.t 72) (ρ.t 5) G) P (ρ.f 169) vU where
 pure:=fun args S v S' h h1=>by
  exfalso
  unfold vU at h
  split at h
  ·
   simp [jW,vH] at h1
  ·
   cases h
 calls:=fun args S v S' h=>⟨⟨_,L.f169,rfl,by show ¬ ("(*strings.Builder).String" = "runtime.NumGoroutine"); decide⟩,fun cx w us hS hl hr=>by
  unfold vU at h
  split at h
  ·
   rename_i id
   split at h
   ·
    rename_i bs hk
    simp only [Option.some.injEq,Prod.mk.injEq] at h
    obtain ⟨rfl,rfl⟩:=h
    match us,hl with
    | [u0],_ =>
    obtain ⟨rfl,p,v,h1,h2⟩:=yE hS hk (hr 0 _ _ rfl rfl)
    refine (Ba L X h1).mono (fun e w' hp=>?_)
    obtain ⟨rfl,hp⟩:=hp
    obtain ⟨k1,k2⟩:=Dp hG hS hk h2 hp
    refine ⟨cx,k1,k2,_,rfl,.d _ _ (bA.of_cell ?_ rfl)⟩
    have:=gL.str (w:=w') (fr:=cx.fr) ⟨bs.toArray⟩
    simpa using this
   ·
    cases h
  ·
   cases h⟩
end
end Go.Ev

namespace Go.Ev
noncomputable section
open Go.Shelf Go.RowKit Go.Proofs
set_option linter.unusedVariables false
set_option linter.unusedSimpArgs false
def Leaves (w:World) (fr:Nat→Nat→Prop) (v:AV) (e:Ending) (w':World):Prop :=
 Below w.heap.size w w'∧∃ u,e=.returned u∧∀ cx S,cx.fr=fr→aF cx S w' v u
def jy (spec:List D→Option AV):Prim:=fun args S=>match jW args with
 | some ds=>(spec ds).map fun v=>(v,S)
 | none=>none
theorem mh {R:bL} (hR:ObjOk R) {P:Program} {f:Nat} {spec:List D→Option AV} (hd:∀ ds v,spec ds=some v→(vV v).isSome=true)
  (hb:∃ fn,P.funcs[f]? = some fn∧fn.body.isSome=true∧fn.name ≠ "runtime.NumGoroutine")
  (hc:∀ ds v,spec ds=some v→∀ (w:World) (fr:Nat→Nat→Prop) (us:List Value),R.G w fr→(∀ b o,fr b o→b < w.heap.size)→us.length=ds.length→(∀ (i:Nat) (y:D) (u:Value),ds[i]? = some y→us[i]? = some u→bA w fr y u) →
   Calls P f us.toArray w (Leaves w fr v)):jD R P f (jy spec) where
 pure:=fun args S v S' h _ _ S2=>by
  unfold jy at h ⊢
  split at h
  ·
   rename_i ds hds
   simp only [Option.map_eq_some_iff,Prod.mk.injEq] at h
   obtain ⟨a,h1,rfl,_⟩:=h
   simp [hds,h1]
  ·
   cases h
 calls:=fun args S v S' h=>⟨hb,fun cx w us hS hl hr=>by
  unfold jy at h
  split at h
  ·
   rename_i ds hds
   simp only [Option.map_eq_some_iff,Prod.mk.injEq] at h
   obtain ⟨a,h1,rfl,rfl⟩:=h
   obtain ⟨d1,d2⟩:=rR hds
   refine (hc ds a h1 w cx.fr us hS.stat hS.lt (by rw [hl,d1]) (fun i y u hy hu=>?_)).mono (fun e w' hp=>?_)
   ·
    have hlt:i < args.length:=by rw [← d1]; exact (List.getElem?_eq_some_iff.1 hy).1
    have ha:=List.getElem?_eq_getElem hlt
    exact kz (d2 i _ y ha hy) (hr i _ u ha hu)
   ·
    obtain ⟨hbl,u,rfl,hv⟩:=hp
    have e:Ext cx S w cx S w':=Ext.old hS hbl.size (fun b hb=>hbl.block b hb) hbl.os hbl.tape hbl.output
    exact ⟨cx,aS.old hR hS hbl.size (fun b hb=>hbl.block b hb) e,e,u,rfl,hv cx S rfl⟩
  ·
   cases h⟩
theorem uA (w:World) (fr:Nat→Nat→Prop) (l:List UInt8):bA w fr (.str l) (.string ⟨l.toArray⟩):=by
 have:=gL.str (w:=w) (fr:=fr) ⟨l.toArray⟩
 exact bA.of_cell (by simpa using this) rfl
theorem l7 {w:World} {fr:Nat→Nat→Prop} {l:List UInt8} {u:Value} (h:bA w fr (.str l) u):u=.string ⟨l.toArray⟩:=by
 have a:=h.val rfl
 cases a
 simp
def vz:List D→Option AV
 | [.str s,.str c]=>if s.length ≤ bound∧c.length ≤ 1000∧(c.all fun b=>decide (b.toNat < 128))=true then some (.d (.str (Lib.trimS s c))) else none
 | _=>none
theorem EJ {R:bL} (hR:ObjOk R) {P:Program} {ρ:Ren} (L:Lays.n160 P ρ) (h116:(P.info? (ρ.t 116)).map (fun i=>(i.zero,i.size))=some (some (.agg (Array.replicate 256 (.bool false))),256)) :
  jD R P (ρ.f 160) (jy vz):=by
 refine mh hR (fun ds v h=>?_) ⟨_,L.f160,rfl,by show ¬ ("strings.Trim" = "runtime.NumGoroutine"); decide⟩ (fun ds v h w fr us hG hfr hl hr=>?_)
 ·
  unfold vz at h
  split at h
  ·
   split at h
   ·
    simp only [Option.some.injEq] at h; subst h; rfl
   ·
    cases h
  ·
   cases h
 ·
  unfold vz at h
  split at h
  ·
   rename_i s c
   split at h
   ·
    rename_i hc
    obtain ⟨h1,h2,h3⟩:=hc
    simp only [Option.some.injEq] at h; subst h
    match us,hl with
    | [u0,u1],_ =>
    obtain rfl:=l7 (hr 0 _ _ rfl rfl)
    obtain rfl:=l7 (hr 1 _ _ rfl rfl)
    refine (Any.strings_Trim_laid L h116 ⟨s.toArray⟩ ⟨c.toArray⟩ w (by simp [ByteArray.size]; unfold bound at h1; omega) (by simp [ByteArray.size]; omega) (by simpa using ascii_of_all h3)).mono (fun e w' hp=>?_)
    obtain ⟨rfl,hb⟩:=hp
    exact ⟨hb,_,rfl,fun cx S _=>.d _ _ (by simpa using uA w' cx.fr (Lib.trimS s c))⟩
   ·
    cases h
  ·
   cases h
def xV:List D→Option AV
 | [.str s,.int .u8 c]=>some (.d (.int .i64 (Lib.indexByte s c.toNat.toUInt8)))
 | _=>none
theorem ES {R:bL} (hR:ObjOk R) {P:Program} {ρ:Ren} (L:Lays.n137 P ρ):jD R P (ρ.f 137) (jy xV):=by
 refine mh hR (fun ds v h=>?_) ⟨_,L.f137,rfl,by show ¬ ("strings.IndexByte" = "runtime.NumGoroutine"); decide⟩ (fun ds v h w fr us hG hfr hl hr=>?_)
 ·
  unfold xV at h
  split at h
  ·
   simp only [Option.some.injEq] at h; subst h; rfl
  ·
   cases h
 ·
  unfold xV at h
  split at h
  ·
   rename_i s c
   simp only [Option.some.injEq] at h; subst h
   match us,hl with
   | [u0,u1],_ =>
   obtain rfl:=l7 (hr 0 _ _ rfl rfl)
   have a1:=(hr 1 _ _ rfl rfl).val rfl
   cases a1
   refine (Any.strings_IndexByte L ⟨s.toArray⟩ c w).mono (fun e w' hp=>?_)
   obtain ⟨rfl,rfl⟩:=hp
   exact ⟨Below.refl _ _,_,rfl,fun cx S _=>.d _ _ (bA.of_cell (by simpa using gL.int (w:=w') (fr:=cx.fr) .i64 (Lib.indexByte s c.toNat.toUInt8)) rfl)⟩
  ·
   cases h
def iY (c:UInt8):List UInt8→List (List UInt8)
 | []=>[[]]
 | b :: l=>if b == c then [] :: iY c l else match iY c l with
  | []=>[[b]]
  | x :: r=>(b :: x) :: r
theorem tC (c:UInt8):∀ (s:List UInt8),c ∉ s→iY c s=[s]
 | [],_=>rfl
 | b :: l,h=>by
  have h1:¬ (b == c)=true:=fun q=>h (by rw [eq_of_beq q]; exact List.mem_cons_self)
  rw [iY,if_neg h1,tC c l (fun q=>h (List.mem_cons_of_mem _ q))]
theorem sS (c:UInt8) (t:List UInt8):∀ (s:List UInt8),c ∉ s→iY c (s ++ c :: t)=s :: iY c t
 | [],_=>by simp [iY]
 | b :: l,h=>by
  have h1:¬ (b == c)=true:=fun q=>h (by rw [eq_of_beq q]; exact List.mem_cons_self)
  rw [List.cons_append,iY,if_neg h1,sS c t l (fun q=>h (List.mem_cons_of_mem _ q))]
theorem occ_one (s:List UInt8) (c:UInt8) (i:Nat):Lib.occAt s [c] i=(s[i]? == some c):=by
 unfold Lib.occAt
 cases h:s.drop i with
 | nil =>
  have:s[i]? = none:=by rw [List.getElem?_eq_none]; have:=congrArg List.length h; simp at this; omega
  rw [this]; rfl
 | cons b l =>
  have:s[i]? = some b:=by have:=congrArg (·[0]?) h; simpa using this
  rw [this]
  simp only [List.isPrefixOf_cons_cons,List.isPrefixOf_nil_left,Bool.and_true]
  by_cases hb:c=b
  ·
   subst hb; simp
  ·
   have h1:(c == b)=false:=by simpa using hb
   have h2:(some b == some c)=false:=by simpa using Ne.symm hb
   rw [h1,h2]
theorem A8 (c:UInt8):∀ (n:Nat) (s:List UInt8),s.length ≤ n→Lib.splitK [c] 0 (Lib.count s [c]) s=iY c s:=by
 intro n
 induction n with
 | zero =>
  intro s hs
  have:s=[]:=List.eq_nil_of_length_eq_zero (by omega)
  subst this
  rfl
 | succ n ih =>
  intro s hs
  rcases Lib.index_spec s [c] with ⟨h1,h2⟩ | ⟨i,h1,h2,h3,h4⟩
  ·
   rw [Lib.count_miss h1,Lib.splitK]
   refine (tC c s (fun hm=>?_)).symm
   obtain ⟨j,hj,hjs⟩:=List.getElem_of_mem hm
   have:=h2 j (by omega)
   rw [occ_one,List.getElem?_eq_getElem hj,hjs] at this
   simp at this
  ·
   rw [Lib.count_hit (by simp) h1]
   have hne:¬ (Lib.index s [c] == -1)=true:=fun q=>by have:=beq_iff_eq.1 q; omega
   rw [Nat.add_comm,Lib.splitK,if_neg hne,h1]
   have e1:((i:Int)).toNat=i:=by omega
   rw [e1]
   rw [occ_one] at h3
   have hi:s[i]? = some c:=by simpa using h3
   have hlt:=(List.getElem?_eq_some_iff.1 hi).1
   have hs2:s=s.take i ++ c :: s.drop (i + 1):=by
    have:=List.getElem_cons_drop hlt
    rw [(List.getElem?_eq_some_iff.1 hi).2] at this
    rw [this,List.take_append_drop]
   have hnm:c ∉ s.take i:=fun hm=>by
    obtain ⟨j,hj,hjs⟩:=List.getElem_of_mem hm
    simp at hj
    have:=h4 j (by omega)
    rw [occ_one,List.getElem?_eq_getElem (by omega)] at this
    simp at hjs
    simp [hjs] at this
   conv=>rhs; rw [hs2]
   rw [sS c _ _ hnm]
   simp only [Nat.add_zero,List.length_singleton]
   rw [ih _ (by simp; omega)]
def mU:List D→Option AV
 | [.str s,.str [c]]=>if s.length ≤ 4000000 then some (.d (.sl ((iY c s).map .str) false)) else none
 | _=>none
def Es (g:Nat) (w:World) (fr:Nat→Nat→Prop):Prop:=(∃ m,w.cell? ⟨g,0,none⟩=some (.int .i64 m))∧¬ fr g 0
theorem Fu (g:Nat):o9 (Es g):=fun w w' fr fr' h hp _=>by
 obtain ⟨⟨m,h1⟩,h2⟩:=h
 obtain ⟨a,b⟩:=hp g 0 _ h2 h1
 exact ⟨⟨m,a⟩,b⟩
theorem D5 {w:World} {fr:Nat→Nat→Prop} {xs:List (List UInt8)} {b el:Nat} {arr:Array Value} {fz:Nat × Nat} (hb:w.heap[b]? = some (.cells arr el fz)) (hfr:∀ o,¬ fr b o)
  (ha:arr.toList=xs.map fun l=>Value.string ⟨l.toArray⟩) (hne:xs ≠ []):bA w fr (.sl (xs.map .str) false) (.slice (some ⟨b,0,none⟩) xs.length xs.length):=by
 refine bA.of_cell ?_ rfl
 have:=gL.sl (w:=w) (fr:=fr) (xs.map .str) false b 0 xs.length 1 (fun i=>[(arr.toList[i]?).getD .nilIface]) (by simpa using hne) (by simp) (fun q=>by cases q) (fun i x hx=>by
  simp only [List.getElem?_map,Option.map_eq_some_iff] at hx
  obtain ⟨a,_,rfl⟩:=hx; rfl) (fun i _=>rfl) (fun i x hx=>by
  simp only [List.getElem?_map,Option.map_eq_some_iff] at hx
  obtain ⟨a,h1,rfl⟩:=hx
  rw [ha,List.getElem?_map,h1]
  exact (uA w fr a).val rfl) (fun i j v hi hv=>by
  cases j with
  | zero =>
   simp only [List.getElem?_cons_zero,Option.some.injEq] at hv
   refine ⟨?_,hfr _⟩
   rw [cell_of hb,Nat.mul_one,Nat.zero_add,Nat.add_zero,← hv]
   have hi':i < arr.toList.length:=by rw [ha]; simpa using hi
   rw [List.getElem?_eq_getElem hi',Option.getD_some,← Array.getElem?_toList,List.getElem?_eq_getElem hi']
  | succ j=>simp at hv)
 simpa using this
theorem Ck (c:UInt8) (s:List UInt8):iY c s ≠ []:=by
 cases s with
 | nil=>simp [iY]
 | cons b l =>
  unfold iY
  split
  ·
   simp
  ·
   split <;> simp
theorem Ez {R:bL} (hR:ObjOk R) {P:Program} {ρ:Ren} (L:Lays.n146 P ρ) (hi9:(P.info? (ρ.t 9)).map (fun i=>(i.zero,i.size,i.bytes))=some (some (.string ByteArray.empty),1,16))
  (hG:∀ w fr,R.G w fr→∃ m,w.cell? ⟨(ρ.g 1),0,none⟩=some (.int .i64 m)):jD R P (ρ.f 146) (jy mU):=by
 refine mh hR (fun ds v h=>?_) ⟨_,L.f146,rfl,by show ¬ ("strings.Split" = "runtime.NumGoroutine"); decide⟩ (fun ds v h w fr us hGw hfr hl hr=>?_)
 ·
  unfold mU at h
  split at h
  ·
   split at h
   ·
    simp only [Option.some.injEq] at h; subst h; rfl
   ·
    cases h
  ·
   cases h
 ·
  unfold mU at h
  split at h
  ·
   rename_i s c
   split at h
   ·
    rename_i hc
    simp only [Option.some.injEq] at h; subst h
    match us,hl with
    | [u0,u1],_ =>
    obtain rfl:=l7 (hr 0 _ _ rfl rfl)
    obtain rfl:=l7 (hr 1 _ _ rfl rfl)
    obtain ⟨m,hm⟩:=hG w fr hGw
    refine (Any.strings_Split L hi9 ⟨s.toArray⟩ ⟨#[c]⟩ m w (by simp [ByteArray.size]; omega) hm (by simp [ByteArray.size])).mono (fun e w' hp=>?_)
    obtain ⟨rfl,rfl⟩:=hp
    have hq:(Lib.splitB ⟨#[c]⟩ 0 (Lib.countB ⟨s.toArray⟩ ⟨#[c]⟩) ⟨s.toArray⟩).map (·.data.toList)=iY c s:=by
     rw [Lib.splitB_data]
     have:=A8 c s.length s (Nat.le_refl _)
     simpa [Lib.countB] using this
    have hlen:Lib.countB ⟨s.toArray⟩ ⟨#[c]⟩ + 1=(iY c s).length:=by
     rw [← hq,List.length_map,Lib.splitB_all _ (by simp [ByteArray.size]) 0 _ _ rfl]
    refine ⟨(Below.refl _ _).alloc (Nat.le_refl _) _,_,rfl,fun cx S hcx=>.d _ _ ?_⟩
    rw [hlen]
    refine D5 (arr:=((Lib.splitB ⟨#[c]⟩ 0 (Lib.countB ⟨s.toArray⟩ ⟨#[c]⟩) ⟨s.toArray⟩).map Value.string).toArray) (heap_alloc_new w _) (fun o q=>?_) ?_ (Ck c s)
    ·
     rw [hcx] at q; have:=hfr _ _ q; omega
    ·
     rw [← hq]
     simp
   ·
    cases h
  ·
   cases h
def strsOf:List D→Option (List (List UInt8))
 | []=>some []
 | .str s :: l=>(strsOf l).map (s :: ·)
 | _ :: _=>none
theorem tK:∀ {l:List D} {xs:List (List UInt8)},strsOf l=some xs→l=xs.map .str
 | [],xs,h=>by simp [strsOf] at h; subst h; rfl
 | x :: l,xs,h=>by
  cases x <;> try (cases h; done)
  simp only [strsOf,Option.map_eq_some_iff] at h
  obtain ⟨ys,h1,rfl⟩:=h
  rw [tK h1]; rfl
def o7:List D→Option AV
 | [.bJ,.str _]=>some (.d (.str []))
 | [.sl l _,.str sep]=>match strsOf l with
  | some xs=>if (Lib.join xs sep).length ≤ bound∧xs.length ≤ bound then some (.d (.str (Lib.join xs sep))) else none
  | none=>none
 | _=>none
theorem EM {R:bL} (hR:ObjOk R) {P:Program} {ρ:Ren} (L:Lays.n156 P ρ) (X:Builder.Extra P ρ):jD R P (ρ.f 156) (jy o7):=by
 refine mh hR (fun ds v h=>?_) ⟨_,L.f156,rfl,by show ¬ ("strings.Join" = "runtime.NumGoroutine"); decide⟩ (fun ds v h w fr us hG hfr hl hr=>?_)
 ·
  unfold o7 at h
  split at h
  ·
   simp only [Option.some.injEq] at h; subst h; rfl
  ·
   split at h
   ·
    split at h
    ·
     simp only [Option.some.injEq] at h; subst h; rfl
    ·
     cases h
   ·
    cases h
  ·
   cases h
 ·
  unfold o7 at h
  split at h
  ·
   simp only [Option.some.injEq] at h; subst h
   match us,hl with
   | [u0,u1],_ =>
   have a0:=(hr 0 _ _ rfl rfl).val rfl
   cases a0
   obtain rfl:=l7 (hr 1 _ _ rfl rfl)
   refine (Any.strings_Join_none L X none 0 _ w).mono (fun e w' hp=>?_)
   obtain ⟨rfl,rfl⟩:=hp
   exact ⟨Below.refl _ _,_,rfl,fun cx S _=>.d _ _ (uA w' cx.fr [])⟩
  ·
   rename_i l t sep
   split at h
   ·
    rename_i xs hxs
    split at h
    ·
     rename_i hc
     simp only [Option.some.injEq] at h; subst h
     have:=tK hxs
     subst this
     match us,hl with
     | [u0,u1],_ =>
     obtain rfl:=l7 (hr 1 _ _ rfl rfl)
     have a0:=(hr 0 _ _ rfl rfl).val rfl
     have key:∀ (q:List UInt8) (e:Ending) (w':World),e=.returned (.string ⟨q.toArray⟩)→Below w.heap.size w w'→Leaves w fr (.d (.str q)) e w':=fun q e w' h1 h2 =>
      ⟨h2,_,h1,fun cx S _=>.d _ _ (uA w' cx.fr q)⟩
     generalize hys:xs.map D.str=ys at a0
     cases a0 with
     | sl0 a cap tt ht =>
      have:xs=[]:=by simpa using hys
      subst this
      refine (Any.strings_Join_none L X a cap _ w).mono (fun e w' hp=>?_)
      obtain ⟨rfl,rfl⟩:=hp
      exact key [] _ _ rfl (Below.refl _ _)
     | sl ys tt b off cap sz vs hne hcap htt hsz hlen hx hcell =>
      subst hys
      have hne':xs ≠ []:=by simpa using hne
      have hpos:0 < xs.length:=List.length_pos_iff.2 hne'
      have h0:(xs.map D.str)[0]? = some (.str (xs[0])):=by simp [hpos]
      have hsz1:sz=1:=(hsz 0 _ h0).symm
      subst hsz1
      have hcells:∀ (j:Nat) (x:ByteArray),(xs.map fun l=>(⟨l.toArray⟩:ByteArray))[j]? = some x→w.cell? ⟨b,off + j,none⟩=some (.string x):=fun j x hj=>by
       simp only [List.getElem?_map,Option.map_eq_some_iff] at hj
       obtain ⟨s,hs,rfl⟩:=hj
       have hjl:j < (xs.map D.str).length:=by simpa using (List.getElem?_eq_some_iff.1 hs).1
       have hr1:=hx j (.str s) (by simp [hs])
       have hl1:=hlen j hjl
       obtain ⟨v,hv⟩:∃ v,vs j=[v]:=by
        match hh:vs j,hl1 with
        | [v],_=>exact ⟨v,rfl⟩
       rw [hv] at hr1
       obtain rfl:=l7 (bA.of_cell hr1 rfl)
       have:=(hcell j 0 (.string ⟨s.toArray⟩) hjl (by rw [hv]; rfl)).1
       simpa using this
      have hbk:b < w.heap.size:=mq (hcells 0 ⟨(xs[0]).toArray⟩ (by simp [hpos]))
      have hjn:(xs.map fun l=>(⟨l.toArray⟩:ByteArray)).map (·.data.toList)=xs:=by rw [List.map_map]; exact List.map_id'' (fun _=>rfl) xs
      have hb2:bound ≤ 140737488355328:=by decide
      refine (Any.strings_Join L X b off cap (xs.map fun l=>(⟨l.toArray⟩:ByteArray)) ⟨sep.toArray⟩ w hcells hbk (by rw [List.length_map]; omega) (by simpa using hcap) (by rw [hjn]; simp only []; omega)).mono (fun e w' hp=>?_) |> fun z=>by simpa using z
      obtain ⟨rfl,hb3⟩:=hp
      rw [hjn]
      exact key _ _ _ rfl hb3
    ·
     cases h
   ·
    cases h
  ·
   cases h
end
end Go.Ev

namespace Go.Ev
noncomputable section
set_option linter.unusedVariables false
def F7 (P:Program) (f:Nat):Bool:=match P.funcs[f]? with
 | some fn=>(match fn.body with | some c=>codeOk c | none=>true) && !(fn.name == "runtime.NumGoroutine")
 | none=>true
def CU:List Nat→Nat→Bool
 | [],_=>false
 | x :: l,n=>bif Nat.beq x n then true else CU l n
theorem zU:∀ {l:List Nat} {n:Nat},CU l n=true→n ∈ l
 | [],n,h=>by cases h
 | x :: l,n,h=>by
  unfold CU at h
  cases hb:Nat.beq x n
  ·
   rw [hb] at h; exact List.mem_cons_of_mem _ (zU h)
  ·
   have:=Nat.eq_of_beq_eq_true hb; subst this; exact List.mem_cons_self
def yJ (P:Program) (good rows:List Nat) (ps:AL Prim) (hasB:Bool) (bt:Nat):gK :=
 { P:=P,good:=CU good,rowT:=CU rows,prim:=fun f args S=>match AL.get ps f with | some p=>p args S | none=>none,objT:=fun t=>bif hasB && Nat.beq t bt then some (1,.str []) else none,hasPrim:=AL.has ps }
theorem Fy {G:World→(Nat→Nat→Prop)→Prop} (hG:o9 G) {P:Program} {good rows:List Nat} {ps:AL Prim} {hasB:Bool} {bt e:Nat} (hg:good.all (F7 P)=true) (hm:P.follows .mixedOrders=true)
  (hz:hasB=true→∀ w,(zeroValue bt).run P w=.ok (.agg #[.pointer none,.slice none 0 0]) w) (hp:yf (uV bt e G) P ps):FY (uV bt e G) (yJ P good rows ps hasB bt) where
 obj:={ xW hG with
  new:=fun t k x h=>by
   simp only [yJ] at h
   cases hb:hasB && Nat.beq t bt with
   | false=>rw [hb] at h; cases h
   | true =>
    rw [hb] at h
    simp only [cond_true,Option.some.injEq,Prod.mk.injEq] at h
    obtain ⟨rfl,rfl⟩:=h
    simp only [Bool.and_eq_true] at hb
    have ht:=Nat.eq_of_beq_eq_true hb.2
    subst ht
    exact ⟨_,hz hb.1,fun w=>.inl ⟨rfl,[],.pointer none,.slice none 0 0,rfl,⟨.inl rfl,heap_alloc_new w _,World.ownsRow_nil _ 0 e 1,by simp [Value.ownBlock]⟩,fun c=>by simp [Value.ownBlock]⟩,rfl⟩ }
 mixed:=hm
 code:=fun f fn c h hf hc=>by
  have:=List.all_eq_true.1 hg f (zU h)
  unfold F7 at this
  have hf':P.funcs[f]? = some fn:=hf
  simp only [hf',hc,Bool.and_eq_true,Bool.not_eq_true'] at this
  exact ⟨this.1,fun q=>by rw [q] at this; simp at this⟩
 primPure:=fun f args S v S' _ h h1 h2 S2=>by
  simp only [yJ] at h ⊢
  split at h
  ·
   rename_i p hq; exact (oJ hp hq).pure args S v S' h h1 h2 S2
  ·
   cases h
 prim:=fun f args S v S' _ h=>by
  simp only [yJ] at h
  split at h
  ·
   rename_i p hq; exact (oJ hp hq).calls args S v S' h
  ·
   cases h
end
end Go.Ev

namespace Go.Ev
noncomputable section
set_option linter.unusedVariables false
set_option linter.unusedSimpArgs false
def zL:Nat→Nat→Prop:=fun _ _=>False
structure jH (w:World) (ds:List D) (cs:List Value):Prop where
 len:cs.length=ds.length
 one:∀ v ∈ cs,v.oneCell'=true
 flat:∀ d ∈ ds,d.isAgg=false
 rel:∀ (i:Nat) (d:D) (v:Value),ds[i]? = some d→cs[i]? = some v→gL w zL d [v]
theorem jH.nil {w:World}:jH w [] []:=⟨rfl,by simp,by simp,by simp⟩
theorem jH.append {w:World} {a b:List D} {x y:List Value} (h:jH w a x) (k:jH w b y):jH w (a ++ b) (x ++ y) where
 len:=by simp [h.len,k.len]
 one:=fun v hv=>by rcases List.mem_append.1 hv with q | q; exact h.one v q; exact k.one v q
 flat:=fun v hv=>by rcases List.mem_append.1 hv with q | q; exact h.flat v q; exact k.flat v q
 rel:=fun i d v hd hv=>by
  by_cases hi:i < a.length
  ·
   rw [List.getElem?_append_left hi] at hd
   rw [List.getElem?_append_left (by rw [h.len]; exact hi)] at hv
   exact h.rel i d v hd hv
  ·
   rw [List.getElem?_append_right (by omega)] at hd
   rw [List.getElem?_append_right (by rw [h.len]; omega),h.len] at hv
   exact k.rel _ d v hd hv
theorem jH.single {w:World} {d:D} {v:Value} (h:gL w zL d [v]) (ho:v.oneCell'=true) (hd:d.isAgg=false):jH w [d] [v] where
 len:=rfl
 one:=by simpa using ho
 flat:=by simpa using hd
 rel:=fun i d' v' h1 h2=>by
  cases i with
  | zero=>simp at h1 h2; subst h1; subst h2; exact h
  | succ i=>simp at h1
theorem jH.Ef {w:World} {x:D} {cs:List Value} (h:jH w x.cells cs):gL w zL x cs:=by
 cases hx:x.isAgg with
 | true =>
  cases x <;> simp [D.isAgg] at hx
  rename_i xs
  exact .agg xs cs h.len h.one h.flat h.rel
 | false =>
  have hc:x.cells=[x]:=by cases x <;> simp_all [D.isAgg,D.cells]
  rw [hc] at h
  have hl:=h.len
  match cs,hl with
  | [v],_=>exact h.rel 0 x v rfl rfl
def kW (P:Program) (t:Nat) {α:Type} (enc:α→D) (wf:α→Prop):Prop :=
 ∀ {H:Type} (en:TypeId × Value→H) (w:World) (base:Nat) (sp:Nat→Bool) (held:Bool) (fuel:Nat) (cs:List Value) (d:DataW H) (p:List MemPlace),
  DataW.trod en P w base sp held fuel t cs=some (d,p)→∃ x,wf x∧jH w (enc x).cells cs
theorem kW.int {P:Program} {t:Nat} {k:IntKind} (hu:P.underlying t=some (.int k)):kW P t (D.int k) (fun n=>(Lit.int k n).wf=true):=by
 intro H en w base sp held fuel cs d p h
 cases fuel with
 | zero=>cases h
 | succ fuel =>
  simp only [DataW.trod,hu] at h
  split at h <;> first | (simp_all; done) | skip
  rename_i k' k2 n heq
  simp only [Option.some.injEq,TypeDesc.int.injEq] at heq
  subst heq
  split at h
  ·
   rename_i hc
   obtain ⟨rfl,hw⟩:=hc
   exact ⟨n,hw,.single (.int _ _) rfl rfl⟩
  ·
   cases h
theorem kW.bool {P:Program} {t:Nat} (hu:P.underlying t=some .bool):kW P t D.bool (fun _=>True):=by
 intro H en w base sp held fuel cs d p h
 cases fuel with
 | zero=>cases h
 | succ fuel =>
  simp only [DataW.trod,hu] at h
  split at h <;> first | (simp_all; done) | skip
  rename_i b heq
  exact ⟨b,trivial,.single (.bool _) rfl rfl⟩
theorem kW.str {P:Program} {t:Nat} (hu:P.underlying t=some .string):kW P t D.str (fun s=>s.length ≤ maxLen):=by
 intro H en w base sp held fuel cs d p h
 cases fuel with
 | zero=>cases h
 | succ fuel =>
  simp only [DataW.trod,hu] at h
  split at h <;> first | (simp_all; done) | skip
  rename_i s heq
  split at h
  ·
   rename_i hc
   exact ⟨s.data.toList,by simpa using hc,.single (.str _) rfl rfl⟩
  ·
   cases h
theorem lF {w:World} {base:Nat} {a:Addr} {n:Nat} {cs:List Value} (h:w.cells? base a n=some cs):cs.length=n∧∀ j v,cs[j]? = some v→w.cell? (a.add j)=some v:=by
 unfold World.cells? at h
 split at h
 ·
  have hl:=mapM_some_length h
  refine ⟨by simpa using hl,fun j v hj=>?_⟩
  have hlt:j < n:=by have:=(List.getElem?_eq_some_iff.1 hj).1; rw [hl] at this; simpa using this
  have:=mapM_some_get h j j (by simp [hlt])
  rw [this,hj]
 ·
  cases h
theorem kW.slice {P:Program} {t e:Nat} {α:Type} {enc:α→D} {wf:α→Prop} (hu:P.underlying t=some (.slice e)) (he:kW P e enc wf) (hsz:∀ x,(enc x).cells.length=P.cellsOf e) (h0:0 < P.cellsOf e) :
  kW P t (FR enc) (fun l=>l.length ≤ maxLen∧∀ x ∈ l,wf x):=by
 intro H en w base sp held fuel cs d p h
 cases fuel with
 | zero=>cases h
 | succ fuel =>
  simp only [DataW.trod,hu] at h
  split at h <;> first | (simp_all; done) | skip
  ·
   exact ⟨[],⟨by simp,by simp⟩,.single (.sl0 none 0 false (fun h=>by cases h)) rfl rfl⟩
  ·
   rename_i e' a len cap heq
   simp only [Option.some.injEq,TypeDesc.slice.injEq] at heq
   subst heq
   split at h
   ·
    rename_i hc
    simp only [Option.bind_eq_some_iff] at h
    obtain ⟨els,hels,h⟩:=h
    have hl:=mapM_some_length hels
    have each:∀ i,i < len→∃ x ci,wf x∧w.cells? base (a.add (i * P.cellsOf e)) (P.cellsOf e)=some ci∧jH w (enc x).cells ci:=fun i hi=>by
     have hg:=mapM_some_get hels i i (by simp [hi])
     have hlt:i < els.length:=by rw [hl]; simpa using hi
     rw [List.getElem?_eq_getElem hlt,Option.bind_eq_some_iff] at hg
     obtain ⟨ci,h1,h2⟩:=hg
     obtain ⟨x,hx,hr⟩:=he en w base sp held fuel ci _ _ h2
     exact ⟨x,ci,hx,h1,hr⟩
    by_cases hz:len=0
    ·
     subst hz
     exact ⟨[],⟨by simp,by simp⟩,.single (.sl0 (some a) cap false (fun h=>by cases h)) rfl rfl⟩
    ·
     have hpos:0 < len:=by omega
     have hspot:a.spot=none:=by
      obtain ⟨x,ci,_,h1,_⟩:=each 0 hpos
      obtain ⟨l1,l2⟩:=lF h1
      have hne:0 < ci.length:=by omega
      have:=l2 0 ci[0] (List.getElem?_eq_getElem hne)
      unfold World.cell? at this
      split at this
      ·
       split at this
       ·
        cases this
       ·
        rename_i hs; cases hsp:a.spot with
        | none=>rfl
        | some q=>simp [Addr.add,hsp] at hs
      ·
       cases this
     have:Inhabited α:=⟨(each 0 hpos).choose⟩
     let f:Nat→α:=fun i=>if hi:i < len then (each i hi).choose else default
     let g:Nat→List Value:=fun i=>if hi:i < len then (each i hi).choose_spec.choose else []
     have hfg:∀ i,i < len→wf (f i)∧w.cells? base (a.add (i * P.cellsOf e)) (P.cellsOf e)=some (g i)∧jH w (enc (f i)).cells (g i):=fun i hi=>by
      have:=(each i hi).choose_spec.choose_spec
      simp only [f,g,hi,dif_pos]
      exact this
     let l:=(List.range len).map f
     have hll:l.length=len:=by simp [l]
     have hli:∀ i x,l[i]? = some x→i < len∧x=f i:=fun i x hx=>by
      simp only [l,List.getElem?_map,Option.map_eq_some_iff] at hx
      obtain ⟨j,hj,rfl⟩:=hx
      have:=List.getElem?_eq_some_iff.1 hj
      obtain ⟨h1,h2⟩:=this
      simp at h1 h2
      subst h2
      exact ⟨h1,rfl⟩
     refine ⟨l,⟨by rw [hll]; omega,fun x hx=>?_⟩,?_⟩
     ·
      obtain ⟨i,hi,rfl⟩:=List.getElem_of_mem hx
      obtain ⟨h1,h2⟩:=hli i _ (List.getElem?_eq_getElem hi)
      rw [h2]; exact (hfg i h1).1
     ·
      have ha:a=⟨a.block,a.off,none⟩:=by rw [← hspot]
      refine .single ?_ rfl rfl
      rw [ha]
      have hlm:(l.map enc).length=len:=by simp [hll]
      have key:gL w zL (.sl (l.map enc) false) [.slice (some ⟨a.block,a.off,none⟩) (l.map enc).length cap]:=by
       refine .sl (l.map enc) false a.block a.off cap (P.cellsOf e) g ?_ (by rw [hlm]; exact hc.2.1) (fun h=>by cases h) (fun i x hi=>?_) (fun i hi=>?_) (fun i x hi=>?_) (fun i j v hi hv=>?_)
       ·
        intro q; rw [q] at hlm; simp at hlm; omega
       ·
        rw [List.getElem?_map,Option.map_eq_some_iff] at hi
        obtain ⟨y,_,rfl⟩:=hi
        exact hsz y
       ·
        exact (lF (hfg i (by rw [hlm] at hi; exact hi)).2.1).1
       ·
        rw [List.getElem?_map,Option.map_eq_some_iff] at hi
        obtain ⟨y,hy,rfl⟩:=hi
        obtain ⟨h1,rfl⟩:=hli i y hy
        exact (hfg i h1).2.2.Ef
       ·
        rw [hlm] at hi
        have:=(lF (hfg i hi).2.1).2 j v hv
        refine ⟨?_,fun q=>q⟩
        rw [← this]
        congr 1
        have hz:∀ (b:Addr) (m:Nat),b.spot=none→b.add m=⟨b.block,b.off + m,none⟩:=fun b m hb=>by
         obtain ⟨b1,b2,b3⟩:=b
         cases hb
         cases m <;> simp [Addr.add]
        rw [hz a _ hspot,hz _ j rfl]
      rw [hlm] at key
      exact key
   ·
    cases h
def wU (P:Program) (fs:List Field) (off tot:Nat) {β:Type} (enc:β→List D) (wf:β→Prop):Prop :=
 ∀ {H:Type} (en:TypeId × Value→H) (w:World) (base:Nat) (sp:Nat→Bool) (held:Bool) (fuel:Nat) (cs:List Value) (xs:List (DataW H × List MemPlace)),
  (fs.mapM fun f=>DataW.trod en P w base sp held fuel f.type ((cs.drop f.offset).take (P.cellsOf f.type)))=some xs→∃ y,wf y∧jH w (enc y) ((cs.drop off).take tot)
theorem wU.nil {P:Program} {off:Nat}:wU P [] off 0 (fun _:Unit=>[]) (fun _=>True) :=
 fun en w base sp held fuel cs xs h=>⟨(),trivial,by simpa using jH.nil⟩
theorem wU.cons {P:Program} {f:Field} {fs:List Field} {off sz tot:Nat} {α β:Type} {enc:α→D} {wf:α→Prop} {enc2:β→List D} {wf2:β→Prop}
  (ho:f.offset=off) (hz:P.cellsOf f.type=sz) (h:kW P f.type enc wf) (k:wU P fs (off + sz) tot enc2 wf2) :
  wU P (f :: fs) off (sz + tot) (fun p:α × β=>(enc p.1).cells ++ enc2 p.2) (fun p=>wf p.1∧wf2 p.2):=by
 intro H en w base sp held fuel cs xs hx
 simp only [List.mapM_cons,Option.pure_def,Option.bind_eq_bind,Option.bind_eq_some_iff] at hx
 obtain ⟨x,hx,ys,hys,_⟩:=hx
 rw [ho,hz] at hx
 obtain ⟨a,a1,a2⟩:=h en w base sp held fuel _ x.1 x.2 hx
 obtain ⟨b,b1,b2⟩:=k en w base sp held fuel cs ys hys
 refine ⟨(a,b),⟨a1,b1⟩,?_⟩
 rw [List.take_add,List.drop_drop]
 exact a2.append b2
theorem kW.struct {P:Program} {t tot:Nat} {fs:Array Field} {α β:Type} {enc:α→D} {wf:α→Prop} {enc2:β→List D} {wf2:β→Prop} (hu:P.underlying t=some (.struct fs)) (hz:P.cellsOf t=tot)
  (h:wU P fs.toList 0 tot enc2 wf2) (g:β→α) (hg:∀ y,(enc (g y)).cells=enc2 y) (hw:∀ y,wf2 y→wf (g y)):kW P t enc wf:=by
 intro H en w base sp held fuel cs d p hd
 cases fuel with
 | zero=>cases hd
 | succ fuel =>
  simp only [DataW.trod,hu] at hd
  split at hd
  ·
   rename_i hc
   simp only [Option.map_eq_some_iff] at hd
   obtain ⟨xs,hxs,_⟩:=hd
   obtain ⟨y,y1,y2⟩:=h en w base sp held fuel cs xs hxs
   refine ⟨g y,hw y y1,?_⟩
   rw [hg y]
   rw [hz] at hc
   simpa [← hc] using y2
  ·
   cases hd
theorem ET {P:Program} {t:Nat} {fs:Array Field} {α:Type} {enc:α→D} {wf:α→Prop} (hu:P.underlying t=some (.struct fs)) (O:kW P t enc wf) (ha:∀ x,(enc x).isAgg=true)
  {H:Type} {en:TypeId × Value→H} {w:World} {base b0:Nat} {sp:Nat→Bool} {held:Bool} {v:Value} {d:DataW H} {p:List MemPlace} {r:Reach} (hval:Value.okWide P w r b0 t v) (hd:DataW.Trod en P w base sp held t v d p) :
  ∃ x,wf x∧bA w zL (enc x) v:=by
 unfold Value.okWide at hval
 rw [hu] at hval
 obtain ⟨cs,rfl,_,_⟩:=hval
 obtain ⟨fuel,hf⟩:=hd
 obtain ⟨x,x1,x2⟩:=O en w base sp held fuel _ d p hf
 exact ⟨x,x1,x2.Ef,ha x⟩
theorem Ga {P:Program} {t:Nat} {α:Type} {enc:α→D} {wf:α→Prop} (O:kW P t enc wf) (ha:∀ x,(enc x).isAgg=false)
  {H:Type} {en:TypeId × Value→H} {w:World} {base b0:Nat} {sp:Nat→Bool} {held:Bool} {v:Value} {d:DataW H} {p:List MemPlace} (hval:sj v=false) (hd:DataW.Trod en P w base sp held t v d p) :
  ∃ x,wf x∧bA w zL (enc x) v:=by
 obtain ⟨fuel,hf⟩:=hd
 obtain ⟨x,x1,x2⟩:=O en w base sp held fuel _ d p hf
 exact ⟨x,x1,x2.Ef,by rw [hval]; exact ha x⟩
end
end Go.Ev

namespace Go.Ev
noncomputable section
set_option linter.unusedVariables false
set_option linter.unusedSimpArgs false
variable {R:bL} {C:gK} {P:Program}
theorem gm.uG {f:Nat} {p:Prim} (h:jD R P f p) {args:List AV} {S S':St} {v:AV} (hp:p args S=some (v,S')):gm R P f args S (fun r=>r=(none,v,S')):=by
 obtain ⟨h1,h2⟩:=h.calls args S v S' hp
 refine ⟨h1,fun cx w us q1 q2 q3=>(h2 cx w us q1 q2 q3).mono (fun e w' ⟨cx',k1,k2,u,k3,k4⟩=>⟨_,rfl,cx',k1,k2,u,k3,k4⟩)⟩
theorem aY.Gc {f:Nat} {spec:List D→Option AV} (h:jD R P f (jy spec)) {ds:List D} {v:AV} (hv:spec ds=some v):aY R P f ds v:=fun args S ha=>by
 have hp:jy spec (ds.map .d) S=some (v,S):=by
  unfold jy
  rw [Aw]
  simp [hv]
 exact (gm.uG h hp).DV ha.EG
theorem zf.FW {fb fs ft:Nat} (h1:jD R P fb wh) (h2:jD R P fs wy) (h3:jD R P ft vU):zf R P fb fs ft where
 wb:=fun S id s c r hS hr=>gm.uG h1 (by
  unfold rY at hr
  split at hr
  ·
   rename_i hc; cases hr
   unfold wh
   simp only [hS]
   rw [if_pos hc]
  ·
   cases hr)
 ws:=fun S id s u r hS hr=>gm.uG h2 (by
  unfold FE at hr
  split at hr
  ·
   rename_i hc; cases hr
   unfold wy
   simp only [hS]
   rw [if_pos hc]
  ·
   cases hr)
 st:=fun S id s hS=>gm.uG h3 (by
  unfold vU
  simp only [hS])
theorem Ej (hR:ObjOk R) {f:Nat} {ds:List D} {x:D} (h:aY R P f ds (.d x)) (w:World) (hG:R.G w (fun _ _=>False)) (us:List Value) (hl:us.length=ds.length)
  (hr:∀ (i:Nat) (y:D) (u:Value),ds[i]? = some y→us[i]? = some u→bA w (fun _ _=>False) y u) :
  Calls P f us.toArray w (fun e w'=>∃ u,e=.returned u∧bA w' (fun _ _=>False) x u∧RowKit.Below w.heap.size w w'):=by
 let cx:Cx:={ bm:=fun _=>0,fp:=fun _ _=>False,tsz:=fun _=>0,tot:=fun _=>0,fr:=fun _ _=>False }
 have hS:aS R cx ay w:=⟨fun id hl=>absurd rfl hl,fun id b hb=>by simp [ay,AL.get] at hb,fun id g cs hb=>by simp [ay,AL.get] at hb,fun id es hb=>by simp [ay,AL.get] at hb,
  fun id k x hb=>by simp [ay,AL.get] at hb,fun id en hb=>by simp [ay,AL.get] at hb,fun id id' b hl=>absurd rfl hl,fun b o q=>q.elim,hG⟩
 have h2:=(h (ds.map .d) ay ⟨ds,Aw ds,.refl ds⟩).2
 refine (h2 cx w us hS (by simp [hl]) (fun i y u hy hu=>?_)).mono (fun e w' he=>?_)
 ·
  simp only [List.getElem?_map,Option.map_eq_some_iff] at hy
  obtain ⟨z,hz,rfl⟩:=hy
  exact .d z u (hr i z u hz hu)
 ·
  obtain ⟨r,rfl,cx',k1,k2,k3⟩:=he
  obtain ⟨u,rfl,k3⟩:=k3
  obtain ⟨m1,m2,m3⟩:=xD hR hS k2
  exact ⟨u,rfl,m3 _ _ k3.dd,⟨m2.os,m2.tape,m2.output,m2.size,fun b hb=>(k2.other b hb (fun id hl=>absurd rfl hl)).1⟩⟩
theorem xC (c:UInt8):∀ (s:List UInt8),iY c s=bN c s
 | []=>rfl
 | b :: l=>by rw [iY,bN,xC c l]; rfl
theorem EW {n:Nat} {s sep:List UInt8} {r:List (List UInt8)} (h:strings_Split n s sep=some r):mU [.str s,.str sep]=some (.d (.sl (r.map .str) false)):=by
 unfold strings_Split at h
 split at h
 ·
  split at h
  ·
   rename_i hl; cases h
   unfold mU
   simp only [hl,if_true,xC]
  ·
   cases h
 ·
  cases h
theorem ve:∀ (l:List (List UInt8)),strsOf (l.map .str)=some l
 | []=>rfl
 | x :: l=>by rw [List.map_cons,strsOf,ve l]; rfl
theorem Fx {n:Nat} {l:List (List UInt8)} {sep r:List UInt8} (h:strings_Join n l sep=some r):o7 [.sl (l.map .str) false,.str sep]=some (.d (.str r)):=by
 unfold strings_Join at h
 split at h
 ·
  rename_i hl; cases h
  simp only [o7,ve,hl,and_self,if_true]
 ·
  cases h
end
end Go.Ev

namespace Go.Ev
noncomputable section
set_option linter.unusedVariables false
set_option linter.unusedSimpArgs false
variable {R:bL} {P:Program} {B:St}
def without (S:St) (ids:List Nat):St:=ids.foldl (fun S id=>{ S with H:=S.H.del id,T:=S.T.del id }) S
section
variable {C:gK} {nt:Nat}
section steps
variable {ops:Array Oper} {rest:List Oper} {e:Env} {S S':St} {Q:Stp→Prop} {l l':List eH} {t ty:Nat} {p:String} {af:Array Edge} {g:Option (Nat × Bool)} {x y:Operand} {v:AV}
end steps
end
end
end Go.Ev

namespace Go.Ev
noncomputable section
set_option linter.unusedVariables false
set_option linter.unusedSimpArgs false
variable {R:bL} {C:gK} {nt:Nat} {B:St}
end
end Go.Ev

namespace Go.Ev
namespace Pr
set_option linter.unusedVariables false
set_option linter.unusedSimpArgs false
structure Seg where
 Kind:Int
 Text:Str
 deriving DecidableEq
def aJ (x:Seg):D:=.agg [(.int .i64 x.Kind),(.str x.Text)]
theorem Seg.eq (x:Seg):aJ x=.agg [(.int .i64 x.Kind),(.str x.Text)]:=rfl
theorem Seg.cells (x:Seg):(aJ x).cells=[(.int .i64 x.Kind),(.str x.Text)]:=by rw [Seg.eq]; rfl
theorem Seg.eO (x:Seg):(AV.d (aJ x)).cells=[.d (.int .i64 x.Kind),.d (.str x.Text)]:=by rw [Seg.eq]; rfl
theorem Seg.agg (x:Seg):(aJ x).isAgg=true:=by rw [Seg.eq]; rfl
theorem Seg.len (x:Seg):(aJ x).cells.length=2:=by rw [Seg.cells]; rfl
theorem Seg.lX {P:Program} {t:Nat} {x:Seg} (ha:gW P t=some true) (hz:aH P t=2):ik P t (aJ x).cells 0=some (aJ x):=by
 rw [Seg.cells,xM ha hz rfl,Seg.eq]; rfl
structure dF where
 Kinds:(List Int)
 Texts:(List Int)
 Last:Int
def iI (x:dF):D:=.agg [(.sl ((x.Kinds).map (D.int .i64)) false),(.sl ((x.Texts).map (D.int .i64)) false),(.int .i64 x.Last)]
theorem dF.eq (x:dF):iI x=.agg [(.sl ((x.Kinds).map (D.int .i64)) false),(.sl ((x.Texts).map (D.int .i64)) false),(.int .i64 x.Last)]:=rfl
theorem dF.cells (x:dF):(iI x).cells=[(.sl ((x.Kinds).map (D.int .i64)) false),(.sl ((x.Texts).map (D.int .i64)) false),(.int .i64 x.Last)]:=by rw [dF.eq]; rfl
theorem dF.eO (x:dF):(AV.d (iI x)).cells=[.d (.sl ((x.Kinds).map (D.int .i64)) false),.d (.sl ((x.Texts).map (D.int .i64)) false),.d (.int .i64 x.Last)]:=by rw [dF.eq]; rfl
theorem dF.agg (x:dF):(iI x).isAgg=true:=by rw [dF.eq]; rfl
structure aD where
 Name:Str
 Value:Str
 deriving DecidableEq
def az (x:aD):D:=.agg [(.str x.Name),(.str x.Value)]
theorem aD.eq (x:aD):az x=.agg [(.str x.Name),(.str x.Value)]:=rfl
theorem aD.cells (x:aD):(az x).cells=[(.str x.Name),(.str x.Value)]:=by rw [aD.eq]; rfl
theorem aD.eO (x:aD):(AV.d (az x)).cells=[.d (.str x.Name),.d (.str x.Value)]:=by rw [aD.eq]; rfl
theorem aD.agg (x:aD):(az x).isAgg=true:=by rw [aD.eq]; rfl
theorem aD.len (x:aD):(az x).cells.length=2:=by rw [aD.cells]; rfl
theorem aD.lX {P:Program} {t:Nat} {x:aD} (ha:gW P t=some true) (hz:aH P t=2):ik P t (az x).cells 0=some (az x):=by
 rw [aD.cells,xM ha hz rfl,aD.eq]; rfl
def aD.beq (x y:aD):Bool:=((x.Name == y.Name) && ((x.Value == y.Value) && true))
structure kK where
 Path:(List Str)
 Query:(List aD)
def kQ (x:kK):D:=.agg [(.sl ((x.Path).map D.str) false),(.sl ((x.Query).map az) false)]
theorem kK.eq (x:kK):kQ x=.agg [(.sl ((x.Path).map D.str) false),(.sl ((x.Query).map az) false)]:=rfl
theorem kK.cells (x:kK):(kQ x).cells=[(.sl ((x.Path).map D.str) false),(.sl ((x.Query).map az) false)]:=by rw [kK.eq]; rfl
theorem kK.eO (x:kK):(AV.d (kQ x)).cells=[.d (.sl ((x.Path).map D.str) false),.d (.sl ((x.Query).map az) false)]:=by rw [kK.eq]; rfl
structure iO where
 Path:(List Int)
 Names:(List Int)
 Values:(List Int)
def lT (x:iO):D:=.agg [(.sl ((x.Path).map (D.int .i64)) false),(.sl ((x.Names).map (D.int .i64)) false),(.sl ((x.Values).map (D.int .i64)) false)]
theorem iO.eq (x:iO):lT x=.agg [(.sl ((x.Path).map (D.int .i64)) false),(.sl ((x.Names).map (D.int .i64)) false),(.sl ((x.Values).map (D.int .i64)) false)]:=rfl
theorem iO.cells (x:iO):(lT x).cells=[(.sl ((x.Path).map (D.int .i64)) false),(.sl ((x.Names).map (D.int .i64)) false),(.sl ((x.Values).map (D.int .i64)) false)]:=by rw [iO.eq]; rfl
theorem iO.eO (x:iO):(AV.d (lT x)).cells=[.d (.sl ((x.Path).map (D.int .i64)) false),.d (.sl ((x.Names).map (D.int .i64)) false),.d (.sl ((x.Values).map (D.int .i64)) false)]:=by rw [iO.eq]; rfl
theorem iO.agg (x:iO):(lT x).isAgg=true:=by rw [iO.eq]; rfl
def eB (a2:Int) (x7:Int):Option Int :=
 (some (IntKind.wrap .i64 (a2 + x7)))
def dm (n:Nat) (a1:Int) (a2:Int) (a3:Int):Option Int :=
 ((CK .i64 a1 (IntKind.wrap .i64 ((IntKind.wrap .i64 (a3 - a2)) + 1))).bind fun z4=>(if (decide (z4 < 0))=true then (eB a2 ((IntKind.wrap .i64 ((IntKind.wrap .i64 ((IntKind.wrap .i64 (z4 + a3)) - a2)) + 1)))) else (eB a2 (z4))))
def gy (n:Nat) (a1:(List Int)) (a2:Int):Option Int :=
 (if (((a1).length:Int) == 0)=true then (some 0) else ((CK .i64 a2 ((a1).length:Int)).bind fun z4=>((idx a1 z4).bind fun z5=>(some z5))))
def bV (x14:(List Seg)) (x16:Int) (again17:(List Seg)→Int→Option (List Seg)) (z21:Int) (z24:Str) (x37:Str):Option (List Seg) :=
 ((app 24 x14 [(Seg.mk ((Seg.mk z21 z24).Kind) x37)]).bind fun z39=>(again17 (z39) ((IntKind.wrap .i64 (x16 + 1)))))
def dh (x49:(List Seg)):Option (List Seg) :=
 (some x49)
def aN (n:Nat) (a1:dF):Nat→(List Seg)→Int→Option (List Seg)
 | 0,_,_=>none
 | k17 + 1,x14,x16 =>
  (if ((decide (x16 < ((a1.Kinds).length:Int))) && (decide (x16 < 4)))=true then ((idx a1.Kinds x16).bind fun z20=>((dm n z20 0 1).bind fun z21=>((gy n a1.Texts x16).bind fun z22=>((dm n z22 0 (IntKind.wrap .i64 (((([[97],[98],[105,116,101,109],[122],[49],[108,105,115,116]]:List Str)).length:Int) - 1))).bind fun z23=>((idx ([[97],[98],[105,116,101,109],[122],[49],[108,105,115,116]]:List Str) z23).bind fun z24=>(if (((Seg.mk z21 z24).Kind) == 1)=true then ((cat [112] (([(IntKind.wrap .u8 (IntKind.wrap .i64 (48 + x16)))]).map fun (n:Int)=>UInt8.ofNat n.toNat)).bind fun z44=>(bV x14 x16 (aN n a1 k17) z21 z24 (z44))) else (bV x14 x16 (aN n a1 k17) z21 z24 ((Seg.mk z21 z24).Text)))))))) else ((dm n a1.Last 0 5).bind fun z52=>(if ((z52 == 2) || (z52 == 3))=true then ((app 24 x14 [(Seg.mk z52 [108,97,115,116])]).bind fun z55=>(dh (z55))) else (dh (x14)))))
def eD (n:Nat) (a1:dF):Option (List Seg) :=
 (aN n a1 n ([]) (0))
def iT (n:Nat)  : Option (List Str) :=
 (some ([[97],[98],[105,116,101,109],[120,32,121],[37],[97,47,98],[46,46],[122],[49],[108,105,115,116],[255],[63,61,38]]:List Str))
def bR (n:Nat) (a1:iO) (z8:(List Str)) (x21:(List Str)):Nat→(List aD)→Int→Option kK
 | 0,_,_=>none
 | k53 + 1,x50,x52 =>
  (if ((decide (x52 < ((a1.Names).length:Int))) && (decide (x52 < 3)))=true then ((idx a1.Names x52).bind fun z56=>((dm n z56 0 (IntKind.wrap .i64 (((z8).length:Int) - 1))).bind fun z57=>((idx z8 z57).bind fun z58=>((gy n a1.Values x52).bind fun z59=>((dm n z59 0 (IntKind.wrap .i64 (((z8).length:Int) - 1))).bind fun z60=>((idx z8 z60).bind fun z61=>((app 32 x50 [(aD.mk z58 z61)]).bind fun z62=>((bR n a1 z8 x21 k53) (z62) ((IntKind.wrap .i64 (x52 + 1))))))))))) else (some (kK.mk x21 x50)))
def bS (n:Nat) (a1:iO) (z8:(List Str)):Nat→(List Str)→Int→Option kK
 | 0,_,_=>none
 | k24 + 1,x21,x23 =>
  (if ((decide (x23 < ((a1.Path).length:Int))) && (decide (x23 < 5)))=true then ((idx a1.Path x23).bind fun z27=>((dm n z27 0 (IntKind.wrap .i64 (((z8).length:Int) - 1))).bind fun z28=>((idx z8 z28).bind fun z29=>((app 16 x21 [z29]).bind fun z30=>((bS n a1 z8 k24) (z30) ((IntKind.wrap .i64 (x23 + 1)))))))) else (bR n a1 z8 x21 n ([]) (0)))
def fP (n:Nat) (a1:iO):Option kK :=
 ((iT n).bind fun z8=>(bS n a1 z8 n ([]) (0)))
def jv (n:Nat) (a1:Str):Option Bool :=
 ((if ((!(a1 == [])) && (decide (((a1).length:Int) ≤ 16)))=true then ((jP n a1 [97,98,99,100,101,102,103,104,105,106,107,108,109,110,111,112,113,114,115,116,117,118,119,120,121,122,48,49,50,51,52,53,54,55,56,57]).bind fun z3=>(some (z3 == []))) else some false).bind fun z4=>(some z4))
def gM (n:Nat) (a1:Seg) (a2:Seg):Option Bool :=
 (some ((a1.Kind != 0) && (a1.Text == a2.Text)))
def aP (a1:(List Seg)) (p2:Seg→Option Bool):Nat→Int→Option Int
 | 0,_=>none
 | k13 + 1,x12 =>
  (if (decide (x12 < ((a1).length:Int)))=true then ((idx a1 x12).bind fun z15=>((p2 z15).bind fun z16=>(if z16=true then (some x12) else ((aP a1 p2 k13) ((IntKind.wrap .i64 (x12 + 1))))))) else (some (-1)))
def dL (n:Nat) (a1:(List Seg)) (p2:Seg→Option Bool):Option Int :=
 (aP a1 p2 n (0))
def bH (n:Nat) (a1:(List Seg)) (p2:Seg→Option Bool):Option Bool :=
 ((dL n a1 p2).bind fun z6=>(some (decide (0 ≤ z6))))
def dS (n:Nat) (a1:(List Seg)):Nat→Int→Option Bool
 | 0,_=>none
 | k11 + 1,x10 =>
  (if (decide (x10 < ((a1).length:Int)))=true then ((idx a1 x10).bind fun z13=>((jv n z13.Text).bind fun z19=>(if (((!z19) || (decide (z13.Kind < 0))) || (decide (3 < z13.Kind)))=true then (some false) else (if ((decide (2 ≤ z13.Kind)) && (!(x10 == (IntKind.wrap .i64 (((a1).length:Int) - 1)))))=true then (some false) else ((if (z13.Kind != 0)=true then ((cut a1 0 x10).bind fun z25=>((bH n z25 (fun y26=>gM n y26 z13)).bind fun z27=>(some z27))) else some false).bind fun z26=>(if z26=true then (some false) else ((dS n a1 k11) ((IntKind.wrap .i64 (x10 + 1)))))))))) else (some true))
def fZ (n:Nat) (a1:(List Seg)):Option Bool :=
 (if (decide (8 < ((a1).length:Int)))=true then (some false) else (dS n a1 n (0)))
def je (n:Nat) (a1:Int):Option Bool :=
 ((if ((((decide (97 ≤ a1)) && (decide (a1 ≤ 122))) || ((decide (65 ≤ a1)) && (decide (a1 ≤ 90)))) || ((decide (48 ≤ a1)) && (decide (a1 ≤ 57))))=true then some true else ((strings_IndexByte n [45,46,95,126] a1).bind fun z7=>(some (decide (0 ≤ z7))))).bind fun z8=>(some z8))
def iC (x14:Int) (again15:Str→Int→Option Str) (x19:Str):Option Str :=
 (again15 (x19) ((IntKind.wrap .i64 (x14 + 1))))
def bZ (n:Nat) (a1:Str):Nat→Str→Int→Option Str
 | 0,_,_=>none
 | k15 + 1,x13,x14 =>
  (if (decide (x14 < ((a1).length:Int)))=true then ((idx (a1:Str) x14).bind fun z21=>((je n (z21.toNat:Int)).bind fun z22=>(if z22=true then ((rY x13 (z21.toNat:Int)).bind fun z26=>(iC x14 (bZ n a1 k15) (z26))) else ((rY x13 37).bind fun z29=>((yX .u8 (z21.toNat:Int) 4).bind fun z30=>((idx ([48,49,50,51,52,53,54,55,56,57,65,66,67,68,69,70]:Str) z30).bind fun z31=>((rY z29 (z31.toNat:Int)).bind fun z34=>((idx ([48,49,50,51,52,53,54,55,56,57,65,66,67,68,69,70]:Str) (BX .u8 (z21.toNat:Int) 15)).bind fun z35=>((rY z34 (z35.toNat:Int)).bind fun z38=>(iC x14 (bZ n a1 k15) (z38))))))))))) else (some x13))
def lN (n:Nat) (a1:Str):Option Str :=
 (bZ n a1 n ([]) (0))
def bD (n:Nat) (a1:(List Str)):Nat→(List Str)→Int→Option Str
 | 0,_,_=>none
 | k14 + 1,x11,x13 =>
  (if (decide (x13 < ((a1).length:Int)))=true then ((idx a1 x13).bind fun z16=>((lN n z16).bind fun z17=>((app 16 x11 [z17]).bind fun z18=>((bD n a1 k14) (z18) ((IntKind.wrap .i64 (x13 + 1))))))) else ((strings_Join n x11 [47]).bind fun z22=>(some z22)))
def iG (n:Nat) (a1:(List Str)):Option Str :=
 (bD n a1 n ([]) (0))
def eP (x18:Int) (again19:(List Str)→(List aD)→Int→Option ((List aD) × Bool)) (x23:(List Str)) (x24:(List aD)):Option ((List aD) × Bool) :=
 (again19 (x23) (x24) ((IntKind.wrap .i64 (x18 + 1))))
def bI (n:Nat) (a1:(List Seg)):Nat→(List Str)→(List aD)→Int→Option ((List aD) × Bool)
 | 0,_,_,_=>none
 | k19 + 1,x15,x16,x18 =>
  (if (decide (x18 < ((a1).length:Int)))=true then ((idx a1 x18).bind fun z27=>(if (z27.Kind == 3)=true then ((iG n x15).bind fun z34=>((app 32 x16 [(aD.mk z27.Text z34)]).bind fun z35=>(some (z35,true)))) else (if (((x15).length:Int) == 0)=true then (if (z27.Kind == 2)=true then (some (x16,true)) else (some ([],false))) else ((idx x15 0).bind fun z44=>((cut x15 1 ((x15).length:Int)).bind fun z45=>(if (z27.Kind != 0)=true then ((app 32 x16 [(aD.mk z27.Text z44)]).bind fun z47=>(eP x18 (bI n a1 k19) (z45) (z47))) else (if (!(z44 == z27.Text))=true then (some ([],false)) else (eP x18 (bI n a1 k19) (z45) (x16))))))))) else (if (decide (0 < ((x15).length:Int)))=true then (some ([],false)) else (some (x16,true))))
def fF (n:Nat) (a1:(List Seg)) (a2:(List Str)):Option ((List aD) × Bool) :=
 ((fZ n a1).bind fun z3=>(if (!z3)=true then (some ([],false)) else (bI n a1 n (a2) ([]) (0))))
def di (a1:Str):Nat→Int→Option Bool
 | 0,_=>none
 | k10 + 1,x9 =>
  (if (decide (x9 < ((a1).length:Int)))=true then ((idx (a1:Str) x9).bind fun z12=>((if (decide ((z12.toNat:Int) < 97))=true then some true else ((idx (a1:Str) x9).bind fun z13=>(some (decide (122 < (z13.toNat:Int)))))).bind fun z14=>((if z14=true then ((idx (a1:Str) x9).bind fun z16=>((if (decide ((z16.toNat:Int) < 48))=true then some true else ((idx (a1:Str) x9).bind fun z17=>(some (decide (57 < (z17.toNat:Int)))))).bind fun z18=>(some z18))) else some false).bind fun z17=>(if z17=true then (some false) else ((di a1 k10) ((IntKind.wrap .i64 (x9 + 1)))))))) else (some ((decide (1 ≤ ((a1).length:Int))) && (decide (((a1).length:Int) ≤ 16)))))
def iy (n:Nat) (a1:Str):Option Bool :=
 (di a1 n (0))
def bU (x15:Int) (again16:(List (Str × Bool))→Int→Option Bool) (x20:(List (Str × Bool))):Option Bool :=
 (again16 (x20) ((IntKind.wrap .i64 (x15 + 1))))
def aO (n:Nat) (a1:(List Seg)):Nat→(List (Str × Bool))→Int→Option Bool
 | 0,_,_=>none
 | k16 + 1,x14,x15 =>
  (if (decide (x15 < ((a1).length:Int)))=true then ((idx a1 x15).bind fun z22=>((if ((decide (z22.Kind < 0)) || (decide (3 < z22.Kind)))=true then some true else ((iy n z22.Text).bind fun z29=>(some (!z29)))).bind fun z30=>(if (z30 || ((decide (2 ≤ z22.Kind)) && (decide ((IntKind.wrap .i64 (x15 + 1)) < ((a1).length:Int)))))=true then (some false) else (if (z22.Kind != 0)=true then (if (oO x14 z22.Text false)=true then (some false) else (bU x15 (aO n a1 k16) ((vw x14 z22.Text true)))) else (bU x15 (aO n a1 k16) (x14)))))) else (some true))
def dn (n:Nat) (a1:(List Seg)):Option Bool :=
 (if (decide (8 < ((a1).length:Int)))=true then (some false) else (aO n a1 n ([]) (0)))
def eT (n:Nat) (a1:Int):Option Bool :=
 (some ((((((((decide (97 ≤ a1)) && (decide (a1 ≤ 122))) || ((decide (65 ≤ a1)) && (decide (a1 ≤ 90)))) || ((decide (48 ≤ a1)) && (decide (a1 ≤ 57)))) || (a1 == 45)) || (a1 == 46)) || (a1 == 95)) || (a1 == 126)))
def dJ (x13:Int) (again14:(List Int)→Int→Option Str) (x18:(List Int)):Option Str :=
 (again14 (x18) ((IntKind.wrap .i64 (x13 + 1))))
def bq (n:Nat) (a1:Str):Nat→(List Int)→Int→Option Str
 | 0,_,_=>none
 | k14 + 1,x11,x13 =>
  (if (decide (x13 < ((a1).length:Int)))=true then ((idx (a1:Str) x13).bind fun z21=>((eT n (z21.toNat:Int)).bind fun z22=>(if z22=true then ((idx (a1:Str) x13).bind fun z24=>((app 1 x11 [(z24.toNat:Int)]).bind fun z25=>(dJ x13 (bq n a1 k14) (z25)))) else ((idx (a1:Str) x13).bind fun z29=>((yX .u8 (z29.toNat:Int) 4).bind fun z30=>((idx ([48,49,50,51,52,53,54,55,56,57,65,66,67,68,69,70]:Str) z30).bind fun z31=>((idx ([48,49,50,51,52,53,54,55,56,57,65,66,67,68,69,70]:Str) (BX .u8 (z29.toNat:Int) 15)).bind fun z32=>((app 1 x11 [37,(z31.toNat:Int),(z32.toNat:Int)]).bind fun z33=>(dJ x13 (bq n a1 k14) (z33)))))))))) else (some ((x11).map fun (n:Int)=>UInt8.ofNat n.toNat)))
def eX (n:Nat) (a1:Str):Option Str :=
 (bq n a1 n ([]) (0))
def dP (x16:Int) (again17:(List aD)→Int→Option ((List aD) × Bool)) (x21:(List aD)):Option ((List aD) × Bool) :=
 (again17 (x21) ((IntKind.wrap .i64 (x16 + 1))))
def dO (n:Nat) (a2:(List Str)) (x40:Int) (again41:Str→Int→Option ((List aD) × Bool)) (x45:Str):Option ((List aD) × Bool) :=
 ((idx a2 x40).bind fun z47=>((eX n z47).bind fun z48=>((cat x45 z48).bind fun z49=>(again41 (z49) ((IntKind.wrap .i64 (x40 + 1)))))))
def bC (n:Nat) (a2:(List Str)) (x14:(List aD)) (x16:Int) (z24:Seg):Nat→Str→Int→Option ((List aD) × Bool)
 | 0,_,_=>none
 | k41 + 1,x39,x40 =>
  (if (decide (x40 < ((a2).length:Int)))=true then (if (decide (x16 < x40))=true then ((cat x39 [47]).bind fun z51=>(dO n a2 x40 (bC n a2 x14 x16 z24 k41) (z51))) else (dO n a2 x40 (bC n a2 x14 x16 z24 k41) (x39))) else ((app 32 x14 [(aD.mk z24.Text x39)]).bind fun z52=>(some (z52,true))))
def cK (a2:(List Str)) (x14:(List aD)) (x16:Int) (again17:(List aD)→Int→Option ((List aD) × Bool)) (z24:Seg) (x60:Bool):Option ((List aD) × Bool) :=
 (if x60=true then (some ([],false)) else (if (z24.Kind != 0)=true then ((idx a2 x16).bind fun z64=>((app 32 x14 [(aD.mk z24.Text z64)]).bind fun z65=>(dP x16 again17 (z65)))) else (dP x16 again17 (x14))))
def aV (n:Nat) (a1:(List Seg)) (a2:(List Str)):Nat→(List aD)→Int→Option ((List aD) × Bool)
 | 0,_,_=>none
 | k17 + 1,x14,x16 =>
  (if (decide (x16 < ((a1).length:Int)))=true then ((idx a1 x16).bind fun z24=>(if (z24.Kind == 3)=true then (bC n a2 x14 x16 z24 n ([]) (x16)) else (if ((z24.Kind == 2) && (x16 == ((a2).length:Int)))=true then (some (x14,true)) else (if (decide (((a2).length:Int) ≤ x16))=true then (cK a2 x14 x16 (aV n a1 a2 k17) z24 (true)) else (if (z24.Kind == 0)=true then ((idx a2 x16).bind fun z74=>(cK a2 x14 x16 (aV n a1 a2 k17) z24 ((!(z74 == z24.Text))))) else (cK a2 x14 x16 (aV n a1 a2 k17) z24 (false))))))) else (if (((a2).length:Int) != ((a1).length:Int))=true then (some ([],false)) else (some (x14,true))))
def gQ (n:Nat) (a1:(List Seg)) (a2:(List Str)):Option ((List aD) × Bool) :=
 ((dn n a1).bind fun z3=>(if (!z3)=true then (some ([],false)) else (aV n a1 a2 n ([]) (0))))
def gq (a1:kK) (a2:Str):Nat→Int→Option (Str × Bool)
 | 0,_=>none
 | k14 + 1,x13 =>
  (if (decide (x13 < ((a1.Query).length:Int)))=true then ((idx a1.Query x13).bind fun z16=>(if (z16.Name == a2)=true then (some (z16.Value,true)) else ((gq a1 a2 k14) ((IntKind.wrap .i64 (x13 + 1)))))) else (some ([],false)))
def uz (n:Nat) (a1:kK) (a2:Str):Option (Str × Bool) :=
 (gq a1 a2 n (0))
def iP (n:Nat) (a1:(List aD)) (a2:Str):Option (Str × Bool) :=
 ((uz n (kK.mk [] a1) a2).bind fun z3=>(some (z3.1,z3.2)))
def jF (n:Nat) (a1:Int):Option Int :=
 (if ((decide (48 ≤ a1)) && (decide (a1 ≤ 57)))=true then (some (IntKind.wrap .i64 (IntKind.wrap .u8 (a1 - 48)))) else (if ((decide (97 ≤ a1)) && (decide (a1 ≤ 102)))=true then (some (IntKind.wrap .i64 ((IntKind.wrap .i64 (IntKind.wrap .u8 (a1 - 97))) + 10))) else (if ((decide (65 ≤ a1)) && (decide (a1 ≤ 70)))=true then (some (IntKind.wrap .i64 ((IntKind.wrap .i64 (IntKind.wrap .u8 (a1 - 65))) + 10))) else (some (-1)))))
def gz (x13:Str) (x14:Str) (again15:Str→Str→Option (Str × Bool)) (x20:Int) (x21:Int):Option (Str × Bool) :=
 ((rY x13 x20).bind fun z25=>((cut x14 x21 ((x14).length:Int)).bind fun z26=>(again15 (z25) (z26))))
def dM (n:Nat):Nat→Str→Str→Option (Str × Bool)
 | 0,_,_=>none
 | k15 + 1,x13,x14 =>
  (if (!(x14 == []))=true then ((idx (x14:Str) 0).bind fun z17=>(if ((z17.toNat:Int) == 37)=true then (if (decide (((x14).length:Int) < 3))=true then (some ([],false)) else ((idx (x14:Str) 1).bind fun z29=>((jF n (z29.toNat:Int)).bind fun z30=>((idx (x14:Str) 2).bind fun z31=>((jF n (z31.toNat:Int)).bind fun z32=>(if ((decide (z30 < 0)) || (decide (z32 < 0)))=true then (some ([],false)) else ((tV .i64 z30 4).bind fun z35=>(gz x13 x14 (dM n k15) ((IntKind.wrap .u8 (Bv .i64 z35 z32))) (3))))))))) else ((je n (z17.toNat:Int)).bind fun z36=>(if (!z36)=true then (some ([],false)) else (gz x13 x14 (dM n k15) ((z17.toNat:Int)) (1)))))) else (some (x13,true)))
def l5 (n:Nat) (a1:Str):Option (Str × Bool) :=
 (dM n n ([]) (a1))
def dK (n:Nat) (z3:(List Str)):Nat→(List Str)→Int→Option ((List Str) × Bool)
 | 0,_,_=>none
 | k16 + 1,x13,x15 =>
  (if (decide (x15 < ((z3).length:Int)))=true then ((idx z3 x15).bind fun z18=>((l5 n z18).bind fun z19=>(if ((!z19.2) || (((x13).length:Int) == 8))=true then (some ([],false)) else ((app 16 x13 [z19.1]).bind fun z22=>((dK n z3 k16) (z22) ((IntKind.wrap .i64 (x15 + 1)))))))) else (some (x13,true)))
def eQ (n:Nat) (a1:Str):Option ((List Str) × Bool) :=
 (if (a1 == [])=true then (some ([],true)) else ((strings_Split n a1 [47]).bind fun z3=>(dK n z3 n ([]) (0))))
def dE (x14:Int) (again15:(List Str)→Int→Option ((List Str) × Bool)) (x19:(List Str)):Option ((List Str) × Bool) :=
 (again15 (x19) ((IntKind.wrap .i64 (x14 + 1))))
def bF (n:Nat) (a1:(List Seg)) (a2:(List aD)):Nat→(List Str)→Int→Option ((List Str) × Bool)
 | 0,_,_=>none
 | k15 + 1,x12,x14 =>
  (if (decide (x14 < ((a1).length:Int)))=true then ((idx a1 x14).bind fun z22=>((iP n a2 z22.Text).bind fun z28=>(if (z22.Kind == 0)=true then ((app 16 x12 [z22.Text]).bind fun z30=>(dE x14 (bF n a1 a2 k15) (z30))) else (if (z22.Kind == 1)=true then (if (!z28.2)=true then (some ([],false)) else ((app 16 x12 [z28.1]).bind fun z36=>(dE x14 (bF n a1 a2 k15) (z36)))) else (if (z22.Kind == 2)=true then (if z28.2=true then ((app 16 x12 [z28.1]).bind fun z42=>(dE x14 (bF n a1 a2 k15) (z42))) else (dE x14 (bF n a1 a2 k15) (x12))) else ((eQ n z28.1).bind fun z46=>(if ((!z28.2) || (!z46.2))=true then (some ([],false)) else ((app 16 x12 z46.1).bind fun z49=>(dE x14 (bF n a1 a2 k15) (z49)))))))))) else (some (x12,true)))
def jX (n:Nat) (a1:(List Seg)) (a2:(List aD)):Option ((List Str) × Bool) :=
 (bF n a1 a2 n ([]) (0))
def mO (n:Nat) (a1:Str) (a2:Int):Option Bool :=
 (some ((decide (a2 ≤ ((a1).length:Int))) && (decide (((a1).length:Int) ≤ 64))))
def gX (n:Nat) (a1:kK):Nat→Int→Option Bool
 | 0,_=>none
 | k28 + 1,x27 =>
  (if (decide (x27 < ((a1.Query).length:Int)))=true then ((idx a1.Query x27).bind fun z30=>((mO n z30.Name 1).bind fun z36=>((if (!z36)=true then some true else ((mO n z30.Value 0).bind fun z37=>(some (!z37)))).bind fun z38=>(if z38=true then (some false) else ((gX n a1 k28) ((IntKind.wrap .i64 (x27 + 1)))))))) else (some true))
def fB (n:Nat) (a1:kK):Nat→Int→Option Bool
 | 0,_=>none
 | k15 + 1,x14 =>
  (if (decide (x14 < ((a1.Path).length:Int)))=true then ((idx a1.Path x14).bind fun z17=>((mO n z17 1).bind fun z18=>(if (!z18)=true then (some false) else ((fB n a1 k15) ((IntKind.wrap .i64 (x14 + 1))))))) else (gX n a1 n (0)))
def mW (n:Nat) (a1:kK):Option Bool :=
 (if ((decide (8 < ((a1.Path).length:Int))) || (decide (8 < ((a1.Query).length:Int))))=true then (some false) else (fB n a1 n (0)))
def dV (n:Nat) (a1:(List aD)) (a2:(List aD)):Nat→Int→Option Bool
 | 0,_=>none
 | k12 + 1,x11 =>
  (if (decide (x11 < ((a1).length:Int)))=true then ((idx a1 x11).bind fun z14=>((iP n a2 z14.Name).bind fun z20=>(if ((!z20.2) || (!(z20.1 == z14.Value)))=true then (some false) else ((dV n a1 a2 k12) ((IntKind.wrap .i64 (x11 + 1))))))) else (some true))
def jw (n:Nat) (a1:(List aD)) (a2:(List aD)):Option Bool :=
 (if (((a1).length:Int) != ((a2).length:Int))=true then (some false) else (dV n a1 a2 n (0)))
def gu (n:Nat) (a1:(List Seg)) (a2:(List aD)):Option ((List Str) × Bool) :=
 ((fZ n a1).bind fun z3=>(if (!z3)=true then (some ([],false)) else ((jX n a1 a2).bind fun z5=>((if (!z5.2)=true then some true else ((mW n (kK.mk z5.1 [])).bind fun z6=>(some (!z6)))).bind fun z7=>(if z7=true then (some ([],false)) else ((fF n a1 z5.1).bind fun z10=>((if (!z10.2)=true then some true else ((jw n z10.1 a2).bind fun z11=>(some (!z11)))).bind fun z12=>(if z12=true then (some ([],false)) else (some (z5.1,true))))))))))
def cO (a1:(List aD)) (a2:Str):Nat→Int→Option (Str × Bool)
 | 0,_=>none
 | k11 + 1,x10 =>
  (if (decide (x10 < ((a1).length:Int)))=true then ((idx a1 x10).bind fun z13=>(if (z13.Name == a2)=true then (some (z13.Value,true)) else ((cO a1 a2 k11) ((IntKind.wrap .i64 (x10 + 1)))))) else (some ([],false)))
def iR (n:Nat) (a1:(List aD)) (a2:Str):Option (Str × Bool) :=
 (cO a1 a2 n (0))
def dz (x16:Int) (again17:(List Str)→Int→Int→Option (List Str)) (x21:(List Str)) (x23:Int):Option (List Str) :=
 (again17 (x21) (x23) ((IntKind.wrap .i64 (x16 + 1))))
def bB (a1:Str) (a2:Int):Nat→(List Str)→Int→Int→Option (List Str)
 | 0,_,_,_=>none
 | k17 + 1,x13,x15,x16 =>
  (if (decide (x16 ≤ ((a1).length:Int)))=true then ((if (x16 == ((a1).length:Int))=true then some true else ((idx (a1:Str) x16).bind fun z25=>(some ((z25.toNat:Int) == a2)))).bind fun z26=>(if z26=true then ((cut a1 x15 x16).bind fun z29=>((app 16 x13 [z29]).bind fun z30=>(dz x16 (bB a1 a2 k17) (z30) ((IntKind.wrap .i64 (x16 + 1)))))) else (dz x16 (bB a1 a2 k17) (x13) (x15)))) else (some x13))
def gN (n:Nat) (a1:Str) (a2:Int):Option (List Str) :=
 (bB a1 a2 n ([]) (0) (0))
def eF (n:Nat) (a1:Int):Option Int :=
 (if ((decide (48 ≤ a1)) && (decide (a1 ≤ 57)))=true then (some (IntKind.wrap .i64 (IntKind.wrap .u8 (a1 - 48)))) else (if ((decide (97 ≤ a1)) && (decide (a1 ≤ 102)))=true then (some (IntKind.wrap .i64 ((IntKind.wrap .i64 (IntKind.wrap .u8 (a1 - 97))) + 10))) else (if ((decide (65 ≤ a1)) && (decide (a1 ≤ 70)))=true then (some (IntKind.wrap .i64 ((IntKind.wrap .i64 (IntKind.wrap .u8 (a1 - 65))) + 10))) else (some (-1)))))
def dI (again14:(List Int)→Int→Option (Str × Bool)) (x18:(List Int)) (x20:Int):Option (Str × Bool) :=
 (again14 (x18) ((IntKind.wrap .i64 (x20 + 1))))
def bu (n:Nat) (a1:Str):Nat→(List Int)→Int→Option (Str × Bool)
 | 0,_,_=>none
 | k14 + 1,x11,x13 =>
  (if (decide (x13 < ((a1).length:Int)))=true then ((idx (a1:Str) x13).bind fun z22=>((eT n (z22.toNat:Int)).bind fun z23=>(if z23=true then ((idx (a1:Str) x13).bind fun z25=>((app 1 x11 [(z25.toNat:Int)]).bind fun z26=>(dI (bu n a1 k14) (z26) (x13)))) else ((idx (a1:Str) x13).bind fun z30=>((if (((z30.toNat:Int) == 37) && (decide ((IntKind.wrap .i64 (x13 + 2)) < ((a1).length:Int))))=true then ((idx (a1:Str) (IntKind.wrap .i64 (x13 + 1))).bind fun z32=>((eF n (z32.toNat:Int)).bind fun z33=>(some (decide (0 ≤ z33))))) else some false).bind fun z33=>((if z33=true then ((idx (a1:Str) (IntKind.wrap .i64 (x13 + 2))).bind fun z36=>((eF n (z36.toNat:Int)).bind fun z37=>(some (decide (0 ≤ z37))))) else some false).bind fun z37=>(if z37=true then ((idx (a1:Str) (IntKind.wrap .i64 (x13 + 1))).bind fun z41=>((eF n (z41.toNat:Int)).bind fun z42=>((tV .i64 z42 4).bind fun z43=>((idx (a1:Str) (IntKind.wrap .i64 (x13 + 2))).bind fun z44=>((eF n (z44.toNat:Int)).bind fun z45=>((app 1 x11 [(IntKind.wrap .u8 (Bv .i64 z43 z45))]).bind fun z46=>(dI (bu n a1 k14) (z46) ((IntKind.wrap .i64 (x13 + 2)))))))))) else (some ([],false))))))))) else (some (((x11).map fun (n:Int)=>UInt8.ofNat n.toNat),true)))
def gJ (n:Nat) (a1:Str):Option (Str × Bool) :=
 (bu n a1 n ([]) (0))
def dQ (a1:kK):Nat→Int→Option Bool
 | 0,_=>none
 | k28 + 1,x27 =>
  (if (decide (x27 < ((a1.Query).length:Int)))=true then ((idx a1.Query x27).bind fun z30=>(if (((decide (((z30.Name).length:Int) < 1)) || (decide (64 < ((z30.Name).length:Int)))) || (decide (64 < ((z30.Value).length:Int))))=true then (some false) else ((dQ a1 k28) ((IntKind.wrap .i64 (x27 + 1)))))) else (some true))
def cB (n:Nat) (a1:kK):Nat→Int→Option Bool
 | 0,_=>none
 | k15 + 1,x14 =>
  (if (decide (x14 < ((a1.Path).length:Int)))=true then ((idx a1.Path x14).bind fun z17=>(if ((decide (((z17).length:Int) < 1)) || (decide (64 < ((z17).length:Int))))=true then (some false) else ((cB n a1 k15) ((IntKind.wrap .i64 (x14 + 1)))))) else (dQ a1 n (0)))
def gP (n:Nat) (a1:kK):Option Bool :=
 (if ((decide (8 < ((a1.Path).length:Int))) || (decide (8 < ((a1.Query).length:Int))))=true then (some false) else (cB n a1 n (0)))
def bK (x18:Int) (again19:(List Str)→Int→Int→Option ((List Str) × Bool)) (x23:(List Str)) (x25:Int):Option ((List Str) × Bool) :=
 (again19 (x23) (x25) ((IntKind.wrap .i64 (x18 + 1))))
def bT (n:Nat) (x18:Int) (again19:(List Str)→Int→Int→Option ((List Str) × Bool)) (x36:Int) (z54:(List Str)):Nat→(List Str)→Int→Option ((List Str) × Bool)
 | 0,_,_=>none
 | k67 + 1,x64,x66 =>
  (if (decide (x66 < ((z54).length:Int)))=true then ((idx z54 x66).bind fun z69=>((gJ n z69).bind fun z70=>((if ((!z70.2) || (z70.1 == []))=true then some true else ((eX n z70.1).bind fun z72=>(some (!(z72 == z69))))).bind fun z73=>(if z73=true then (some ([],false)) else ((app 16 x64 [z70.1]).bind fun z76=>((bT n x18 again19 x36 z54 k67) (z76) ((IntKind.wrap .i64 (x66 + 1))))))))) else (bK x18 again19 (x64) (x36)))
def dx (n:Nat) (x15:(List Str)) (x18:Int) (again19:(List Str)→Int→Int→Option ((List Str) × Bool)) (z27:Seg) (z33:(Str × Bool)) (x36:Int):Option ((List Str) × Bool) :=
 (if (z27.Kind == 0)=true then ((app 16 x15 [z27.Text]).bind fun z39=>(bK x18 again19 (z39) (x36))) else (if ((z27.Kind == 2) && (!z33.2))=true then (bK x18 again19 (x15) (x36)) else (if ((!z33.2) || ((z27.Kind != 3) && (((z33.1).length:Int) == 0)))=true then (some ([],false)) else (if (z27.Kind != 3)=true then ((app 16 x15 [z33.1]).bind fun z49=>(bK x18 again19 (z49) (x36))) else (if (!(z33.1 == []))=true then ((gN n z33.1 47).bind fun z54=>(bT n x18 again19 x36 z54 n (x15) (0))) else (bK x18 again19 (x15) (x36)))))))
def aM (n:Nat) (a1:(List Seg)) (a2:(List aD)):Nat→(List Str)→Int→Int→Option ((List Str) × Bool)
 | 0,_,_,_=>none
 | k19 + 1,x15,x17,x18 =>
  (if (decide (x18 < ((a1).length:Int)))=true then ((idx a1 x18).bind fun z27=>((iR n a2 z27.Text).bind fun z33=>(if ((z27.Kind != 0) && z33.2)=true then (dx n x15 x18 (aM n a1 a2 k19) z27 z33 ((IntKind.wrap .i64 (x17 + 1)))) else (dx n x15 x18 (aM n a1 a2 k19) z27 z33 (x17))))) else ((if (x17 != ((a2).length:Int))=true then some true else ((gP n (kK.mk x15 [])).bind fun z82=>(some (!z82)))).bind fun z83=>(if z83=true then (some ([],false)) else (some (x15,true)))))
def fI (n:Nat) (a1:(List Seg)) (a2:(List aD)):Option ((List Str) × Bool) :=
 ((dn n a1).bind fun z3=>(if (!z3)=true then (some ([],false)) else (aM n a1 a2 n ([]) (0) (0))))
def bG (a1:(List Str)) (a2:(List Str)):Nat→Int→Option Bool
 | 0,_=>none
 | k12 + 1,x11 =>
  (if (decide (x11 < ((a1).length:Int)))=true then ((idx a1 x11).bind fun z14=>((idx a2 x11).bind fun z15=>(if (!(z14 == z15))=true then (some false) else ((bG a1 a2 k12) ((IntKind.wrap .i64 (x11 + 1))))))) else (some true))
def dD (n:Nat) (a1:(List Str)) (a2:(List Str)):Option Bool :=
 (if (((a1).length:Int) != ((a2).length:Int))=true then (some false) else (bG a1 a2 n (0)))
def bz (a1:(List aD)) (a2:(List aD)):Nat→Int→Option Bool
 | 0,_=>none
 | k12 + 1,x11 =>
  (if (decide (x11 < ((a1).length:Int)))=true then ((idx a1 x11).bind fun z14=>((idx a2 x11).bind fun z15=>(if (!(aD.beq z14 z15))=true then (some false) else ((bz a1 a2 k12) ((IntKind.wrap .i64 (x11 + 1))))))) else (some true))
def dH (n:Nat) (a1:(List aD)) (a2:(List aD)):Option Bool :=
 (if (((a1).length:Int) != ((a2).length:Int))=true then (some false) else (bz a1 a2 n (0)))
def eY (n:Nat) (a1:Str) (a2:Str):Option Bool :=
 ((if (decide (((a2).length:Int) ≤ ((a1).length:Int)))=true then ((cut a1 0 ((a2).length:Int)).bind fun z3=>(some (z3 == a2))) else some false).bind fun z4=>(some z4))
def fu (n:Nat) (a1:Str) (a2:Str):Option Bool :=
 ((if (decide (((a2).length:Int) ≤ ((a1).length:Int)))=true then ((cut a1 (IntKind.wrap .i64 (((a1).length:Int) - ((a2).length:Int))) ((a1).length:Int)).bind fun z3=>(some (z3 == a2))) else some false).bind fun z4=>(some z4))
def eZ (n:Nat) (a1:Str) (a2:Str):Option (Str × Bool) :=
 ((eY n a1 a2).bind fun z3=>(if (!z3)=true then (some (a1,false)) else ((cut a1 ((a2).length:Int) ((a1).length:Int)).bind fun z5=>(some (z5,true)))))
def fq (n:Nat) (a1:Str) (a2:Str):Option (Str × Bool) :=
 ((fu n a1 a2).bind fun z3=>(if (!z3)=true then (some (a1,false)) else ((cut a1 0 (IntKind.wrap .i64 (((a1).length:Int) - ((a2).length:Int)))).bind fun z5=>(some (z5,true)))))
def strings_CutPrefix (n:Nat) (a1:Str) (a2:Str):Option (Str × Bool) :=
 ((eZ n a1 a2).bind fun z3=>(some (z3.1,z3.2)))
def strings_CutSuffix (n:Nat) (a1:Str) (a2:Str):Option (Str × Bool) :=
 ((fq n a1 a2).bind fun z3=>(some (z3.1,z3.2)))
def kP (n:Nat) (a1:Str):Option Seg :=
 ((strings_CutPrefix n a1 [42]).bind fun z5=>(if z5.2=true then (some (Seg.mk 3 z5.1)) else ((strings_CutPrefix n a1 [58]).bind fun z9=>(if (!z9.2)=true then (some (Seg.mk 0 a1)) else ((strings_CutSuffix n z9.1 [63]).bind fun z13=>(if z13.2=true then (some (Seg.mk 2 z13.1)) else (some (Seg.mk 1 z9.1))))))))
def eU (n:Nat) (z5:(List Str)):Nat→(List Seg)→Int→Option ((List Seg) × Bool)
 | 0,_,_=>none
 | k18 + 1,x15,x17 =>
  (if (decide (x17 < ((z5).length:Int)))=true then ((idx z5 x17).bind fun z20=>(if (((x15).length:Int) == 8)=true then (some ([],false)) else ((kP n z20).bind fun z22=>((app 24 x15 [z22]).bind fun z23=>((eU n z5 k18) (z23) ((IntKind.wrap .i64 (x17 + 1)))))))) else ((fZ n x15).bind fun z27=>(if (!z27)=true then (some ([],false)) else (some (x15,true)))))
def jA (n:Nat) (a1:Str):Option ((List Seg) × Bool) :=
 (if (a1 == [47])=true then (some ([],true)) else ((strings_CutPrefix n a1 [47]).bind fun z3=>(if (!z3.2)=true then (some ([],false)) else ((strings_Split n z3.1 [47]).bind fun z5=>(eU n z5 n ([]) (0))))))
def fJ (n:Nat)  : Option Bool :=
 ((jA n [47,97,47,58,105,100,47,42,114,101,115,116]).bind fun z1=>((fF n z1.1 ([[97],[55],[120,32,121],[122]]:List Str)).bind fun z2=>((gu n z1.1 [(aD.mk [114,101,115,116] [120,37,50,48,121,47,122]),(aD.mk [105,100] [55])]).bind fun z3=>((gu n z1.1 [(aD.mk [105,100] []),(aD.mk [114,101,115,116] [])]).bind fun z4=>((jA n [47,97,47,58,120,47,58,120]).bind fun z5=>((if (z1.2 && z2.2)=true then ((dH n z2.1 [(aD.mk [105,100] [55]),(aD.mk [114,101,115,116] [120,37,50,48,121,47,122])]).bind fun z7=>(some z7)) else some false).bind fun z8=>((if (z8 && z3.2)=true then ((dD n z3.1 ([[97],[55],[120,32,121],[122]]:List Str)).bind fun z11=>(some z11)) else some false).bind fun z12=>(some ((z12 && (!z4.2)) && (!z5.2))))))))))
def bW (n:Nat) (z15:(List aD)) (x18:(List Seg)) (x19:(List Str)):Option Bool :=
 ((fF n x18 x19).bind fun z21=>((gQ n x18 x19).bind fun z22=>((gu n x18 z15).bind fun z23=>((fI n x18 z15).bind fun z24=>((gu n x18 z22.1).bind fun z25=>((fI n x18 z22.1).bind fun z26=>((if ((decide (0 < ((z22.1).length:Int))) && (((z15).length:Int) == 0))=true then ((dD n z25.1 z26.1).bind fun z28=>(some ((!z28) || (!(z25.2 == z26.2))))) else some false).bind fun z29=>(if z29=true then (some false) else ((fZ n x18).bind fun z33=>((dn n x18).bind fun z34=>((if (z33 == z34)=true then ((dH n z21.1 z22.1).bind fun z35=>(some z35)) else some false).bind fun z36=>((if (z36 && (z21.2 == z22.2))=true then ((dD n z23.1 z24.1).bind fun z39=>(some z39)) else some false).bind fun z40=>((if (z40 && (z23.2 == z24.2))=true then ((fJ n).bind fun z43=>(some z43)) else some false).bind fun z44=>(some z44))))))))))))))
def fC (n:Nat) (a1:(List Seg)) (a2:dF) (a3:iO) (a4:(List Str)) (a5:(List aD)) (a6:Bool):Option Bool :=
 ((cut a1 0 (wI ((a1).length:Int) 10)).bind fun z13=>((cut a4 0 (wI ((a4).length:Int) 10)).bind fun z14=>((cut a5 0 (wI ((a5).length:Int) 6)).bind fun z15=>(if a6=true then ((eD n a2).bind fun z47=>((fP n a3).bind fun z48=>(bW n z15 (z47) (z48.Path)))) else (bW n z15 (z13) (z14))))))
end Pr
end Go.Ev
